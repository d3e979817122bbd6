/- Texts of one proof, laid together: FnS Ab14 Ai Aj TbS Ab15 Ab16 Ab17 FnP Pw Ak Sr Ss St Az. -/
import Derived.Test.YtpiofcjkekpboaaProg
import Derived.Test.YtpiofcjkekpboaaMA13
import Derived.Test.YtpiofcjkekpboaaMA4
import Derived.Test.YtpiofcjkekpboaaMA10

namespace Go.Proofs.Ytpiofcjkekpboaa
open Go.RowKit
def J_law03_SetMakes_j1 : ACode :=
 .keep [0, 1, 7, 8] (.seq (.ops [⟨some 143, none, .mv (.t 7), none⟩,
 ⟨some 144, none, .mv (.t 0), none⟩,
 ⟨some 145, none, .call (.f 30) [(.t 143), (.t 144)], none⟩,
 ⟨some 146, none, .mv (.t 145), none⟩,
 ⟨some 147, (some (146, true)), .mv (.t 8), none⟩,
 ⟨some 148, (some (146, true)), .mv (.t 1), none⟩,
 ⟨some 149, (some (146, true)), .call (.f 30) [(.t 147), (.t 148)], none⟩,
 ⟨some 150, none, .pick (.t 146) (.t 149) (.c (.bool false)), none⟩,
 ⟨some 6, none, .mv (.t 150), none⟩])
 (.ret))
def J_law03_SetMakes_j2 : ACode :=
 .seq (.ops [⟨some 137, none, .bin .lss (.t 136) (.t 135), none⟩])
 (.keep [0, 1, 7, 8, 9, 135, 136, 137] (.seq (.cond (.t 137)
 (.skip)
 (.exit 0))
 (.keep [0, 1, 7, 8, 9, 135, 136] (.seq (.block 1 (.seq (.ops [⟨some 138, none, .mv (.t 136), none⟩,
 ⟨some 13, none, .mv (.t 138), none⟩])
 (.keep [0, 1, 7, 8, 9, 13, 135, 136] (.ops [⟨some 139, none, .mv (.t 9), none⟩,
 ⟨some 140, none, .mv (.t 13), none⟩,
 ⟨some 141, none, .idxa 1 (.t 139) (.t 140), none⟩,
 ⟨none, none, .store 1 (.t 141) (.c (.str ⟨#[63]⟩)), none⟩]))))
 (.keep [0, 1, 7, 8, 9, 135, 136] (.ops [⟨some 142, none, .bin .add (.t 136) (.c (.int .i64 1)), none⟩,
 ⟨some 136, none, .mv (.t 142), none⟩]))))))
def J_law03_SetMakes : AFn :=
 ⟨151, [.t 6], .seq (.ops [⟨some 6, none, .mv (.c (.bool false)), none⟩])
 (.keep [0, 1, 2] (.seq (.seq (.ops [⟨some 14, none, .call (.f 25) [], none⟩,
 ⟨some 15, none, .not (.t 14), none⟩])
 (.keep [0, 1, 2, 15] (.cond (.t 15)
 (.seq (.ops [⟨some 6, none, .mv (.c (.bool false)), none⟩])
 (.ret))
 (.skip))))
 (.keep [0, 1, 2] (.seq (.seq (.ops [⟨some 16, none, .mv (.t 0), none⟩,
 ⟨some 17, none, .mv (.t 1), none⟩,
 ⟨some 18, none, .bsl 56 1 2 [(.lst .clip 0 []), (.lst .clip 0 [])] [(0, 1, (.t 16)), (1, 1, (.t 17))], none⟩,
 ⟨some 19, none, .call (.f 26) [(.t 18)], none⟩])
 (.keep [0, 1, 2, 19] (.cond (.t 19)
 (.seq (.ops [⟨some 6, none, .mv (.c (.bool true)), none⟩])
 (.ret))
 (.skip))))
 (.keep [0, 1, 2] (.seq (.ops [⟨some 20, none, .mv (.t 0), none⟩,
 ⟨some 21, none, .call (.f 27) [(.t 20)], none⟩,
 ⟨some 22, none, .mv (.t 1), none⟩,
 ⟨some 23, none, .call (.f 27) [(.t 22)], none⟩,
 ⟨some 7, none, .mv (.t 21), none⟩,
 ⟨some 8, none, .mv (.t 23), none⟩])
 (.keep [0, 1, 2, 7, 8] (.seq (.ops [⟨some 25, none, .mv (.t 7), none⟩,
 ⟨some 26, none, .call (.f 28) [(.t 25)], none⟩,
 ⟨some 24, none, .mv (.t 26), none⟩,
 ⟨some 27, none, .ext 0 (.t 24), none⟩,
 ⟨some 28, none, .ext 1 (.t 24), none⟩,
 ⟨some 9, none, .mv (.t 27), none⟩,
 ⟨some 10, none, .mv (.t 28), none⟩])
 (.keep [0, 1, 2, 7, 8, 9, 10] (.seq (.ops [⟨some 30, none, .mv (.t 0), none⟩,
 ⟨some 31, none, .call (.f 29) [(.t 30)], none⟩,
 ⟨some 29, none, .mv (.t 31), none⟩,
 ⟨some 32, none, .ext 0 (.t 29), none⟩,
 ⟨some 33, none, .ext 1 (.t 29), none⟩,
 ⟨some 11, none, .mv (.t 32), none⟩,
 ⟨some 12, none, .mv (.t 33), none⟩])
 (.keep [0, 1, 2, 7, 8, 9, 10, 11, 12] (.seq (.seq (.ops [⟨some 34, none, .mv (.t 10), none⟩,
 ⟨some 35, none, .mv (.t 12), none⟩,
 ⟨some 36, none, .bin .neq (.t 34) (.t 35), none⟩,
 ⟨some 37, none, .mv (.t 36), none⟩,
 ⟨some 38, (some (37, false)), .mv (.t 9), none⟩,
 ⟨some 39, (some (37, false)), .mv (.t 11), none⟩,
 ⟨some 40, (some (37, false)), .call (.f 30) [(.t 38), (.t 39)], none⟩,
 ⟨some 41, (some (37, false)), .not (.t 40), none⟩,
 ⟨some 42, none, .pick (.t 37) (.c (.bool true)) (.t 41), none⟩,
 ⟨some 43, none, .mv (.t 42), none⟩,
 ⟨some 44, (some (43, false)), .mv (.t 7), none⟩,
 ⟨some 45, (some (43, false)), .call (.f 31) [(.t 44)], none⟩,
 ⟨some 46, (some (43, false)), .mv (.t 0), none⟩,
 ⟨some 47, (some (43, false)), .call (.f 32) [(.t 46)], none⟩,
 ⟨some 48, (some (43, false)), .bbin true (.t 45) (.t 47), none⟩,
 ⟨some 49, none, .pick (.t 43) (.c (.bool true)) (.t 48), none⟩])
 (.keep [0, 1, 2, 7, 8, 49] (.cond (.t 49)
 (.seq (.ops [⟨some 6, none, .mv (.c (.bool false)), none⟩])
 (.ret))
 (.skip))))
 (.keep [0, 1, 2, 7, 8] (.seq (.ops [⟨some 51, none, .mv (.t 7), none⟩,
 ⟨some 52, none, .mv (.t 8), none⟩,
 ⟨some 53, none, .call (.f 33) [(.t 51), (.t 52)], none⟩,
 ⟨some 50, none, .mv (.t 53), none⟩,
 ⟨some 54, none, .ext 0 (.t 50), none⟩,
 ⟨some 55, none, .ext 1 (.t 50), none⟩,
 ⟨some 9, none, .mv (.t 54), none⟩,
 ⟨some 10, none, .mv (.t 55), none⟩])
 (.keep [0, 1, 2, 7, 8, 9, 10] (.seq (.ops [⟨some 57, none, .mv (.t 0), none⟩,
 ⟨some 58, none, .mv (.t 1), none⟩,
 ⟨some 59, none, .call (.f 34) [(.t 57), (.t 58)], none⟩,
 ⟨some 56, none, .mv (.t 59), none⟩,
 ⟨some 60, none, .ext 0 (.t 56), none⟩,
 ⟨some 61, none, .ext 1 (.t 56), none⟩,
 ⟨some 11, none, .mv (.t 60), none⟩,
 ⟨some 12, none, .mv (.t 61), none⟩])
 (.keep [0, 1, 2, 7, 8, 9, 10, 11, 12] (.seq (.seq (.ops [⟨some 62, none, .mv (.t 10), none⟩,
 ⟨some 63, none, .mv (.t 12), none⟩,
 ⟨some 64, none, .bin .neq (.t 62) (.t 63), none⟩,
 ⟨some 65, none, .mv (.t 64), none⟩,
 ⟨some 66, (some (65, false)), .mv (.t 9), none⟩,
 ⟨some 67, (some (65, false)), .mv (.t 11), none⟩,
 ⟨some 68, (some (65, false)), .call (.f 30) [(.t 66), (.t 67)], none⟩,
 ⟨some 69, (some (65, false)), .not (.t 68), none⟩,
 ⟨some 70, none, .pick (.t 65) (.c (.bool true)) (.t 69), none⟩])
 (.keep [0, 1, 2, 7, 8, 70] (.cond (.t 70)
 (.seq (.ops [⟨some 6, none, .mv (.c (.bool false)), none⟩])
 (.ret))
 (.skip))))
 (.keep [0, 1, 2, 7, 8] (.seq (.ops [⟨some 72, none, .mv (.t 7), none⟩,
 ⟨some 73, none, .mv (.t 8), none⟩,
 ⟨some 74, none, .call (.f 35) [(.t 72), (.t 73)], none⟩,
 ⟨some 71, none, .mv (.t 74), none⟩,
 ⟨some 75, none, .ext 0 (.t 71), none⟩,
 ⟨some 76, none, .ext 1 (.t 71), none⟩,
 ⟨some 9, none, .mv (.t 75), none⟩,
 ⟨some 10, none, .mv (.t 76), none⟩])
 (.keep [0, 1, 2, 7, 8, 9, 10] (.seq (.ops [⟨some 78, none, .mv (.t 0), none⟩,
 ⟨some 79, none, .mv (.t 1), none⟩,
 ⟨some 80, none, .call (.f 36) [(.t 78), (.t 79)], none⟩,
 ⟨some 77, none, .mv (.t 80), none⟩,
 ⟨some 81, none, .ext 0 (.t 77), none⟩,
 ⟨some 82, none, .ext 1 (.t 77), none⟩,
 ⟨some 11, none, .mv (.t 81), none⟩,
 ⟨some 12, none, .mv (.t 82), none⟩])
 (.keep [0, 1, 2, 7, 8, 9, 10, 11, 12] (.seq (.seq (.ops [⟨some 83, none, .mv (.t 10), none⟩,
 ⟨some 84, none, .mv (.t 12), none⟩,
 ⟨some 85, none, .bin .neq (.t 83) (.t 84), none⟩,
 ⟨some 86, none, .mv (.t 85), none⟩,
 ⟨some 87, (some (86, false)), .mv (.t 9), none⟩,
 ⟨some 88, (some (86, false)), .mv (.t 11), none⟩,
 ⟨some 89, (some (86, false)), .call (.f 30) [(.t 87), (.t 88)], none⟩,
 ⟨some 90, (some (86, false)), .not (.t 89), none⟩,
 ⟨some 91, none, .pick (.t 86) (.c (.bool true)) (.t 90), none⟩])
 (.keep [0, 1, 2, 7, 8, 91] (.cond (.t 91)
 (.seq (.ops [⟨some 6, none, .mv (.c (.bool false)), none⟩])
 (.ret))
 (.skip))))
 (.keep [0, 1, 2, 7, 8] (.seq (.ops [⟨some 93, none, .mv (.t 7), none⟩,
 ⟨some 94, none, .mv (.t 8), none⟩,
 ⟨some 95, none, .call (.f 37) [(.t 93), (.t 94)], none⟩,
 ⟨some 92, none, .mv (.t 95), none⟩,
 ⟨some 96, none, .ext 0 (.t 92), none⟩,
 ⟨some 97, none, .ext 1 (.t 92), none⟩,
 ⟨some 9, none, .mv (.t 96), none⟩,
 ⟨some 10, none, .mv (.t 97), none⟩])
 (.keep [0, 1, 2, 7, 8, 9, 10] (.seq (.ops [⟨some 99, none, .mv (.t 0), none⟩,
 ⟨some 100, none, .mv (.t 1), none⟩,
 ⟨some 101, none, .call (.f 38) [(.t 99), (.t 100)], none⟩,
 ⟨some 98, none, .mv (.t 101), none⟩,
 ⟨some 102, none, .ext 0 (.t 98), none⟩,
 ⟨some 103, none, .ext 1 (.t 98), none⟩,
 ⟨some 11, none, .mv (.t 102), none⟩,
 ⟨some 12, none, .mv (.t 103), none⟩])
 (.keep [0, 1, 2, 7, 8, 9, 10, 11, 12] (.seq (.seq (.ops [⟨some 104, none, .mv (.t 10), none⟩,
 ⟨some 105, none, .mv (.t 12), none⟩,
 ⟨some 106, none, .bin .neq (.t 104) (.t 105), none⟩,
 ⟨some 107, none, .mv (.t 106), none⟩,
 ⟨some 108, (some (107, false)), .mv (.t 9), none⟩,
 ⟨some 109, (some (107, false)), .mv (.t 11), none⟩,
 ⟨some 110, (some (107, false)), .call (.f 30) [(.t 108), (.t 109)], none⟩,
 ⟨some 111, (some (107, false)), .not (.t 110), none⟩,
 ⟨some 112, none, .pick (.t 107) (.c (.bool true)) (.t 111), none⟩])
 (.keep [0, 1, 2, 7, 8, 112] (.cond (.t 112)
 (.seq (.ops [⟨some 6, none, .mv (.c (.bool false)), none⟩])
 (.ret))
 (.skip))))
 (.keep [0, 1, 2, 7, 8] (.seq (.ops [⟨some 114, none, .mv (.t 7), none⟩,
 ⟨some 115, none, .mv (.t 2), none⟩,
 ⟨some 116, none, .call (.f 39) [(.t 114), (.t 115)], none⟩,
 ⟨some 113, none, .mv (.t 116), none⟩,
 ⟨some 117, none, .ext 0 (.t 113), none⟩,
 ⟨some 118, none, .ext 1 (.t 113), none⟩,
 ⟨some 9, none, .mv (.t 117), none⟩,
 ⟨some 10, none, .mv (.t 118), none⟩])
 (.keep [0, 1, 2, 7, 8, 9, 10] (.seq (.ops [⟨some 120, none, .mv (.t 0), none⟩,
 ⟨some 121, none, .mv (.t 2), none⟩,
 ⟨some 122, none, .call (.f 40) [(.t 120), (.t 121)], none⟩,
 ⟨some 119, none, .mv (.t 122), none⟩,
 ⟨some 123, none, .ext 0 (.t 119), none⟩,
 ⟨some 124, none, .ext 1 (.t 119), none⟩,
 ⟨some 11, none, .mv (.t 123), none⟩,
 ⟨some 12, none, .mv (.t 124), none⟩])
 (.keep [0, 1, 7, 8, 9, 10, 11, 12] (.seq (.seq (.ops [⟨some 125, none, .mv (.t 10), none⟩,
 ⟨some 126, none, .mv (.t 12), none⟩,
 ⟨some 127, none, .bin .neq (.t 125) (.t 126), none⟩,
 ⟨some 128, none, .mv (.t 127), none⟩,
 ⟨some 129, (some (128, false)), .mv (.t 9), none⟩,
 ⟨some 130, (some (128, false)), .mv (.t 11), none⟩,
 ⟨some 131, (some (128, false)), .call (.f 30) [(.t 129), (.t 130)], none⟩,
 ⟨some 132, (some (128, false)), .not (.t 131), none⟩,
 ⟨some 133, none, .pick (.t 128) (.c (.bool true)) (.t 132), none⟩])
 (.keep [0, 1, 7, 8, 9, 133] (.cond (.t 133)
 (.seq (.ops [⟨some 6, none, .mv (.c (.bool false)), none⟩])
 (.ret))
 (.skip))))
 (.keep [0, 1, 7, 8, 9] (.seq (.seq (.ops [⟨some 134, none, .mv (.t 9), none⟩,
 ⟨some 135, none, .lenl (.t 134), none⟩,
 ⟨some 136, none, .mv (.c (.int .i64 0)), none⟩])
 (.keep [0, 1, 7, 8, 9, 135, 136] (.block 0 (.loop [0, 1, 7, 8, 9, 135, 136] (J_law03_SetMakes_j2)))))
 (J_law03_SetMakes_j1)))))))))))))))))))))))))))))))))))))))⟩
theorem J_law03_SetMakes_ok : chkFn Try.prog 5 J_law03_SetMakes = true := by kernel_rfl
def J_law03_awake : AFn :=
 ⟨148, [.t 0], .seq (.ops [⟨some 0, none, .mv (.c (.bool false)), none⟩])
 (.keep [] (.seq (.ops [⟨some 16, none, .bsl 32 1 1 [(.int .u16 0)] [(0, 1, (.c (.int .u16 8193)))], none⟩,
 ⟨some 17, none, .call (.f 47) [(.t 16)], none⟩,
 ⟨some 18, none, .bsl 32 1 1 [(.int .u16 0)] [(0, 1, (.c (.int .u16 8194)))], none⟩,
 ⟨some 19, none, .call (.f 47) [(.t 18)], none⟩,
 ⟨some 1, none, .mv (.t 17), none⟩,
 ⟨some 2, none, .mv (.t 19), none⟩])
 (.keep [1, 2] (.seq (.ops [⟨some 20, none, .mv (.t 1), none⟩,
 ⟨some 21, none, .mv (.t 2), none⟩,
 ⟨some 22, none, .bin .add (.t 20) (.t 21), none⟩,
 ⟨some 3, none, .mv (.t 22), none⟩])
 (.keep [1, 2, 3] (.seq (.ops [⟨some 24, none, .mv (.t 3), none⟩,
 ⟨some 25, none, .mv (.t 1), none⟩,
 ⟨some 26, none, .mv (.t 1), none⟩,
 ⟨some 27, none, .bsl 72 1 3 [(.str ⟨#[]⟩), (.str ⟨#[]⟩), (.str ⟨#[]⟩)] [(0, 1, (.t 24)), (1, 1, (.t 25)), (2, 1, (.t 26))], none⟩,
 ⟨some 28, none, .call (.f 28) [(.t 27)], none⟩,
 ⟨some 23, none, .mv (.t 28), none⟩,
 ⟨some 29, none, .ext 0 (.t 23), none⟩,
 ⟨some 30, none, .ext 1 (.t 23), none⟩,
 ⟨some 4, none, .mv (.t 29), none⟩,
 ⟨some 5, none, .mv (.t 30), none⟩])
 (.keep [1, 2, 3, 4, 5] (.seq (.ops [⟨some 32, none, .mv (.t 1), none⟩,
 ⟨some 33, none, .mv (.t 2), none⟩,
 ⟨some 34, none, .bsl 72 1 2 [(.str ⟨#[]⟩), (.str ⟨#[]⟩)] [(0, 1, (.t 32)), (1, 1, (.t 33))], none⟩,
 ⟨some 35, none, .mv (.t 2), none⟩,
 ⟨some 36, none, .bsl 72 1 1 [(.str ⟨#[]⟩)] [(0, 1, (.t 35))], none⟩,
 ⟨some 37, none, .call (.f 35) [(.t 34), (.t 36)], none⟩,
 ⟨some 31, none, .mv (.t 37), none⟩,
 ⟨some 38, none, .ext 0 (.t 31), none⟩,
 ⟨some 39, none, .ext 1 (.t 31), none⟩,
 ⟨some 6, none, .mv (.t 38), none⟩,
 ⟨some 7, none, .mv (.t 39), none⟩])
 (.keep [1, 2, 3, 4, 5, 6, 7] (.seq (.ops [⟨some 41, none, .mv (.t 1), none⟩,
 ⟨some 42, none, .bsl 72 1 1 [(.str ⟨#[]⟩)] [(0, 1, (.t 41))], none⟩,
 ⟨some 43, none, .mv (.t 2), none⟩,
 ⟨some 44, none, .bsl 72 1 1 [(.str ⟨#[]⟩)] [(0, 1, (.t 43))], none⟩,
 ⟨some 45, none, .call (.f 37) [(.t 42), (.t 44)], none⟩,
 ⟨some 40, none, .mv (.t 45), none⟩,
 ⟨some 46, none, .ext 0 (.t 40), none⟩,
 ⟨some 47, none, .ext 1 (.t 40), none⟩,
 ⟨some 8, none, .mv (.t 46), none⟩,
 ⟨some 9, none, .mv (.t 47), none⟩])
 (.keep [1, 2, 3, 4, 5, 6, 7, 8, 9] (.seq (.ops [⟨some 49, none, .mv (.t 4), none⟩,
 ⟨some 50, none, .call (.f 39) [(.t 49), (.c (.int .u16 8193))], none⟩,
 ⟨some 48, none, .mv (.t 50), none⟩,
 ⟨some 51, none, .ext 0 (.t 48), none⟩,
 ⟨some 52, none, .ext 1 (.t 48), none⟩,
 ⟨some 10, none, .mv (.t 51), none⟩,
 ⟨some 11, none, .mv (.t 52), none⟩])
 (.keep [1, 2, 3, 4, 5, 6, 7, 8, 9, 11] (.seq (.ops [⟨some 54, none, .mv (.t 1), none⟩,
 ⟨some 55, none, .bsl 72 1 1 [(.str ⟨#[]⟩)] [(0, 1, (.t 54))], none⟩,
 ⟨some 56, none, .mv (.t 2), none⟩,
 ⟨some 57, none, .bsl 72 1 1 [(.str ⟨#[]⟩)] [(0, 1, (.t 56))], none⟩,
 ⟨some 58, none, .call (.f 33) [(.t 55), (.t 57)], none⟩,
 ⟨some 53, none, .mv (.t 58), none⟩,
 ⟨some 59, none, .ext 0 (.t 53), none⟩,
 ⟨some 60, none, .ext 1 (.t 53), none⟩,
 ⟨some 12, none, .mv (.t 59), none⟩,
 ⟨some 13, none, .mv (.t 60), none⟩])
 (.keep [1, 2, 3, 4, 5, 6, 7, 8, 9, 11, 12, 13] (.seq (.ops [⟨some 62, none, .call (.f 28) [(.c (.lst .clip 0 []))], none⟩,
 ⟨some 61, none, .mv (.t 62), none⟩,
 ⟨some 63, none, .ext 0 (.t 61), none⟩,
 ⟨some 64, none, .ext 1 (.t 61), none⟩,
 ⟨some 14, none, .mv (.t 63), none⟩,
 ⟨some 15, none, .mv (.t 64), none⟩])
 (.keep [1, 2, 3, 4, 5, 6, 7, 8, 9, 11, 12, 13, 15] (.seq (.ops [⟨some 65, none, .mv (.t 4), none⟩,
 ⟨some 66, none, .mv (.t 1), none⟩,
 ⟨some 67, none, .mv (.t 3), none⟩,
 ⟨some 68, none, .bsl 72 1 2 [(.str ⟨#[]⟩), (.str ⟨#[]⟩)] [(0, 1, (.t 66)), (1, 1, (.t 67))], none⟩,
 ⟨some 69, none, .call (.f 30) [(.t 65), (.t 68)], none⟩,
 ⟨some 70, none, .mv (.t 69), none⟩,
 ⟨some 71, (some (70, true)), .mv (.t 5), none⟩,
 ⟨some 72, (some (70, true)), .bin .eql (.t 71) (.c (.int .i64 0)), none⟩,
 ⟨some 73, none, .pick (.t 70) (.t 72) (.c (.bool false)), none⟩,
 ⟨some 74, none, .mv (.t 73), none⟩,
 ⟨some 75, (some (74, true)), .mv (.t 6), none⟩,
 ⟨some 76, (some (74, true)), .mv (.t 3), none⟩,
 ⟨some 77, (some (74, true)), .mv (.t 2), none⟩,
 ⟨some 78, (some (74, true)), .mv (.t 2), none⟩,
 ⟨some 79, (some (74, true)), .bin .add (.t 77) (.t 78), none⟩,
 ⟨some 80, (some (74, true)), .bsl 72 1 2 [(.str ⟨#[]⟩), (.str ⟨#[]⟩)] [(0, 1, (.t 76)), (1, 1, (.t 79))], none⟩,
 ⟨some 81, (some (74, true)), .call (.f 30) [(.t 75), (.t 80)], none⟩,
 ⟨some 82, none, .pick (.t 74) (.t 81) (.c (.bool false)), none⟩,
 ⟨some 83, none, .mv (.t 82), none⟩,
 ⟨some 84, (some (83, true)), .mv (.t 7), none⟩,
 ⟨some 85, (some (83, true)), .bin .eql (.t 84) (.c (.int .i64 0)), none⟩,
 ⟨some 86, none, .pick (.t 83) (.t 85) (.c (.bool false)), none⟩,
 ⟨some 87, none, .mv (.t 86), none⟩,
 ⟨some 88, (some (87, true)), .mv (.t 8), none⟩,
 ⟨some 89, (some (87, true)), .bsl 32 1 2 [(.int .u16 0), (.int .u16 0)] [(0, 1, (.c (.int .u16 1))), (1, 1, (.c (.int .u16 8194)))], none⟩,
 ⟨some 90, (some (87, true)), .call (.f 47) [(.t 89)], none⟩,
 ⟨some 91, (some (87, true)), .mv (.t 3), none⟩,
 ⟨some 92, (some (87, true)), .bsl 72 1 2 [(.str ⟨#[]⟩), (.str ⟨#[]⟩)] [(0, 1, (.t 90)), (1, 1, (.t 91))], none⟩,
 ⟨some 93, (some (87, true)), .call (.f 30) [(.t 88), (.t 92)], none⟩,
 ⟨some 94, none, .pick (.t 87) (.t 93) (.c (.bool false)), none⟩,
 ⟨some 95, none, .mv (.t 94), none⟩,
 ⟨some 96, (some (95, true)), .mv (.t 9), none⟩,
 ⟨some 97, (some (95, true)), .bin .eql (.t 96) (.c (.int .i64 0)), none⟩,
 ⟨some 98, none, .pick (.t 95) (.t 97) (.c (.bool false)), none⟩,
 ⟨some 99, none, .mv (.t 98), none⟩,
 ⟨some 100, (some (99, true)), .mv (.t 11), none⟩,
 ⟨some 101, (some (99, true)), .bin .eql (.t 100) (.c (.int .i64 1)), none⟩,
 ⟨some 102, none, .pick (.t 99) (.t 101) (.c (.bool false)), none⟩,
 ⟨some 103, none, .mv (.t 102), none⟩,
 ⟨some 104, (some (103, true)), .mv (.t 12), none⟩,
 ⟨some 105, (some (103, true)), .mv (.t 1), none⟩,
 ⟨some 106, (some (103, true)), .mv (.t 2), none⟩,
 ⟨some 107, (some (103, true)), .bsl 72 1 2 [(.str ⟨#[]⟩), (.str ⟨#[]⟩)] [(0, 1, (.t 105)), (1, 1, (.t 106))], none⟩,
 ⟨some 108, (some (103, true)), .call (.f 30) [(.t 104), (.t 107)], none⟩,
 ⟨some 109, none, .pick (.t 103) (.t 108) (.c (.bool false)), none⟩,
 ⟨some 110, none, .mv (.t 109), none⟩,
 ⟨some 111, (some (110, true)), .mv (.t 13), none⟩,
 ⟨some 112, (some (110, true)), .bin .eql (.t 111) (.c (.int .i64 0)), none⟩,
 ⟨some 113, none, .pick (.t 110) (.t 112) (.c (.bool false)), none⟩,
 ⟨some 114, none, .mv (.t 113), none⟩,
 ⟨some 115, (some (114, true)), .mv (.t 15), none⟩,
 ⟨some 116, (some (114, true)), .bin .eql (.t 115) (.c (.int .i64 3)), none⟩,
 ⟨some 117, none, .pick (.t 114) (.t 116) (.c (.bool false)), none⟩,
 ⟨some 118, none, .mv (.t 117), none⟩,
 ⟨some 119, (some (118, true)), .mv (.t 4), none⟩,
 ⟨some 120, (some (118, true)), .call (.f 31) [(.t 119)], none⟩,
 ⟨some 121, none, .pick (.t 118) (.t 120) (.c (.bool false)), none⟩,
 ⟨some 122, none, .mv (.t 121), none⟩,
 ⟨some 123, (some (122, true)), .call (.f 31) [(.c (.lst .clip 0 []))], none⟩,
 ⟨some 124, (some (122, true)), .not (.t 123), none⟩,
 ⟨some 125, none, .pick (.t 122) (.t 124) (.c (.bool false)), none⟩,
 ⟨some 126, none, .mv (.t 125), none⟩,
 ⟨some 127, (some (126, true)), .mv (.t 4), none⟩,
 ⟨some 128, (some (126, true)), .mv (.t 3), none⟩,
 ⟨some 129, (some (126, true)), .call (.f 62) [(.t 127), (.t 128)], none⟩,
 ⟨some 130, none, .pick (.t 126) (.t 129) (.c (.bool false)), none⟩,
 ⟨some 131, none, .mv (.t 130), none⟩,
 ⟨some 132, (some (131, true)), .mv (.t 1), none⟩,
 ⟨some 133, (some (131, true)), .bsl 72 1 1 [(.str ⟨#[]⟩)] [(0, 1, (.t 132))], none⟩,
 ⟨some 134, (some (131, true)), .mv (.t 4), none⟩,
 ⟨some 135, (some (131, true)), .call (.f 63) [(.t 133), (.t 134)], none⟩,
 ⟨some 136, none, .pick (.t 131) (.t 135) (.c (.bool false)), none⟩,
 ⟨some 137, none, .mv (.t 136), none⟩,
 ⟨some 138, (some (137, true)), .mv (.t 4), none⟩,
 ⟨some 139, (some (137, true)), .mv (.t 6), none⟩,
 ⟨some 140, (some (137, true)), .call (.f 64) [(.t 138), (.t 139)], none⟩,
 ⟨some 141, (some (137, true)), .not (.t 140), none⟩,
 ⟨some 142, none, .pick (.t 137) (.t 141) (.c (.bool false)), none⟩,
 ⟨some 143, none, .mv (.t 142), none⟩,
 ⟨some 144, (some (143, true)), .mv (.t 4), none⟩,
 ⟨some 145, (some (143, true)), .call (.f 65) [(.t 144)], none⟩,
 ⟨some 146, (some (143, true)), .bin .eql (.t 145) (.c (.int .i64 2)), none⟩,
 ⟨some 147, none, .pick (.t 143) (.t 146) (.c (.bool false)), none⟩,
 ⟨some 0, none, .mv (.t 147), none⟩])
 (.ret)))))))))))))))))))⟩
theorem J_law03_awake_ok : chkFn Try.prog 25 J_law03_awake = true := by kernel_rfl
def J_law03_large_j1 : ACode :=
 .keep [] (.seq (.ops [⟨some 2, none, .mv (.c (.bool false)), none⟩])
 (.ret))
def J_law03_large_j2 : ACode :=
 .keep [0, 6, 7] (.ops [⟨some 34, none, .bin .add (.t 7) (.c (.int .i64 1)), none⟩,
 ⟨some 7, none, .mv (.t 34), none⟩])
def J_law03_large_j3 : ACode :=
 .seq (.ops [⟨some 22, none, .bin .lss (.t 21) (.t 20), none⟩])
 (.keep [0, 3, 6, 7, 20, 21, 22] (.seq (.cond (.t 22)
 (.skip)
 (.exit 2))
 (.keep [0, 3, 6, 7, 20, 21] (.seq (.block 3 (.seq (.ops [⟨some 23, none, .mv (.t 21), none⟩,
 ⟨some 4, none, .mv (.t 23), none⟩])
 (.keep [0, 3, 4, 6, 7, 20, 21] (.seq (.ops [⟨some 24, none, .mv (.t 0), none⟩,
 ⟨some 25, none, .mv (.t 3), none⟩,
 ⟨some 26, none, .idxa 1 (.t 24) (.t 25), none⟩,
 ⟨some 27, none, .load none (.t 26), none⟩,
 ⟨some 28, none, .mv (.t 4), none⟩,
 ⟨some 29, none, .idxa 1 (.t 27) (.t 28), none⟩,
 ⟨some 30, none, .load none (.t 29), none⟩,
 ⟨some 31, none, .lens (.t 30), none⟩,
 ⟨some 32, none, .bin .gtr (.t 31) (.c (.int .i64 100)), none⟩])
 (.keep [0, 3, 6, 7, 20, 21, 32] (.cond (.t 32)
 (.seq (.ops [⟨some 2, none, .mv (.c (.bool true)), none⟩])
 (.ret))
 (.skip)))))))
 (.keep [0, 3, 6, 7, 20, 21] (.ops [⟨some 33, none, .bin .add (.t 21) (.c (.int .i64 1)), none⟩,
 ⟨some 21, none, .mv (.t 33), none⟩]))))))
def J_law03_large_j4 : ACode :=
 .seq (.ops [⟨some 8, none, .bin .lss (.t 7) (.t 6), none⟩])
 (.keep [0, 6, 7, 8] (.seq (.cond (.t 8)
 (.skip)
 (.exit 0))
 (.keep [0, 6, 7] (.seq (.block 1 (.seq (.ops [⟨some 9, none, .mv (.t 7), none⟩,
 ⟨some 3, none, .mv (.t 9), none⟩])
 (.keep [0, 3, 6, 7] (.seq (.seq (.ops [⟨some 10, none, .mv (.t 0), none⟩,
 ⟨some 11, none, .mv (.t 3), none⟩,
 ⟨some 12, none, .idxa 1 (.t 10) (.t 11), none⟩,
 ⟨some 13, none, .load none (.t 12), none⟩,
 ⟨some 14, none, .lenl (.t 13), none⟩,
 ⟨some 15, none, .bin .gtr (.t 14) (.c (.int .i64 60)), none⟩])
 (.keep [0, 3, 6, 7, 15] (.cond (.t 15)
 (.seq (.ops [⟨some 2, none, .mv (.c (.bool true)), none⟩])
 (.ret))
 (.skip))))
 (.keep [0, 3, 6, 7] (.seq (.ops [⟨some 16, none, .mv (.t 0), none⟩,
 ⟨some 17, none, .mv (.t 3), none⟩,
 ⟨some 18, none, .idxa 1 (.t 16) (.t 17), none⟩,
 ⟨some 19, none, .load none (.t 18), none⟩,
 ⟨some 20, none, .lenl (.t 19), none⟩,
 ⟨some 21, none, .mv (.c (.int .i64 0)), none⟩])
 (.keep [0, 3, 6, 7, 20, 21] (.block 2 (.loop [0, 3, 6, 7, 20, 21] (J_law03_large_j3))))))))))
 (J_law03_large_j2)))))
def J_law03_large : AFn :=
 ⟨35, [.t 2], .seq (.ops [⟨some 2, none, .mv (.c (.bool false)), none⟩])
 (.keep [0] (.seq (.seq (.ops [⟨some 5, none, .mv (.t 0), none⟩,
 ⟨some 6, none, .lenl (.t 5), none⟩,
 ⟨some 7, none, .mv (.c (.int .i64 0)), none⟩])
 (.keep [0, 6, 7] (.block 0 (.loop [0, 6, 7] (J_law03_large_j4)))))
 (J_law03_large_j1)))⟩
theorem J_law03_large_ok : chkFn Try.prog 26 J_law03_large = true := by kernel_rfl
def J_law03_own : AFn :=
 ⟨6, [.t 2], .seq (.ops [⟨some 2, none, .mv (.c (.lst .clip 0 [])), none⟩])
 (.keep [0] (.seq (.ops [⟨some 3, none, .bsl 72 1 0 [] [], none⟩,
 ⟨some 4, none, .mv (.t 0), none⟩,
 ⟨some 5, none, .appo 72 1 16 3 (.t 4), none⟩,
 ⟨some 2, none, .mvo 5, none⟩])
 (.ret)))⟩
theorem J_law03_own_ok : chkFn Try.prog 27 J_law03_own = true := by kernel_rfl
def J_ref03_Of_j1 : ACode :=
 .keep [0] (.seq (.ops [⟨some 17, none, .mv (.t 0), none⟩,
 ⟨some 18, none, .call (.f 74) [(.t 17)], none⟩,
 ⟨some 19, none, .call (.f 73) [(.t 18)], none⟩,
 ⟨some 20, none, .ext 0 (.t 19), none⟩,
 ⟨some 21, none, .ext 1 (.t 19), none⟩,
 ⟨some 2, none, .mv (.t 20), none⟩,
 ⟨some 3, none, .mv (.t 21), none⟩])
 (.ret))
def J_ref03_Of_j2 : ACode :=
 .seq (.seq (.ops [⟨some 5, none, .mv (.t 4), none⟩,
 ⟨some 6, none, .mv (.t 0), none⟩,
 ⟨some 7, none, .lenl (.t 6), none⟩,
 ⟨some 8, none, .bin .lss (.t 5) (.t 7), none⟩])
 (.keep [0, 4, 8] (.cond (.t 8)
 (.skip)
 (.exit 0))))
 (.keep [0, 4] (.seq (.block 1 (.seq (.ops [⟨some 11, none, .mv (.t 0), none⟩,
 ⟨some 12, none, .mv (.t 4), none⟩,
 ⟨some 13, none, .idxa 1 (.t 11) (.t 12), none⟩,
 ⟨some 14, none, .load none (.t 13), none⟩,
 ⟨some 15, none, .call (.f 72) [(.t 14)], none⟩,
 ⟨some 16, none, .not (.t 15), none⟩])
 (.keep [0, 4, 16] (.cond (.t 16)
 (.seq (.ops [⟨some 2, none, .mv (.c (.lst .clip 0 [])), none⟩,
 ⟨some 3, none, .mv (.c (.int .i64 2)), none⟩])
 (.ret))
 (.skip)))))
 (.keep [0, 4] (.ops [⟨some 9, none, .mv (.t 4), none⟩,
 ⟨some 10, none, .bin .add (.t 9) (.c (.int .i64 1)), none⟩,
 ⟨some 4, none, .mv (.t 10), none⟩]))))
def J_ref03_Of : AFn :=
 ⟨22, [.t 2, .t 3], .seq (.ops [⟨some 2, none, .mv (.c (.lst .clip 0 [])), none⟩,
 ⟨some 3, none, .mv (.c (.int .i64 0)), none⟩])
 (.keep [0] (.seq (.seq (.ops [⟨some 4, none, .mv (.c (.int .i64 0)), none⟩])
 (.keep [0, 4] (.block 0 (.loop [0, 4] (J_ref03_Of_j2)))))
 (J_ref03_Of_j1)))⟩
theorem J_ref03_Of_ok : chkFn Try.prog 29 J_ref03_Of = true := by kernel_rfl
def J_set_And : AFn :=
 ⟨21, [.t 4, .t 5], .seq (.ops [⟨some 4, none, .mv (.c (.lst .clip 0 [])), none⟩,
 ⟨some 5, none, .mv (.c (.int .i64 0)), none⟩])
 (.keep [0, 1] (.seq (.seq (.ops [⟨some 6, none, .mv (.t 0), none⟩,
 ⟨some 7, none, .call (.f 31) [(.t 6)], none⟩,
 ⟨some 8, none, .not (.t 7), none⟩,
 ⟨some 9, none, .mv (.t 8), none⟩,
 ⟨some 10, (some (9, false)), .mv (.t 1), none⟩,
 ⟨some 11, (some (9, false)), .call (.f 31) [(.t 10)], none⟩,
 ⟨some 12, (some (9, false)), .not (.t 11), none⟩,
 ⟨some 13, none, .pick (.t 9) (.c (.bool true)) (.t 12), none⟩])
 (.keep [0, 1, 13] (.cond (.t 13)
 (.seq (.ops [⟨some 4, none, .mv (.c (.lst .clip 0 [])), none⟩,
 ⟨some 5, none, .mv (.c (.int .i64 2)), none⟩])
 (.ret))
 (.skip))))
 (.keep [0, 1] (.seq (.ops [⟨some 14, none, .mv (.t 0), none⟩,
 ⟨some 15, none, .mv (.t 1), none⟩,
 ⟨some 16, none, .bsl 56 1 2 [(.lst .clip 0 []), (.lst .clip 0 [])] [(0, 1, (.t 14)), (1, 1, (.t 15))], none⟩,
 ⟨some 17, none, .call (.f 77) [(.t 16)], none⟩,
 ⟨some 18, none, .call (.f 28) [(.t 17)], none⟩,
 ⟨some 19, none, .ext 0 (.t 18), none⟩,
 ⟨some 20, none, .ext 1 (.t 18), none⟩,
 ⟨some 4, none, .mv (.t 19), none⟩,
 ⟨some 5, none, .mv (.t 20), none⟩])
 (.ret)))))⟩
theorem J_set_And_ok : chkFn Try.prog 33 J_set_And = true := by kernel_rfl
def J_ref03_And : AFn :=
 ⟨23, [.t 4, .t 5], .seq (.ops [⟨some 4, none, .mv (.c (.lst .clip 0 [])), none⟩,
 ⟨some 5, none, .mv (.c (.int .i64 0)), none⟩])
 (.keep [0, 1] (.seq (.seq (.ops [⟨some 6, none, .mv (.t 0), none⟩,
 ⟨some 7, none, .call (.f 32) [(.t 6)], none⟩,
 ⟨some 8, none, .not (.t 7), none⟩,
 ⟨some 9, none, .mv (.t 8), none⟩,
 ⟨some 10, (some (9, false)), .mv (.t 1), none⟩,
 ⟨some 11, (some (9, false)), .call (.f 32) [(.t 10)], none⟩,
 ⟨some 12, (some (9, false)), .not (.t 11), none⟩,
 ⟨some 13, none, .pick (.t 9) (.c (.bool true)) (.t 12), none⟩])
 (.keep [0, 1, 13] (.cond (.t 13)
 (.seq (.ops [⟨some 4, none, .mv (.c (.lst .clip 0 [])), none⟩,
 ⟨some 5, none, .mv (.c (.int .i64 2)), none⟩])
 (.ret))
 (.skip))))
 (.keep [0, 1] (.seq (.ops [⟨some 14, none, .bsl 72 1 0 [] [], none⟩,
 ⟨some 15, none, .mv (.t 0), none⟩,
 ⟨some 16, none, .appo 72 1 16 14 (.t 15), none⟩,
 ⟨some 17, none, .mv (.t 1), none⟩,
 ⟨some 18, none, .appo 72 1 16 16 (.t 17), none⟩,
 ⟨some 19, none, .call (.f 74) [(.t 18)], none⟩,
 ⟨some 20, none, .call (.f 73) [(.t 19)], none⟩,
 ⟨some 21, none, .ext 0 (.t 20), none⟩,
 ⟨some 22, none, .ext 1 (.t 20), none⟩,
 ⟨some 4, none, .mv (.t 21), none⟩,
 ⟨some 5, none, .mv (.t 22), none⟩])
 (.ret)))))⟩
theorem J_ref03_And_ok : chkFn Try.prog 34 J_ref03_And = true := by kernel_rfl
def J_set_Quote_j1 : ACode :=
 .keep [6] (.seq (.ops [⟨some 30, none, .mv (.t 6), none⟩,
 ⟨some 31, none, .call (.f 28) [(.t 30)], none⟩,
 ⟨some 32, none, .ext 0 (.t 31), none⟩,
 ⟨some 33, none, .ext 1 (.t 31), none⟩,
 ⟨some 4, none, .mv (.t 32), none⟩,
 ⟨some 5, none, .mv (.t 33), none⟩])
 (.ret))
def J_set_Quote_j2 : ACode :=
 .seq (.ops [⟨some 23, none, .bin .lss (.t 22) (.t 21), none⟩])
 (.keep [6, 20, 21, 22, 23] (.seq (.cond (.t 23)
 (.skip)
 (.exit 0))
 (.keep [6, 20, 21, 22] (.seq (.block 1 (.seq (.ops [⟨some 24, none, .idxa 1 (.t 20) (.t 22), none⟩,
 ⟨some 25, none, .load none (.t 24), none⟩,
 ⟨some 8, none, .mv (.t 25), none⟩])
 (.keep [6, 8, 20, 21, 22] (.seq (.ops [⟨some 26, none, .mv (.t 8), none⟩,
 ⟨some 27, none, .call (.f 80) [(.t 26)], none⟩,
 ⟨some 28, none, .bin .gtr (.t 27) (.c (.int .i64 8)), none⟩])
 (.keep [6, 20, 21, 22, 28] (.cond (.t 28)
 (.seq (.ops [⟨some 4, none, .mv (.c (.lst .clip 0 [])), none⟩,
 ⟨some 5, none, .mv (.c (.int .i64 4)), none⟩])
 (.ret))
 (.skip)))))))
 (.keep [6, 20, 21, 22] (.ops [⟨some 29, none, .bin .add (.t 22) (.c (.int .i64 1)), none⟩,
 ⟨some 22, none, .mv (.t 29), none⟩]))))))
def J_set_Quote : AFn :=
 ⟨34, [.t 4, .t 5], .seq (.ops [⟨some 4, none, .mv (.c (.lst .clip 0 [])), none⟩,
 ⟨some 5, none, .mv (.c (.int .i64 0)), none⟩])
 (.keep [0, 1] (.seq (.seq (.ops [⟨some 9, none, .mv (.t 0), none⟩,
 ⟨some 10, none, .call (.f 31) [(.t 9)], none⟩,
 ⟨some 11, none, .not (.t 10), none⟩,
 ⟨some 12, none, .mv (.t 11), none⟩,
 ⟨some 13, (some (12, false)), .mv (.t 1), none⟩,
 ⟨some 14, (some (12, false)), .call (.f 31) [(.t 13)], none⟩,
 ⟨some 15, (some (12, false)), .not (.t 14), none⟩,
 ⟨some 16, none, .pick (.t 12) (.c (.bool true)) (.t 15), none⟩])
 (.keep [0, 1, 16] (.cond (.t 16)
 (.seq (.ops [⟨some 4, none, .mv (.c (.lst .clip 0 [])), none⟩,
 ⟨some 5, none, .mv (.c (.int .i64 2)), none⟩])
 (.ret))
 (.skip))))
 (.keep [0, 1] (.seq (.ops [⟨some 17, none, .mv (.t 0), none⟩,
 ⟨some 18, none, .mv (.t 1), none⟩,
 ⟨some 19, none, .call (.f 78) [(.t 17), (.t 18), (.f 79)], none⟩,
 ⟨some 6, none, .mv (.t 19), none⟩])
 (.keep [6] (.seq (.seq (.ops [⟨some 20, none, .mv (.t 6), none⟩,
 ⟨some 21, none, .lenl (.t 20), none⟩,
 ⟨some 22, none, .mv (.c (.int .i64 0)), none⟩])
 (.keep [6, 20, 21, 22] (.block 0 (.loop [6, 20, 21, 22] (J_set_Quote_j2)))))
 (J_set_Quote_j1)))))))⟩
theorem J_set_Quote_ok : chkFn Try.prog 35 J_set_Quote = true := by kernel_rfl
def J_ref03_Quote_j1 : ACode :=
 .keep [6] (.seq (.ops [⟨some 52, none, .mv (.t 6), none⟩,
 ⟨some 53, none, .call (.f 74) [(.t 52)], none⟩,
 ⟨some 54, none, .call (.f 73) [(.t 53)], none⟩,
 ⟨some 55, none, .ext 0 (.t 54), none⟩,
 ⟨some 56, none, .ext 1 (.t 54), none⟩,
 ⟨some 4, none, .mv (.t 55), none⟩,
 ⟨some 5, none, .mv (.t 56), none⟩])
 (.ret))
def J_ref03_Quote_j2 : ACode :=
 .keep [0, 1, 6, 7] (.ops [⟨some 24, none, .mv (.t 7), none⟩,
 ⟨some 25, none, .bin .add (.t 24) (.c (.int .i64 1)), none⟩,
 ⟨some 7, none, .mv (.t 25), none⟩])
def J_ref03_Quote_j3 : ACode :=
 .seq (.seq (.ops [⟨some 26, none, .mv (.t 8), none⟩,
 ⟨some 27, none, .mv (.t 1), none⟩,
 ⟨some 28, none, .lenl (.t 27), none⟩,
 ⟨some 29, none, .bin .lss (.t 26) (.t 28), none⟩])
 (.keep [0, 1, 6, 7, 8, 29] (.cond (.t 29)
 (.skip)
 (.exit 2))))
 (.keep [0, 1, 6, 7, 8] (.seq (.block 3 (.seq (.draw [0, 1, 6, 7, 8, 9, 10] [⟨some 33, none, .mv (.t 0), none⟩,
 ⟨some 34, none, .mv (.t 7), none⟩,
 ⟨some 35, none, .idxa 1 (.t 33) (.t 34), none⟩,
 ⟨some 36, none, .load none (.t 35), none⟩,
 ⟨some 37, none, .mv (.t 1), none⟩,
 ⟨some 38, none, .mv (.t 8), none⟩,
 ⟨some 39, none, .idxa 1 (.t 37) (.t 38), none⟩,
 ⟨some 40, none, .load none (.t 39), none⟩,
 ⟨some 41, none, .bsl 72 1 2 [(.str ⟨#[]⟩), (.str ⟨#[]⟩)] [(0, 1, (.t 36)), (1, 1, (.t 40))], none⟩,
 ⟨some 42, none, .call (.f 81) [(.t 41)], none⟩,
 ⟨some 32, none, .mv (.t 42), none⟩,
 ⟨some 43, none, .ext 0 (.t 32), none⟩,
 ⟨some 44, none, .ext 1 (.t 32), none⟩,
 ⟨some 9, none, .mv (.t 43), none⟩,
 ⟨some 10, none, .mv (.t 44), none⟩])
 (.keep [0, 1, 6, 7, 8, 9, 10] (.seq (.seq (.ops [⟨some 45, none, .mv (.t 10), none⟩,
 ⟨some 46, none, .bin .neq (.t 45) (.c (.int .i64 0)), none⟩])
 (.keep [0, 1, 6, 7, 8, 9, 10, 46] (.cond (.t 46)
 (.seq (.ops [⟨some 47, none, .mv (.t 10), none⟩,
 ⟨some 4, none, .mv (.c (.lst .clip 0 [])), none⟩,
 ⟨some 5, none, .mv (.t 47), none⟩])
 (.ret))
 (.skip))))
 (.keep [0, 1, 6, 7, 8, 9] (.ops [⟨some 48, none, .mvo 6, none⟩,
 ⟨some 49, none, .mv (.t 9), none⟩,
 ⟨some 50, none, .bsl 72 1 1 [(.str ⟨#[]⟩)] [(0, 1, (.t 49))], none⟩,
 ⟨some 51, none, .appo 72 1 16 48 (.t 50), none⟩,
 ⟨some 6, none, .mvo 51, none⟩]))))))
 (.keep [0, 1, 6, 7, 8] (.ops [⟨some 30, none, .mv (.t 8), none⟩,
 ⟨some 31, none, .bin .add (.t 30) (.c (.int .i64 1)), none⟩,
 ⟨some 8, none, .mv (.t 31), none⟩]))))
def J_ref03_Quote_j4 : ACode :=
 .seq (.seq (.ops [⟨some 20, none, .mv (.t 7), none⟩,
 ⟨some 21, none, .mv (.t 0), none⟩,
 ⟨some 22, none, .lenl (.t 21), none⟩,
 ⟨some 23, none, .bin .lss (.t 20) (.t 22), none⟩])
 (.keep [0, 1, 6, 7, 23] (.cond (.t 23)
 (.skip)
 (.exit 0))))
 (.keep [0, 1, 6, 7] (.seq (.block 1 (.seq (.ops [⟨some 8, none, .mv (.c (.int .i64 0)), none⟩])
 (.keep [0, 1, 6, 7, 8] (.block 2 (.loop [0, 1, 6, 7, 8] (J_ref03_Quote_j3))))))
 (J_ref03_Quote_j2)))
def J_ref03_Quote : AFn :=
 ⟨57, [.t 4, .t 5], .seq (.ops [⟨some 4, none, .mv (.c (.lst .clip 0 [])), none⟩,
 ⟨some 5, none, .mv (.c (.int .i64 0)), none⟩])
 (.keep [0, 1] (.seq (.seq (.ops [⟨some 11, none, .mv (.t 0), none⟩,
 ⟨some 12, none, .call (.f 32) [(.t 11)], none⟩,
 ⟨some 13, none, .not (.t 12), none⟩,
 ⟨some 14, none, .mv (.t 13), none⟩,
 ⟨some 15, (some (14, false)), .mv (.t 1), none⟩,
 ⟨some 16, (some (14, false)), .call (.f 32) [(.t 15)], none⟩,
 ⟨some 17, (some (14, false)), .not (.t 16), none⟩,
 ⟨some 18, none, .pick (.t 14) (.c (.bool true)) (.t 17), none⟩])
 (.keep [0, 1, 18] (.cond (.t 18)
 (.seq (.ops [⟨some 4, none, .mv (.c (.lst .clip 0 [])), none⟩,
 ⟨some 5, none, .mv (.c (.int .i64 2)), none⟩])
 (.ret))
 (.skip))))
 (.keep [0, 1] (.seq (.ops [⟨some 19, none, .bsl 72 1 0 [] [], none⟩,
 ⟨some 6, none, .mvo 19, none⟩])
 (.keep [0, 1, 6] (.seq (.seq (.ops [⟨some 7, none, .mv (.c (.int .i64 0)), none⟩])
 (.keep [0, 1, 6, 7] (.block 0 (.loop [0, 1, 6, 7] (J_ref03_Quote_j4)))))
 (J_ref03_Quote_j1)))))))⟩
theorem J_ref03_Quote_ok : chkFn Try.prog 36 J_ref03_Quote = true := by kernel_rfl
def J_set_For : AFn :=
 ⟨34, [.t 4, .t 5], .seq (.ops [⟨some 4, none, .mv (.c (.lst .clip 0 [])), none⟩,
 ⟨some 5, none, .mv (.c (.int .i64 0)), none⟩])
 (.keep [0, 1] (.seq (.ops [⟨some 10, none, .mv (.t 0), none⟩,
 ⟨some 11, none, .mv (.t 1), none⟩,
 ⟨some 12, none, .call (.f 35) [(.t 10), (.t 11)], none⟩,
 ⟨some 9, none, .mv (.t 12), none⟩,
 ⟨some 13, none, .ext 0 (.t 9), none⟩,
 ⟨some 14, none, .ext 1 (.t 9), none⟩,
 ⟨some 6, none, .mv (.t 13), none⟩,
 ⟨some 7, none, .mv (.t 14), none⟩])
 (.keep [1, 6, 7] (.seq (.seq (.ops [⟨some 15, none, .mv (.t 7), none⟩,
 ⟨some 16, none, .bin .neq (.t 15) (.c (.int .i64 0)), none⟩])
 (.keep [1, 6, 7, 16] (.cond (.t 16)
 (.seq (.ops [⟨some 17, none, .mv (.t 7), none⟩,
 ⟨some 4, none, .mv (.c (.lst .clip 0 [])), none⟩,
 ⟨some 5, none, .mv (.t 17), none⟩])
 (.ret))
 (.skip))))
 (.keep [1, 6] (.seq (.ops [⟨some 19, none, .bsl 32 1 1 [(.int .u16 0)] [(0, 1, (.c (.int .u16 1)))], none⟩,
 ⟨some 20, none, .call (.f 82) [(.t 19)], none⟩,
 ⟨some 21, none, .bsl 72 1 1 [(.str ⟨#[]⟩)] [(0, 1, (.t 20))], none⟩,
 ⟨some 22, none, .mv (.t 1), none⟩,
 ⟨some 23, none, .call (.f 35) [(.t 21), (.t 22)], none⟩,
 ⟨some 18, none, .mv (.t 23), none⟩,
 ⟨some 24, none, .ext 0 (.t 18), none⟩,
 ⟨some 25, none, .ext 1 (.t 18), none⟩,
 ⟨some 8, none, .mv (.t 24), none⟩,
 ⟨some 7, none, .mv (.t 25), none⟩])
 (.keep [6, 7, 8] (.seq (.seq (.ops [⟨some 26, none, .mv (.t 7), none⟩,
 ⟨some 27, none, .bin .neq (.t 26) (.c (.int .i64 0)), none⟩])
 (.keep [6, 7, 8, 27] (.cond (.t 27)
 (.seq (.ops [⟨some 28, none, .mv (.t 7), none⟩,
 ⟨some 4, none, .mv (.c (.lst .clip 0 [])), none⟩,
 ⟨some 5, none, .mv (.t 28), none⟩])
 (.ret))
 (.skip))))
 (.keep [6, 8] (.seq (.ops [⟨some 29, none, .mv (.t 6), none⟩,
 ⟨some 30, none, .mv (.t 8), none⟩,
 ⟨some 31, none, .call (.f 33) [(.t 29), (.t 30)], none⟩,
 ⟨some 32, none, .ext 0 (.t 31), none⟩,
 ⟨some 33, none, .ext 1 (.t 31), none⟩,
 ⟨some 4, none, .mv (.t 32), none⟩,
 ⟨some 5, none, .mv (.t 33), none⟩])
 (.ret)))))))))))⟩
theorem J_set_For_ok : chkFn Try.prog 37 J_set_For = true := by kernel_rfl
def J_ref03_For : AFn :=
 ⟨35, [.t 4, .t 5], .seq (.ops [⟨some 4, none, .mv (.c (.lst .clip 0 [])), none⟩,
 ⟨some 5, none, .mv (.c (.int .i64 0)), none⟩])
 (.keep [0, 1] (.seq (.ops [⟨some 11, none, .mv (.t 0), none⟩,
 ⟨some 12, none, .mv (.t 1), none⟩,
 ⟨some 13, none, .call (.f 36) [(.t 11), (.t 12)], none⟩,
 ⟨some 10, none, .mv (.t 13), none⟩,
 ⟨some 14, none, .ext 0 (.t 10), none⟩,
 ⟨some 15, none, .ext 1 (.t 10), none⟩,
 ⟨some 6, none, .mv (.t 14), none⟩,
 ⟨some 7, none, .mv (.t 15), none⟩])
 (.keep [1, 6, 7] (.seq (.seq (.ops [⟨some 16, none, .mv (.t 7), none⟩,
 ⟨some 17, none, .bin .neq (.t 16) (.c (.int .i64 0)), none⟩])
 (.keep [1, 6, 7, 17] (.cond (.t 17)
 (.seq (.ops [⟨some 18, none, .mv (.t 7), none⟩,
 ⟨some 4, none, .mv (.c (.lst .clip 0 [])), none⟩,
 ⟨some 5, none, .mv (.t 18), none⟩])
 (.ret))
 (.skip))))
 (.keep [1, 6] (.seq (.ops [⟨some 20, none, .bsl 32 1 1 [(.int .u16 0)] [(0, 1, (.c (.int .u16 1)))], none⟩,
 ⟨some 21, none, .call (.f 47) [(.t 20)], none⟩,
 ⟨some 22, none, .bsl 72 1 1 [(.str ⟨#[]⟩)] [(0, 1, (.t 21))], none⟩,
 ⟨some 23, none, .mv (.t 1), none⟩,
 ⟨some 24, none, .call (.f 36) [(.t 22), (.t 23)], none⟩,
 ⟨some 19, none, .mv (.t 24), none⟩,
 ⟨some 25, none, .ext 0 (.t 19), none⟩,
 ⟨some 26, none, .ext 1 (.t 19), none⟩,
 ⟨some 8, none, .mv (.t 25), none⟩,
 ⟨some 9, none, .mv (.t 26), none⟩])
 (.keep [6, 8, 9] (.seq (.seq (.ops [⟨some 27, none, .mv (.t 9), none⟩,
 ⟨some 28, none, .bin .neq (.t 27) (.c (.int .i64 0)), none⟩])
 (.keep [6, 8, 9, 28] (.cond (.t 28)
 (.seq (.ops [⟨some 29, none, .mv (.t 9), none⟩,
 ⟨some 4, none, .mv (.c (.lst .clip 0 [])), none⟩,
 ⟨some 5, none, .mv (.t 29), none⟩])
 (.ret))
 (.skip))))
 (.keep [6, 8] (.seq (.ops [⟨some 30, none, .mv (.t 6), none⟩,
 ⟨some 31, none, .mv (.t 8), none⟩,
 ⟨some 32, none, .call (.f 34) [(.t 30), (.t 31)], none⟩,
 ⟨some 33, none, .ext 0 (.t 32), none⟩,
 ⟨some 34, none, .ext 1 (.t 32), none⟩,
 ⟨some 4, none, .mv (.t 33), none⟩,
 ⟨some 5, none, .mv (.t 34), none⟩])
 (.ret)))))))))))⟩
theorem J_ref03_For_ok : chkFn Try.prog 38 J_ref03_For = true := by kernel_rfl
def J_set_As : AFn :=
 ⟨21, [.t 4, .t 5], .seq (.ops [⟨some 4, none, .mv (.c (.lst .clip 0 [])), none⟩,
 ⟨some 5, none, .mv (.c (.int .i64 0)), none⟩])
 (.keep [0, 1] (.seq (.seq (.ops [⟨some 6, none, .mv (.t 0), none⟩,
 ⟨some 7, none, .call (.f 31) [(.t 6)], none⟩,
 ⟨some 8, none, .not (.t 7), none⟩])
 (.keep [0, 1, 8] (.cond (.t 8)
 (.seq (.ops [⟨some 4, none, .mv (.c (.lst .clip 0 [])), none⟩,
 ⟨some 5, none, .mv (.c (.int .i64 2)), none⟩])
 (.ret))
 (.skip))))
 (.keep [0, 1] (.seq (.seq (.ops [⟨some 9, none, .mv (.t 1), none⟩,
 ⟨some 10, none, .conv .i64 (.t 9), none⟩,
 ⟨some 11, none, .bin .quo (.t 10) (.c (.int .i64 8192)), none⟩,
 ⟨some 12, none, .bin .neq (.t 11) (.c (.int .i64 5)), none⟩])
 (.keep [0, 1, 12] (.cond (.t 12)
 (.seq (.ops [⟨some 4, none, .mv (.c (.lst .clip 0 [])), none⟩,
 ⟨some 5, none, .mv (.c (.int .i64 1)), none⟩])
 (.ret))
 (.skip))))
 (.keep [0, 1] (.seq (.ops [⟨some 13, none, .mv (.t 0), none⟩,
 ⟨some 14, none, .mv (.t 1), none⟩,
 ⟨some 15, none, .bsl 32 1 1 [(.int .u16 0)] [(0, 1, (.t 14))], none⟩,
 ⟨some 16, none, .call (.f 82) [(.t 15)], none⟩,
 ⟨some 17, none, .bsl 72 1 1 [(.str ⟨#[]⟩)] [(0, 1, (.t 16))], none⟩,
 ⟨some 18, none, .call (.f 35) [(.t 13), (.t 17)], none⟩,
 ⟨some 19, none, .ext 0 (.t 18), none⟩,
 ⟨some 20, none, .ext 1 (.t 18), none⟩,
 ⟨some 4, none, .mv (.t 19), none⟩,
 ⟨some 5, none, .mv (.t 20), none⟩])
 (.ret)))))))⟩
theorem J_set_As_ok : chkFn Try.prog 39 J_set_As = true := by kernel_rfl
def J_ref03_As : AFn :=
 ⟨23, [.t 4, .t 5], .seq (.ops [⟨some 4, none, .mv (.c (.lst .clip 0 [])), none⟩,
 ⟨some 5, none, .mv (.c (.int .i64 0)), none⟩])
 (.keep [0, 1] (.seq (.seq (.ops [⟨some 6, none, .mv (.t 0), none⟩,
 ⟨some 7, none, .call (.f 32) [(.t 6)], none⟩,
 ⟨some 8, none, .not (.t 7), none⟩])
 (.keep [0, 1, 8] (.cond (.t 8)
 (.seq (.ops [⟨some 4, none, .mv (.c (.lst .clip 0 [])), none⟩,
 ⟨some 5, none, .mv (.c (.int .i64 2)), none⟩])
 (.ret))
 (.skip))))
 (.keep [0, 1] (.seq (.seq (.ops [⟨some 9, none, .mv (.t 1), none⟩,
 ⟨some 10, none, .bin .lss (.t 9) (.c (.int .u16 40960)), none⟩,
 ⟨some 11, none, .mv (.t 10), none⟩,
 ⟨some 12, (some (11, false)), .mv (.t 1), none⟩,
 ⟨some 13, (some (11, false)), .bin .geq (.t 12) (.c (.int .u16 49152)), none⟩,
 ⟨some 14, none, .pick (.t 11) (.c (.bool true)) (.t 13), none⟩])
 (.keep [0, 1, 14] (.cond (.t 14)
 (.seq (.ops [⟨some 4, none, .mv (.c (.lst .clip 0 [])), none⟩,
 ⟨some 5, none, .mv (.c (.int .i64 1)), none⟩])
 (.ret))
 (.skip))))
 (.keep [0, 1] (.seq (.ops [⟨some 15, none, .mv (.t 0), none⟩,
 ⟨some 16, none, .mv (.t 1), none⟩,
 ⟨some 17, none, .bsl 32 1 1 [(.int .u16 0)] [(0, 1, (.t 16))], none⟩,
 ⟨some 18, none, .call (.f 47) [(.t 17)], none⟩,
 ⟨some 19, none, .bsl 72 1 1 [(.str ⟨#[]⟩)] [(0, 1, (.t 18))], none⟩,
 ⟨some 20, none, .call (.f 36) [(.t 15), (.t 19)], none⟩,
 ⟨some 21, none, .ext 0 (.t 20), none⟩,
 ⟨some 22, none, .ext 1 (.t 20), none⟩,
 ⟨some 4, none, .mv (.t 21), none⟩,
 ⟨some 5, none, .mv (.t 22), none⟩])
 (.ret)))))))⟩
theorem J_ref03_As_ok : chkFn Try.prog 40 J_ref03_As = true := by kernel_rfl
def J_set_Has : AFn :=
 ⟨8, [.t 4], .seq (.ops [⟨some 4, none, .mv (.c (.bool false)), none⟩])
 (.keep [0, 1] (.seq (.ops [⟨some 5, none, .mv (.t 0), none⟩,
 ⟨some 6, none, .mv (.t 1), none⟩,
 ⟨some 7, none, .call (.f 98) [(.t 5), (.t 6)], none⟩,
 ⟨some 4, none, .mv (.t 7), none⟩])
 (.ret)))⟩
theorem J_set_Has_ok : chkFn Try.prog 62 J_set_Has = true := by kernel_rfl
def J_set_Same : AFn :=
 ⟨13, [.t 4], .seq (.ops [⟨some 4, none, .mv (.c (.bool false)), none⟩])
 (.keep [0, 1] (.seq (.ops [⟨some 5, none, .mv (.t 0), none⟩,
 ⟨some 6, none, .mv (.t 1), none⟩,
 ⟨some 7, none, .call (.f 63) [(.t 5), (.t 6)], none⟩,
 ⟨some 8, none, .mv (.t 7), none⟩,
 ⟨some 9, (some (8, true)), .mv (.t 1), none⟩,
 ⟨some 10, (some (8, true)), .mv (.t 0), none⟩,
 ⟨some 11, (some (8, true)), .call (.f 63) [(.t 9), (.t 10)], none⟩,
 ⟨some 12, none, .pick (.t 8) (.t 11) (.c (.bool false)), none⟩,
 ⟨some 4, none, .mv (.t 12), none⟩])
 (.ret)))⟩
theorem J_set_Same_ok : chkFn Try.prog 64 J_set_Same = true := by kernel_rfl
def J_set_Heavy_j1 : ACode :=
 .keep [3] (.seq (.ops [⟨some 17, none, .mv (.t 3), none⟩,
 ⟨some 2, none, .mv (.t 17), none⟩])
 (.ret))
def J_set_Heavy_j2 : ACode :=
 .seq (.ops [⟨some 9, none, .bin .lss (.t 8) (.t 7), none⟩])
 (.keep [3, 6, 7, 8, 9] (.seq (.cond (.t 9)
 (.skip)
 (.exit 0))
 (.keep [3, 6, 7, 8] (.seq (.block 1 (.seq (.ops [⟨some 10, none, .idxa 1 (.t 6) (.t 8), none⟩,
 ⟨some 11, none, .load none (.t 10), none⟩,
 ⟨some 5, none, .mv (.t 11), none⟩])
 (.keep [3, 5, 6, 7, 8] (.ops [⟨some 12, none, .mv (.t 3), none⟩,
 ⟨some 13, none, .mv (.t 5), none⟩,
 ⟨some 14, none, .call (.f 80) [(.t 13)], none⟩,
 ⟨some 15, none, .mx (.t 12) (.t 14), none⟩,
 ⟨some 3, none, .mv (.t 15), none⟩]))))
 (.keep [3, 6, 7, 8] (.ops [⟨some 16, none, .bin .add (.t 8) (.c (.int .i64 1)), none⟩,
 ⟨some 8, none, .mv (.t 16), none⟩]))))))
def J_set_Heavy : AFn :=
 ⟨18, [.t 2], .seq (.ops [⟨some 2, none, .mv (.c (.int .i64 0)), none⟩])
 (.keep [0] (.seq (.ops [⟨some 3, none, .mv (.c (.int .i64 0)), none⟩])
 (.keep [0, 3] (.seq (.seq (.ops [⟨some 6, none, .mv (.t 0), none⟩,
 ⟨some 7, none, .lenl (.t 6), none⟩,
 ⟨some 8, none, .mv (.c (.int .i64 0)), none⟩])
 (.keep [3, 6, 7, 8] (.block 0 (.loop [3, 6, 7, 8] (J_set_Heavy_j2)))))
 (J_set_Heavy_j1)))))⟩
theorem J_set_Heavy_ok : chkFn Try.prog 65 J_set_Heavy = true := by kernel_rfl
def J_slices_Clone_api_Word_api_Word : AFn :=
 ⟨8, [.t 2], .seq (.ops [⟨some 2, none, .mv (.c (.lst .clip 0 [])), none⟩])
 (.keep [0] (.seq (.seq (.ops [⟨some 3, none, .mv (.t 0), none⟩,
 ⟨some 4, none, .snil false (.t 3), none⟩])
 (.keep [0, 4] (.cond (.t 4)
 (.seq (.ops [⟨some 2, none, .mv (.c (.lst .clip 0 [])), none⟩])
 (.ret))
 (.skip))))
 (.keep [0] (.seq (.ops [⟨some 5, none, .bslc 72 1 0 [] [], none⟩,
 ⟨some 6, none, .mv (.t 0), none⟩,
 ⟨some 7, none, .apc 72 1 16 [(.str ⟨#[]⟩)] (.t 5) (.t 6), none⟩,
 ⟨some 2, none, .mv (.t 7), none⟩])
 (.ret)))))⟩
theorem J_slices_Clone_api_Word_api_Word_ok : chkFn Try.prog 67 J_slices_Clone_api_Word_api_Word = true := by kernel_rfl
def J_ref03_bound : AFn :=
 ⟨13, [.t 2, .t 3], .seq (.ops [⟨some 2, none, .mv (.c (.lst .clip 0 [])), none⟩,
 ⟨some 3, none, .mv (.c (.int .i64 0)), none⟩])
 (.keep [0] (.seq (.seq (.ops [⟨some 4, none, .mv (.t 0), none⟩,
 ⟨some 5, none, .lenl (.t 4), none⟩,
 ⟨some 6, none, .bin .lss (.t 5) (.c (.int .i64 1)), none⟩,
 ⟨some 7, none, .mv (.t 6), none⟩,
 ⟨some 8, (some (7, false)), .mv (.t 0), none⟩,
 ⟨some 9, (some (7, false)), .lenl (.t 8), none⟩,
 ⟨some 10, (some (7, false)), .bin .gtr (.t 9) (.c (.int .i64 16)), none⟩,
 ⟨some 11, none, .pick (.t 7) (.c (.bool true)) (.t 10), none⟩])
 (.keep [0, 11] (.cond (.t 11)
 (.seq (.ops [⟨some 2, none, .mv (.c (.lst .clip 0 [])), none⟩,
 ⟨some 3, none, .mv (.c (.int .i64 3)), none⟩])
 (.ret))
 (.skip))))
 (.keep [0] (.seq (.ops [⟨some 12, none, .mv (.t 0), none⟩,
 ⟨some 2, none, .mv (.t 12), none⟩,
 ⟨some 3, none, .mv (.c (.int .i64 0)), none⟩])
 (.ret)))))⟩
theorem J_ref03_bound_ok : chkFn Try.prog 73 J_ref03_bound = true := by kernel_rfl
def J_ref03_Right_j1 : ACode :=
 .keep [0, 3, 4, 5] (.seq (.seq (.ops [⟨some 48, none, .mv (.t 5), none⟩,
 ⟨some 49, none, .not (.t 48), none⟩])
 (.keep [0, 3, 4, 49] (.cond (.t 49)
 (.seq (.ops [⟨some 50, none, .mv (.t 3), none⟩,
 ⟨some 2, none, .mv (.t 50), none⟩])
 (.ret))
 (.skip))))
 (.keep [0, 3, 4] (.ops [⟨some 51, none, .mvo 3, none⟩,
 ⟨some 52, none, .mv (.t 4), none⟩,
 ⟨some 53, none, .bsl 72 1 1 [(.str ⟨#[]⟩)] [(0, 1, (.t 52))], none⟩,
 ⟨some 54, none, .appo 72 1 16 51 (.t 53), none⟩,
 ⟨some 3, none, .mvo 54, none⟩])))
def J_ref03_Right_j2 : ACode :=
 .keep [0, 3, 4, 5, 6] (.ops [⟨some 13, none, .mv (.t 6), none⟩,
 ⟨some 14, none, .bin .add (.t 13) (.c (.int .i64 1)), none⟩,
 ⟨some 6, none, .mv (.t 14), none⟩])
def J_ref03_Right_j3 : ACode :=
 .seq (.seq (.ops [⟨some 9, none, .mv (.t 6), none⟩,
 ⟨some 10, none, .mv (.t 0), none⟩,
 ⟨some 11, none, .lenl (.t 10), none⟩,
 ⟨some 12, none, .bin .lss (.t 9) (.t 11), none⟩])
 (.keep [0, 3, 4, 5, 6, 12] (.cond (.t 12)
 (.skip)
 (.exit 2))))
 (.keep [0, 3, 4, 5, 6] (.seq (.block 3 (.seq (.draw [0, 3, 4, 5, 6, 7] [⟨some 15, none, .mv (.t 3), none⟩,
 ⟨some 16, none, .lenl (.t 15), none⟩,
 ⟨some 17, none, .bin .eql (.t 16) (.c (.int .i64 0)), none⟩,
 ⟨some 18, none, .mv (.t 17), none⟩,
 ⟨some 19, (some (18, false)), .mv (.t 3), none⟩,
 ⟨some 20, (some (18, false)), .mv (.t 3), none⟩,
 ⟨some 21, (some (18, false)), .lenl (.t 20), none⟩,
 ⟨some 22, (some (18, false)), .bin .sub (.t 21) (.c (.int .i64 1)), none⟩,
 ⟨some 23, (some (18, false)), .idxa 1 (.t 19) (.t 22), none⟩,
 ⟨some 24, (some (18, false)), .load none (.t 23), none⟩,
 ⟨some 25, (some (18, false)), .mv (.t 0), none⟩,
 ⟨some 26, (some (18, false)), .mv (.t 6), none⟩,
 ⟨some 27, (some (18, false)), .idxa 1 (.t 25) (.t 26), none⟩,
 ⟨some 28, (some (18, false)), .load none (.t 27), none⟩,
 ⟨some 29, (some (18, false)), .call (.f 76) [(.t 24), (.t 28)], none⟩,
 ⟨some 30, none, .pick (.t 18) (.c (.bool true)) (.t 29), none⟩,
 ⟨some 7, none, .mv (.t 30), none⟩])
 (.keep [0, 3, 4, 5, 6, 7] (.seq (.ops [⟨some 31, none, .mv (.t 7), none⟩,
 ⟨some 32, none, .mv (.t 31), none⟩,
 ⟨some 33, (some (32, true)), .mv (.t 5), none⟩,
 ⟨some 34, (some (32, true)), .not (.t 33), none⟩,
 ⟨some 35, (some (32, true)), .mv (.t 34), none⟩,
 ⟨some 36, (some (35, false)), .mv (.t 0), none⟩,
 ⟨some 37, (some (35, false)), .mv (.t 6), none⟩,
 ⟨some 38, (some (35, false)), .idxa 1 (.t 36) (.t 37), none⟩,
 ⟨some 39, (some (35, false)), .load none (.t 38), none⟩,
 ⟨some 40, (some (35, false)), .mv (.t 4), none⟩,
 ⟨some 41, (some (35, false)), .call (.f 76) [(.t 39), (.t 40)], none⟩,
 ⟨some 42, (some (32, true)), .pick (.t 35) (.c (.bool true)) (.t 41), none⟩,
 ⟨some 43, none, .pick (.t 32) (.t 42) (.c (.bool false)), none⟩])
 (.keep [0, 3, 4, 5, 6, 43] (.cond (.t 43)
 (.seq (.ops [⟨some 44, none, .mv (.t 0), none⟩,
 ⟨some 45, none, .mv (.t 6), none⟩,
 ⟨some 46, none, .idxa 1 (.t 44) (.t 45), none⟩,
 ⟨some 47, none, .load none (.t 46), none⟩,
 ⟨some 4, none, .mv (.t 47), none⟩])
 (.keep [0, 3, 4, 6] (.ops [⟨some 5, none, .mv (.c (.bool true)), none⟩])))
 (.skip)))))))
 (J_ref03_Right_j2)))
def J_ref03_Right_j4 : ACode :=
 .block 1 (.seq (.ops [⟨some 4, none, .mv (.c (.str ⟨#[]⟩)), none⟩])
 (.keep [0, 3, 4] (.seq (.ops [⟨some 5, none, .mv (.c (.bool false)), none⟩])
 (.keep [0, 3, 4, 5] (.seq (.seq (.ops [⟨some 6, none, .mv (.c (.int .i64 0)), none⟩])
 (.keep [0, 3, 4, 5, 6] (.block 2 (.loop [0, 3, 4, 5, 6] (J_ref03_Right_j3)))))
 (J_ref03_Right_j1))))))
def J_ref03_Right : AFn :=
 ⟨55, [.t 2], .seq (.ops [⟨some 2, none, .mv (.c (.lst .clip 0 [])), none⟩])
 (.keep [0] (.seq (.ops [⟨some 8, none, .bsl 72 1 0 [] [], none⟩,
 ⟨some 3, none, .mvo 8, none⟩])
 (.keep [0, 3] (.block 0 (.loop [0, 3] (J_ref03_Right_j4))))))⟩
theorem J_ref03_Right_ok : chkFn Try.prog 74 J_ref03_Right = true := by kernel_rfl
def J_set_collect_api_Word_api_Word_j1 : ACode :=
 .keep [7] (.seq (.ops [⟨some 39, none, .mv (.t 7), none⟩,
 ⟨some 6, none, .mv (.t 39), none⟩])
 (.ret))
def J_set_collect_api_Word_api_Word_j2 : ACode :=
 .keep [1, 2, 7, 18, 19, 20] (.ops [⟨some 38, none, .bin .add (.t 20) (.c (.int .i64 1)), none⟩,
 ⟨some 20, none, .mv (.t 38), none⟩])
def J_set_collect_api_Word_api_Word_j3 : ACode :=
 .seq (.ops [⟨some 27, none, .bin .lss (.t 26) (.t 25), none⟩])
 (.keep [1, 2, 7, 9, 18, 19, 20, 24, 25, 26, 27] (.seq (.cond (.t 27)
 (.skip)
 (.exit 2))
 (.keep [1, 2, 7, 9, 18, 19, 20, 24, 25, 26] (.seq (.block 3 (.seq (.ops [⟨some 28, none, .idxa 1 (.t 24) (.t 26), none⟩,
 ⟨some 29, none, .load none (.t 28), none⟩,
 ⟨some 11, none, .mv (.t 29), none⟩])
 (.keep [1, 2, 7, 9, 11, 18, 19, 20, 24, 25, 26] (.ops [⟨some 30, none, .mvo 7, none⟩,
 ⟨some 31, none, .mv (.t 2), none⟩,
 ⟨some 32, none, .mv (.t 9), none⟩,
 ⟨some 33, none, .mv (.t 11), none⟩,
 ⟨some 34, none, .call (.t 31) [(.t 32), (.t 33)], none⟩,
 ⟨some 35, none, .bsl 72 1 1 [(.str ⟨#[]⟩)] [(0, 1, (.t 34))], none⟩,
 ⟨some 36, none, .appo 72 1 16 30 (.t 35), none⟩,
 ⟨some 7, none, .mvo 36, none⟩]))))
 (.keep [1, 2, 7, 9, 18, 19, 20, 24, 25, 26] (.ops [⟨some 37, none, .bin .add (.t 26) (.c (.int .i64 1)), none⟩,
 ⟨some 26, none, .mv (.t 37), none⟩]))))))
def J_set_collect_api_Word_api_Word_j4 : ACode :=
 .seq (.ops [⟨some 21, none, .bin .lss (.t 20) (.t 19), none⟩])
 (.keep [1, 2, 7, 18, 19, 20, 21] (.seq (.cond (.t 21)
 (.skip)
 (.exit 0))
 (.keep [1, 2, 7, 18, 19, 20] (.seq (.block 1 (.seq (.ops [⟨some 22, none, .idxa 1 (.t 18) (.t 20), none⟩,
 ⟨some 23, none, .load none (.t 22), none⟩,
 ⟨some 9, none, .mv (.t 23), none⟩])
 (.keep [1, 2, 7, 9, 18, 19, 20] (.seq (.ops [⟨some 24, none, .mv (.t 1), none⟩,
 ⟨some 25, none, .lenl (.t 24), none⟩,
 ⟨some 26, none, .mv (.c (.int .i64 0)), none⟩])
 (.keep [1, 2, 7, 9, 18, 19, 20, 24, 25, 26] (.block 2 (.loop [1, 2, 7, 9, 18, 19, 20, 24, 25, 26] (J_set_collect_api_Word_api_Word_j3))))))))
 (J_set_collect_api_Word_api_Word_j2)))))
def J_set_collect_api_Word_api_Word : AFn :=
 ⟨40, [.t 6], .seq (.ops [⟨some 6, none, .mv (.c (.lst .clip 0 [])), none⟩])
 (.keep [0, 1, 2] (.seq (.ops [⟨some 12, none, .mv (.t 0), none⟩,
 ⟨some 13, none, .lenl (.t 12), none⟩,
 ⟨some 14, none, .mv (.t 1), none⟩,
 ⟨some 15, none, .lenl (.t 14), none⟩,
 ⟨some 16, none, .bin .mul (.t 13) (.t 15), none⟩,
 ⟨some 17, none, .mk0 72 1 16 (.t 16), none⟩,
 ⟨some 7, none, .mvo 17, none⟩])
 (.keep [0, 1, 2, 7] (.seq (.seq (.ops [⟨some 18, none, .mv (.t 0), none⟩,
 ⟨some 19, none, .lenl (.t 18), none⟩,
 ⟨some 20, none, .mv (.c (.int .i64 0)), none⟩])
 (.keep [1, 2, 7, 18, 19, 20] (.block 0 (.loop [1, 2, 7, 18, 19, 20] (J_set_collect_api_Word_api_Word_j4)))))
 (J_set_collect_api_Word_api_Word_j1)))))⟩
theorem J_set_collect_api_Word_api_Word_ok : chkFn Try.prog 78 J_set_collect_api_Word_api_Word = true := by kernel_rfl
def J_set_Quote_1 : AFn :=
 ⟨8, [.t 4], .seq (.ops [⟨some 4, none, .mv (.c (.str ⟨#[]⟩)), none⟩])
 (.keep [0, 1] (.seq (.ops [⟨some 5, none, .mv (.t 0), none⟩,
 ⟨some 6, none, .mv (.t 1), none⟩,
 ⟨some 7, none, .bin .add (.t 5) (.t 6), none⟩,
 ⟨some 4, none, .mv (.t 7), none⟩])
 (.ret)))⟩
theorem J_set_Quote_1_ok : chkFn Try.prog 79 J_set_Quote_1 = true := by kernel_rfl
def J_ref02_Cat_j1 : ACode :=
 .keep [4] (.seq (.ops [⟨some 37, none, .mv (.t 4), none⟩,
 ⟨some 38, none, .call (.f 47) [(.t 37)], none⟩,
 ⟨some 2, none, .mv (.t 38), none⟩,
 ⟨some 3, none, .mv (.c (.int .i64 0)), none⟩])
 (.ret))
def J_ref02_Cat_j2 : ACode :=
 .seq (.seq (.ops [⟨some 21, none, .mv (.t 6), none⟩,
 ⟨some 22, none, .mv (.t 0), none⟩,
 ⟨some 23, none, .lenl (.t 22), none⟩,
 ⟨some 24, none, .bin .lss (.t 21) (.t 23), none⟩])
 (.keep [0, 4, 6, 24] (.cond (.t 24)
 (.skip)
 (.exit 2))))
 (.keep [0, 4, 6] (.seq (.block 3 (.seq (.ops [⟨some 27, none, .mvo 4, none⟩,
 ⟨some 28, none, .mv (.t 0), none⟩,
 ⟨some 29, none, .mv (.t 6), none⟩,
 ⟨some 30, none, .idxa 1 (.t 28) (.t 29), none⟩,
 ⟨some 31, none, .load none (.t 30), none⟩,
 ⟨some 32, none, .call (.f 103) [(.t 31)], none⟩,
 ⟨some 33, none, .appo 32 1 2 27 (.t 32), none⟩,
 ⟨some 4, none, .mvo 33, none⟩])
 (.keep [0, 4, 6] (.seq (.ops [⟨some 34, none, .mv (.t 4), none⟩,
 ⟨some 35, none, .lenl (.t 34), none⟩,
 ⟨some 36, none, .bin .gtr (.t 35) (.c (.int .i64 8)), none⟩])
 (.keep [0, 4, 6, 36] (.cond (.t 36)
 (.seq (.ops [⟨some 2, none, .mv (.c (.str ⟨#[]⟩)), none⟩,
 ⟨some 3, none, .mv (.c (.int .i64 4)), none⟩])
 (.ret))
 (.skip)))))))
 (.keep [0, 4, 6] (.ops [⟨some 25, none, .mv (.t 6), none⟩,
 ⟨some 26, none, .bin .add (.t 25) (.c (.int .i64 1)), none⟩,
 ⟨some 6, none, .mv (.t 26), none⟩]))))
def J_ref02_Cat_j3 : ACode :=
 .keep [0, 4] (.seq (.seq (.ops [⟨some 6, none, .mv (.c (.int .i64 0)), none⟩])
 (.keep [0, 4, 6] (.block 2 (.loop [0, 4, 6] (J_ref02_Cat_j2)))))
 (J_ref02_Cat_j1))
def J_ref02_Cat_j4 : ACode :=
 .seq (.seq (.ops [⟨some 8, none, .mv (.t 5), none⟩,
 ⟨some 9, none, .mv (.t 0), none⟩,
 ⟨some 10, none, .lenl (.t 9), none⟩,
 ⟨some 11, none, .bin .lss (.t 8) (.t 10), none⟩])
 (.keep [0, 4, 5, 11] (.cond (.t 11)
 (.skip)
 (.exit 0))))
 (.keep [0, 4, 5] (.seq (.block 1 (.seq (.ops [⟨some 14, none, .mv (.t 0), none⟩,
 ⟨some 15, none, .mv (.t 5), none⟩,
 ⟨some 16, none, .idxa 1 (.t 14) (.t 15), none⟩,
 ⟨some 17, none, .load none (.t 16), none⟩,
 ⟨some 18, none, .lens (.t 17), none⟩,
 ⟨some 19, none, .bin .rem (.t 18) (.c (.int .i64 2)), none⟩,
 ⟨some 20, none, .bin .eql (.t 19) (.c (.int .i64 1)), none⟩])
 (.keep [0, 4, 5, 20] (.cond (.t 20)
 (.seq (.ops [⟨some 2, none, .mv (.c (.str ⟨#[]⟩)), none⟩,
 ⟨some 3, none, .mv (.c (.int .i64 2)), none⟩])
 (.ret))
 (.skip)))))
 (.keep [0, 4, 5] (.ops [⟨some 12, none, .mv (.t 5), none⟩,
 ⟨some 13, none, .bin .add (.t 12) (.c (.int .i64 1)), none⟩,
 ⟨some 5, none, .mv (.t 13), none⟩]))))
def J_ref02_Cat : AFn :=
 ⟨39, [.t 2, .t 3], .seq (.ops [⟨some 2, none, .mv (.c (.str ⟨#[]⟩)), none⟩,
 ⟨some 3, none, .mv (.c (.int .i64 0)), none⟩])
 (.keep [0] (.seq (.ops [⟨some 7, none, .bsl 32 1 0 [] [], none⟩,
 ⟨some 4, none, .mvo 7, none⟩])
 (.keep [0, 4] (.seq (.seq (.ops [⟨some 5, none, .mv (.c (.int .i64 0)), none⟩])
 (.keep [0, 4, 5] (.block 0 (.loop [0, 4, 5] (J_ref02_Cat_j4)))))
 (J_ref02_Cat_j3)))))⟩
theorem J_ref02_Cat_ok : chkFn Try.prog 81 J_ref02_Cat = true := by kernel_rfl
def J_word_Of_j1 : ACode :=
 .keep [3] (.seq (.ops [⟨some 25, none, .mv (.t 3), none⟩,
 ⟨some 26, none, .b2s (.t 25), none⟩,
 ⟨some 2, none, .mv (.t 26), none⟩])
 (.ret))
def J_word_Of_j2 : ACode :=
 .seq (.ops [⟨some 13, none, .bin .lss (.t 12) (.t 11), none⟩])
 (.keep [3, 10, 11, 12, 13] (.seq (.cond (.t 13)
 (.skip)
 (.exit 0))
 (.keep [3, 10, 11, 12] (.seq (.block 1 (.seq (.ops [⟨some 14, none, .idxa 1 (.t 10) (.t 12), none⟩,
 ⟨some 15, none, .load none (.t 14), none⟩,
 ⟨some 5, none, .mv (.t 15), none⟩])
 (.keep [3, 5, 10, 11, 12] (.ops [⟨some 16, none, .mvo 3, none⟩,
 ⟨some 17, none, .mv (.t 5), none⟩,
 ⟨some 18, none, .bin .shr (.t 17) (.c (.int .u64 8)), none⟩,
 ⟨some 19, none, .conv .u8 (.t 18), none⟩,
 ⟨some 20, none, .mv (.t 5), none⟩,
 ⟨some 21, none, .conv .u8 (.t 20), none⟩,
 ⟨some 22, none, .bsl 5 1 2 [(.int .u8 0), (.int .u8 0)] [(0, 1, (.t 19)), (1, 1, (.t 21))], none⟩,
 ⟨some 23, none, .appo 5 1 1 16 (.t 22), none⟩,
 ⟨some 3, none, .mvo 23, none⟩]))))
 (.keep [3, 10, 11, 12] (.ops [⟨some 24, none, .bin .add (.t 12) (.c (.int .i64 1)), none⟩,
 ⟨some 12, none, .mv (.t 24), none⟩]))))))
def J_word_Of : AFn :=
 ⟨27, [.t 2], .seq (.ops [⟨some 2, none, .mv (.c (.str ⟨#[]⟩)), none⟩])
 (.keep [0] (.seq (.ops [⟨some 6, none, .mv (.t 0), none⟩,
 ⟨some 7, none, .lenl (.t 6), none⟩,
 ⟨some 8, none, .bin .mul (.c (.int .i64 2)) (.t 7), none⟩,
 ⟨some 9, none, .mk0 5 1 1 (.t 8), none⟩,
 ⟨some 3, none, .mvo 9, none⟩])
 (.keep [0, 3] (.seq (.seq (.ops [⟨some 10, none, .mv (.t 0), none⟩,
 ⟨some 11, none, .lenl (.t 10), none⟩,
 ⟨some 12, none, .mv (.c (.int .i64 0)), none⟩])
 (.keep [3, 10, 11, 12] (.block 0 (.loop [3, 10, 11, 12] (J_word_Of_j2)))))
 (J_word_Of_j1)))))⟩
theorem J_word_Of_ok : chkFn Try.prog 82 J_word_Of = true := by kernel_rfl
def J_slices_Contains_api_Set_api_Word : AFn :=
 ⟨9, [.t 4], .seq (.ops [⟨some 4, none, .mv (.c (.bool false)), none⟩])
 (.keep [0, 1] (.seq (.ops [⟨some 5, none, .mv (.t 0), none⟩,
 ⟨some 6, none, .mv (.t 1), none⟩,
 ⟨some 7, none, .call (.f 116) [(.t 5), (.t 6)], none⟩,
 ⟨some 8, none, .bin .geq (.t 7) (.c (.int .i64 0)), none⟩,
 ⟨some 4, none, .mv (.t 8), none⟩])
 (.ret)))⟩
theorem J_slices_Contains_api_Set_api_Word_ok : chkFn Try.prog 98 J_slices_Contains_api_Set_api_Word = true := by kernel_rfl
def J_slices_Index_api_Set_api_Word_j1 : ACode :=
 .keep [] (.seq (.ops [⟨some 4, none, .mv (.c (.int .i64 (-1))), none⟩])
 (.ret))
def J_slices_Index_api_Set_api_Word_j2 : ACode :=
 .seq (.ops [⟨some 9, none, .bin .lss (.t 8) (.t 7), none⟩])
 (.keep [0, 1, 7, 8, 9] (.seq (.cond (.t 9)
 (.skip)
 (.exit 0))
 (.keep [0, 1, 7, 8] (.seq (.block 1 (.seq (.ops [⟨some 10, none, .mv (.t 8), none⟩,
 ⟨some 5, none, .mv (.t 10), none⟩])
 (.keep [0, 1, 5, 7, 8] (.seq (.ops [⟨some 11, none, .mv (.t 1), none⟩,
 ⟨some 12, none, .mv (.t 0), none⟩,
 ⟨some 13, none, .mv (.t 5), none⟩,
 ⟨some 14, none, .idxa 1 (.t 12) (.t 13), none⟩,
 ⟨some 15, none, .load none (.t 14), none⟩,
 ⟨some 16, none, .bin .eql (.t 11) (.t 15), none⟩])
 (.keep [0, 1, 5, 7, 8, 16] (.cond (.t 16)
 (.seq (.ops [⟨some 17, none, .mv (.t 5), none⟩,
 ⟨some 4, none, .mv (.t 17), none⟩])
 (.ret))
 (.skip)))))))
 (.keep [0, 1, 7, 8] (.ops [⟨some 18, none, .bin .add (.t 8) (.c (.int .i64 1)), none⟩,
 ⟨some 8, none, .mv (.t 18), none⟩]))))))
def J_slices_Index_api_Set_api_Word : AFn :=
 ⟨19, [.t 4], .seq (.ops [⟨some 4, none, .mv (.c (.int .i64 0)), none⟩])
 (.keep [0, 1] (.seq (.seq (.ops [⟨some 6, none, .mv (.t 0), none⟩,
 ⟨some 7, none, .lenl (.t 6), none⟩,
 ⟨some 8, none, .mv (.c (.int .i64 0)), none⟩])
 (.keep [0, 1, 7, 8] (.block 0 (.loop [0, 1, 7, 8] (J_slices_Index_api_Set_api_Word_j2)))))
 (J_slices_Index_api_Set_api_Word_j1)))⟩
theorem J_slices_Index_api_Set_api_Word_ok : chkFn Try.prog 116 J_slices_Index_api_Set_api_Word = true := by kernel_rfl
end Go.Proofs.Ytpiofcjkekpboaa

/- The abstract layer, fifteenth part: how code is walked. -/
namespace Go.Proofs.Ytpiofcjkekpboaa
set_option linter.unusedSimpArgs false
set_option linter.unusedVariables false
open Go.RowKit Go.Lib

section
variable (P : Program)
theorem W_skip (fr : Fr) (h : Hp) (Q : Exit → Fr → Hp → Prop) : W P .skip fr h Q = Q .normal fr h := id rfl
theorem W_ops (l : List AStm) (fr : Fr) (h : Hp) (Q : Exit → Fr → Hp → Prop) : W P (.ops l) fr h Q = WOps P l fr h (Q .normal) := id rfl
theorem W_draw (v : List Nat) (l : List AStm) (fr : Fr) (h : Hp) (Q : Exit → Fr → Hp → Prop) : W P (.draw v l) fr h Q = VOps P l fr h (kdraw v Q) := id rfl
theorem W_seq (a b : ACode) (fr : Fr) (h : Hp) (Q : Exit → Fr → Hp → Prop) : W P (.seq a b) fr h Q = W P a fr h (kseq P b Q) := id rfl
theorem W_cond (c : Opd) (a b : ACode) (fr : Fr) (h : Hp) (Q : Exit → Fr → Hp → Prop) : W P (.cond c a b) fr h Q = match ev fr c with
    | some (.bool p) => (p = true → W P a fr h Q) ∧ (p = false → W P b fr h Q)
    | _ => False := id rfl
theorem W_block (i : Nat) (a : ACode) (fr : Fr) (h : Hp) (Q : Exit → Fr → Hp → Prop) : W P (.block i a) fr h Q = W P a fr h (kblock i Q) := id rfl
theorem W_exit (i : Nat) (fr : Fr) (h : Hp) (Q : Exit → Fr → Hp → Prop) : W P (.exit i) fr h Q = Q (.exit i) fr h := id rfl
theorem W_ret (fr : Fr) (h : Hp) (Q : Exit → Fr → Hp → Prop) : W P .ret fr h Q = Q .ret fr h := id rfl
theorem W_keep (l : List Nat) (a : ACode) (fr : Fr) (h : Hp) (Q : Exit → Fr → Hp → Prop) : W P (.keep l a) fr h Q = W P a (restr l fr) h Q := id rfl
theorem W_loop {P : Program} {vars : List Nat} {a : ACode} {fr : Fr} {h : Hp} {Q : Exit → Fr → Hp → Prop} (I : Nat → Fr → Hp → Prop) (n : Nat) (h0 : I n (restr vars fr) h) (hr : ∀ n fr h, I n fr h → W P a fr h (kloop vars I n Q)) : W P (.loop vars a) fr h Q := ⟨I, ⟨n, h0⟩, hr⟩
theorem kseq_normal (b : ACode) (Q : Exit → Fr → Hp → Prop) (fr : Fr) (h : Hp) : kseq P b Q .normal fr h = W P b fr h Q := id rfl
theorem kseq_exit (b : ACode) (Q : Exit → Fr → Hp → Prop) (i : Nat) (fr : Fr) (h : Hp) : kseq P b Q (.exit i) fr h = Q (.exit i) fr h := id rfl
theorem kseq_ret (b : ACode) (Q : Exit → Fr → Hp → Prop) (fr : Fr) (h : Hp) : kseq P b Q .ret fr h = Q .ret fr h := id rfl
theorem kblock_normal (i : Nat) (Q : Exit → Fr → Hp → Prop) (fr : Fr) (h : Hp) : kblock i Q .normal fr h = Q .normal fr h := id rfl
theorem kblock_exit (i j : Nat) (Q : Exit → Fr → Hp → Prop) (fr : Fr) (h : Hp) : kblock i Q (.exit j) fr h = if j = i then Q .normal fr h else Q (.exit j) fr h := id rfl
theorem kblock_ret (i : Nat) (Q : Exit → Fr → Hp → Prop) (fr : Fr) (h : Hp) : kblock i Q .ret fr h = Q .ret fr h := id rfl
theorem kloop_normal (v : List Nat) (I : Nat → Fr → Hp → Prop) (n : Nat) (Q : Exit → Fr → Hp → Prop) (fr : Fr) (h : Hp) : kloop v I n Q .normal fr h = ∃ m, m < n ∧ I m (restr v fr) h := id rfl
theorem kloop_exit (v : List Nat) (I : Nat → Fr → Hp → Prop) (n : Nat) (Q : Exit → Fr → Hp → Prop) (i : Nat) (fr : Fr) (h : Hp) : kloop v I n Q (.exit i) fr h = Q (.exit i) fr h := id rfl
theorem kloop_ret (v : List Nat) (I : Nat → Fr → Hp → Prop) (n : Nat) (Q : Exit → Fr → Hp → Prop) (fr : Fr) (h : Hp) : kloop v I n Q .ret fr h = Q .ret fr h := id rfl
theorem kret_normal (rs : List RV) (R : AV → Hp → Prop) (fr : Fr) (h : Hp) : kret rs R .normal fr h = resL fr h rs (res1 (fun a => R a h)) := id rfl
theorem kret_ret (rs : List RV) (R : AV → Hp → Prop) (fr : Fr) (h : Hp) : kret rs R .ret fr h = resL fr h rs (res1 (fun a => R a h)) := id rfl
theorem W_drax (v : List Nat) (a : List AStm) (d : Option Nat) (o : AOp) (b : List AStm) (fr : Fr) (h : Hp) (Q : Exit → Fr → Hp → Prop) : W P (.drax v a d o b) fr h Q = VOps P a fr h (kdrax P v d o b Q) := id rfl
theorem kdrax_eq (v : List Nat) (d : Option Nat) (o : AOp) (b : List AStm) (Q : Exit → Fr → Hp → Prop) (fr : Fr) (h : Hp) : kdrax P v d o b Q fr h = (fOk fr b ∧ wop P d o fr h (kvops P b (kdraw v Q))) := id rfl
theorem fOk_nil (fr : Fr) : fOk fr [] = True := id rfl
theorem fOk_fld (d : Option Nat) (i : Nat) (x : Opd) (r : List AStm) (fr : Fr) : fOk fr (⟨d, none, .fld i x, none⟩ :: r) = (match ev fr x with
    | some (.ptr _ _) => fOk fr r
    | _ => False) := id rfl
theorem fOk_mv (d : Option Nat) (x : Opd) (r : List AStm) (fr : Fr) : fOk fr (⟨d, none, .mv x, none⟩ :: r) = fOk fr r := id rfl
theorem fOk_ext (d : Option Nat) (i : Nat) (x : Opd) (r : List AStm) (fr : Fr) : fOk fr (⟨d, none, .ext i x, none⟩ :: r) = fOk fr r := id rfl
theorem fOk_store (d : Option Nat) (n : Nat) (a x : Opd) (r : List AStm) (fr : Fr) : fOk fr (⟨d, none, .store n a x, none⟩ :: r) = fOk fr r := id rfl
theorem kdraw_eq (v : List Nat) (Q : Exit → Fr → Hp → Prop) (fr : Fr) (h : Hp) : kdraw v Q fr h = Q .normal (restr v fr) h := id rfl
theorem kval_eq (d : Option Nat) (fr : Fr) (h : Hp) (K : Fr → Hp → Prop) (a : AV) : kval d fr h K a = K (put d a fr) h := id rfl
theorem kv_eq (h : Hp) (R : AV → Hp → Prop) (a : AV) : kv h R a = R a h := id rfl
theorem kput_eq (d : Option Nat) (o : AOp) (fr : Fr) (K : Fr → Hp → Prop) (a : AV) (h : Hp) : kput d o fr K a h = K (put d a (tk o fr)) h := id rfl
theorem kbox_eq (d : Option Nat) (fr : Fr) (h : Hp) (K : Fr → Hp → Prop) (l : List AV) : kbox d fr h K l = K (put d (.ptr h.length 0) fr) (h ++ [some (false, l)]) := id rfl
theorem kobj_eq (h : Hp) (R : AV → Hp → Prop) (l : List AV) : kobj h R l = R (.ptr h.length 0) (h ++ [some (false, l)]) := id rfl
theorem klst_eq (d : Option Nat) (e n : Nat) (fr : Fr) (h : Hp) (K : Fr → Hp → Prop) (l : List AV) : klst d e n fr h K l = K (put d (.lst (.own e) n l) fr) h := id rfl
theorem krow_eq (e n : Nat) (h : Hp) (R : AV → Hp → Prop) (l : List AV) : krow e n h R l = R (.lst (.own e) n l) h := id rfl
theorem kcall_eq (d : Option Nat) (fr : Fr) (K : Fr → Hp → Prop) (a : AV) (h : Hp) : kcall d fr K a h = K (put d a fr) h := id rfl
theorem put_some (k : Nat) (a : AV) (fr : Fr) : put (some k) a fr = (k, a) :: fr := id rfl
theorem put_none (a : AV) (fr : Fr) : put none a fr = fr := id rfl
theorem lk_nil (k : Nat) : lk [] k = none := id rfl
theorem restr_nil (fr : Fr) : restr [] fr = [] := id rfl
theorem restr_cons (k : Nat) (r : List Nat) (fr : Fr) : restr (k :: r) fr = match lk fr k with
    | some a => (k, a) :: restr r fr
    | none => restr r fr := id rfl
theorem ev_t (fr : Fr) (k : Nat) : ev fr (.t k) = (lk fr k).map deg := id rfl
theorem ev_c (fr : Fr) (a : AV) : ev fr (.c a) = some a := id rfl
theorem ev_f (fr : Fr) (i : FuncId) : ev fr (.f i) = some (.fn i []) := id rfl
theorem evs_nil (fr : Fr) : evs fr [] = some [] := id rfl
theorem evs_cons (fr : Fr) (x : Opd) (r : List Opd) : evs fr (x :: r) = match ev fr x, evs fr r with
    | some a, some l => some (a :: l)
    | _, _ => none := id rfl
theorem evD_none (fr : Fr) (d : AV) : evD fr d none = some d := id rfl
theorem evD_some (fr : Fr) (d : AV) (x : Opd) : evD fr d (some x) = ev fr x := id rfl
theorem degr_nil (k : Nat) : degr k [] = [] := id rfl
theorem degr_cons (k j : Nat) (a : AV) (r : Fr) : degr k ((j, a) :: r) = (j, if j = k then deg a else a) :: degr k r := id rfl
theorem args0_nil (k : Nat) : args0 k [] = [] := id rfl
theorem args0_cons (k : Nat) (a : AV) (l : List AV) : args0 k (a :: l) = (k, a) :: args0 (k + 1) l := id rfl
theorem buildK_nil (fr : Fr) (t : List AV) (K : List AV → Prop) : buildK fr t [] K = K t := id rfl
theorem buildK_cons (fr : Fr) (t : List AV) (o s : Nat) (x : Opd) (r : List (Nat × Nat × Opd)) (K : List AV → Prop) : buildK fr t ((o, s, x) :: r) K = match ev fr x with
    | some a => (isTup a = false ∧ (cellsOf a).length = s ∧ o + s ≤ t.length) ∧ buildK fr (splice t o (cellsOf a)) r K
    | none => False := id rfl
theorem upgK_nil (l : List AV) (K : List AV → Prop) : upgK [] l K = K l := id rfl
theorem upgK_cons (i e s : Nat) (r : List (Nat × Nat × Nat)) (l : List AV) (K : List AV → Prop) : upgK ((i, e, s) :: r) l K = match l[i]? with
    | some (.lst .clip n c) => c.length = n * s ∧ upgK r (l.set i (.lst (.own e) n c)) K
    | _ => False := id rfl
theorem resL_nil (fr : Fr) (h : Hp) (K : List AV → Prop) : resL fr h [] K = K [] := id rfl
theorem resL_t (fr : Fr) (h : Hp) (k : Nat) (r : List RV) (K : List AV → Prop) : resL fr h (.t k :: r) K = match ev fr (.t k) with
    | some a => resL fr h r (fun l => K (a :: l))
    | none => False := id rfl
theorem resL_c (fr : Fr) (h : Hp) (k : Nat) (s : Option Nat) (r : List RV) (K : List AV → Prop) : resL fr h (.c k s :: r) K = val fr h (.load s (.t k)) (fun a => resL fr h r (fun l => K (a :: l))) := id rfl
theorem res1_one (K : AV → Prop) (a : AV) : res1 K [a] = K a := id rfl
theorem res1_nil (K : AV → Prop) : res1 K [] = K (.tup []) := id rfl
theorem res1_two (K : AV → Prop) (a b : AV) (l : List AV) : res1 K (a :: b :: l) = K (.tup (a :: b :: l)) := id rfl
end

theorem lk_cons' (j k : Nat) (a : AV) (r : Fr) : lk ((j, a) :: r) k = if j = k then some a else lk r k := id rfl
theorem splice_nil' {α : Type} (l : List α) (o : Nat) : splice l o [] = l := id rfl
theorem splice_cons' {α : Type} (l : List α) (o : Nat) (v : α) (r : List α) : splice l o (v :: r) = splice (l.set o v) (o + 1) r := id rfl
theorem WOps_nil' (P : Program) (fr : Fr) (h : Hp) (K : Fr → Hp → Prop) : WOps P [] fr h K = K fr h := id rfl
theorem WOps_cons' (P : Program) (d : Option Nat) (o : AOp) (f : Option (FB × List Nat)) (r : List AStm) (fr : Fr) (h : Hp) (K : Fr → Hp → Prop) : WOps P (⟨d, none, o, f⟩ :: r) fr h K = wop P d o fr h (kops P r K) := id rfl
theorem WOps_gd' (P : Program) (d : Option Nat) (q : Nat) (want : Bool) (o : AOp) (f : Option (FB × List Nat)) (r : List AStm) (fr : Fr) (h : Hp) (K : Fr → Hp → Prop) : WOps P (⟨d, some (q, want), o, f⟩ :: r) fr h K = match lk fr q with
      | some (.bool p) => (p = want → wop P d o ((q, .bool want) :: fr) h (kops P r K)) ∧ (p = !want → WOps P r (put d (.tup []) ((q, .bool (!want)) :: fr)) h K)
      | some (.tup []) => WOps P r (put d (.tup []) fr) h K
      | _ => False := id rfl
theorem kops_eq' (P : Program) (r : List AStm) (K : Fr → Hp → Prop) (fr : Fr) (h : Hp) : kops P r K fr h = WOps P r fr h K := id rfl
theorem VOps_nil' (P : Program) (fr : Fr) (h : Hp) (K : Fr → Hp → Prop) : VOps P [] fr h K = K fr h := id rfl
theorem VOps_cons' (P : Program) (d : Option Nat) (o : AOp) (r : List AStm) (fr : Fr) (h : Hp) (K : Fr → Hp → Prop) : VOps P (⟨d, none, o, none⟩ :: r) fr h K = eff P o fr h (kput d o fr (kvops P r K)) := id rfl
theorem VOps_gd' (P : Program) (d : Option Nat) (q : Nat) (want : Bool) (o : AOp) (r : List AStm) (fr : Fr) (h : Hp) (K : Fr → Hp → Prop) : VOps P (⟨d, some (q, want), o, none⟩ :: r) fr h K = match lk fr q with
      | some (.bool p) => (p = want → eff P o ((q, .bool want) :: fr) h (kput d o ((q, .bool want) :: fr) (kvops P r K))) ∧ (p = !want → VOps P r (put d (.tup []) ((q, .bool (!want)) :: fr)) h K)
      | some (.tup []) => VOps P r (put d (.tup []) fr) h K
      | _ => False := id rfl
theorem VOps_ft' (P : Program) (d : Option Nat) (o : AOp) (b : FB) (ps : List Nat) (r : List AStm) (fr : Fr) (h : Hp) (K : Fr → Hp → Prop) : VOps P (⟨d, none, o, some (b, ps)⟩ :: r) fr h K = (apart fr (fbId b fr h) ps ∧ effF P b o fr h (kput d o fr (kvops P r K))) := id rfl
theorem VOps_gdft' (P : Program) (d : Option Nat) (q : Nat) (want : Bool) (o : AOp) (b : FB) (ps : List Nat) (r : List AStm) (fr : Fr) (h : Hp) (K : Fr → Hp → Prop) : VOps P (⟨d, some (q, want), o, some (b, ps)⟩ :: r) fr h K = match lk fr q with
      | some (.bool p) => (p = want → apart ((q, .bool want) :: fr) (fbId b ((q, .bool want) :: fr) h) ps ∧ effF P b o ((q, .bool want) :: fr) h (kput d o ((q, .bool want) :: fr) (kvops P r K))) ∧ (p = !want → VOps P r (put d (.tup []) ((q, .bool (!want)) :: fr)) h K)
      | some (.tup []) => VOps P r (put d (.tup []) fr) h K
      | _ => False := id rfl
theorem apart_nil (fr : Fr) (i : Option Nat) : apart fr i [] = True := id rfl
theorem apart_cons (fr : Fr) (i : Option Nat) (p : Nat) (r : List Nat) : apart fr i (p :: r) = ((match i, ptrId (lk fr p) with
    | some a, some b => a ≠ b
    | _, _ => False) ∧ apart fr i r) := id rfl
theorem ptrId_ptr (i o : Nat) : ptrId (some (.ptr i o)) = some i := id rfl
theorem ptrId_hs (i n : Nat) : ptrId (some (.hs i n)) = some i := id rfl
theorem sameId_eq (x : Option AV) (i : Option Nat) : sameId x i = (match ptrId x, i with
  | some a, some b => a = b
  | _, _ => False) := id rfl
theorem fbId_s (k : Nat) (fr : Fr) (h : Hp) : fbId (.s k) fr h = ptrId (lk fr k) := id rfl
theorem fbId_h (k : Nat) (fr : Fr) (h : Hp) : fbId (.h k) fr h = if k < h.length then some (h.length - 1 - k) else none := id rfl
theorem effF_load (P : Program) (b : FB) (s : Option Nat) (x : Opd) (fr : Fr) (h : Hp) (R : AV → Hp → Prop) : effF P b (.load s x) fr h R = (sameId (ev fr x) (fbId b fr h) ∧ eff P (.load s x) fr h R) := id rfl
theorem effF_loado (P : Program) (b : FB) (x : Opd) (fr : Fr) (h : Hp) (R : AV → Hp → Prop) : effF P b (.loado x) fr h R = (sameId (ev fr x) (fbId b fr h) ∧ eff P (.loado x) fr h R) := id rfl
theorem effF_store (P : Program) (b : FB) (n : Nat) (a x : Opd) (fr : Fr) (h : Hp) (R : AV → Hp → Prop) : effF P b (.store n a x) fr h R = (sameId (ev fr a) (fbId b fr h) ∧ eff P (.store n a x) fr h R) := id rfl
theorem effF_stores (P : Program) (b : FB) (n : Nat) (a x : Opd) (fr : Fr) (h : Hp) (R : AV → Hp → Prop) : effF P b (.stores n a x) fr h R = (sameId (ev fr a) (fbId b fr h) ∧ eff P (.stores n a x) fr h R) := id rfl
theorem effF_storeo (P : Program) (b : FB) (a : Opd) (k : Nat) (fr : Fr) (h : Hp) (R : AV → Hp → Prop) : effF P b (.storeo a k) fr h R = (sameId (ev fr a) (fbId b fr h) ∧ eff P (.storeo a k) fr h R) := id rfl
theorem effF_calli (P : Program) (b : FB) (f : Opd) (args : List Opd) (fr : Fr) (h : Hp) (R : AV → Hp → Prop) : effF P b (.calli f args) fr h R = (match ev fr f, evs fr args, fbId b fr h with
    | some (.fn f' caps), some l, some id => ∃ v l0 l1, h[id]? = some (some (false, l0)) ∧ (∀ h0 : Hp, h0[id]? = some (some (false, l0)) → ACalls P f' (l ++ caps) h0 (fun a h' => a = v ∧ h' = h0.set id (some (false, l1)))) ∧ R v (h.set id (some (false, l1)))
    | _, _, _ => False) := id rfl
theorem effF_new (P : Program) (b : FB) (l : List AV) (u : List (Nat × Nat × Nat)) (fr : Fr) (h : Hp) (R : AV → Hp → Prop) : effF P b (.new l u) fr h R = (match fbId b fr h with
    | some id => h[id]? = some none ∧ upgK u l (fun l' => R (.ptr id 0) (h.set id (some (false, l'))))
    | none => False) := id rfl
theorem effF_box (P : Program) (b : FB) (x : Opd) (u : List (Nat × Nat × Nat)) (fr : Fr) (h : Hp) (R : AV → Hp → Prop) : effF P b (.box x u) fr h R = (match fbId b fr h, ev fr x with
    | some id, some a => h[id]? = some none ∧ isTup a = false ∧ upgK u (cellsOf a) (fun l' => R (.ptr id 0) (h.set id (some (false, l'))))
    | _, _ => False) := id rfl
theorem effF_mkn (P : Program) (b : FB) (e s y : Nat) (z : List AV) (c : Opd) (fr : Fr) (h : Hp) (R : AV → Hp → Prop) : effF P b (.mkn e s y z c) fr h R = (match fbId b fr h, ev fr c with
    | some id, some (.int _ n) => h[id]? = some none ∧ (0 ≤ n ∧ y * n ≤ 140737488355328 ∧ n ≤ 9223372036854775807) ∧ R (.hs id n.toNat) (h.set id (some (false, (List.range (n.toNat * s)).map fun i => z.getD (i % s) .nilp)))
    | _, _ => False) := id rfl
theorem W_scope (P : Program) (a : ACode) (fr : Fr) (h : Hp) (Q : Exit → Fr → Hp → Prop) : W P (.scope a) fr h Q = W P a fr h (kscope Q) := id rfl
theorem W_dead (P : Program) (fr : Fr) (h : Hp) (Q : Exit → Fr → Hp → Prop) : W P .dead fr h Q = False := id rfl
theorem kscope_normal (Q : Exit → Fr → Hp → Prop) (fr : Fr) (h : Hp) : kscope Q .normal fr h = Q .normal fr h := id rfl
theorem kscope_exit (Q : Exit → Fr → Hp → Prop) (i : Nat) (fr : Fr) (h : Hp) : kscope Q (.exit i) fr h = Q (.exit i) fr h := id rfl
theorem kscope_ret (Q : Exit → Fr → Hp → Prop) (fr : Fr) (h : Hp) : kscope Q .ret fr h = Q .ret fr h := id rfl
theorem W_holes (P : Program) (m : Nat) (a : ACode) (fr : Fr) (h : Hp) (Q : Exit → Fr → Hp → Prop) : W P (.holes m a) fr h Q = W P a fr (h ++ List.replicate m none) Q := id rfl
theorem rep2 : List.replicate 2 (none : Option (Bool × List AV)) = [none, none] := id rfl
theorem rep3 : List.replicate 3 (none : Option (Bool × List AV)) = [none, none, none] := id rfl
theorem kvops_eq' (P : Program) (r : List AStm) (K : Fr → Hp → Prop) (fr : Fr) (h : Hp) : kvops P r K fr h = VOps P r fr h K := id rfl
theorem frees_str : ∀ l : List ByteArray, free.frees (l.map AV.str) = true
  | [] => rfl
  | _ :: l => by simp [free.frees, free, frees_str l]
theorem frees_u8 : ∀ l : List UInt8, free.frees (l.map fun b => AV.int .u8 b.toNat) = true
  | [] => rfl
  | _ :: l => by simp [free.frees, free, frees_u8 l]
theorem frees_u16 : ∀ l : List Nat, free.frees (l.map fun (b : Nat) => AV.int .u16 (b : Int)) = true
  | [] => rfl
  | _ :: l => by simp [free.frees, free, frees_u16 l]
theorem inR_of {z : Int} (h1 : -9223372036854775808 ≤ z) (h2 : z ≤ 9223372036854775807) : inR z := ⟨h1, h2⟩
theorem ACalls.use {P : Program} {f : FuncId} {args : List AV} {h : Hp} {R R' : AV → Hp → Prop} (hc : ACalls P f args h R) (hr : ∀ a h', R a h' → R' a h') : ACalls P f args h R' := hc.mono hr
theorem mixed : Try.prog.follows .mixedOrders = true := by kernel_rfl

end Go.Proofs.Ytpiofcjkekpboaa

/- The abstract layer: code that is run: what a run tells, the call does. -/
namespace Go.Proofs.Ytpiofcjkekpboaa
set_option linter.unusedSimpArgs false
set_option linter.unusedVariables false
open Go.RowKit Go.Lib

section
variable {P : Program} {fr : Fr} {h : Hp}

end
end Go.Proofs.Ytpiofcjkekpboaa

/- The abstract layer: code that is run, second part: what changes something, code, functions. -/
namespace Go.Proofs.Ytpiofcjkekpboaa
set_option linter.unusedSimpArgs false
set_option linter.unusedVariables false
open Go.RowKit Go.Lib

section
variable {P : Program} {fr : Fr} {h : Hp}

inductive Lv where
  | normal
  | exit (i : Nat)
  | ret
def one (l : List AV) : AV :=
  match l with
  | [a] => a
  | l => .tup l
end
end Go.Proofs.Ytpiofcjkekpboaa

/- The functions as a table, to be run. -/
namespace Go.Proofs.Ytpiofcjkekpboaa
open Go.RowKit

end Go.Proofs.Ytpiofcjkekpboaa

/- The abstract layer, sixteenth part: one law an operation, for the walk (written by genlem.py). -/
namespace Go.Proofs.Ytpiofcjkekpboaa
set_option linter.unusedSimpArgs false
set_option linter.unusedVariables false
open Go.RowKit Go.Lib

section
variable (P : Program)
theorem wop_mv (d : Option Nat) (x : Opd) (fr : Fr) (h : Hp) (K : Fr → Hp → Prop) : wop P d (.mv x) fr h K = (match ev fr x with
    | some a => K (put d a fr) h
    | none => False) := id rfl
theorem eff_mv (x : Opd) (fr : Fr) (h : Hp) (R : AV → Hp → Prop) : eff P (.mv x) fr h R = (match ev fr x with
    | some a => R a h
    | none => False) := id rfl
theorem wop_pick (d : Option Nat) (c x y : Opd) (fr : Fr) (h : Hp) (K : Fr → Hp → Prop) : wop P d (.pick c x y) fr h K = (match ev fr c with
    | some (.bool p) => (p = true → match ev fr x with
      | some a => K (put d a fr) h
      | none => False) ∧ (p = false → match ev fr y with
      | some a => K (put d a fr) h
      | none => False)
    | _ => False) := id rfl
theorem eff_pick (c x y : Opd) (fr : Fr) (h : Hp) (R : AV → Hp → Prop) : eff P (.pick c x y) fr h R = (match ev fr c with
    | some (.bool p) => (p = true → match ev fr x with
      | some a => R a h
      | none => False) ∧ (p = false → match ev fr y with
      | some a => R a h
      | none => False)
    | _ => False) := id rfl
theorem wop_build (d : Option Nat) (t : List AV) (ps : List (Nat × Nat × Opd)) (fr : Fr) (h : Hp) (K : Fr → Hp → Prop) : wop P d (.build t ps) fr h K = (buildK fr t ps (fun l => K (put d (.agg l) fr) h)) := id rfl
theorem eff_build (t : List AV) (ps : List (Nat × Nat × Opd)) (fr : Fr) (h : Hp) (R : AV → Hp → Prop) : eff P (.build t ps) fr h R = (buildK fr t ps (fun l => R (.agg l) h)) := id rfl
theorem wop_load (d : Option Nat) (s : Option Nat) (x : Opd) (fr : Fr) (h : Hp) (K : Fr → Hp → Prop) : wop P d (.load s x) fr h K = (match ev fr x with
    | some (.ptr id off) => (match h[id]? with
      | some (some (_, l)) => loadK s (l.drop off) (kval d fr h K)
      | _ => False)
    | some (.fp l) => loadK s l (kval d fr h K)
    | _ => False) := id rfl
theorem eff_load (s : Option Nat) (x : Opd) (fr : Fr) (h : Hp) (R : AV → Hp → Prop) : eff P (.load s x) fr h R = (match ev fr x with
    | some (.ptr id off) => (match h[id]? with
      | some (some (_, l)) => loadK s (l.drop off) (kv h R)
      | _ => False)
    | some (.fp l) => loadK s l (kv h R)
    | _ => False) := id rfl
theorem wop_lds (d : Option Nat) (s : Option Nat) (x : Opd) (fr : Fr) (h : Hp) (K : Fr → Hp → Prop) : wop P d (.lds s x) fr h K = (match ev fr x with
    | some (.ptr id off) => (match h[id]? with
      | some (some (true, l)) => loadK s (l.drop off) (kval d fr h K)
      | _ => False)
    | some (.fp l) => loadK s l (kval d fr h K)
    | _ => False) := id rfl
theorem eff_lds (s : Option Nat) (x : Opd) (fr : Fr) (h : Hp) (R : AV → Hp → Prop) : eff P (.lds s x) fr h R = (match ev fr x with
    | some (.ptr id off) => (match h[id]? with
      | some (some (true, l)) => loadK s (l.drop off) (kv h R)
      | _ => False)
    | some (.fp l) => loadK s l (kv h R)
    | _ => False) := id rfl
theorem wop_nilck (d : Option Nat) (x : Opd) (fr : Fr) (h : Hp) (K : Fr → Hp → Prop) : wop P d (.nilck x) fr h K = (match ev fr x with
    | some (.ptr id off) => K (put d (.ptr id off) fr) h
    | some (.fp l) => K (put d (.fp l) fr) h
    | some (.fn f l) => K (put d (.fn f l) fr) h
    | some (.frn Q) => K (put d (.frn Q) fr) h
    | _ => False) := id rfl
theorem eff_nilck (x : Opd) (fr : Fr) (h : Hp) (R : AV → Hp → Prop) : eff P (.nilck x) fr h R = (match ev fr x with
    | some (.ptr id off) => R (.ptr id off) h
    | some (.fp l) => R (.fp l) h
    | some (.fn f l) => R (.fn f l) h
    | some (.frn Q) => R (.frn Q) h
    | _ => False) := id rfl
theorem wop_bin (d : Option Nat) (op : BinOp) (x y : Opd) (fr : Fr) (h : Hp) (K : Fr → Hp → Prop) : wop P d (.bin op x y) fr h K = (match ev fr x, ev fr y with
    | some a, some b => bin2 op a b (kval d fr h K)
    | _, _ => False) := id rfl
theorem eff_bin (op : BinOp) (x y : Opd) (fr : Fr) (h : Hp) (R : AV → Hp → Prop) : eff P (.bin op x y) fr h R = (match ev fr x, ev fr y with
    | some a, some b => bin2 op a b (kv h R)
    | _, _ => False) := id rfl
theorem wop_pnil (d : Option Nat) (n : Bool) (x : Opd) (fr : Fr) (h : Hp) (K : Fr → Hp → Prop) : wop P d (.pnil n x) fr h K = (match ev fr x with
    | some .nilp => K (put d (.bool (!n)) fr) h
    | some (.ptr _ _) => K (put d (.bool n) fr) h
    | some (.fp _) => K (put d (.bool n) fr) h
    | some (.frn _) => K (put d (.bool n) fr) h
    | _ => False) := id rfl
theorem eff_pnil (n : Bool) (x : Opd) (fr : Fr) (h : Hp) (R : AV → Hp → Prop) : eff P (.pnil n x) fr h R = (match ev fr x with
    | some .nilp => R (.bool (!n)) h
    | some (.ptr _ _) => R (.bool n) h
    | some (.fp _) => R (.bool n) h
    | some (.frn _) => R (.bool n) h
    | _ => False) := id rfl
theorem wop_bbin (d : Option Nat) (n : Bool) (x y : Opd) (fr : Fr) (h : Hp) (K : Fr → Hp → Prop) : wop P d (.bbin n x y) fr h K = (match ev fr x, ev fr y with
    | some (.bool a), some (.bool b) => K (put d (.bool (if n then decide (a ≠ b) else decide (a = b))) fr) h
    | _, _ => False) := id rfl
theorem eff_bbin (n : Bool) (x y : Opd) (fr : Fr) (h : Hp) (R : AV → Hp → Prop) : eff P (.bbin n x y) fr h R = (match ev fr x, ev fr y with
    | some (.bool a), some (.bool b) => R (.bool (if n then decide (a ≠ b) else decide (a = b))) h
    | _, _ => False) := id rfl
theorem wop_not (d : Option Nat) (x : Opd) (fr : Fr) (h : Hp) (K : Fr → Hp → Prop) : wop P d (.not x) fr h K = (match ev fr x with
    | some (.bool p) => K (put d (.bool (!p)) fr) h
    | _ => False) := id rfl
theorem eff_not (x : Opd) (fr : Fr) (h : Hp) (R : AV → Hp → Prop) : eff P (.not x) fr h R = (match ev fr x with
    | some (.bool p) => R (.bool (!p)) h
    | _ => False) := id rfl
theorem wop_conv (d : Option Nat) (i : IntKind) (x : Opd) (fr : Fr) (h : Hp) (K : Fr → Hp → Prop) : wop P d (.conv i x) fr h K = (match ev fr x with
    | some (.int _ n) => K (put d (.int i (i.wrap n)) fr) h
    | _ => False) := id rfl
theorem eff_conv (i : IntKind) (x : Opd) (fr : Fr) (h : Hp) (R : AV → Hp → Prop) : eff P (.conv i x) fr h R = (match ev fr x with
    | some (.int _ n) => R (.int i (i.wrap n)) h
    | _ => False) := id rfl
theorem wop_cstr (d : Option Nat) (x : Opd) (fr : Fr) (h : Hp) (K : Fr → Hp → Prop) : wop P d (.cstr x) fr h K = (match ev fr x with
    | some (.str s) => K (put d (.str s) fr) h
    | _ => False) := id rfl
theorem eff_cstr (x : Opd) (fr : Fr) (h : Hp) (R : AV → Hp → Prop) : eff P (.cstr x) fr h R = (match ev fr x with
    | some (.str s) => R (.str s) h
    | _ => False) := id rfl
theorem wop_b2s (d : Option Nat) (x : Opd) (fr : Fr) (h : Hp) (K : Fr → Hp → Prop) : wop P d (.b2s x) fr h K = (match ev fr x with
    | some (.lst _ n l) => ∃ bs : List UInt8, l = bs.map (fun b => AV.int .u8 b.toNat) ∧ n = bs.length ∧ K (put d (.str ⟨bs.toArray⟩) fr) h
    | _ => False) := id rfl
theorem eff_b2s (x : Opd) (fr : Fr) (h : Hp) (R : AV → Hp → Prop) : eff P (.b2s x) fr h R = (match ev fr x with
    | some (.lst _ n l) => ∃ bs : List UInt8, l = bs.map (fun b => AV.int .u8 b.toNat) ∧ n = bs.length ∧ R (.str ⟨bs.toArray⟩) h
    | _ => False) := id rfl
theorem wop_fld (d : Option Nat) (o : Nat) (x : Opd) (fr : Fr) (h : Hp) (K : Fr → Hp → Prop) : wop P d (.fld o x) fr h K = (match ev fr x with
    | some (.ptr id q) => K (put d (.ptr id (q + o)) fr) h
    | some (.fp l) => K (put d (.fp (l.drop o)) fr) h
    | some (.frn Q) => o = 0 ∧ K (put d (.frn Q) fr) h
    | _ => False) := id rfl
theorem eff_fld (o : Nat) (x : Opd) (fr : Fr) (h : Hp) (R : AV → Hp → Prop) : eff P (.fld o x) fr h R = (match ev fr x with
    | some (.ptr id q) => R (.ptr id (q + o)) h
    | some (.fp l) => R (.fp (l.drop o)) h
    | some (.frn Q) => o = 0 ∧ R (.frn Q) h
    | _ => False) := id rfl
theorem wop_idxa (d : Option Nat) (s : Nat) (x y : Opd) (fr : Fr) (h : Hp) (K : Fr → Hp → Prop) : wop P d (.idxa s x y) fr h K = (match ev fr x, ev fr y with
    | some (.lst _ n l), some (.int _ i) => (0 ≤ i ∧ i < n) ∧ K (put d (.fp (l.drop (i.toNat * s))) fr) h
    | some (.hs id n), some (.int _ i) => (0 ≤ i ∧ i < n) ∧ K (put d (.ptr id (i.toNat * s)) fr) h
    | some (.hsc id n c), some (.int _ i) => (0 ≤ i ∧ i < n) ∧ K (put d (.ptr id (i.toNat * s)) fr) h
    | _, _ => False) := id rfl
theorem eff_idxa (s : Nat) (x y : Opd) (fr : Fr) (h : Hp) (R : AV → Hp → Prop) : eff P (.idxa s x y) fr h R = (match ev fr x, ev fr y with
    | some (.lst _ n l), some (.int _ i) => (0 ≤ i ∧ i < n) ∧ R (.fp (l.drop (i.toNat * s))) h
    | some (.hs id n), some (.int _ i) => (0 ≤ i ∧ i < n) ∧ R (.ptr id (i.toNat * s)) h
    | some (.hsc id n c), some (.int _ i) => (0 ≤ i ∧ i < n) ∧ R (.ptr id (i.toNat * s)) h
    | _, _ => False) := id rfl
theorem wop_idxs (d : Option Nat) (x y : Opd) (fr : Fr) (h : Hp) (K : Fr → Hp → Prop) : wop P d (.idxs x y) fr h K = (match ev fr x, ev fr y with
    | some (.str s), some (.int _ i) => (0 ≤ i ∧ i < s.size) ∧ K (put d (.int .u8 (byteAt s i.toNat)) fr) h
    | _, _ => False) := id rfl
theorem eff_idxs (x y : Opd) (fr : Fr) (h : Hp) (R : AV → Hp → Prop) : eff P (.idxs x y) fr h R = (match ev fr x, ev fr y with
    | some (.str s), some (.int _ i) => (0 ≤ i ∧ i < s.size) ∧ R (.int .u8 (byteAt s i.toNat)) h
    | _, _ => False) := id rfl
theorem wop_slcs (d : Option Nat) (x : Opd) (lo hi : Option Opd) (fr : Fr) (h : Hp) (K : Fr → Hp → Prop) : wop P d (.slcs x lo hi) fr h K = (match ev fr x with
    | some (.str s) => (match evD fr (.int .i64 0) lo, evD fr (.int .i64 s.size) hi with
      | some (.int _ l), some (.int _ u) => (0 ≤ l ∧ l ≤ u ∧ u ≤ s.size) ∧ K (put d (.str (s.extract l.toNat u.toNat)) fr) h
      | _, _ => False)
    | _ => False) := id rfl
theorem eff_slcs (x : Opd) (lo hi : Option Opd) (fr : Fr) (h : Hp) (R : AV → Hp → Prop) : eff P (.slcs x lo hi) fr h R = (match ev fr x with
    | some (.str s) => (match evD fr (.int .i64 0) lo, evD fr (.int .i64 s.size) hi with
      | some (.int _ l), some (.int _ u) => (0 ≤ l ∧ l ≤ u ∧ u ≤ s.size) ∧ R (.str (s.extract l.toNat u.toNat)) h
      | _, _ => False)
    | _ => False) := id rfl
theorem wop_slcl (d : Option Nat) (s : Nat) (x : Opd) (lo hi mx : Option Opd) (fr : Fr) (h : Hp) (K : Fr → Hp → Prop) : wop P d (.slcl s x lo hi mx) fr h K = (match ev fr x with
    | some (.lst _ n l) => (match evD fr (.int .i64 0) lo, evD fr (.int .i64 n) hi with
      | some (.int _ i), some (.int _ j) => (0 ≤ i ∧ i ≤ j ∧ j ≤ n ∧ l.length = n * s) ∧ (match mx with
        | none => K (put d (.lst .ro (j.toNat - i.toNat) ((l.drop (i.toNat * s)).take ((j.toNat - i.toNat) * s))) fr) h
        | some m => match ev fr m with
          | some (.int _ m) => m = j ∧ K (put d (.lst .clip (j.toNat - i.toNat) ((l.drop (i.toNat * s)).take ((j.toNat - i.toNat) * s))) fr) h
          | _ => False)
      | _, _ => False)
    | _ => False) := id rfl
theorem eff_slcl (s : Nat) (x : Opd) (lo hi mx : Option Opd) (fr : Fr) (h : Hp) (R : AV → Hp → Prop) : eff P (.slcl s x lo hi mx) fr h R = (match ev fr x with
    | some (.lst _ n l) => (match evD fr (.int .i64 0) lo, evD fr (.int .i64 n) hi with
      | some (.int _ i), some (.int _ j) => (0 ≤ i ∧ i ≤ j ∧ j ≤ n ∧ l.length = n * s) ∧ (match mx with
        | none => R (.lst .ro (j.toNat - i.toNat) ((l.drop (i.toNat * s)).take ((j.toNat - i.toNat) * s))) h
        | some m => match ev fr m with
          | some (.int _ m) => m = j ∧ R (.lst .clip (j.toNat - i.toNat) ((l.drop (i.toNat * s)).take ((j.toNat - i.toNat) * s))) h
          | _ => False)
      | _, _ => False)
    | _ => False) := id rfl
theorem wop_ext (d : Option Nat) (i : Nat) (x : Opd) (fr : Fr) (h : Hp) (K : Fr → Hp → Prop) : wop P d (.ext i x) fr h K = (match ev fr x with
    | some (.tup l) => (match l[i]? with
      | some a => K (put d a fr) h
      | none => False)
    | _ => False) := id rfl
theorem eff_ext (i : Nat) (x : Opd) (fr : Fr) (h : Hp) (R : AV → Hp → Prop) : eff P (.ext i x) fr h R = (match ev fr x with
    | some (.tup l) => (match l[i]? with
      | some a => R a h
      | none => False)
    | _ => False) := id rfl
theorem wop_lens (d : Option Nat) (x : Opd) (fr : Fr) (h : Hp) (K : Fr → Hp → Prop) : wop P d (.lens x) fr h K = (match ev fr x with
    | some (.str s) => K (put d (.int .i64 s.size) fr) h
    | _ => False) := id rfl
theorem eff_lens (x : Opd) (fr : Fr) (h : Hp) (R : AV → Hp → Prop) : eff P (.lens x) fr h R = (match ev fr x with
    | some (.str s) => R (.int .i64 s.size) h
    | _ => False) := id rfl
theorem wop_lenl (d : Option Nat) (x : Opd) (fr : Fr) (h : Hp) (K : Fr → Hp → Prop) : wop P d (.lenl x) fr h K = (match ev fr x with
    | some (.lst _ n _) => K (put d (.int .i64 n) fr) h
    | some (.hs _ n) => K (put d (.int .i64 n) fr) h
    | some (.hsc _ n _) => K (put d (.int .i64 n) fr) h
    | _ => False) := id rfl
theorem eff_lenl (x : Opd) (fr : Fr) (h : Hp) (R : AV → Hp → Prop) : eff P (.lenl x) fr h R = (match ev fr x with
    | some (.lst _ n _) => R (.int .i64 n) h
    | some (.hs _ n) => R (.int .i64 n) h
    | some (.hsc _ n _) => R (.int .i64 n) h
    | _ => False) := id rfl
theorem wop_mn (d : Option Nat) (x y : Opd) (fr : Fr) (h : Hp) (K : Fr → Hp → Prop) : wop P d (.mn x y) fr h K = (match ev fr x, ev fr y with
    | some (.int i a), some (.int _ b) => K (put d (.int i (if b < a then b else a)) fr) h
    | _, _ => False) := id rfl
theorem eff_mn (x y : Opd) (fr : Fr) (h : Hp) (R : AV → Hp → Prop) : eff P (.mn x y) fr h R = (match ev fr x, ev fr y with
    | some (.int i a), some (.int _ b) => R (.int i (if b < a then b else a)) h
    | _, _ => False) := id rfl
theorem wop_mx (d : Option Nat) (x y : Opd) (fr : Fr) (h : Hp) (K : Fr → Hp → Prop) : wop P d (.mx x y) fr h K = (match ev fr x, ev fr y with
    | some (.int i a), some (.int _ b) => K (put d (.int i (if a < b then b else a)) fr) h
    | _, _ => False) := id rfl
theorem eff_mx (x y : Opd) (fr : Fr) (h : Hp) (R : AV → Hp → Prop) : eff P (.mx x y) fr h R = (match ev fr x, ev fr y with
    | some (.int i a), some (.int _ b) => R (.int i (if a < b then b else a)) h
    | _, _ => False) := id rfl
theorem wop_ex (d : Option Nat) (e : Ex) (xs : List Opd) (fr : Fr) (h : Hp) (K : Fr → Hp → Prop) : wop P d (.ex e xs) fr h K = (match evs fr xs with
    | some l => (match exF e l with
      | some a => K (put d a fr) h
      | none => False)
    | none => False) := id rfl
theorem eff_ex (e : Ex) (xs : List Opd) (fr : Fr) (h : Hp) (R : AV → Hp → Prop) : eff P (.ex e xs) fr h R = (match evs fr xs with
    | some l => (match exF e l with
      | some a => R a h
      | none => False)
    | none => False) := id rfl
theorem wop_mkfn (d : Option Nat) (f : FuncId) (c : List Opd) (fr : Fr) (h : Hp) (K : Fr → Hp → Prop) : wop P d (.mkfn f c) fr h K = (match evs fr c with
    | some l => K (put d (.fn f l) fr) h
    | none => False) := id rfl
theorem eff_mkfn (f : FuncId) (c : List Opd) (fr : Fr) (h : Hp) (R : AV → Hp → Prop) : eff P (.mkfn f c) fr h R = (match evs fr c with
    | some l => R (.fn f l) h
    | none => False) := id rfl
theorem wop_mvu (d : Option Nat) (e s : Nat) (x : Opd) (fr : Fr) (h : Hp) (K : Fr → Hp → Prop) : wop P d (.mvu e s x) fr h K = (match ev fr x with
    | some (.lst .clip n l) => l.length = n * s ∧ K (put d (.lst (.own e) n l) fr) h
    | _ => False) := id rfl
theorem eff_mvu (e s : Nat) (x : Opd) (fr : Fr) (h : Hp) (R : AV → Hp → Prop) : eff P (.mvu e s x) fr h R = (match ev fr x with
    | some (.lst .clip n l) => l.length = n * s ∧ R (.lst (.own e) n l) h
    | _ => False) := id rfl
theorem wop_mvo (d : Option Nat) (q : Nat) (fr : Fr) (h : Hp) (K : Fr → Hp → Prop) : wop P d (.mvo q) fr h K = (match lk fr q with
    | some (.lst (.own e) n l) => K (put d (.lst (.own e) n l) (degr q fr)) h
    | _ => False) := id rfl
theorem eff_mvo (q : Nat) (fr : Fr) (h : Hp) (R : AV → Hp → Prop) : eff P (.mvo q) fr h R = (match lk fr q with
    | some (.lst (.own e) n l) => R (.lst (.own e) n l) h
    | _ => False) := id rfl
theorem wop_new (d : Option Nat) (l : List AV) (u : List (Nat × Nat × Nat)) (fr : Fr) (h : Hp) (K : Fr → Hp → Prop) : wop P d (.new l u) fr h K = (upgK u l (fun l' => K (put d (.ptr h.length 0) fr) (h ++ [some (false, l')]))) := id rfl
theorem eff_new (l : List AV) (u : List (Nat × Nat × Nat)) (fr : Fr) (h : Hp) (R : AV → Hp → Prop) : eff P (.new l u) fr h R = (upgK u l (fun l' => R (.ptr h.length 0) (h ++ [some (false, l')]))) := id rfl
theorem wop_box (d : Option Nat) (x : Opd) (u : List (Nat × Nat × Nat)) (fr : Fr) (h : Hp) (K : Fr → Hp → Prop) : wop P d (.box x u) fr h K = (match ev fr x with
    | some a => isTup a = false ∧ upgK u (cellsOf a) (fun l' => K (put d (.ptr h.length 0) fr) (h ++ [some (false, l')]))
    | none => False) := id rfl
theorem eff_box (x : Opd) (u : List (Nat × Nat × Nat)) (fr : Fr) (h : Hp) (R : AV → Hp → Prop) : eff P (.box x u) fr h R = (match ev fr x with
    | some a => isTup a = false ∧ upgK u (cellsOf a) (fun l' => R (.ptr h.length 0) (h ++ [some (false, l')]))
    | none => False) := id rfl
theorem wop_bsl (d : Option Nat) (e s n : Nat) (t : List AV) (ps : List (Nat × Nat × Opd)) (fr : Fr) (h : Hp) (K : Fr → Hp → Prop) : wop P d (.bsl e s n t ps) fr h K = (buildK fr t ps (fun l => K (put d (.lst (.own e) n l) fr) h)) := id rfl
theorem eff_bsl (e s n : Nat) (t : List AV) (ps : List (Nat × Nat × Opd)) (fr : Fr) (h : Hp) (R : AV → Hp → Prop) : eff P (.bsl e s n t ps) fr h R = (buildK fr t ps (fun l => R (.lst (.own e) n l) h)) := id rfl
theorem wop_mk0 (d : Option Nat) (e s b : Nat) (c : Opd) (fr : Fr) (h : Hp) (K : Fr → Hp → Prop) : wop P d (.mk0 e s b c) fr h K = (match ev fr c with
    | some (.int _ n) => (0 ≤ n ∧ b * n ≤ 140737488355328 ∧ n ≤ 9223372036854775807) ∧ K (put d (.lst (.own e) 0 []) fr) h
    | _ => False) := id rfl
theorem eff_mk0 (e s b : Nat) (c : Opd) (fr : Fr) (h : Hp) (R : AV → Hp → Prop) : eff P (.mk0 e s b c) fr h R = (match ev fr c with
    | some (.int _ n) => (0 ≤ n ∧ b * n ≤ 140737488355328 ∧ n ≤ 9223372036854775807) ∧ R (.lst (.own e) 0 []) h
    | _ => False) := id rfl
theorem wop_mkn (d : Option Nat) (e s b : Nat) (z : List AV) (c : Opd) (fr : Fr) (h : Hp) (K : Fr → Hp → Prop) : wop P d (.mkn e s b z c) fr h K = (match ev fr c with
    | some (.int _ n) => (0 ≤ n ∧ b * n ≤ 140737488355328 ∧ n ≤ 9223372036854775807) ∧ K (put d (.hs h.length n.toNat) fr) (h ++ [some (false, (List.range (n.toNat * s)).map fun i => z.getD (i % s) .nilp)])
    | _ => False) := id rfl
theorem eff_mkn (e s b : Nat) (z : List AV) (c : Opd) (fr : Fr) (h : Hp) (R : AV → Hp → Prop) : eff P (.mkn e s b z c) fr h R = (match ev fr c with
    | some (.int _ n) => (0 ≤ n ∧ b * n ≤ 140737488355328 ∧ n ≤ 9223372036854775807) ∧ R (.hs h.length n.toNat) (h ++ [some (false, (List.range (n.toNat * s)).map fun i => z.getD (i % s) .nilp)])
    | _ => False) := id rfl
theorem wop_loado (d : Option Nat) (x : Opd) (fr : Fr) (h : Hp) (K : Fr → Hp → Prop) : wop P d (.loado x) fr h K = (match ev fr x with
    | some (.ptr id off) => (match h[id]? with
      | some (some (false, l)) => (match l[off]? with
        | some (.lst (.own e) n c) => K (put d (.lst (.own e) n c) fr) (h.set id (some (false, l.set off (.lst .ro n c))))
        | _ => False)
      | _ => False)
    | _ => False) := id rfl
theorem eff_loado (x : Opd) (fr : Fr) (h : Hp) (R : AV → Hp → Prop) : eff P (.loado x) fr h R = (match ev fr x with
    | some (.ptr id off) => (match h[id]? with
      | some (some (false, l)) => (match l[off]? with
        | some (.lst (.own e) n c) => R (.lst (.own e) n c) (h.set id (some (false, l.set off (.lst .ro n c))))
        | _ => False)
      | _ => False)
    | _ => False) := id rfl
theorem wop_app (d : Option Nat) (e s b : Nat) (x y : Opd) (fr : Fr) (h : Hp) (K : Fr → Hp → Prop) : wop P d (.app e s b x y) fr h K = (match ev fr x, ev fr y with
    | some (.lst .clip n l), some (.lst _ m l') => (l.length = n * s ∧ l'.length = m * s ∧ n + m ≤ 9223372036854775807 ∧ (n + m) * b ≤ 140737488355328) ∧ K (put d (.lst (.own e) (n + m) (l ++ l')) fr) h
    | _, _ => False) := id rfl
theorem eff_app (e s b : Nat) (x y : Opd) (fr : Fr) (h : Hp) (R : AV → Hp → Prop) : eff P (.app e s b x y) fr h R = (match ev fr x, ev fr y with
    | some (.lst .clip n l), some (.lst _ m l') => (l.length = n * s ∧ l'.length = m * s ∧ n + m ≤ 9223372036854775807 ∧ (n + m) * b ≤ 140737488355328) ∧ R (.lst (.own e) (n + m) (l ++ l')) h
    | _, _ => False) := id rfl
theorem wop_appo (d : Option Nat) (e s b q : Nat) (y : Opd) (fr : Fr) (h : Hp) (K : Fr → Hp → Prop) : wop P d (.appo e s b q y) fr h K = (match lk fr q, ev fr y with
    | some (.lst (.own e') n l), some (.lst _ m l') => (e' = e ∧ l'.length = m * s ∧ n + m ≤ 9223372036854775807 ∧ (n + m) * b ≤ 140737488355328) ∧ K (put d (.lst (.own e) (n + m) (l ++ l')) (degr q fr)) h
    | _, _ => False) := id rfl
theorem eff_appo (e s b q : Nat) (y : Opd) (fr : Fr) (h : Hp) (R : AV → Hp → Prop) : eff P (.appo e s b q y) fr h R = (match lk fr q, ev fr y with
    | some (.lst (.own e') n l), some (.lst _ m l') => (e' = e ∧ l'.length = m * s ∧ n + m ≤ 9223372036854775807 ∧ (n + m) * b ≤ 140737488355328) ∧ R (.lst (.own e) (n + m) (l ++ l')) h
    | _, _ => False) := id rfl
theorem wop_appso (d : Option Nat) (e q : Nat) (y : Opd) (fr : Fr) (h : Hp) (K : Fr → Hp → Prop) : wop P d (.appso e q y) fr h K = (match lk fr q, ev fr y with
    | some (.lst (.own e') n l), some (.str s) => (e' = e ∧ n + s.size ≤ 140737488355328) ∧ K (put d (.lst (.own e) (n + s.size) (l ++ s.data.toList.map fun b => AV.int .u8 b.toNat)) (degr q fr)) h
    | _, _ => False) := id rfl
theorem eff_appso (e q : Nat) (y : Opd) (fr : Fr) (h : Hp) (R : AV → Hp → Prop) : eff P (.appso e q y) fr h R = (match lk fr q, ev fr y with
    | some (.lst (.own e') n l), some (.str s) => (e' = e ∧ n + s.size ≤ 140737488355328) ∧ R (.lst (.own e) (n + s.size) (l ++ s.data.toList.map fun b => AV.int .u8 b.toNat)) h
    | _, _ => False) := id rfl
theorem wop_bar (d : Option Nat) (s : Nat) (t : List AV) (ps : List (Nat × Nat × Opd)) (fr : Fr) (h : Hp) (K : Fr → Hp → Prop) : wop P d (.bar s t ps) fr h K = (buildK fr t ps (fun l => K (put d (.agg l) fr) h)) := id rfl
theorem wop_bslc (d : Option Nat) (e s n : Nat) (t : List AV) (ps : List (Nat × Nat × Opd)) (fr : Fr) (h : Hp) (K : Fr → Hp → Prop) : wop P d (.bslc e s n t ps) fr h K = (buildK fr t ps (fun l => K (put d (.lst .clip n l) fr) h)) := id rfl
theorem wop_b2h (d : Option Nat) (x : Opd) (fr : Fr) (h : Hp) (K : Fr → Hp → Prop) : wop P d (.b2h x) fr h K = (match (ev fr x).bind (rowB h) with
    | some (n, l) => ∃ bs : List UInt8, l = bs.map (fun b => AV.int .u8 b.toNat) ∧ n = bs.length ∧ K (put d (.str ⟨bs.toArray⟩) fr) h
    | _ => False) := id rfl
theorem rowB_lst (h : Hp) (f : Fl) (m : Nat) (l : List AV) : rowB h (.lst f m l) = some (m, l) := id rfl
theorem rowB_hsc (h : Hp) (i' m c : Nat) : rowB h (.hsc i' m c) = (match h[i']? with
    | some (some (_, l)) => if m ≤ l.length then some (m, l.take m) else none
    | _ => none) := id rfl
theorem wop_bsh (d : Option Nat) (e s n : Nat) (t : List AV) (ps : List (Nat × Nat × Opd)) (fr : Fr) (h : Hp) (K : Fr → Hp → Prop) : wop P d (.bsh e s n t ps) fr h K = (buildK fr t ps (fun l => K (put d (.hs h.length n) fr) (h ++ [some (false, l)]))) := id rfl
theorem wop_store (d : Option Nat) (n : Nat) (a x : Opd) (fr : Fr) (h : Hp) (K : Fr → Hp → Prop) : wop P d (.store n a x) fr h K = (match ev fr a, ev fr x with
    | some (.ptr id off), some v => (match h[id]? with
      | some (some (false, l)) => (isTup v = false ∧ (cellsOf v).length = n ∧ off + n ≤ l.length) ∧ K fr (h.set id (some (false, splice l off (cellsOf v))))
      | _ => False)
    | _, _ => False) := id rfl
theorem wop_storeo (d : Option Nat) (a : Opd) (q : Nat) (fr : Fr) (h : Hp) (K : Fr → Hp → Prop) : wop P d (.storeo a q) fr h K = (match ev fr a, lk fr q with
    | some (.ptr id off), some (.lst (.own e) n c) => (match h[id]? with
      | some (some (false, l)) => off < l.length ∧ K (degr q fr) (h.set id (some (false, l.set off (.lst (.own e) n c))))
      | _ => False)
    | _, _ => False) := id rfl
theorem wop_stores (d : Option Nat) (n : Nat) (a x : Opd) (fr : Fr) (h : Hp) (K : Fr → Hp → Prop) : wop P d (.stores n a x) fr h K = (match ev fr a, ev fr x with
    | some (.ptr id off), some v => (match h[id]? with
      | some (some (false, l)) => (isTup v = false ∧ (cellsOf v).length = n ∧ off + n ≤ l.length) ∧ K fr (h.set id (some (true, splice l off (cellsOf v))))
      | _ => False)
    | _, _ => False) := id rfl
theorem eff_store (n : Nat) (a x : Opd) (fr : Fr) (h : Hp) (R : AV → Hp → Prop) : eff P (.store n a x) fr h R = (match ev fr a, ev fr x with
    | some (.ptr id off), some v => (match h[id]? with
      | some (some (false, l)) => (isTup v = false ∧ (cellsOf v).length = n ∧ off + n ≤ l.length) ∧ R .nilp (h.set id (some (false, splice l off (cellsOf v))))
      | _ => False)
    | _, _ => False) := id rfl
theorem eff_storeo (a : Opd) (q : Nat) (fr : Fr) (h : Hp) (R : AV → Hp → Prop) : eff P (.storeo a q) fr h R = (match ev fr a, lk fr q with
    | some (.ptr id off), some (.lst (.own e) n c) => (match h[id]? with
      | some (some (false, l)) => off < l.length ∧ R .nilp (h.set id (some (false, l.set off (.lst (.own e) n c))))
      | _ => False)
    | _, _ => False) := id rfl
theorem eff_stores (n : Nat) (a x : Opd) (fr : Fr) (h : Hp) (R : AV → Hp → Prop) : eff P (.stores n a x) fr h R = (match ev fr a, ev fr x with
    | some (.ptr id off), some v => (match h[id]? with
      | some (some (false, l)) => (isTup v = false ∧ (cellsOf v).length = n ∧ off + n ≤ l.length) ∧ R .nilp (h.set id (some (true, splice l off (cellsOf v))))
      | _ => False)
    | _, _ => False) := id rfl
theorem wop_call (d : Option Nat) (f : Opd) (l : List Opd) (fr : Fr) (h : Hp) (K : Fr → Hp → Prop) : wop P d (.call f l) fr h K = (match ev fr f, evs fr l with
    | some (.fn f' caps), some l => ACalls P f' (l ++ caps) h (kcall d fr K)
    | some (.fnb f' bnd), some l => ACalls P f' (bnd ++ l) h (kcall d fr K)
    | _, _ => False) := id rfl
theorem eff_call (f : Opd) (l : List Opd) (fr : Fr) (h : Hp) (R : AV → Hp → Prop) : eff P (.call f l) fr h R = (match ev fr f, evs fr l with
    | some (.fn f' caps), some l => ∃ v, PCalls P f' (l ++ caps) v ∧ R v h
    | _, _ => False) := id rfl
theorem wop_calli (d : Option Nat) (f : Opd) (l : List Opd) (fr : Fr) (h : Hp) (K : Fr → Hp → Prop) : wop P d (.calli f l) fr h K = (match ev fr f, evs fr l with
    | some (.fn f' caps), some l => ACalls P f' (l ++ caps) h (kcall d fr K)
    | _, _ => False) := id rfl
theorem eff_calli (f : Opd) (l : List Opd) (fr : Fr) (h : Hp) (R : AV → Hp → Prop) : eff P (.calli f l) fr h R = (match ev fr f, evs fr l with
    | some (.fn f' caps), some l => ∃ v hv, ACalls P f' (l ++ caps) h (fun a h' => a = v ∧ h' = hv) ∧ SealEq h hv ∧ R v hv
    | _, _ => False) := id rfl
theorem wop_snil (d : Option Nat) (n : Bool) (x : Opd) (fr : Fr) (h : Hp) (K : Fr → Hp → Prop) : wop P d (.snil n x) fr h K = (match ev fr x with
    | some (.lst _ m _) => K (put d (.bool n) fr) h ∧ (m = 0 → K (put d (.bool (!n)) fr) h)
    | some (.hs _ _) => K (put d (.bool n) fr) h
    | some (.hsc _ _ _) => K (put d (.bool n) fr) h
    | _ => False) := id rfl
theorem eff_snil (n : Bool) (x : Opd) (fr : Fr) (h : Hp) (R : AV → Hp → Prop) : eff P (.snil n x) fr h R = (match ev fr x with
    | some (.lst _ m _) => m ≠ 0 ∧ R (.bool n) h
    | some (.hs _ _) => R (.bool n) h
    | some (.hsc _ _ _) => R (.bool n) h
    | _ => False) := id rfl
theorem wop_storeu (d : Option Nat) (n : Nat) (u : List (Nat × Nat × Nat)) (a x : Opd) (fr : Fr) (h : Hp) (K : Fr → Hp → Prop) : wop P d (.storeu n u a x) fr h K = (match ev fr a, ev fr x with
    | some (.ptr id 0), some v => (match h[id]? with
      | some (some (false, l)) => (isTup v = false ∧ (cellsOf v).length = n ∧ n ≤ l.length) ∧ upgK u (cellsOf v) (fun l' => K fr (h.set id (some (false, splice l 0 l'))))
      | _ => False)
    | _, _ => False) := id rfl
theorem wop_rngs (d : Option Nat) (x : Opd) (fr : Fr) (h : Hp) (K : Fr → Hp → Prop) : wop P d (.rngs x) fr h K = (match ev fr x with
    | some (.str s) => K (put d (.itr s 0) fr) h
    | _ => False) := id rfl
theorem wop_nxt (d : Option Nat) (k : Nat) (fr : Fr) (h : Hp) (K : Fr → Hp → Prop) : wop P d (.nxt k) fr h K = (match lk fr k with
    | some (.itr s pos) => if pos < s.size then K (put d (.tup [.bool true, .int .i64 pos, .int .i32 (Utf8.decode s pos).1]) ((k, .itr s (pos + (Utf8.decode s pos).2)) :: fr)) h else K (put d (.tup [.bool false]) fr) h
    | _ => False) := id rfl
theorem tk_mv (x : Opd) (fr : Fr) : tk (.mv x) fr = fr := id rfl
theorem tk_pick (c x y : Opd) (fr : Fr) : tk (.pick c x y) fr = fr := id rfl
theorem tk_build (t : List AV) (ps : List (Nat × Nat × Opd)) (fr : Fr) : tk (.build t ps) fr = fr := id rfl
theorem tk_load (s : Option Nat) (x : Opd) (fr : Fr) : tk (.load s x) fr = fr := id rfl
theorem tk_lds (s : Option Nat) (x : Opd) (fr : Fr) : tk (.lds s x) fr = fr := id rfl
theorem tk_nilck (x : Opd) (fr : Fr) : tk (.nilck x) fr = fr := id rfl
theorem tk_bin (op : BinOp) (x y : Opd) (fr : Fr) : tk (.bin op x y) fr = fr := id rfl
theorem tk_pnil (n : Bool) (x : Opd) (fr : Fr) : tk (.pnil n x) fr = fr := id rfl
theorem tk_bbin (n : Bool) (x y : Opd) (fr : Fr) : tk (.bbin n x y) fr = fr := id rfl
theorem tk_not (x : Opd) (fr : Fr) : tk (.not x) fr = fr := id rfl
theorem tk_conv (i : IntKind) (x : Opd) (fr : Fr) : tk (.conv i x) fr = fr := id rfl
theorem tk_cstr (x : Opd) (fr : Fr) : tk (.cstr x) fr = fr := id rfl
theorem tk_b2s (x : Opd) (fr : Fr) : tk (.b2s x) fr = fr := id rfl
theorem tk_fld (o : Nat) (x : Opd) (fr : Fr) : tk (.fld o x) fr = fr := id rfl
theorem tk_idxa (s : Nat) (x y : Opd) (fr : Fr) : tk (.idxa s x y) fr = fr := id rfl
theorem tk_idxs (x y : Opd) (fr : Fr) : tk (.idxs x y) fr = fr := id rfl
theorem tk_slcs (x : Opd) (lo hi : Option Opd) (fr : Fr) : tk (.slcs x lo hi) fr = fr := id rfl
theorem tk_slcl (s : Nat) (x : Opd) (lo hi mx : Option Opd) (fr : Fr) : tk (.slcl s x lo hi mx) fr = fr := id rfl
theorem tk_ext (i : Nat) (x : Opd) (fr : Fr) : tk (.ext i x) fr = fr := id rfl
theorem tk_lens (x : Opd) (fr : Fr) : tk (.lens x) fr = fr := id rfl
theorem tk_lenl (x : Opd) (fr : Fr) : tk (.lenl x) fr = fr := id rfl
theorem tk_mn (x y : Opd) (fr : Fr) : tk (.mn x y) fr = fr := id rfl
theorem tk_mx (x y : Opd) (fr : Fr) : tk (.mx x y) fr = fr := id rfl
theorem tk_ex (e : Ex) (xs : List Opd) (fr : Fr) : tk (.ex e xs) fr = fr := id rfl
theorem tk_mkfn (f : FuncId) (c : List Opd) (fr : Fr) : tk (.mkfn f c) fr = fr := id rfl
theorem tk_mvu (e s : Nat) (x : Opd) (fr : Fr) : tk (.mvu e s x) fr = fr := id rfl
theorem tk_mvo (q : Nat) (fr : Fr) : tk (.mvo q) fr = degr q fr := id rfl
theorem tk_new (l : List AV) (u : List (Nat × Nat × Nat)) (fr : Fr) : tk (.new l u) fr = fr := id rfl
theorem tk_box (x : Opd) (u : List (Nat × Nat × Nat)) (fr : Fr) : tk (.box x u) fr = fr := id rfl
theorem tk_bsl (e s n : Nat) (t : List AV) (ps : List (Nat × Nat × Opd)) (fr : Fr) : tk (.bsl e s n t ps) fr = fr := id rfl
theorem tk_mk0 (e s b : Nat) (c : Opd) (fr : Fr) : tk (.mk0 e s b c) fr = fr := id rfl
theorem tk_mkn (e s b : Nat) (z : List AV) (c : Opd) (fr : Fr) : tk (.mkn e s b z c) fr = fr := id rfl
theorem tk_loado (x : Opd) (fr : Fr) : tk (.loado x) fr = fr := id rfl
theorem tk_app (e s b : Nat) (x y : Opd) (fr : Fr) : tk (.app e s b x y) fr = fr := id rfl
theorem tk_appo (e s b q : Nat) (y : Opd) (fr : Fr) : tk (.appo e s b q y) fr = degr q fr := id rfl
theorem tk_appso (e q : Nat) (y : Opd) (fr : Fr) : tk (.appso e q y) fr = degr q fr := id rfl
theorem tk_store (n : Nat) (a x : Opd) (fr : Fr) : tk (.store n a x) fr = fr := id rfl
theorem tk_storeo (a : Opd) (q : Nat) (fr : Fr) : tk (.storeo a q) fr = degr q fr := id rfl
theorem tk_call (f : Opd) (l : List Opd) (fr : Fr) : tk (.call f l) fr = fr := id rfl
theorem tk_stores (n : Nat) (a x : Opd) (fr : Fr) : tk (.stores n a x) fr = fr := id rfl
theorem tk_calli (f : Opd) (l : List Opd) (fr : Fr) : tk (.calli f l) fr = fr := id rfl
theorem tk_snil (n : Bool) (x : Opd) (fr : Fr) : tk (.snil n x) fr = fr := id rfl
theorem ex_wadd (k : IntKind) (x y : Int) : exF (.binw .add) [.int k x, .int k y] = some (.int k (k.wrap (x + y))) := by simp [exF, exF0]
theorem ex_wsub (k : IntKind) (x y : Int) : exF (.binw .sub) [.int k x, .int k y] = some (.int k (k.wrap (x - y))) := by simp [exF, exF0]
theorem ex_wmul (k : IntKind) (x y : Int) : exF (.binw .mul) [.int k x, .int k y] = some (.int k (k.wrap (x * y))) := by simp [exF, exF0]
theorem ex_aeq (n : Bool) (ks : List Nat) (l m : List AV) : exF (.aeq n ks) [.agg l, .agg m] = (eqCells ks l m).map (fun r => .bool (if n then !r else r)) := id rfl
theorem ex_r2s (k : IntKind) (n : Int) : exF .r2s [.int k n] = some (.str (Utf8.encode n)) := id rfl
theorem ex_ibs (s : ByteArray) (c : Int) : exF .ibs [.str s, .int .u8 c] = some (.int .i64 (indexByte s.data.toList c.toNat.toUInt8)) := id rfl
theorem ex_mkb (f : FuncId) (l : List AV) : exF (.mkb f) l = some (.fnb f l) := id rfl
theorem deg_itr (s : ByteArray) (p : Nat) : deg (.itr s p) = .opq := id rfl
theorem wop_mmk (d : Option Nat) (fr : Fr) (h : Hp) (K : Fr → Hp → Prop) : wop P d .mmk fr h K = (∀ b, K (put d (.omp b [] []) fr) h) := id rfl
theorem wop_mup (d : Option Nat) (st : Bool) (k : Nat) (m x y : Opd) (fr : Fr) (h : Hp) (K : Fr → Hp → Prop) : wop P d (.mup st k m x y) fr h K = (match lk fr k, ev fr m, ev fr x, ev fr y with
    | some (.omp q ks vs), some (.mp q'), some a, some b => (q' = q ∧ (isKey st a && ks.all (kSame a) && (pv b).isSome) = true) ∧ K ((k, .omp q (mKeys a ks) (mVals a b ks vs)) :: fr) h
    | _, _, _, _ => False) := id rfl
theorem wop_mfz (d : Option Nat) (q : Nat) (fr : Fr) (h : Hp) (K : Fr → Hp → Prop) : wop P d (.mfz q) fr h K = (match lk fr q with
    | some (.omp _ ks vs) => K (put d (.fmp ks vs) (degr q fr)) h
    | _ => False) := id rfl
theorem wop_mmv (d : Option Nat) (q : Nat) (fr : Fr) (h : Hp) (K : Fr → Hp → Prop) : wop P d (.mmv q) fr h K = (match lk fr q with
    | some (.omp b ks vs) => K (put d (.omp b ks vs) (degr q fr)) h
    | _ => False) := id rfl
theorem wop_mra (d : Option Nat) (q : Nat) (fr : Fr) (h : Hp) (K : Fr → Hp → Prop) : wop P d (.mra q) fr h K = (match lk fr q with
    | some (.omp b _ _) => K (put d (.mp b) fr) h
    | _ => False) := id rfl
theorem wop_cpy (d : Option Nat) (sz : Nat) (x y : Opd) (fr : Fr) (h : Hp) (K : Fr → Hp → Prop) : wop P d (.cpy sz x y) fr h K = (match ev fr x, ev fr y with
    | some (.hs id n), some (.lst _ m l') => (match h[id]? with
      | some (some (false, l)) => (l'.length = m * sz ∧ n * sz ≤ l.length) ∧ K (put d (.int .i64 (min m n : Nat)) fr) (h.set id (some (false, splice l 0 (l'.take (min m n * sz)))))
      | _ => False)
    | _, _ => False) := id rfl
theorem eff_cpy (sz : Nat) (x y : Opd) (fr : Fr) (h : Hp) (R : AV → Hp → Prop) : eff P (.cpy sz x y) fr h R = (match ev fr x, ev fr y with
    | some (.hs id n), some (.lst _ m l') => (match h[id]? with
      | some (some (false, l)) => (l'.length = m * sz ∧ n * sz ≤ l.length) ∧ R (.int .i64 (min m n : Nat)) (h.set id (some (false, splice l 0 (l'.take (min m n * sz)))))
      | _ => False)
    | _, _ => False) := id rfl
theorem tk_cpy (sz : Nat) (x y : Opd) (fr : Fr) : tk (.cpy sz x y) fr = fr := id rfl
theorem ex_zag (z : List AV) : exF (.zag z) [] = some (.agg z) := id rfl
theorem wop_apc (d : Option Nat) (e sz bytes : Nat) (zero : List AV) (x y : Opd) (fr : Fr) (h : Hp) (K : Fr → Hp → Prop) : wop P d (.apc e sz bytes zero x y) fr h K = (match ev fr x, (ev fr y).bind (rowA h sz) with
    | some (.lst .clip n l), some (m, l') => (l.length = n * sz ∧ l'.length = m * sz ∧ n + m ≤ 9223372036854775807 ∧ (n + m) * bytes ≤ 140737488355328) ∧ (m = 0 → K (put d (.lst .clip n l) fr) h) ∧ (0 < m → ∀ k : Nat, K (put d (.hsc h.length (n + m) (n + m + k)) fr) (h ++ [some (false, (l ++ l') ++ zrow zero sz (k * sz))]))
    | some (.hsc id n c), some (m, l') => (match h[id]?, isLst (ev fr y) with
      | some (some (false, l)), true => (l.length = c * sz ∧ l'.length = m * sz ∧ 0 < m ∧ n ≤ c ∧ n + m ≤ 9223372036854775807 ∧ (n + m) * bytes ≤ 140737488355328) ∧ (n + m ≤ c → K (put d (.hsc id (n + m) c) fr) (h.set id (some (false, splice l (n * sz) l')))) ∧ (c < n + m → ∀ k : Nat, K (put d (.hsc h.length (n + m) (n + m + k)) fr) (h ++ [some (false, ((l.take (n * sz)).map deg ++ l') ++ zrow zero sz (k * sz))]))
      | _, _ => False)
    | _, _ => False) := id rfl
theorem obind (a : AV) (f : AV → Option (Nat × List AV)) : (some a).bind f = f a := id rfl
theorem rowA_lst (h : Hp) (sz : Nat) (f : Fl) (m : Nat) (l : List AV) : rowA h sz (.lst f m l) = some (m, l) := id rfl
theorem isLst_lst (f : Fl) (m : Nat) (l : List AV) : isLst (some (.lst f m l)) = true := id rfl
theorem rowA_hs (h : Hp) (sz i' m : Nat) : rowA h sz (.hs i' m) = (match h[i']? with
    | some (some (_, l)) => if m * sz ≤ l.length then some (m, (l.take (m * sz)).map deg) else none
    | _ => none) := id rfl
theorem wop_slch (d : Option Nat) (sz : Nat) (x j : Opd) (fr : Fr) (h : Hp) (K : Fr → Hp → Prop) : wop P d (.slch sz x j) fr h K = (match ev fr x, ev fr j with
    | some (.hsc id n c), some (.int _ j) => (0 ≤ j ∧ j ≤ n) ∧ K (put d (.hsc id j.toNat c) fr) h
    | _, _ => False) := id rfl
theorem wop_aph (d : Option Nat) (e sz bytes : Nat) (x y : Opd) (fr : Fr) (h : Hp) (K : Fr → Hp → Prop) : wop P d (.aph e sz bytes x y) fr h K = (match ev fr x, ev fr y with
    | some (.lst .clip n l), some (.hs id m) => (match h[id]? with
      | some (some (_, l')) => (l.length = n * sz ∧ m * sz ≤ l'.length ∧ n + m ≤ 9223372036854775807 ∧ (n + m) * bytes ≤ 140737488355328) ∧ K (put d (.lst (.own e) (n + m) (l ++ (l'.take (m * sz)).map deg)) fr) h
      | _ => False)
    | _, _ => False) := id rfl
theorem ex_mlk (st ag : Bool) (z : List AV) (ok : Bool) (l : List AV) : exF (.mlk st ag z ok) l = mlkF st ag z ok l := id rfl
theorem ex_idp (sz n : Nat) (l : List AV) : exF (.idp sz n) l = idpF sz n l := id rfl
theorem ex_sla (n : Nat) (l : List AV) : exF (.sla n) l = slaF n l := id rfl
theorem deg_omp (b : Nat) (ks vs : List AV) : deg (.omp b ks vs) = .mp b := id rfl
theorem deg_mp (b : Nat) : deg (.mp b) = .mp b := id rfl
theorem isTup_mp (b : Nat) : isTup (.mp b) = false := id rfl
theorem cellsOf_mp (b : Nat) : cellsOf (.mp b) = [.mp b] := id rfl
theorem deg_fmp (ks vs : List AV) : deg (.fmp ks vs) = .fmp ks vs := id rfl
theorem isTup_fmp (ks vs : List AV) : isTup (.fmp ks vs) = false := id rfl
theorem cellsOf_fmp (ks vs : List AV) : cellsOf (.fmp ks vs) = [.fmp ks vs] := id rfl
theorem int_add (i j : IntKind) (x y : Int) (K : AV → Prop) : bin2 .add (.int i x) (.int j y) K = (i = j ∧ arith i (x + y) K) := id rfl
theorem int_sub (i j : IntKind) (x y : Int) (K : AV → Prop) : bin2 .sub (.int i x) (.int j y) K = (i = j ∧ arith i (x - y) K) := id rfl
theorem int_mul (i j : IntKind) (x y : Int) (K : AV → Prop) : bin2 .mul (.int i x) (.int j y) K = (i = j ∧ arith i (x * y) K) := id rfl
theorem int_quo (i j : IntKind) (x y : Int) (K : AV → Prop) : bin2 .quo (.int i x) (.int j y) K = (i = j ∧ y ≠ 0 ∧ arith i (x.tdiv y) K) := id rfl
theorem int_rem (i j : IntKind) (x y : Int) (K : AV → Prop) : bin2 .rem (.int i x) (.int j y) K = (i = j ∧ y ≠ 0 ∧ K (.int i (x.tmod y))) := id rfl
theorem int_and (i j : IntKind) (x y : Int) (K : AV → Prop) : bin2 .and (.int i x) (.int j y) K = (i = j ∧ K (.int i (bitV .and i x y))) := id rfl
theorem int_andNot (i j : IntKind) (x y : Int) (K : AV → Prop) : bin2 .andNot (.int i x) (.int j y) K = (i = j ∧ K (.int i (bitV .andNot i x y))) := id rfl
theorem int_or (i j : IntKind) (x y : Int) (K : AV → Prop) : bin2 .or (.int i x) (.int j y) K = (i = j ∧ K (.int i (bitV .or i x y))) := id rfl
theorem int_xor (i j : IntKind) (x y : Int) (K : AV → Prop) : bin2 .xor (.int i x) (.int j y) K = (i = j ∧ K (.int i (bitV .xor i x y))) := id rfl
theorem int_eql (i j : IntKind) (x y : Int) (K : AV → Prop) : bin2 .eql (.int i x) (.int j y) K = (i = j ∧ K (.bool (decide (x = y)))) := id rfl
theorem int_neq (i j : IntKind) (x y : Int) (K : AV → Prop) : bin2 .neq (.int i x) (.int j y) K = (i = j ∧ K (.bool (decide (x ≠ y)))) := id rfl
theorem int_lss (i j : IntKind) (x y : Int) (K : AV → Prop) : bin2 .lss (.int i x) (.int j y) K = (i = j ∧ K (.bool (decide (x < y)))) := id rfl
theorem int_leq (i j : IntKind) (x y : Int) (K : AV → Prop) : bin2 .leq (.int i x) (.int j y) K = (i = j ∧ K (.bool (decide (x ≤ y)))) := id rfl
theorem int_gtr (i j : IntKind) (x y : Int) (K : AV → Prop) : bin2 .gtr (.int i x) (.int j y) K = (i = j ∧ K (.bool (decide (y < x)))) := id rfl
theorem int_geq (i j : IntKind) (x y : Int) (K : AV → Prop) : bin2 .geq (.int i x) (.int j y) K = (i = j ∧ K (.bool (decide (y ≤ x)))) := id rfl
theorem int_shl (i j : IntKind) (x y : Int) (K : AV → Prop) : bin2 .shl (.int i x) (.int j y) K = (0 ≤ y ∧ K (.int i (i.wrap (x * 2 ^ (min y.toNat i.bits))))) := id rfl
theorem int_shr (i j : IntKind) (x y : Int) (K : AV → Prop) : bin2 .shr (.int i x) (.int j y) K = (0 ≤ y ∧ K (.int i (x.fdiv (2 ^ (min y.toNat i.bits))))) := id rfl
theorem str_add (x y : ByteArray) (K : AV → Prop) : bin2 .add (.str x) (.str y) K = (x.size + y.size ≤ 9223372036854775807 ∧ K (.str (x ++ y))) := id rfl
theorem str_eql (x y : ByteArray) (K : AV → Prop) : bin2 .eql (.str x) (.str y) K = (K (.bool (decide (x = y)))) := id rfl
theorem str_neq (x y : ByteArray) (K : AV → Prop) : bin2 .neq (.str x) (.str y) K = (K (.bool (decide (x ≠ y)))) := id rfl
theorem str_lss (x y : ByteArray) (K : AV → Prop) : bin2 .lss (.str x) (.str y) K = (K (.bool (Op.bytesLess x.toList y.toList))) := id rfl
theorem arith_i8 (z : Int) (K : AV → Prop) : arith .i8 z K = K (.int .i8 (IntKind.i8.wrap z)) := id rfl
theorem arith_i16 (z : Int) (K : AV → Prop) : arith .i16 z K = K (.int .i16 (IntKind.i16.wrap z)) := id rfl
theorem arith_i32 (z : Int) (K : AV → Prop) : arith .i32 z K = K (.int .i32 (IntKind.i32.wrap z)) := id rfl
theorem arith_u8 (z : Int) (K : AV → Prop) : arith .u8 z K = K (.int .u8 (IntKind.u8.wrap z)) := id rfl
theorem arith_u16 (z : Int) (K : AV → Prop) : arith .u16 z K = K (.int .u16 (IntKind.u16.wrap z)) := id rfl
theorem arith_u32 (z : Int) (K : AV → Prop) : arith .u32 z K = K (.int .u32 (IntKind.u32.wrap z)) := id rfl
theorem arith_u64 (z : Int) (K : AV → Prop) : arith .u64 z K = K (.int .u64 (IntKind.u64.wrap z)) := id rfl
theorem arith_i64 (z : Int) (K : AV → Prop) : arith .i64 z K = (inR z ∧ K (.int .i64 z)) := id rfl
theorem loadK_none (a : AV) (l : List AV) (K : AV → Prop) : loadK none (a :: l) K = K (deg a) := id rfl
theorem loadK_some (n : Nat) (l : List AV) (K : AV → Prop) : loadK (some n) l K = (n ≤ l.length ∧ K (.agg ((l.take n).map deg))) := id rfl
theorem deg_bool (b : Bool) : deg (.bool b) = (.bool b) := id rfl
theorem isTup_bool (b : Bool) : isTup (.bool b) = false := id rfl
theorem cellsOf_bool (b : Bool) : cellsOf (.bool b) = [.bool b] := id rfl
theorem deg_int (i : IntKind) (n : Int) : deg (.int i n) = (.int i n) := id rfl
theorem isTup_int (i : IntKind) (n : Int) : isTup (.int i n) = false := id rfl
theorem cellsOf_int (i : IntKind) (n : Int) : cellsOf (.int i n) = [.int i n] := id rfl
theorem deg_str (s : ByteArray) : deg (.str s) = (.str s) := id rfl
theorem isTup_str (s : ByteArray) : isTup (.str s) = false := id rfl
theorem cellsOf_str (s : ByteArray) : cellsOf (.str s) = [.str s] := id rfl
theorem deg_nilp  : deg .nilp = .nilp := id rfl
theorem isTup_nilp  : isTup .nilp = false := id rfl
theorem cellsOf_nilp  : cellsOf .nilp = [.nilp] := id rfl
theorem deg_ptr (i o : Nat) : deg (.ptr i o) = (.ptr i o) := id rfl
theorem isTup_ptr (i o : Nat) : isTup (.ptr i o) = false := id rfl
theorem cellsOf_ptr (i o : Nat) : cellsOf (.ptr i o) = [.ptr i o] := id rfl
theorem deg_fp (l : List AV) : deg (.fp l) = (.fp l) := id rfl
theorem isTup_fp (l : List AV) : isTup (.fp l) = false := id rfl
theorem cellsOf_fp (l : List AV) : cellsOf (.fp l) = [.fp l] := id rfl
theorem deg_hs (i n : Nat) : deg (.hs i n) = (.hs i n) := id rfl
theorem isTup_hs (i n : Nat) : isTup (.hs i n) = false := id rfl
theorem cellsOf_hs (i n : Nat) : cellsOf (.hs i n) = [.hs i n] := id rfl
theorem deg_hsc (i n c : Nat) : deg (.hsc i n c) = (.hsc i n c) := id rfl
theorem isTup_hsc (i n c : Nat) : isTup (.hsc i n c) = false := id rfl
theorem cellsOf_hsc (i n c : Nat) : cellsOf (.hsc i n c) = [.hsc i n c] := id rfl
theorem deg_agg (l : List AV) : deg (.agg l) = (.agg l) := id rfl
theorem isTup_agg (l : List AV) : isTup (.agg l) = false := id rfl
theorem cellsOf_agg (l : List AV) : cellsOf (.agg l) = l := id rfl
theorem deg_tup (l : List AV) : deg (.tup l) = (.tup l) := id rfl
theorem isTup_tup (l : List AV) : isTup (.tup l) = true := id rfl
theorem cellsOf_tup (l : List AV) : cellsOf (.tup l) = [.tup l] := id rfl
theorem deg_fn (f : FuncId) (l : List AV) : deg (.fn f l) = (.fn f l) := id rfl
theorem isTup_fn (f : FuncId) (l : List AV) : isTup (.fn f l) = false := id rfl
theorem cellsOf_fn (f : FuncId) (l : List AV) : cellsOf (.fn f l) = [.fn f l] := id rfl
theorem deg_fnb (f : FuncId) (l : List AV) : deg (.fnb f l) = (.fnb f l) := id rfl
theorem isTup_fnb (f : FuncId) (l : List AV) : isTup (.fnb f l) = false := id rfl
theorem cellsOf_fnb (f : FuncId) (l : List AV) : cellsOf (.fnb f l) = [.fnb f l] := id rfl
theorem deg_nilf  : deg .nilf = .nilf := id rfl
theorem isTup_nilf  : isTup .nilf = false := id rfl
theorem cellsOf_nilf  : cellsOf .nilf = [.nilf] := id rfl
theorem deg_opq  : deg .opq = .opq := id rfl
theorem isTup_opq  : isTup .opq = false := id rfl
theorem cellsOf_opq  : cellsOf .opq = [.opq] := id rfl
theorem deg_frn (Q : World → Value → Prop) : deg (.frn Q) = (.frn Q) := id rfl
theorem isTup_frn (Q : World → Value → Prop) : isTup (.frn Q) = false := id rfl
theorem cellsOf_frn (Q : World → Value → Prop) : cellsOf (.frn Q) = [.frn Q] := id rfl
theorem deg_ro (n : Nat) (l : List AV) : deg (.lst .ro n l) = .lst .ro n l := id rfl
theorem deg_clip (n : Nat) (l : List AV) : deg (.lst .clip n l) = .lst .clip n l := id rfl
theorem deg_own (e : TypeId) (n : Nat) (l : List AV) : deg (.lst (.own e) n l) = .lst .ro n l := id rfl
theorem isTup_lst (f : Fl) (n : Nat) (l : List AV) : isTup (.lst f n l) = false := id rfl
theorem cellsOf_lst (f : Fl) (n : Nat) (l : List AV) : cellsOf (.lst f n l) = [.lst f n l] := id rfl
end
end Go.Proofs.Ytpiofcjkekpboaa

/- The abstract layer: branches that are not taken are not walked. -/
namespace Go.Proofs.Ytpiofcjkekpboaa
set_option linter.unusedSimpArgs false
set_option linter.unusedVariables false
open Go.RowKit Go.Lib

theorem sel (p : Bool) (A B : Prop) : ((p = true → A) ∧ (p = false → B)) = (if p = true then A else B) := by cases p <;> simp
theorem selg (p want : Bool) (A B : Prop) : ((p = want → A) ∧ (p = !want → B)) = (if p = want then A else B) := by cases p <;> cases want <;> simp
theorem ite_and (c : Prop) [Decidable c] (A B : Prop) : (if c then A else B) = ((c → A) ∧ (¬ c → B)) := by
  by_cases h : c <;> simp [h]
theorem end_get (h : Hp) (x : Option (Bool × List AV)) : (h ++ [x])[h.length]? = some x := by simp
theorem end_set (h : Hp) (x y : Option (Bool × List AV)) : (h ++ [x]).set h.length y = h ++ [y] := by simp
section
variable (P : Program)
theorem W_cond2 (c : Opd) (a b : ACode) (fr : Fr) (h : Hp) (Q : Exit → Fr → Hp → Prop) : W P (.cond c a b) fr h Q = match ev fr c with
    | some (.bool p) => (if p = true then W P a fr h Q else W P b fr h Q)
    | _ => False := by
  rw [W_cond]
  simp only [sel] <;> rfl
theorem WOps_gd2 (d : Option Nat) (q : Nat) (want : Bool) (o : AOp) (f : Option (FB × List Nat)) (r : List AStm) (fr : Fr) (h : Hp) (K : Fr → Hp → Prop) : WOps P (⟨d, some (q, want), o, f⟩ :: r) fr h K = match lk fr q with
      | some (.bool p) => (if p = want then wop P d o ((q, .bool want) :: fr) h (kops P r K) else WOps P r (put d (.tup []) ((q, .bool (!want)) :: fr)) h K)
      | some (.tup []) => WOps P r (put d (.tup []) fr) h K
      | _ => False := by
  rw [WOps_gd']
  simp only [selg] <;> rfl
theorem VOps_gd2 (d : Option Nat) (q : Nat) (want : Bool) (o : AOp) (r : List AStm) (fr : Fr) (h : Hp) (K : Fr → Hp → Prop) : VOps P (⟨d, some (q, want), o, none⟩ :: r) fr h K = match lk fr q with
      | some (.bool p) => (if p = want then eff P o ((q, .bool want) :: fr) h (kput d o ((q, .bool want) :: fr) (kvops P r K)) else VOps P r (put d (.tup []) ((q, .bool (!want)) :: fr)) h K)
      | some (.tup []) => VOps P r (put d (.tup []) fr) h K
      | _ => False := by
  rw [VOps_gd']
  simp only [selg] <;> rfl
theorem VOps_gdft2 (d : Option Nat) (q : Nat) (want : Bool) (o : AOp) (b : FB) (ps : List Nat) (r : List AStm) (fr : Fr) (h : Hp) (K : Fr → Hp → Prop) : VOps P (⟨d, some (q, want), o, some (b, ps)⟩ :: r) fr h K = match lk fr q with
      | some (.bool p) => (if p = want then (apart ((q, .bool want) :: fr) (fbId b ((q, .bool want) :: fr) h) ps ∧ effF P b o ((q, .bool want) :: fr) h (kput d o ((q, .bool want) :: fr) (kvops P r K))) else VOps P r (put d (.tup []) ((q, .bool (!want)) :: fr)) h K)
      | some (.tup []) => VOps P r (put d (.tup []) fr) h K
      | _ => False := by
  rw [VOps_gdft']
  simp only [selg] <;> rfl
theorem wop_pick2 (d : Option Nat) (c x y : Opd) (fr : Fr) (h : Hp) (K : Fr → Hp → Prop) : wop P d (.pick c x y) fr h K = (match ev fr c with
    | some (.bool p) => (if p = true then (match ev fr x with
      | some a => K (put d a fr) h
      | none => False) else (match ev fr y with
      | some a => K (put d a fr) h
      | none => False))
    | _ => False) := by
  rw [wop_pick]
  simp only [sel] <;> rfl
theorem eff_pick2 (c x y : Opd) (fr : Fr) (h : Hp) (R : AV → Hp → Prop) : eff P (.pick c x y) fr h R = (match ev fr c with
    | some (.bool p) => (if p = true then (match ev fr x with
      | some a => R a h
      | none => False) else (match ev fr y with
      | some a => R a h
      | none => False))
    | _ => False) := by
  rw [eff_pick]
  simp only [sel] <;> rfl
end
end Go.Proofs.Ytpiofcjkekpboaa

/- The abstract layer: the walk's laws as one. (Written by bundle.py.) -/
namespace Go.Proofs.Ytpiofcjkekpboaa
set_option linter.unusedSimpArgs false
set_option linter.unusedVariables false
open Go.RowKit Go.Lib

theorem wk : type_of% (And.intro (And.intro (And.intro (And.intro (And.intro (And.intro (And.intro (And.intro (@W_skip) (And.intro (@W_scope) (@W_dead))) (And.intro (@kscope_normal) (And.intro (@kscope_exit) (@kscope_ret)))) (And.intro (And.intro (@W_ops) (And.intro (@W_draw) (@W_drax))) (And.intro (@kdrax_eq) (And.intro (@fOk_nil) (@fOk_fld))))) (And.intro (And.intro (And.intro (@fOk_mv) (And.intro (@fOk_ext) (@fOk_store))) (And.intro (@W_seq) (And.intro (@W_cond2) (@W_block)))) (And.intro (And.intro (@W_exit) (And.intro (@W_ret) (@W_keep))) (And.intro (And.intro (@kseq_normal) (@kseq_exit)) (And.intro (@kseq_ret) (@kblock_normal)))))) (And.intro (And.intro (And.intro (And.intro (@kblock_exit) (And.intro (@kblock_ret) (@kloop_normal))) (And.intro (@kloop_exit) (And.intro (@kloop_ret) (@kret_normal)))) (And.intro (And.intro (@kret_ret) (And.intro (@kdraw_eq) (@kval_eq))) (And.intro (@kv_eq) (And.intro (@kput_eq) (@kbox_eq))))) (And.intro (And.intro (And.intro (@kobj_eq) (And.intro (@klst_eq) (@krow_eq))) (And.intro (@kcall_eq) (And.intro (@put_some) (@put_none)))) (And.intro (And.intro (@lk_cons') (And.intro (@lk_nil) (@restr_nil))) (And.intro (And.intro (@restr_cons) (@ev_t)) (And.intro (@ev_c) (@ev_f))))))) (And.intro (And.intro (And.intro (And.intro (And.intro (@evs_nil) (And.intro (@evs_cons) (@evD_none))) (And.intro (@evD_some) (And.intro (@degr_nil) (@degr_cons)))) (And.intro (And.intro (@args0_nil) (And.intro (@args0_cons) (@buildK_nil))) (And.intro (@buildK_cons) (And.intro (@upgK_nil) (@upgK_cons))))) (And.intro (And.intro (And.intro (@resL_nil) (And.intro (@resL_t) (@resL_c))) (And.intro (@res1_one) (And.intro (@res1_nil) (@res1_two)))) (And.intro (And.intro (@WOps_nil') (And.intro (@WOps_cons') (@WOps_gd2))) (And.intro (And.intro (@kops_eq') (@VOps_nil')) (And.intro (@VOps_cons') (@VOps_gd2)))))) (And.intro (And.intro (And.intro (And.intro (@VOps_ft') (And.intro (@VOps_gdft2) (@apart_nil))) (And.intro (@apart_cons) (And.intro (@ptrId_ptr) (@ptrId_hs)))) (And.intro (And.intro (@sameId_eq) (And.intro (@fbId_s) (@fbId_h))) (And.intro (@effF_load) (And.intro (@effF_loado) (@effF_store))))) (And.intro (And.intro (And.intro (@effF_stores) (And.intro (@effF_storeo) (@effF_calli))) (And.intro (@effF_new) (And.intro (@effF_box) (@effF_mkn)))) (And.intro (And.intro (@W_holes) (And.intro (@rep2) (@rep3))) (And.intro (And.intro (@kvops_eq') (@splice_cons')) (And.intro (@splice_nil') (@wop_mv)))))))) (And.intro (And.intro (And.intro (And.intro (And.intro (And.intro (@eff_mv) (And.intro (@wop_pick2) (@eff_pick2))) (And.intro (@wop_build) (And.intro (@eff_build) (@wop_load)))) (And.intro (And.intro (@eff_load) (And.intro (@wop_lds) (@eff_lds))) (And.intro (@wop_nilck) (And.intro (@eff_nilck) (@wop_bin))))) (And.intro (And.intro (And.intro (@eff_bin) (And.intro (@wop_pnil) (@eff_pnil))) (And.intro (@wop_bbin) (And.intro (@eff_bbin) (@wop_not)))) (And.intro (And.intro (@eff_not) (And.intro (@wop_conv) (@eff_conv))) (And.intro (And.intro (@wop_cstr) (@eff_cstr)) (And.intro (@wop_b2s) (@eff_b2s)))))) (And.intro (And.intro (And.intro (And.intro (@wop_fld) (And.intro (@eff_fld) (@wop_idxa))) (And.intro (@eff_idxa) (And.intro (@wop_idxs) (@eff_idxs)))) (And.intro (And.intro (@wop_slcs) (And.intro (@eff_slcs) (@wop_slcl))) (And.intro (@eff_slcl) (And.intro (@wop_ext) (@eff_ext))))) (And.intro (And.intro (And.intro (@wop_lens) (And.intro (@eff_lens) (@wop_lenl))) (And.intro (@eff_lenl) (And.intro (@wop_mn) (@eff_mn)))) (And.intro (And.intro (@wop_mx) (And.intro (@eff_mx) (@wop_ex))) (And.intro (And.intro (@eff_ex) (@wop_mkfn)) (And.intro (@eff_mkfn) (@wop_mvu))))))) (And.intro (And.intro (And.intro (And.intro (And.intro (@eff_mvu) (And.intro (@wop_mvo) (@eff_mvo))) (And.intro (@wop_new) (And.intro (@eff_new) (@wop_box)))) (And.intro (And.intro (@eff_box) (And.intro (@wop_bsl) (@eff_bsl))) (And.intro (@wop_mk0) (And.intro (@eff_mk0) (@wop_mkn))))) (And.intro (And.intro (And.intro (@eff_mkn) (And.intro (@wop_loado) (@eff_loado))) (And.intro (@wop_app) (And.intro (@eff_app) (@wop_appo)))) (And.intro (And.intro (@eff_appo) (And.intro (@wop_appso) (@eff_appso))) (And.intro (And.intro (@wop_bar) (@wop_bslc)) (And.intro (@wop_b2h) (@rowB_lst)))))) (And.intro (And.intro (And.intro (And.intro (@rowB_hsc) (And.intro (@wop_bsh) (@wop_store))) (And.intro (@wop_storeo) (And.intro (@wop_stores) (@eff_store)))) (And.intro (And.intro (@eff_storeo) (And.intro (@eff_stores) (@wop_rngs))) (And.intro (@wop_nxt) (And.intro (@wop_call) (@eff_call))))) (And.intro (And.intro (And.intro (@wop_calli) (And.intro (@eff_calli) (@wop_snil))) (And.intro (@eff_snil) (And.intro (@wop_storeu) (@tk_mv)))) (And.intro (And.intro (@tk_pick) (And.intro (@tk_build) (@tk_load))) (And.intro (And.intro (@tk_lds) (@tk_nilck)) (And.intro (@tk_bin) (@tk_pnil))))))))) (And.intro (And.intro (And.intro (And.intro (And.intro (And.intro (And.intro (@tk_bbin) (And.intro (@tk_not) (@tk_conv))) (And.intro (@tk_cstr) (And.intro (@tk_b2s) (@tk_fld)))) (And.intro (And.intro (@tk_idxa) (And.intro (@tk_idxs) (@tk_slcs))) (And.intro (@tk_slcl) (And.intro (@tk_ext) (@tk_lens))))) (And.intro (And.intro (And.intro (@tk_lenl) (And.intro (@tk_mn) (@tk_mx))) (And.intro (@tk_ex) (And.intro (@tk_mkfn) (@tk_mvu)))) (And.intro (And.intro (@tk_mvo) (And.intro (@tk_new) (@tk_box))) (And.intro (And.intro (@tk_bsl) (@tk_mk0)) (And.intro (@tk_mkn) (@tk_loado)))))) (And.intro (And.intro (And.intro (And.intro (@tk_app) (And.intro (@tk_appo) (@tk_appso))) (And.intro (@tk_store) (And.intro (@tk_storeo) (@tk_call)))) (And.intro (And.intro (@tk_stores) (And.intro (@tk_calli) (@tk_snil))) (And.intro (@ex_wadd) (And.intro (@ex_wsub) (@ex_wmul))))) (And.intro (And.intro (And.intro (@ex_aeq) (And.intro (@ex_r2s) (@ex_ibs))) (And.intro (@ex_mkb) (And.intro (@deg_itr) (@ex_zag)))) (And.intro (And.intro (@wop_apc) (And.intro (@obind) (@rowA_lst))) (And.intro (And.intro (@isLst_lst) (@rowA_hs)) (And.intro (@wop_slch) (@wop_aph))))))) (And.intro (And.intro (And.intro (And.intro (And.intro (@wop_mmv) (And.intro (@wop_mra) (@wop_cpy))) (And.intro (@eff_cpy) (And.intro (@tk_cpy) (@deg_omp)))) (And.intro (And.intro (@deg_mp) (And.intro (@isTup_mp) (@cellsOf_mp))) (And.intro (@deg_fmp) (And.intro (@isTup_fmp) (@cellsOf_fmp))))) (And.intro (And.intro (And.intro (@wop_mmk) (And.intro (@wop_mup) (@wop_mfz))) (And.intro (@ex_mlk) (And.intro (@ex_idp) (@ex_sla)))) (And.intro (And.intro (@int_add) (And.intro (@int_sub) (@int_mul))) (And.intro (And.intro (@int_quo) (@int_rem)) (And.intro (@int_and) (@int_andNot)))))) (And.intro (And.intro (And.intro (And.intro (@int_or) (And.intro (@int_xor) (@int_eql))) (And.intro (@int_neq) (And.intro (@int_lss) (@int_leq)))) (And.intro (And.intro (@int_gtr) (And.intro (@int_geq) (@int_shl))) (And.intro (@int_shr) (And.intro (@str_add) (@str_eql))))) (And.intro (And.intro (And.intro (@str_neq) (And.intro (@str_lss) (@arith_i8))) (And.intro (@arith_i16) (And.intro (@arith_i32) (@arith_u8)))) (And.intro (And.intro (@arith_u16) (And.intro (@arith_u32) (@arith_u64))) (And.intro (And.intro (@arith_i64) (@loadK_none)) (And.intro (@loadK_some) (@deg_bool)))))))) (And.intro (And.intro (And.intro (And.intro (And.intro (And.intro (@isTup_bool) (And.intro (@cellsOf_bool) (@deg_int))) (And.intro (@isTup_int) (And.intro (@cellsOf_int) (@deg_str)))) (And.intro (And.intro (@isTup_str) (And.intro (@cellsOf_str) (@deg_nilp))) (And.intro (@isTup_nilp) (And.intro (@cellsOf_nilp) (@deg_ptr))))) (And.intro (And.intro (And.intro (@isTup_ptr) (And.intro (@cellsOf_ptr) (@deg_fp))) (And.intro (@isTup_fp) (And.intro (@cellsOf_fp) (@deg_hs)))) (And.intro (And.intro (@isTup_hs) (And.intro (@cellsOf_hs) (@deg_hsc))) (And.intro (And.intro (@isTup_hsc) (@cellsOf_hsc)) (And.intro (@deg_agg) (@isTup_agg)))))) (And.intro (And.intro (And.intro (And.intro (@cellsOf_agg) (And.intro (@deg_tup) (@isTup_tup))) (And.intro (@cellsOf_tup) (And.intro (@deg_fn) (@isTup_fn)))) (And.intro (And.intro (@cellsOf_fn) (And.intro (@deg_fnb) (@isTup_fnb))) (And.intro (@cellsOf_fnb) (And.intro (@deg_nilf) (@isTup_nilf))))) (And.intro (And.intro (And.intro (@cellsOf_nilf) (And.intro (@deg_opq) (@isTup_opq))) (And.intro (@cellsOf_opq) (And.intro (@deg_frn) (@isTup_frn)))) (And.intro (And.intro (@cellsOf_frn) (And.intro (@deg_ro) (@deg_clip))) (And.intro (And.intro (@deg_own) (@isTup_lst)) (And.intro (@cellsOf_lst) (@Option.map_some.{0, 0}))))))) (And.intro (And.intro (And.intro (And.intro (And.intro (@Option.map_none.{0, 0}) (And.intro (@Nat.zero_mul) (@Nat.add_zero))) (And.intro (@Nat.zero_add) (And.intro (@Nat.mul_one) (@Nat.succ_ne_self)))) (And.intro (And.intro (@Nat.one_ne_zero) (And.intro (@Nat.zero_ne_one) (@List.length_cons.{0}))) (And.intro (@List.length_nil.{0}) (And.intro (@List.set_cons_zero.{0}) (@List.set_cons_succ.{0}))))) (And.intro (And.intro (And.intro (@List.getElem?_cons_zero.{0}) (And.intro (@List.getElem?_cons_succ.{0}) (@List.getElem?_nil.{0}))) (And.intro (@List.drop_zero.{0}) (And.intro (@List.drop_succ_cons.{0}) (@List.take_succ_cons.{0})))) (And.intro (And.intro (@List.take_zero.{0}) (And.intro (@List.map_cons.{0, 0}) (@List.map_nil.{0, 0}))) (And.intro (And.intro (@List.nil_append.{0}) (@List.append_nil.{0})) (And.intro (@List.cons_append.{0}) (@Bool.not_true)))))) (And.intro (And.intro (And.intro (And.intro (@Bool.not_false) (And.intro (@Bool.true_eq_false) (@Bool.false_eq_true))) (And.intro (@true_and) (And.intro (@and_true) (@and_self)))) (And.intro (And.intro (@true_implies) (And.intro (@false_implies) (@Bool.not_eq_true'))) (And.intro (@Bool.not_eq_false') (And.intro (@Bool.not_eq_eq_eq_not) (@decide_eq_true_eq))))) (And.intro (And.intro (And.intro (@decide_eq_false_iff_not) (And.intro (@Int.toNat_zero) (@not_true_eq_false))) (And.intro (@not_false_eq_true) (And.intro (@List.set_set.{0}) (@end_get)))) (And.intro (And.intro (@end_set) (And.intro (@ite_and) (@decide_true))) (And.intro (And.intro (@decide_false) (@Bool.not_eq_true)) (And.intro (@Bool.not_eq_false) (@Decidable.not_not)))))))))) :=
  And.intro (And.intro (And.intro (And.intro (And.intro (And.intro (And.intro (And.intro (@W_skip) (And.intro (@W_scope) (@W_dead))) (And.intro (@kscope_normal) (And.intro (@kscope_exit) (@kscope_ret)))) (And.intro (And.intro (@W_ops) (And.intro (@W_draw) (@W_drax))) (And.intro (@kdrax_eq) (And.intro (@fOk_nil) (@fOk_fld))))) (And.intro (And.intro (And.intro (@fOk_mv) (And.intro (@fOk_ext) (@fOk_store))) (And.intro (@W_seq) (And.intro (@W_cond2) (@W_block)))) (And.intro (And.intro (@W_exit) (And.intro (@W_ret) (@W_keep))) (And.intro (And.intro (@kseq_normal) (@kseq_exit)) (And.intro (@kseq_ret) (@kblock_normal)))))) (And.intro (And.intro (And.intro (And.intro (@kblock_exit) (And.intro (@kblock_ret) (@kloop_normal))) (And.intro (@kloop_exit) (And.intro (@kloop_ret) (@kret_normal)))) (And.intro (And.intro (@kret_ret) (And.intro (@kdraw_eq) (@kval_eq))) (And.intro (@kv_eq) (And.intro (@kput_eq) (@kbox_eq))))) (And.intro (And.intro (And.intro (@kobj_eq) (And.intro (@klst_eq) (@krow_eq))) (And.intro (@kcall_eq) (And.intro (@put_some) (@put_none)))) (And.intro (And.intro (@lk_cons') (And.intro (@lk_nil) (@restr_nil))) (And.intro (And.intro (@restr_cons) (@ev_t)) (And.intro (@ev_c) (@ev_f))))))) (And.intro (And.intro (And.intro (And.intro (And.intro (@evs_nil) (And.intro (@evs_cons) (@evD_none))) (And.intro (@evD_some) (And.intro (@degr_nil) (@degr_cons)))) (And.intro (And.intro (@args0_nil) (And.intro (@args0_cons) (@buildK_nil))) (And.intro (@buildK_cons) (And.intro (@upgK_nil) (@upgK_cons))))) (And.intro (And.intro (And.intro (@resL_nil) (And.intro (@resL_t) (@resL_c))) (And.intro (@res1_one) (And.intro (@res1_nil) (@res1_two)))) (And.intro (And.intro (@WOps_nil') (And.intro (@WOps_cons') (@WOps_gd2))) (And.intro (And.intro (@kops_eq') (@VOps_nil')) (And.intro (@VOps_cons') (@VOps_gd2)))))) (And.intro (And.intro (And.intro (And.intro (@VOps_ft') (And.intro (@VOps_gdft2) (@apart_nil))) (And.intro (@apart_cons) (And.intro (@ptrId_ptr) (@ptrId_hs)))) (And.intro (And.intro (@sameId_eq) (And.intro (@fbId_s) (@fbId_h))) (And.intro (@effF_load) (And.intro (@effF_loado) (@effF_store))))) (And.intro (And.intro (And.intro (@effF_stores) (And.intro (@effF_storeo) (@effF_calli))) (And.intro (@effF_new) (And.intro (@effF_box) (@effF_mkn)))) (And.intro (And.intro (@W_holes) (And.intro (@rep2) (@rep3))) (And.intro (And.intro (@kvops_eq') (@splice_cons')) (And.intro (@splice_nil') (@wop_mv)))))))) (And.intro (And.intro (And.intro (And.intro (And.intro (And.intro (@eff_mv) (And.intro (@wop_pick2) (@eff_pick2))) (And.intro (@wop_build) (And.intro (@eff_build) (@wop_load)))) (And.intro (And.intro (@eff_load) (And.intro (@wop_lds) (@eff_lds))) (And.intro (@wop_nilck) (And.intro (@eff_nilck) (@wop_bin))))) (And.intro (And.intro (And.intro (@eff_bin) (And.intro (@wop_pnil) (@eff_pnil))) (And.intro (@wop_bbin) (And.intro (@eff_bbin) (@wop_not)))) (And.intro (And.intro (@eff_not) (And.intro (@wop_conv) (@eff_conv))) (And.intro (And.intro (@wop_cstr) (@eff_cstr)) (And.intro (@wop_b2s) (@eff_b2s)))))) (And.intro (And.intro (And.intro (And.intro (@wop_fld) (And.intro (@eff_fld) (@wop_idxa))) (And.intro (@eff_idxa) (And.intro (@wop_idxs) (@eff_idxs)))) (And.intro (And.intro (@wop_slcs) (And.intro (@eff_slcs) (@wop_slcl))) (And.intro (@eff_slcl) (And.intro (@wop_ext) (@eff_ext))))) (And.intro (And.intro (And.intro (@wop_lens) (And.intro (@eff_lens) (@wop_lenl))) (And.intro (@eff_lenl) (And.intro (@wop_mn) (@eff_mn)))) (And.intro (And.intro (@wop_mx) (And.intro (@eff_mx) (@wop_ex))) (And.intro (And.intro (@eff_ex) (@wop_mkfn)) (And.intro (@eff_mkfn) (@wop_mvu))))))) (And.intro (And.intro (And.intro (And.intro (And.intro (@eff_mvu) (And.intro (@wop_mvo) (@eff_mvo))) (And.intro (@wop_new) (And.intro (@eff_new) (@wop_box)))) (And.intro (And.intro (@eff_box) (And.intro (@wop_bsl) (@eff_bsl))) (And.intro (@wop_mk0) (And.intro (@eff_mk0) (@wop_mkn))))) (And.intro (And.intro (And.intro (@eff_mkn) (And.intro (@wop_loado) (@eff_loado))) (And.intro (@wop_app) (And.intro (@eff_app) (@wop_appo)))) (And.intro (And.intro (@eff_appo) (And.intro (@wop_appso) (@eff_appso))) (And.intro (And.intro (@wop_bar) (@wop_bslc)) (And.intro (@wop_b2h) (@rowB_lst)))))) (And.intro (And.intro (And.intro (And.intro (@rowB_hsc) (And.intro (@wop_bsh) (@wop_store))) (And.intro (@wop_storeo) (And.intro (@wop_stores) (@eff_store)))) (And.intro (And.intro (@eff_storeo) (And.intro (@eff_stores) (@wop_rngs))) (And.intro (@wop_nxt) (And.intro (@wop_call) (@eff_call))))) (And.intro (And.intro (And.intro (@wop_calli) (And.intro (@eff_calli) (@wop_snil))) (And.intro (@eff_snil) (And.intro (@wop_storeu) (@tk_mv)))) (And.intro (And.intro (@tk_pick) (And.intro (@tk_build) (@tk_load))) (And.intro (And.intro (@tk_lds) (@tk_nilck)) (And.intro (@tk_bin) (@tk_pnil))))))))) (And.intro (And.intro (And.intro (And.intro (And.intro (And.intro (And.intro (@tk_bbin) (And.intro (@tk_not) (@tk_conv))) (And.intro (@tk_cstr) (And.intro (@tk_b2s) (@tk_fld)))) (And.intro (And.intro (@tk_idxa) (And.intro (@tk_idxs) (@tk_slcs))) (And.intro (@tk_slcl) (And.intro (@tk_ext) (@tk_lens))))) (And.intro (And.intro (And.intro (@tk_lenl) (And.intro (@tk_mn) (@tk_mx))) (And.intro (@tk_ex) (And.intro (@tk_mkfn) (@tk_mvu)))) (And.intro (And.intro (@tk_mvo) (And.intro (@tk_new) (@tk_box))) (And.intro (And.intro (@tk_bsl) (@tk_mk0)) (And.intro (@tk_mkn) (@tk_loado)))))) (And.intro (And.intro (And.intro (And.intro (@tk_app) (And.intro (@tk_appo) (@tk_appso))) (And.intro (@tk_store) (And.intro (@tk_storeo) (@tk_call)))) (And.intro (And.intro (@tk_stores) (And.intro (@tk_calli) (@tk_snil))) (And.intro (@ex_wadd) (And.intro (@ex_wsub) (@ex_wmul))))) (And.intro (And.intro (And.intro (@ex_aeq) (And.intro (@ex_r2s) (@ex_ibs))) (And.intro (@ex_mkb) (And.intro (@deg_itr) (@ex_zag)))) (And.intro (And.intro (@wop_apc) (And.intro (@obind) (@rowA_lst))) (And.intro (And.intro (@isLst_lst) (@rowA_hs)) (And.intro (@wop_slch) (@wop_aph))))))) (And.intro (And.intro (And.intro (And.intro (And.intro (@wop_mmv) (And.intro (@wop_mra) (@wop_cpy))) (And.intro (@eff_cpy) (And.intro (@tk_cpy) (@deg_omp)))) (And.intro (And.intro (@deg_mp) (And.intro (@isTup_mp) (@cellsOf_mp))) (And.intro (@deg_fmp) (And.intro (@isTup_fmp) (@cellsOf_fmp))))) (And.intro (And.intro (And.intro (@wop_mmk) (And.intro (@wop_mup) (@wop_mfz))) (And.intro (@ex_mlk) (And.intro (@ex_idp) (@ex_sla)))) (And.intro (And.intro (@int_add) (And.intro (@int_sub) (@int_mul))) (And.intro (And.intro (@int_quo) (@int_rem)) (And.intro (@int_and) (@int_andNot)))))) (And.intro (And.intro (And.intro (And.intro (@int_or) (And.intro (@int_xor) (@int_eql))) (And.intro (@int_neq) (And.intro (@int_lss) (@int_leq)))) (And.intro (And.intro (@int_gtr) (And.intro (@int_geq) (@int_shl))) (And.intro (@int_shr) (And.intro (@str_add) (@str_eql))))) (And.intro (And.intro (And.intro (@str_neq) (And.intro (@str_lss) (@arith_i8))) (And.intro (@arith_i16) (And.intro (@arith_i32) (@arith_u8)))) (And.intro (And.intro (@arith_u16) (And.intro (@arith_u32) (@arith_u64))) (And.intro (And.intro (@arith_i64) (@loadK_none)) (And.intro (@loadK_some) (@deg_bool)))))))) (And.intro (And.intro (And.intro (And.intro (And.intro (And.intro (@isTup_bool) (And.intro (@cellsOf_bool) (@deg_int))) (And.intro (@isTup_int) (And.intro (@cellsOf_int) (@deg_str)))) (And.intro (And.intro (@isTup_str) (And.intro (@cellsOf_str) (@deg_nilp))) (And.intro (@isTup_nilp) (And.intro (@cellsOf_nilp) (@deg_ptr))))) (And.intro (And.intro (And.intro (@isTup_ptr) (And.intro (@cellsOf_ptr) (@deg_fp))) (And.intro (@isTup_fp) (And.intro (@cellsOf_fp) (@deg_hs)))) (And.intro (And.intro (@isTup_hs) (And.intro (@cellsOf_hs) (@deg_hsc))) (And.intro (And.intro (@isTup_hsc) (@cellsOf_hsc)) (And.intro (@deg_agg) (@isTup_agg)))))) (And.intro (And.intro (And.intro (And.intro (@cellsOf_agg) (And.intro (@deg_tup) (@isTup_tup))) (And.intro (@cellsOf_tup) (And.intro (@deg_fn) (@isTup_fn)))) (And.intro (And.intro (@cellsOf_fn) (And.intro (@deg_fnb) (@isTup_fnb))) (And.intro (@cellsOf_fnb) (And.intro (@deg_nilf) (@isTup_nilf))))) (And.intro (And.intro (And.intro (@cellsOf_nilf) (And.intro (@deg_opq) (@isTup_opq))) (And.intro (@cellsOf_opq) (And.intro (@deg_frn) (@isTup_frn)))) (And.intro (And.intro (@cellsOf_frn) (And.intro (@deg_ro) (@deg_clip))) (And.intro (And.intro (@deg_own) (@isTup_lst)) (And.intro (@cellsOf_lst) (@Option.map_some.{0, 0}))))))) (And.intro (And.intro (And.intro (And.intro (And.intro (@Option.map_none.{0, 0}) (And.intro (@Nat.zero_mul) (@Nat.add_zero))) (And.intro (@Nat.zero_add) (And.intro (@Nat.mul_one) (@Nat.succ_ne_self)))) (And.intro (And.intro (@Nat.one_ne_zero) (And.intro (@Nat.zero_ne_one) (@List.length_cons.{0}))) (And.intro (@List.length_nil.{0}) (And.intro (@List.set_cons_zero.{0}) (@List.set_cons_succ.{0}))))) (And.intro (And.intro (And.intro (@List.getElem?_cons_zero.{0}) (And.intro (@List.getElem?_cons_succ.{0}) (@List.getElem?_nil.{0}))) (And.intro (@List.drop_zero.{0}) (And.intro (@List.drop_succ_cons.{0}) (@List.take_succ_cons.{0})))) (And.intro (And.intro (@List.take_zero.{0}) (And.intro (@List.map_cons.{0, 0}) (@List.map_nil.{0, 0}))) (And.intro (And.intro (@List.nil_append.{0}) (@List.append_nil.{0})) (And.intro (@List.cons_append.{0}) (@Bool.not_true)))))) (And.intro (And.intro (And.intro (And.intro (@Bool.not_false) (And.intro (@Bool.true_eq_false) (@Bool.false_eq_true))) (And.intro (@true_and) (And.intro (@and_true) (@and_self)))) (And.intro (And.intro (@true_implies) (And.intro (@false_implies) (@Bool.not_eq_true'))) (And.intro (@Bool.not_eq_false') (And.intro (@Bool.not_eq_eq_eq_not) (@decide_eq_true_eq))))) (And.intro (And.intro (And.intro (@decide_eq_false_iff_not) (And.intro (@Int.toNat_zero) (@not_true_eq_false))) (And.intro (@not_false_eq_true) (And.intro (@List.set_set.{0}) (@end_get)))) (And.intro (And.intro (@end_set) (And.intro (@ite_and) (@decide_true))) (And.intro (And.intro (@decide_false) (@Bool.not_eq_true)) (And.intro (@Bool.not_eq_false) (@Decidable.not_not)))))))))
end Go.Proofs.Ytpiofcjkekpboaa

namespace Go.Proofs.Ytpiofcjkekpboaa
open Go.RowKit
def F_ref03_Equal : AFn :=
 ⟨26, [.t 4], .seq (.ops [⟨some 4, none, .mv (.c (.bool false)), none⟩])
 (.keep [0, 1] (.seq (.seq (.ops [⟨some 6, none, .mv (.t 0), none⟩,
 ⟨some 7, none, .lenl (.t 6), none⟩,
 ⟨some 8, none, .mv (.t 1), none⟩,
 ⟨some 9, none, .lenl (.t 8), none⟩,
 ⟨some 10, none, .bin .neq (.t 7) (.t 9), none⟩])
 (.keep [0, 1, 10] (.cond (.t 10)
 (.seq (.ops [⟨some 4, none, .mv (.c (.bool false)), none⟩])
 (.ret))
 (.skip))))
 (.keep [0, 1] (.seq (.seq (.ops [⟨some 5, none, .mv (.c (.int .i64 0)), none⟩])
 (.keep [0, 1, 5] (.block 0 (.loop [0, 1, 5] (.seq (.seq (.ops [⟨some 11, none, .mv (.t 5), none⟩,
 ⟨some 12, none, .mv (.t 0), none⟩,
 ⟨some 13, none, .lenl (.t 12), none⟩,
 ⟨some 14, none, .bin .lss (.t 11) (.t 13), none⟩])
 (.keep [0, 1, 5, 14] (.cond (.t 14)
 (.skip)
 (.exit 0))))
 (.keep [0, 1, 5] (.seq (.block 1 (.seq (.draw [0, 1, 5, 25] [⟨some 17, none, .mv (.t 0), none⟩,
 ⟨some 18, none, .mv (.t 5), none⟩,
 ⟨some 19, none, .idxa 1 (.t 17) (.t 18), none⟩,
 ⟨some 20, none, .load none (.t 19), none⟩,
 ⟨some 21, none, .mv (.t 1), none⟩,
 ⟨some 22, none, .mv (.t 5), none⟩,
 ⟨some 23, none, .idxa 1 (.t 21) (.t 22), none⟩,
 ⟨some 24, none, .load none (.t 23), none⟩,
 ⟨some 25, none, .bin .neq (.t 20) (.t 24), none⟩])
 (.keep [0, 1, 5, 25] (.cond (.t 25)
 (.seq (.ops [⟨some 4, none, .mv (.c (.bool false)), none⟩])
 (.ret))
 (.skip)))))
 (.keep [0, 1, 5] (.ops [⟨some 15, none, .mv (.t 5), none⟩,
 ⟨some 16, none, .bin .add (.t 15) (.c (.int .i64 1)), none⟩,
 ⟨some 5, none, .mv (.t 16), none⟩])))))))))
 (.keep [] (.seq (.ops [⟨some 4, none, .mv (.c (.bool true)), none⟩])
 (.ret)))))))⟩
theorem F_ref03_Equal_ok : chkFn Try.prog 30 F_ref03_Equal = true := by kernel_rfl
def F_set_May : AFn :=
 ⟨36, [.t 2], .seq (.ops [⟨some 2, none, .mv (.c (.bool false)), none⟩])
 (.keep [0] (.seq (.seq (.ops [⟨some 5, none, .mv (.t 0), none⟩,
 ⟨some 6, none, .lenl (.t 5), none⟩,
 ⟨some 7, none, .bin .lss (.t 6) (.c (.int .i64 1)), none⟩,
 ⟨some 8, none, .mv (.t 7), none⟩,
 ⟨some 9, (some (8, false)), .mv (.t 0), none⟩,
 ⟨some 10, (some (8, false)), .lenl (.t 9), none⟩,
 ⟨some 11, (some (8, false)), .bin .gtr (.t 10) (.c (.int .i64 16)), none⟩,
 ⟨some 12, none, .pick (.t 8) (.c (.bool true)) (.t 11), none⟩])
 (.keep [0, 12] (.cond (.t 12)
 (.seq (.ops [⟨some 2, none, .mv (.c (.bool false)), none⟩])
 (.ret))
 (.skip))))
 (.keep [0] (.seq (.seq (.ops [⟨some 13, none, .mv (.t 0), none⟩,
 ⟨some 14, none, .lenl (.t 13), none⟩,
 ⟨some 15, none, .mv (.c (.int .i64 0)), none⟩])
 (.keep [0, 13, 14, 15] (.block 0 (.loop [0, 13, 14, 15] (.seq (.ops [⟨some 16, none, .bin .lss (.t 15) (.t 14), none⟩])
 (.keep [0, 13, 14, 15, 16] (.seq (.cond (.t 16)
 (.skip)
 (.exit 0))
 (.keep [0, 13, 14, 15] (.seq (.block 1 (.seq (.ops [⟨some 17, none, .mv (.t 15), none⟩,
 ⟨some 18, none, .idxa 1 (.t 13) (.t 15), none⟩,
 ⟨some 19, none, .load none (.t 18), none⟩,
 ⟨some 3, none, .mv (.t 17), none⟩,
 ⟨some 4, none, .mv (.t 19), none⟩])
 (.keep [0, 3, 4, 13, 14, 15] (.seq (.seq (.ops [⟨some 20, none, .mv (.t 4), none⟩,
 ⟨some 21, none, .call (.f 66) [(.t 20)], none⟩,
 ⟨some 22, none, .not (.t 21), none⟩])
 (.keep [0, 3, 4, 13, 14, 15, 22] (.cond (.t 22)
 (.seq (.ops [⟨some 2, none, .mv (.c (.bool false)), none⟩])
 (.ret))
 (.skip))))
 (.keep [0, 3, 4, 13, 14, 15] (.seq (.ops [⟨some 23, none, .mv (.t 3), none⟩,
 ⟨some 24, none, .bin .gtr (.t 23) (.c (.int .i64 0)), none⟩,
 ⟨some 25, none, .mv (.t 24), none⟩,
 ⟨some 26, (some (25, true)), .mv (.t 0), none⟩,
 ⟨some 27, (some (25, true)), .mv (.t 3), none⟩,
 ⟨some 28, (some (25, true)), .bin .sub (.t 27) (.c (.int .i64 1)), none⟩,
 ⟨some 29, (some (25, true)), .idxa 1 (.t 26) (.t 28), none⟩,
 ⟨some 30, (some (25, true)), .load none (.t 29), none⟩,
 ⟨some 31, (some (25, true)), .mv (.t 4), none⟩,
 ⟨some 32, (some (25, true)), .call (.f 75) [(.t 30), (.t 31)], none⟩,
 ⟨some 33, (some (25, true)), .not (.t 32), none⟩,
 ⟨some 34, none, .pick (.t 25) (.t 33) (.c (.bool false)), none⟩])
 (.keep [0, 13, 14, 15, 34] (.cond (.t 34)
 (.seq (.ops [⟨some 2, none, .mv (.c (.bool false)), none⟩])
 (.ret))
 (.skip)))))))))
 (.keep [0, 13, 14, 15] (.ops [⟨some 35, none, .bin .add (.t 15) (.c (.int .i64 1)), none⟩,
 ⟨some 15, none, .mv (.t 35), none⟩])))))))))))
 (.keep [] (.seq (.ops [⟨some 2, none, .mv (.c (.bool true)), none⟩])
 (.ret)))))))⟩
theorem F_set_May_ok : chkFn Try.prog 31 F_set_May = true := by kernel_rfl
def F_ref03_May : AFn :=
 ⟨41, [.t 2], .seq (.ops [⟨some 2, none, .mv (.c (.bool false)), none⟩])
 (.keep [0] (.seq (.seq (.ops [⟨some 4, none, .mv (.t 0), none⟩,
 ⟨some 5, none, .lenl (.t 4), none⟩,
 ⟨some 6, none, .bin .lss (.t 5) (.c (.int .i64 1)), none⟩,
 ⟨some 7, none, .mv (.t 6), none⟩,
 ⟨some 8, (some (7, false)), .mv (.t 0), none⟩,
 ⟨some 9, (some (7, false)), .lenl (.t 8), none⟩,
 ⟨some 10, (some (7, false)), .bin .gtr (.t 9) (.c (.int .i64 16)), none⟩,
 ⟨some 11, none, .pick (.t 7) (.c (.bool true)) (.t 10), none⟩])
 (.keep [0, 11] (.cond (.t 11)
 (.seq (.ops [⟨some 2, none, .mv (.c (.bool false)), none⟩])
 (.ret))
 (.skip))))
 (.keep [0] (.seq (.seq (.ops [⟨some 3, none, .mv (.c (.int .i64 0)), none⟩])
 (.keep [0, 3] (.block 0 (.loop [0, 3] (.seq (.seq (.ops [⟨some 12, none, .mv (.t 3), none⟩,
 ⟨some 13, none, .mv (.t 0), none⟩,
 ⟨some 14, none, .lenl (.t 13), none⟩,
 ⟨some 15, none, .bin .lss (.t 12) (.t 14), none⟩])
 (.keep [0, 3, 15] (.cond (.t 15)
 (.skip)
 (.exit 0))))
 (.keep [0, 3] (.seq (.block 1 (.seq (.draw [0, 3, 40] [⟨some 18, none, .mv (.t 0), none⟩,
 ⟨some 19, none, .mv (.t 3), none⟩,
 ⟨some 20, none, .idxa 1 (.t 18) (.t 19), none⟩,
 ⟨some 21, none, .load none (.t 20), none⟩,
 ⟨some 22, none, .call (.f 72) [(.t 21)], none⟩,
 ⟨some 23, none, .not (.t 22), none⟩,
 ⟨some 24, none, .mv (.t 23), none⟩,
 ⟨some 25, (some (24, false)), .mv (.t 3), none⟩,
 ⟨some 26, (some (24, false)), .bin .gtr (.t 25) (.c (.int .i64 0)), none⟩,
 ⟨some 27, (some (24, false)), .mv (.t 26), none⟩,
 ⟨some 28, (some (27, true)), .mv (.t 0), none⟩,
 ⟨some 29, (some (27, true)), .mv (.t 3), none⟩,
 ⟨some 30, (some (27, true)), .bin .sub (.t 29) (.c (.int .i64 1)), none⟩,
 ⟨some 31, (some (27, true)), .idxa 1 (.t 28) (.t 30), none⟩,
 ⟨some 32, (some (27, true)), .load none (.t 31), none⟩,
 ⟨some 33, (some (27, true)), .mv (.t 0), none⟩,
 ⟨some 34, (some (27, true)), .mv (.t 3), none⟩,
 ⟨some 35, (some (27, true)), .idxa 1 (.t 33) (.t 34), none⟩,
 ⟨some 36, (some (27, true)), .load none (.t 35), none⟩,
 ⟨some 37, (some (27, true)), .call (.f 76) [(.t 32), (.t 36)], none⟩,
 ⟨some 38, (some (27, true)), .not (.t 37), none⟩,
 ⟨some 39, (some (24, false)), .pick (.t 27) (.t 38) (.c (.bool false)), none⟩,
 ⟨some 40, none, .pick (.t 24) (.c (.bool true)) (.t 39), none⟩])
 (.keep [0, 3, 40] (.cond (.t 40)
 (.seq (.ops [⟨some 2, none, .mv (.c (.bool false)), none⟩])
 (.ret))
 (.skip)))))
 (.keep [0, 3] (.ops [⟨some 16, none, .mv (.t 3), none⟩,
 ⟨some 17, none, .bin .add (.t 16) (.c (.int .i64 1)), none⟩,
 ⟨some 3, none, .mv (.t 17), none⟩])))))))))
 (.keep [] (.seq (.ops [⟨some 2, none, .mv (.c (.bool true)), none⟩])
 (.ret)))))))⟩
theorem F_ref03_May_ok : chkFn Try.prog 32 F_ref03_May = true := by kernel_rfl
def F_ref02_Of : AFn :=
 ⟨29, [.t 2], .seq (.ops [⟨some 2, none, .mv (.c (.str ⟨#[]⟩)), none⟩])
 (.keep [0] (.seq (.ops [⟨some 5, none, .bsl 5 1 0 [] [], none⟩,
 ⟨some 3, none, .mvo 5, none⟩])
 (.keep [0, 3] (.seq (.seq (.ops [⟨some 4, none, .mv (.c (.int .i64 0)), none⟩])
 (.keep [0, 3, 4] (.block 0 (.loop [0, 3, 4] (.seq (.seq (.ops [⟨some 6, none, .mv (.t 4), none⟩,
 ⟨some 7, none, .mv (.t 0), none⟩,
 ⟨some 8, none, .lenl (.t 7), none⟩,
 ⟨some 9, none, .bin .lss (.t 6) (.t 8), none⟩])
 (.keep [0, 3, 4, 9] (.cond (.t 9)
 (.skip)
 (.exit 0))))
 (.keep [0, 3, 4] (.seq (.block 1 (.draw [0, 3, 4] [⟨some 12, none, .mvo 3, none⟩,
 ⟨some 13, none, .mv (.t 0), none⟩,
 ⟨some 14, none, .mv (.t 4), none⟩,
 ⟨some 15, none, .idxa 1 (.t 13) (.t 14), none⟩,
 ⟨some 16, none, .load none (.t 15), none⟩,
 ⟨some 17, none, .bin .quo (.t 16) (.c (.int .u16 256)), none⟩,
 ⟨some 18, none, .conv .u8 (.t 17), none⟩,
 ⟨some 19, none, .mv (.t 0), none⟩,
 ⟨some 20, none, .mv (.t 4), none⟩,
 ⟨some 21, none, .idxa 1 (.t 19) (.t 20), none⟩,
 ⟨some 22, none, .load none (.t 21), none⟩,
 ⟨some 23, none, .bin .rem (.t 22) (.c (.int .u16 256)), none⟩,
 ⟨some 24, none, .conv .u8 (.t 23), none⟩,
 ⟨some 25, none, .bsl 5 1 2 [(.int .u8 0), (.int .u8 0)] [(0, 1, (.t 18)), (1, 1, (.t 24))], none⟩,
 ⟨some 26, none, .appo 5 1 1 12 (.t 25), none⟩,
 ⟨some 3, none, .mvo 26, none⟩]))
 (.keep [0, 3, 4] (.ops [⟨some 10, none, .mv (.t 4), none⟩,
 ⟨some 11, none, .bin .add (.t 10) (.c (.int .i64 1)), none⟩,
 ⟨some 4, none, .mv (.t 11), none⟩])))))))))
 (.keep [3] (.seq (.ops [⟨some 27, none, .mv (.t 3), none⟩,
 ⟨some 28, none, .b2s (.t 27), none⟩,
 ⟨some 2, none, .mv (.t 28), none⟩])
 (.ret)))))))⟩
theorem F_ref02_Of_ok : chkFn Try.prog 47 F_ref02_Of = true := by kernel_rfl
def F_word_May : AFn :=
 ⟨26, [.t 2], .seq (.ops [⟨some 2, none, .mv (.c (.bool false)), none⟩])
 (.keep [0] (.seq (.seq (.ops [⟨some 4, none, .mv (.t 0), none⟩,
 ⟨some 5, none, .call (.f 99) [(.t 4)], none⟩,
 ⟨some 6, none, .mv (.t 5), none⟩,
 ⟨some 7, (some (6, false)), .mv (.t 0), none⟩,
 ⟨some 8, (some (6, false)), .call (.f 80) [(.t 7)], none⟩,
 ⟨some 9, (some (6, false)), .bin .lss (.t 8) (.c (.int .i64 1)), none⟩,
 ⟨some 10, none, .pick (.t 6) (.c (.bool true)) (.t 9), none⟩,
 ⟨some 11, none, .mv (.t 10), none⟩,
 ⟨some 12, (some (11, false)), .mv (.t 0), none⟩,
 ⟨some 13, (some (11, false)), .call (.f 80) [(.t 12)], none⟩,
 ⟨some 14, (some (11, false)), .bin .gtr (.t 13) (.c (.int .i64 8)), none⟩,
 ⟨some 15, none, .pick (.t 11) (.c (.bool true)) (.t 14), none⟩])
 (.keep [0, 15] (.cond (.t 15)
 (.seq (.ops [⟨some 2, none, .mv (.c (.bool false)), none⟩])
 (.ret))
 (.skip))))
 (.keep [0] (.seq (.seq (.ops [⟨some 16, none, .mv (.t 0), none⟩,
 ⟨some 17, none, .call (.f 80) [(.t 16)], none⟩,
 ⟨some 18, none, .mv (.c (.int .i64 0)), none⟩])
 (.keep [0, 17, 18] (.block 0 (.loop [0, 17, 18] (.seq (.ops [⟨some 19, none, .bin .lss (.t 18) (.t 17), none⟩])
 (.keep [0, 17, 18, 19] (.seq (.cond (.t 19)
 (.skip)
 (.exit 0))
 (.keep [0, 17, 18] (.seq (.block 1 (.seq (.ops [⟨some 20, none, .mv (.t 18), none⟩,
 ⟨some 3, none, .mv (.t 20), none⟩])
 (.keep [0, 3, 17, 18] (.seq (.ops [⟨some 21, none, .mv (.t 0), none⟩,
 ⟨some 22, none, .mv (.t 3), none⟩,
 ⟨some 23, none, .call (.f 100) [(.t 21), (.t 22)], none⟩,
 ⟨some 24, none, .bin .eql (.t 23) (.c (.int .u16 0)), none⟩])
 (.keep [0, 17, 18, 24] (.cond (.t 24)
 (.seq (.ops [⟨some 2, none, .mv (.c (.bool false)), none⟩])
 (.ret))
 (.skip)))))))
 (.keep [0, 17, 18] (.ops [⟨some 25, none, .bin .add (.t 18) (.c (.int .i64 1)), none⟩,
 ⟨some 18, none, .mv (.t 25), none⟩])))))))))))
 (.keep [] (.seq (.ops [⟨some 2, none, .mv (.c (.bool true)), none⟩])
 (.ret)))))))⟩
theorem F_word_May_ok : chkFn Try.prog 66 F_word_May = true := by kernel_rfl
def F_ref02_May : AFn :=
 ⟨32, [.t 2], .seq (.ops [⟨some 2, none, .mv (.c (.bool false)), none⟩])
 (.keep [0] (.seq (.ops [⟨some 5, none, .mv (.t 0), none⟩,
 ⟨some 6, none, .call (.f 103) [(.t 5)], none⟩,
 ⟨some 3, none, .mv (.t 6), none⟩])
 (.keep [0, 3] (.seq (.seq (.ops [⟨some 4, none, .mv (.c (.int .i64 0)), none⟩])
 (.keep [0, 3, 4] (.block 0 (.loop [0, 3, 4] (.seq (.seq (.ops [⟨some 7, none, .mv (.t 4), none⟩,
 ⟨some 8, none, .mv (.t 3), none⟩,
 ⟨some 9, none, .lenl (.t 8), none⟩,
 ⟨some 10, none, .bin .lss (.t 7) (.t 9), none⟩])
 (.keep [0, 3, 4, 10] (.cond (.t 10)
 (.skip)
 (.exit 0))))
 (.keep [0, 3, 4] (.seq (.block 1 (.seq (.ops [⟨some 13, none, .mv (.t 3), none⟩,
 ⟨some 14, none, .mv (.t 4), none⟩,
 ⟨some 15, none, .idxa 1 (.t 13) (.t 14), none⟩,
 ⟨some 16, none, .load none (.t 15), none⟩,
 ⟨some 17, none, .bin .eql (.t 16) (.c (.int .u16 0)), none⟩])
 (.keep [0, 3, 4, 17] (.cond (.t 17)
 (.seq (.ops [⟨some 2, none, .mv (.c (.bool false)), none⟩])
 (.ret))
 (.skip)))))
 (.keep [0, 3, 4] (.ops [⟨some 11, none, .mv (.t 4), none⟩,
 ⟨some 12, none, .bin .add (.t 11) (.c (.int .i64 1)), none⟩,
 ⟨some 4, none, .mv (.t 12), none⟩])))))))))
 (.keep [0, 3] (.seq (.ops [⟨some 18, none, .mv (.t 0), none⟩,
 ⟨some 19, none, .lens (.t 18), none⟩,
 ⟨some 20, none, .bin .rem (.t 19) (.c (.int .i64 2)), none⟩,
 ⟨some 21, none, .bin .eql (.t 20) (.c (.int .i64 0)), none⟩,
 ⟨some 22, none, .mv (.t 21), none⟩,
 ⟨some 23, (some (22, true)), .mv (.t 3), none⟩,
 ⟨some 24, (some (22, true)), .lenl (.t 23), none⟩,
 ⟨some 25, (some (22, true)), .bin .geq (.t 24) (.c (.int .i64 1)), none⟩,
 ⟨some 26, none, .pick (.t 22) (.t 25) (.c (.bool false)), none⟩,
 ⟨some 27, none, .mv (.t 26), none⟩,
 ⟨some 28, (some (27, true)), .mv (.t 3), none⟩,
 ⟨some 29, (some (27, true)), .lenl (.t 28), none⟩,
 ⟨some 30, (some (27, true)), .bin .leq (.t 29) (.c (.int .i64 8)), none⟩,
 ⟨some 31, none, .pick (.t 27) (.t 30) (.c (.bool false)), none⟩,
 ⟨some 2, none, .mv (.t 31), none⟩])
 (.ret)))))))⟩
theorem F_ref02_May_ok : chkFn Try.prog 72 F_ref02_May = true := by kernel_rfl
def F_word_Less : AFn :=
 ⟨18, [.t 4], .seq (.ops [⟨some 4, none, .mv (.c (.bool false)), none⟩])
 (.keep [0, 1] (.seq (.seq (.ops [⟨some 5, none, .mv (.t 0), none⟩,
 ⟨some 6, none, .lens (.t 5), none⟩,
 ⟨some 7, none, .mv (.t 1), none⟩,
 ⟨some 8, none, .lens (.t 7), none⟩,
 ⟨some 9, none, .bin .neq (.t 6) (.t 8), none⟩])
 (.keep [0, 1, 9] (.cond (.t 9)
 (.seq (.ops [⟨some 10, none, .mv (.t 0), none⟩,
 ⟨some 11, none, .lens (.t 10), none⟩,
 ⟨some 12, none, .mv (.t 1), none⟩,
 ⟨some 13, none, .lens (.t 12), none⟩,
 ⟨some 14, none, .bin .lss (.t 11) (.t 13), none⟩,
 ⟨some 4, none, .mv (.t 14), none⟩])
 (.ret))
 (.skip))))
 (.keep [0, 1] (.seq (.ops [⟨some 15, none, .mv (.t 0), none⟩,
 ⟨some 16, none, .mv (.t 1), none⟩,
 ⟨some 17, none, .bin .lss (.t 15) (.t 16), none⟩,
 ⟨some 4, none, .mv (.t 17), none⟩])
 (.ret)))))⟩
theorem F_word_Less_ok : chkFn Try.prog 75 F_word_Less = true := by kernel_rfl
def F_ref02_Less : AFn :=
 ⟨36, [.t 4], .seq (.ops [⟨some 4, none, .mv (.c (.bool false)), none⟩])
 (.keep [0, 1] (.seq (.seq (.ops [⟨some 6, none, .mv (.t 0), none⟩,
 ⟨some 7, none, .lens (.t 6), none⟩,
 ⟨some 8, none, .mv (.t 1), none⟩,
 ⟨some 9, none, .lens (.t 8), none⟩,
 ⟨some 10, none, .bin .neq (.t 7) (.t 9), none⟩])
 (.keep [0, 1, 10] (.cond (.t 10)
 (.seq (.ops [⟨some 11, none, .mv (.t 0), none⟩,
 ⟨some 12, none, .lens (.t 11), none⟩,
 ⟨some 13, none, .mv (.t 1), none⟩,
 ⟨some 14, none, .lens (.t 13), none⟩,
 ⟨some 15, none, .bin .lss (.t 12) (.t 14), none⟩,
 ⟨some 4, none, .mv (.t 15), none⟩])
 (.ret))
 (.skip))))
 (.keep [0, 1] (.seq (.seq (.ops [⟨some 5, none, .mv (.c (.int .i64 0)), none⟩])
 (.keep [0, 1, 5] (.block 0 (.loop [0, 1, 5] (.seq (.seq (.ops [⟨some 16, none, .mv (.t 5), none⟩,
 ⟨some 17, none, .mv (.t 0), none⟩,
 ⟨some 18, none, .lens (.t 17), none⟩,
 ⟨some 19, none, .bin .lss (.t 16) (.t 18), none⟩])
 (.keep [0, 1, 5, 19] (.cond (.t 19)
 (.skip)
 (.exit 0))))
 (.keep [0, 1, 5] (.seq (.block 1 (.seq (.draw [0, 1, 5, 28] [⟨some 22, none, .mv (.t 0), none⟩,
 ⟨some 23, none, .mv (.t 5), none⟩,
 ⟨some 24, none, .idxs (.t 22) (.t 23), none⟩,
 ⟨some 25, none, .mv (.t 1), none⟩,
 ⟨some 26, none, .mv (.t 5), none⟩,
 ⟨some 27, none, .idxs (.t 25) (.t 26), none⟩,
 ⟨some 28, none, .bin .neq (.t 24) (.t 27), none⟩])
 (.keep [0, 1, 5, 28] (.cond (.t 28)
 (.seq (.draw [4] [⟨some 29, none, .mv (.t 0), none⟩,
 ⟨some 30, none, .mv (.t 5), none⟩,
 ⟨some 31, none, .idxs (.t 29) (.t 30), none⟩,
 ⟨some 32, none, .mv (.t 1), none⟩,
 ⟨some 33, none, .mv (.t 5), none⟩,
 ⟨some 34, none, .idxs (.t 32) (.t 33), none⟩,
 ⟨some 35, none, .bin .lss (.t 31) (.t 34), none⟩,
 ⟨some 4, none, .mv (.t 35), none⟩])
 (.ret))
 (.skip)))))
 (.keep [0, 1, 5] (.ops [⟨some 20, none, .mv (.t 5), none⟩,
 ⟨some 21, none, .bin .add (.t 20) (.c (.int .i64 1)), none⟩,
 ⟨some 5, none, .mv (.t 21), none⟩])))))))))
 (.keep [] (.seq (.ops [⟨some 4, none, .mv (.c (.bool false)), none⟩])
 (.ret)))))))⟩
theorem F_ref02_Less_ok : chkFn Try.prog 76 F_ref02_Less = true := by kernel_rfl
def F_word_Len : AFn :=
 ⟨6, [.t 2], .seq (.ops [⟨some 2, none, .mv (.c (.int .i64 0)), none⟩])
 (.keep [0] (.seq (.ops [⟨some 3, none, .mv (.t 0), none⟩,
 ⟨some 4, none, .lens (.t 3), none⟩,
 ⟨some 5, none, .bin .quo (.t 4) (.c (.int .i64 2)), none⟩,
 ⟨some 2, none, .mv (.t 5), none⟩])
 (.ret)))⟩
theorem F_word_Len_ok : chkFn Try.prog 80 F_word_Len = true := by kernel_rfl
def F_word_odd : AFn :=
 ⟨7, [.t 2], .seq (.ops [⟨some 2, none, .mv (.c (.bool false)), none⟩])
 (.keep [0] (.seq (.ops [⟨some 3, none, .mv (.t 0), none⟩,
 ⟨some 4, none, .lens (.t 3), none⟩,
 ⟨some 5, none, .bin .rem (.t 4) (.c (.int .i64 2)), none⟩,
 ⟨some 6, none, .bin .neq (.t 5) (.c (.int .i64 0)), none⟩,
 ⟨some 2, none, .mv (.t 6), none⟩])
 (.ret)))⟩
theorem F_word_odd_ok : chkFn Try.prog 99 F_word_odd = true := by kernel_rfl
def F_word_At : AFn :=
 ⟨26, [.t 4], .seq (.ops [⟨some 4, none, .mv (.c (.int .u16 0)), none⟩])
 (.keep [0, 1] (.seq (.seq (.ops [⟨some 5, none, .mv (.t 1), none⟩,
 ⟨some 6, none, .bin .lss (.t 5) (.c (.int .i64 0)), none⟩,
 ⟨some 7, none, .mv (.t 6), none⟩,
 ⟨some 8, (some (7, false)), .mv (.t 1), none⟩,
 ⟨some 9, (some (7, false)), .mv (.t 0), none⟩,
 ⟨some 10, (some (7, false)), .call (.f 80) [(.t 9)], none⟩,
 ⟨some 11, (some (7, false)), .bin .geq (.t 8) (.t 10), none⟩,
 ⟨some 12, none, .pick (.t 7) (.c (.bool true)) (.t 11), none⟩])
 (.keep [0, 1, 12] (.cond (.t 12)
 (.seq (.ops [⟨some 4, none, .mv (.c (.int .u16 0)), none⟩])
 (.ret))
 (.skip))))
 (.keep [0, 1] (.seq (.draw [4] [⟨some 13, none, .mv (.t 0), none⟩,
 ⟨some 14, none, .mv (.t 1), none⟩,
 ⟨some 15, none, .bin .mul (.c (.int .i64 2)) (.t 14), none⟩,
 ⟨some 16, none, .idxs (.t 13) (.t 15), none⟩,
 ⟨some 17, none, .conv .u16 (.t 16), none⟩,
 ⟨some 18, none, .bin .shl (.t 17) (.c (.int .u64 8)), none⟩,
 ⟨some 19, none, .mv (.t 0), none⟩,
 ⟨some 20, none, .mv (.t 1), none⟩,
 ⟨some 21, none, .bin .mul (.c (.int .i64 2)) (.t 20), none⟩,
 ⟨some 22, none, .bin .add (.t 21) (.c (.int .i64 1)), none⟩,
 ⟨some 23, none, .idxs (.t 19) (.t 22), none⟩,
 ⟨some 24, none, .conv .u16 (.t 23), none⟩,
 ⟨some 25, none, .bin .or (.t 18) (.t 24), none⟩,
 ⟨some 4, none, .mv (.t 25), none⟩])
 (.ret)))))⟩
theorem F_word_At_ok : chkFn Try.prog 100 F_word_At = true := by kernel_rfl
def F_ref02_Atoms : AFn :=
 ⟨28, [.t 2], .seq (.ops [⟨some 2, none, .mv (.c (.lst .clip 0 [])), none⟩])
 (.keep [0] (.seq (.ops [⟨some 5, none, .bsl 32 1 0 [] [], none⟩,
 ⟨some 3, none, .mvo 5, none⟩])
 (.keep [0, 3] (.seq (.seq (.ops [⟨some 4, none, .mv (.c (.int .i64 0)), none⟩])
 (.keep [0, 3, 4] (.block 0 (.loop [0, 3, 4] (.seq (.seq (.ops [⟨some 6, none, .mv (.t 4), none⟩,
 ⟨some 7, none, .bin .add (.t 6) (.c (.int .i64 1)), none⟩,
 ⟨some 8, none, .mv (.t 0), none⟩,
 ⟨some 9, none, .lens (.t 8), none⟩,
 ⟨some 10, none, .bin .lss (.t 7) (.t 9), none⟩])
 (.keep [0, 3, 4, 10] (.cond (.t 10)
 (.skip)
 (.exit 0))))
 (.keep [0, 3, 4] (.seq (.block 1 (.draw [0, 3, 4] [⟨some 13, none, .mvo 3, none⟩,
 ⟨some 14, none, .mv (.t 0), none⟩,
 ⟨some 15, none, .mv (.t 4), none⟩,
 ⟨some 16, none, .idxs (.t 14) (.t 15), none⟩,
 ⟨some 17, none, .conv .u16 (.t 16), none⟩,
 ⟨some 18, none, .bin .mul (.t 17) (.c (.int .u16 256)), none⟩,
 ⟨some 19, none, .mv (.t 0), none⟩,
 ⟨some 20, none, .mv (.t 4), none⟩,
 ⟨some 21, none, .bin .add (.t 20) (.c (.int .i64 1)), none⟩,
 ⟨some 22, none, .idxs (.t 19) (.t 21), none⟩,
 ⟨some 23, none, .conv .u16 (.t 22), none⟩,
 ⟨some 24, none, .bin .add (.t 18) (.t 23), none⟩,
 ⟨some 25, none, .bsl 32 1 1 [(.int .u16 0)] [(0, 1, (.t 24))], none⟩,
 ⟨some 26, none, .appo 32 1 2 13 (.t 25), none⟩,
 ⟨some 3, none, .mvo 26, none⟩]))
 (.keep [0, 3, 4] (.ops [⟨some 11, none, .mv (.t 4), none⟩,
 ⟨some 12, none, .bin .add (.t 11) (.c (.int .i64 2)), none⟩,
 ⟨some 4, none, .mv (.t 12), none⟩])))))))))
 (.keep [3] (.seq (.ops [⟨some 27, none, .mv (.t 3), none⟩,
 ⟨some 2, none, .mv (.t 27), none⟩])
 (.ret)))))))⟩
theorem F_ref02_Atoms_ok : chkFn Try.prog 103 F_ref02_Atoms = true := by kernel_rfl
end Go.Proofs.Ytpiofcjkekpboaa

/- What the functions of packages word and set tell, over the abstract code. -/
namespace Go.Proofs.Ytpiofcjkekpboaa
set_option linter.unusedSimpArgs false
set_option linter.unusedVariables false
open Go.RowKit Go.Lib

theorem bool_eq {p q : Bool} (h : p = q) : AV.bool p = .bool q := by rw [h]
theorem int_eq {k : IntKind} {a b : Int} (h : a = b) : AV.int k a = .int k b := by rw [h]
theorem byteAt_eq {s : ByteArray} {i : Nat} (h : i < s.size) : byteAt s i = s[i].toNat := by
  have : i < s.data.toList.length := by simpa using h
  simp only [byteAt, List.getElem?_eq_getElem this]; rfl

theorem p_wlen (s : ByteArray) (hs : s.size ≤ 9223372036854775807) : PCalls Try.prog 80 [.str s] (.int .i64 ((s.size / 2 : Nat) : Int)) := by
  refine pcalls_of (by first | rfl | simp [free, free.frees, frees_str, frees_u8, frees_u16]) (by first | rfl | simp [free, free.frees, frees_str, frees_u8, frees_u16]) (acalls_of mixed F_word_Len_ok (Nat.le_of_ble_eq_true rfl) ?_); simp only [F_word_Len, wk,if_true,if_false,forall_const,implies_true,ne_eq,eq_self,Nat.reduceEqDiff,Nat.reduceAdd,Nat.reduceMul,Nat.reduceSub,Nat.reduceLeDiff,Nat.reduceLT,Int.reduceEq,Int.reduceLT,Int.reduceLE,Int.reduceAdd,Int.reduceSub,Int.reduceMul,Int.reduceNeg,Int.reduceNe,reduceCtorEq,Int.reduceToNat,↓reduceIte]
  rw [Int.tdiv_eq_ediv_of_nonneg (by omega)]
  exact ⟨inR_of (by omega) (by omega), rfl⟩
theorem p_wodd (s : ByteArray) : PCalls Try.prog 99 [.str s] (.bool (decide (s.size % 2 ≠ 0))) := by
  refine pcalls_of (by first | rfl | simp [free, free.frees, frees_str, frees_u8, frees_u16]) (by first | rfl | simp [free, free.frees, frees_str, frees_u8, frees_u16]) (acalls_of mixed F_word_odd_ok (Nat.le_of_ble_eq_true rfl) ?_); simp only [F_word_odd, wk,if_true,if_false,forall_const,implies_true,ne_eq,eq_self,Nat.reduceEqDiff,Nat.reduceAdd,Nat.reduceMul,Nat.reduceSub,Nat.reduceLeDiff,Nat.reduceLT,Int.reduceEq,Int.reduceLT,Int.reduceLE,Int.reduceAdd,Int.reduceSub,Int.reduceMul,Int.reduceNeg,Int.reduceNe,reduceCtorEq,Int.reduceToNat,↓reduceIte]
  rw [Int.tmod_eq_emod_of_nonneg (by omega)]
  refine bool_eq ?_
  rw [Bool.eq_iff_iff]; simp; omega
theorem or_word' (x y : Nat) (hx : x < 256) (hy : y < 256) : bitV .or .u16 (IntKind.u16.wrap (IntKind.u16.wrap (x : Int) * 2 ^ (min 8 IntKind.u16.bits))) (IntKind.u16.wrap (y : Int)) = ((x * 256 + y : Nat) : Int) := by
  have e1 : IntKind.u16.wrap (x : Int) = x := by rw [IntKind.wrap_u16]; omega
  have e2 : IntKind.u16.wrap (y : Int) = y := by rw [IntKind.wrap_u16]; omega
  have e3 : IntKind.u16.wrap ((x : Int) * 2 ^ (min 8 IntKind.u16.bits)) = ((x * 256 : Nat) : Int) := by
    rw [show (min 8 IntKind.u16.bits) = 8 by decide, IntKind.wrap_u16]; omega
  rw [e1, e2, e3]
  show bits .or .u16 _ _ = _
  rw [u16_or_nat _ _ (by omega) (by omega), nat_join 8 _ _ (by omega) (by omega)]
theorem p_wat (s : ByteArray) (i : Nat) (hs : s.size ≤ 9223372036854775807) (hi : 2 * i + 1 < s.size) : PCalls Try.prog 100 [.str s, .int .i64 i] (.int .u16 (atomAt s i)) := by
  refine pcalls_of (by first | rfl | simp [free, free.frees, frees_str, frees_u8, frees_u16]) (by first | rfl | simp [free, free.frees, frees_str, frees_u8, frees_u16]) (acalls_of mixed F_word_At_ok (Nat.le_of_ble_eq_true rfl) ?_); simp only [F_word_At, wk,if_true,if_false,forall_const,implies_true,ne_eq,eq_self,Nat.reduceEqDiff,Nat.reduceAdd,Nat.reduceMul,Nat.reduceSub,Nat.reduceLeDiff,Nat.reduceLT,Int.reduceEq,Int.reduceLT,Int.reduceLE,Int.reduceAdd,Int.reduceSub,Int.reduceMul,Int.reduceNeg,Int.reduceNe,reduceCtorEq,Int.reduceToNat,↓reduceIte]
  refine ⟨fun _ => ?_, fun h => by omega⟩
  refine PCalls.use (p_wlen s hs) ?_; simp only [wk,if_true,if_false,forall_const,implies_true,ne_eq,eq_self,Nat.reduceEqDiff,Nat.reduceAdd,Nat.reduceMul,Nat.reduceSub,Nat.reduceLeDiff,Nat.reduceLT,Int.reduceEq,Int.reduceLT,Int.reduceLE,Int.reduceAdd,Int.reduceSub,Int.reduceMul,Int.reduceNeg,Int.reduceNe,reduceCtorEq,Int.reduceToNat,↓reduceIte]
  refine ⟨fun h => by omega, fun _ => ?_⟩
  (repeat (refine And.intro (by first | omega | exact inR_of (by omega) (by omega) | exact ⟨by omega, by omega⟩ | exact ⟨by omega, by omega, by omega⟩ | rfl) ?_))
  refine int_eq ?_
  rw [show (2 * (i : Int)).toNat = 2 * i by omega, show (2 * (i : Int) + 1).toNat = 2 * i + 1 by omega, byteAt_eq (by omega), byteAt_eq hi, or_word' _ _ s[2 * i].toNat_lt s[2 * i + 1].toNat_lt]
  simp [atomAt, hi]
theorem p_wless (a b : ByteArray) : PCalls Try.prog 75 [.str a, .str b] (.bool (wless a b)) := by
  refine pcalls_of (by first | rfl | simp [free, free.frees, frees_str, frees_u8, frees_u16]) (by first | rfl | simp [free, free.frees, frees_str, frees_u8, frees_u16]) (acalls_of mixed F_word_Less_ok (Nat.le_of_ble_eq_true rfl) ?_); simp only [F_word_Less, wk,if_true,if_false,forall_const,implies_true,ne_eq,eq_self,Nat.reduceEqDiff,Nat.reduceAdd,Nat.reduceMul,Nat.reduceSub,Nat.reduceLeDiff,Nat.reduceLT,Int.reduceEq,Int.reduceLT,Int.reduceLE,Int.reduceAdd,Int.reduceSub,Int.reduceMul,Int.reduceNeg,Int.reduceNe,reduceCtorEq,Int.reduceToNat,↓reduceIte]
  refine ⟨fun h => bool_eq ?_, fun h => bool_eq ?_⟩
  · unfold wless; rw [if_neg (by omega)]; simp
  · unfold wless; rw [if_pos (by omega)]
theorem p_wmay (s : ByteArray) (hs : s.size ≤ 9223372036854775807) : PCalls Try.prog 66 [.str s] (.bool (wordMay s)) := by
  refine pcalls_of (by first | rfl | simp [free, free.frees, frees_str, frees_u8, frees_u16]) (by first | rfl | simp [free, free.frees, frees_str, frees_u8, frees_u16]) (acalls_of mixed F_word_May_ok (Nat.le_of_ble_eq_true rfl) ?_); simp only [F_word_May, wk,if_true,if_false,forall_const,implies_true,ne_eq,eq_self,Nat.reduceEqDiff,Nat.reduceAdd,Nat.reduceMul,Nat.reduceSub,Nat.reduceLeDiff,Nat.reduceLT,Int.reduceEq,Int.reduceLT,Int.reduceLE,Int.reduceAdd,Int.reduceSub,Int.reduceMul,Int.reduceNeg,Int.reduceNe,reduceCtorEq,Int.reduceToNat,↓reduceIte]
  refine PCalls.use (p_wodd s) ?_; simp only [wk,if_true,if_false,forall_const,implies_true,ne_eq,eq_self,Nat.reduceEqDiff,Nat.reduceAdd,Nat.reduceMul,Nat.reduceSub,Nat.reduceLeDiff,Nat.reduceLT,Int.reduceEq,Int.reduceLT,Int.reduceLE,Int.reduceAdd,Int.reduceSub,Int.reduceMul,Int.reduceNeg,Int.reduceNe,reduceCtorEq,Int.reduceToNat,↓reduceIte]
  refine ⟨fun ho => ?_, fun ho => bool_eq ?_⟩
  rotate_left
  · simp only [wordMay]; symm; rw [decide_eq_false_iff_not]; omega
  refine PCalls.use (p_wlen s hs) ?_; simp only [wk,if_true,if_false,forall_const,implies_true,ne_eq,eq_self,Nat.reduceEqDiff,Nat.reduceAdd,Nat.reduceMul,Nat.reduceSub,Nat.reduceLeDiff,Nat.reduceLT,Int.reduceEq,Int.reduceLT,Int.reduceLE,Int.reduceAdd,Int.reduceSub,Int.reduceMul,Int.reduceNeg,Int.reduceNe,reduceCtorEq,Int.reduceToNat,↓reduceIte]
  refine ⟨fun h1 => ?_, fun h1 => bool_eq ?_⟩
  rotate_left
  · simp only [wordMay]; symm; rw [decide_eq_false_iff_not]; omega
  refine PCalls.use (p_wlen s hs) ?_; simp only [wk,if_true,if_false,forall_const,implies_true,ne_eq,eq_self,Nat.reduceEqDiff,Nat.reduceAdd,Nat.reduceMul,Nat.reduceSub,Nat.reduceLeDiff,Nat.reduceLT,Int.reduceEq,Int.reduceLT,Int.reduceLE,Int.reduceAdd,Int.reduceSub,Int.reduceMul,Int.reduceNeg,Int.reduceNe,reduceCtorEq,Int.reduceToNat,↓reduceIte]
  refine ⟨fun h2 => bool_eq ?_, fun h2 => ?_⟩
  · simp only [wordMay]; symm; rw [decide_eq_false_iff_not]; omega
  refine PCalls.use (p_wlen s hs) ?_; simp only [wk,if_true,if_false,forall_const,implies_true,ne_eq,eq_self,Nat.reduceEqDiff,Nat.reduceAdd,Nat.reduceMul,Nat.reduceSub,Nat.reduceLeDiff,Nat.reduceLT,Int.reduceEq,Int.reduceLT,Int.reduceLE,Int.reduceAdd,Int.reduceSub,Int.reduceMul,Int.reduceNeg,Int.reduceNe,reduceCtorEq,Int.reduceToNat,↓reduceIte]
  refine W_loop (fun n fr h => ∃ i : Nat, i ≤ s.size / 2 ∧ n = s.size / 2 - i ∧ fr = [(0, .str s), (17, .int .i64 ((s.size / 2 : Nat) : Int)), (18, .int .i64 i)] ∧ (∀ j, j < i → atomAt s j ≠ 0)) (s.size / 2) ⟨0, by omega, by omega, rfl, fun j hj => by omega⟩ ?_
  rintro n fr h ⟨i, hi, rfl, rfl, hall⟩
  simp only [wk,if_true,if_false,forall_const,implies_true,ne_eq,eq_self,Nat.reduceEqDiff,Nat.reduceAdd,Nat.reduceMul,Nat.reduceSub,Nat.reduceLeDiff,Nat.reduceLT,Int.reduceEq,Int.reduceLT,Int.reduceLE,Int.reduceAdd,Int.reduceSub,Int.reduceMul,Int.reduceNeg,Int.reduceNe,reduceCtorEq,Int.reduceToNat,↓reduceIte]
  refine ⟨fun hlt => ?_, fun hge => bool_eq ?_⟩
  · refine PCalls.use (p_wat s i hs (by omega)) ?_; simp only [wk,if_true,if_false,forall_const,implies_true,ne_eq,eq_self,Nat.reduceEqDiff,Nat.reduceAdd,Nat.reduceMul,Nat.reduceSub,Nat.reduceLeDiff,Nat.reduceLT,Int.reduceEq,Int.reduceLT,Int.reduceLE,Int.reduceAdd,Int.reduceSub,Int.reduceMul,Int.reduceNeg,Int.reduceNe,reduceCtorEq,Int.reduceToNat,↓reduceIte]
    refine ⟨fun h0 => bool_eq ?_, fun h0 => ⟨inR_of (by omega) (by omega), s.size / 2 - (i + 1), by omega, i + 1, by omega, rfl, rfl, fun j hj => ?_⟩⟩
    · simp only [wordMay]; symm; rw [decide_eq_false_iff_not]; rintro ⟨_, _, _, h4⟩; exact h4 i (by omega) (by omega)
    · by_cases e : j = i
      · subst e; omega
      · exact hall j (by omega)
  · simp only [wordMay]; symm; rw [decide_eq_true_eq]; exact ⟨by omega, by omega, by omega, fun j hj => hall j (by omega)⟩

theorem drop_str {l : List ByteArray} {i : Nat} (h : i < l.length) : (l.map AV.str).drop i = AV.str l[i] :: (l.map AV.str).drop (i + 1) := by
  rw [List.drop_eq_getElem_cons (by simpa using h)]; simp
theorem p_smay (l : List ByteArray) (hl : l.length ≤ 9223372036854775807) (hs : ∀ x ∈ l, x.size ≤ 9223372036854775807) : PCalls Try.prog 31 [.lst .ro l.length (l.map .str)] (.bool (setMay l)) := by
  refine pcalls_of (by first | rfl | simp [free, free.frees, frees_str, frees_u8, frees_u16]) (by first | rfl | simp [free, free.frees, frees_str, frees_u8, frees_u16]) (acalls_of mixed F_set_May_ok (Nat.le_of_ble_eq_true rfl) ?_); simp only [F_set_May, wk,if_true,if_false,forall_const,implies_true,ne_eq,eq_self,Nat.reduceEqDiff,Nat.reduceAdd,Nat.reduceMul,Nat.reduceSub,Nat.reduceLeDiff,Nat.reduceLT,Int.reduceEq,Int.reduceLT,Int.reduceLE,Int.reduceAdd,Int.reduceSub,Int.reduceMul,Int.reduceNeg,Int.reduceNe,reduceCtorEq,Int.reduceToNat,↓reduceIte]
  refine ⟨fun h1 => ?_, fun h1 => bool_eq (setMay_len (by omega)).symm⟩
  refine ⟨fun h2 => bool_eq (setMay_len (by omega)).symm, fun h2 => ?_⟩
  refine W_loop (fun n fr h => ∃ i : Nat, i ≤ l.length ∧ n = l.length - i ∧ fr = [(0, .lst .ro l.length (l.map .str)), (13, .lst .ro l.length (l.map .str)), (14, .int .i64 l.length), (15, .int .i64 i)] ∧ risingTo l i = true) l.length ⟨0, by omega, by omega, rfl, risingTo_zero l⟩ ?_
  rintro n fr h ⟨i, hi, rfl, rfl, hris⟩
  simp only [wk,if_true,if_false,forall_const,implies_true,ne_eq,eq_self,Nat.reduceEqDiff,Nat.reduceAdd,Nat.reduceMul,Nat.reduceSub,Nat.reduceLeDiff,Nat.reduceLT,Int.reduceEq,Int.reduceLT,Int.reduceLE,Int.reduceAdd,Int.reduceSub,Int.reduceMul,Int.reduceNeg,Int.reduceNe,reduceCtorEq,Int.reduceToNat,↓reduceIte]
  refine ⟨fun hlt => ?_, fun hge => bool_eq ?_⟩
  · have hil : i < l.length := by omega
    have hget : l[i]? = some l[i] := by simp [hil]
    refine ⟨⟨by omega, hlt⟩, ?_⟩
    rw [show (i : Int).toNat = i by omega, drop_str hil]
    simp only [wk,if_true,if_false,forall_const,implies_true,ne_eq,eq_self,Nat.reduceEqDiff,Nat.reduceAdd,Nat.reduceMul,Nat.reduceSub,Nat.reduceLeDiff,Nat.reduceLT,Int.reduceEq,Int.reduceLT,Int.reduceLE,Int.reduceAdd,Int.reduceSub,Int.reduceMul,Int.reduceNeg,Int.reduceNe,reduceCtorEq,Int.reduceToNat,↓reduceIte]
    refine PCalls.use (p_wmay l[i] (hs _ (List.getElem_mem hil))) ?_; simp only [wk,if_true,if_false,forall_const,implies_true,ne_eq,eq_self,Nat.reduceEqDiff,Nat.reduceAdd,Nat.reduceMul,Nat.reduceSub,Nat.reduceLeDiff,Nat.reduceLT,Int.reduceEq,Int.reduceLT,Int.reduceLE,Int.reduceAdd,Int.reduceSub,Int.reduceMul,Int.reduceNeg,Int.reduceNe,reduceCtorEq,Int.reduceToNat,↓reduceIte]
    refine ⟨fun hw => bool_eq ?_, fun hw => ⟨fun h0 => ?_, fun h0 => ?_⟩⟩
    · symm
      refine setMay_no (k := i + 1) (by omega) ?_
      cases hi0 : i with
      | zero => subst hi0; rw [risingTo_one hget, hw]
      | succ m => subst hi0; rw [risingTo_succ (x := l[m]'(by omega)) (List.getElem?_eq_getElem (by omega)) hget, hw]; simp
    · obtain ⟨m, rfl⟩ : ∃ m, i = m + 1 := ⟨i - 1, by omega⟩
      (repeat (refine And.intro (by first | omega | exact inR_of (by omega) (by omega) | exact ⟨by omega, by omega⟩ | exact ⟨by omega, by omega, by omega⟩ | rfl) ?_))
      rw [show (((m + 1 : Nat) : Int) - 1).toNat = m by omega, drop_str (show m < l.length by omega)]
      simp only [wk,if_true,if_false,forall_const,implies_true,ne_eq,eq_self,Nat.reduceEqDiff,Nat.reduceAdd,Nat.reduceMul,Nat.reduceSub,Nat.reduceLeDiff,Nat.reduceLT,Int.reduceEq,Int.reduceLT,Int.reduceLE,Int.reduceAdd,Int.reduceSub,Int.reduceMul,Int.reduceNeg,Int.reduceNe,reduceCtorEq,Int.reduceToNat,↓reduceIte]
      refine PCalls.use (p_wless l[m] l[m + 1]) ?_; simp only [wk,if_true,if_false,forall_const,implies_true,ne_eq,eq_self,Nat.reduceEqDiff,Nat.reduceAdd,Nat.reduceMul,Nat.reduceSub,Nat.reduceLeDiff,Nat.reduceLT,Int.reduceEq,Int.reduceLT,Int.reduceLE,Int.reduceAdd,Int.reduceSub,Int.reduceMul,Int.reduceNeg,Int.reduceNe,reduceCtorEq,Int.reduceToNat,↓reduceIte]
      refine ⟨fun hw2 => bool_eq ?_, fun hw2 => ⟨inR_of (by omega) (by omega), l.length - (m + 2), by omega, m + 2, by omega, rfl, rfl, ?_⟩⟩
      · symm
        refine setMay_no (k := m + 2) (by omega) ?_
        rw [risingTo_succ (x := l[m]) (List.getElem?_eq_getElem (by omega)) hget, hw2]; simp
      · rw [risingTo_succ (x := l[m]) (List.getElem?_eq_getElem (by omega)) hget, hw2, hw, hris]; rfl
    · have hi0 : i = 0 := by omega
      subst hi0
      refine ⟨inR_of (by omega) (by omega), l.length - 1, by omega, 1, by omega, rfl, rfl, ?_⟩
      rw [risingTo_one hget, hw]
  · rw [setMay_eq l (by omega) (by omega), show l.length = i by omega, hris]

def atomsL (s : ByteArray) (k : Nat) : List AV := (List.range k).map fun i => AV.int .u16 (atomAt s i)
theorem atomsL_succ (s : ByteArray) (k : Nat) : atomsL s (k + 1) = atomsL s k ++ [.int .u16 (atomAt s k)] := by simp [atomsL, List.range_succ]
theorem atomsL_len (s : ByteArray) (k : Nat) : (atomsL s k).length = k := by simp [atomsL]
theorem atomsL_drop {s : ByteArray} {k i : Nat} (h : i < k) : (atomsL s k).drop i = .int .u16 (atomAt s i) :: (atomsL s k).drop (i + 1) := by
  rw [List.drop_eq_getElem_cons (by rw [atomsL_len]; exact h)]; simp [atomsL]
theorem frees_atoms (s : ByteArray) (k : Nat) : free.frees (atomsL s k) = true := by
  have : atomsL s k = ((List.range k).map (atomAt s)).map fun (b : Nat) => AV.int .u16 (b : Int) := by simp [atomsL]
  rw [this, frees_u16]
theorem p_ratoms (s : ByteArray) (hs : s.size ≤ 140737488355328) : PCalls Try.prog 103 [.str s] (.lst .ro (s.size / 2) (atomsL s (s.size / 2))) := by
  refine pcalls_of rfl (by simp [free, frees_atoms]) (acalls_of mixed F_ref02_Atoms_ok (Nat.le_of_ble_eq_true rfl) ?_); simp only [F_ref02_Atoms, wk,if_true,if_false,forall_const,implies_true,ne_eq,eq_self,Nat.reduceEqDiff,Nat.reduceAdd,Nat.reduceMul,Nat.reduceSub,Nat.reduceLeDiff,Nat.reduceLT,Int.reduceEq,Int.reduceLT,Int.reduceLE,Int.reduceAdd,Int.reduceSub,Int.reduceMul,Int.reduceNeg,Int.reduceNe,reduceCtorEq,Int.reduceToNat,↓reduceIte]
  refine W_loop (fun n fr h => ∃ k : Nat, k ≤ s.size / 2 ∧ n = s.size / 2 - k ∧ fr = [(0, .str s), (3, .lst (.own 32) k (atomsL s k)), (4, .int .i64 (2 * (k : Int)))]) (s.size / 2) ⟨0, by omega, by omega, rfl⟩ ?_
  rintro n fr h ⟨k, hk, rfl, rfl⟩
  simp only [wk,if_true,if_false,forall_const,implies_true,ne_eq,eq_self,Nat.reduceEqDiff,Nat.reduceAdd,Nat.reduceMul,Nat.reduceSub,Nat.reduceLeDiff,Nat.reduceLT,Int.reduceEq,Int.reduceLT,Int.reduceLE,Int.reduceAdd,Int.reduceSub,Int.reduceMul,Int.reduceNeg,Int.reduceNe,reduceCtorEq,Int.reduceToNat,↓reduceIte]
  refine ⟨inR_of (by omega) (by omega), fun hlt => ?_, fun hge => ?_⟩
  · (repeat (refine And.intro (by first | omega | exact inR_of (by omega) (by omega) | exact ⟨by omega, by omega⟩ | exact ⟨by omega, by omega, by omega⟩ | rfl) ?_))
    refine ⟨s.size / 2 - (k + 1), by omega, k + 1, by omega, rfl, ?_⟩
    have hin : 2 * k + 1 < s.size := by omega
    have hx : s[2 * k].toNat < 256 := s[2 * k].toNat_lt
    have hy : s[2 * k + 1].toNat < 256 := s[2 * k + 1].toNat_lt
    have e1 : (2 * (k : Int)).toNat = 2 * k := by omega
    have e2 : (2 * (k : Int) + 1).toNat = 2 * k + 1 := by omega
    rw [e1, e2, byteAt_eq (by omega), byteAt_eq hin, atomsL_succ]
    have e3 : IntKind.u16.wrap (IntKind.u16.wrap (IntKind.u16.wrap ((s[2 * k].toNat : Nat) : Int) * 256) + IntKind.u16.wrap ((s[2 * k + 1].toNat : Nat) : Int)) = ((atomAt s k : Nat) : Int) := by
      simp only [atomAt, hin, dif_pos, IntKind.wrap_u16]; omega
    rw [e3]
    have e4 : (2 * ((k + 1 : Nat) : Int)) = 2 * (k : Int) + 2 := by omega
    rw [e4]
  · obtain rfl : k = s.size / 2 := by omega
    rfl
theorem p_rwless (a b : ByteArray) (ha : a.size ≤ 9223372036854775807) : PCalls Try.prog 76 [.str a, .str b] (.bool (wless a b)) := by
  refine pcalls_of (by first | rfl | simp [free, free.frees, frees_str, frees_u8, frees_u16]) (by first | rfl | simp [free, free.frees, frees_str, frees_u8, frees_u16]) (acalls_of mixed F_ref02_Less_ok (Nat.le_of_ble_eq_true rfl) ?_); simp only [F_ref02_Less, wk,if_true,if_false,forall_const,implies_true,ne_eq,eq_self,Nat.reduceEqDiff,Nat.reduceAdd,Nat.reduceMul,Nat.reduceSub,Nat.reduceLeDiff,Nat.reduceLT,Int.reduceEq,Int.reduceLT,Int.reduceLE,Int.reduceAdd,Int.reduceSub,Int.reduceMul,Int.reduceNeg,Int.reduceNe,reduceCtorEq,Int.reduceToNat,↓reduceIte]
  refine ⟨fun h => bool_eq ?_, fun h => ?_⟩
  · unfold wless; rw [if_neg (by omega)]; simp
  have hsz : a.size = b.size := by omega
  refine W_loop (fun n fr h => ∃ i : Nat, i ≤ a.size ∧ n = a.size - i ∧ fr = [(0, .str a), (1, .str b), (5, .int .i64 i)] ∧ ∀ j, (h1 : j < a.size) → j < i → a[j] = b[j]'(by omega)) a.size ⟨0, by omega, by omega, rfl, fun j _ hj => by omega⟩ ?_
  rintro n fr h ⟨i, hi, rfl, rfl, hall⟩
  simp only [wk,if_true,if_false,forall_const,implies_true,ne_eq,eq_self,Nat.reduceEqDiff,Nat.reduceAdd,Nat.reduceMul,Nat.reduceSub,Nat.reduceLeDiff,Nat.reduceLT,Int.reduceEq,Int.reduceLT,Int.reduceLE,Int.reduceAdd,Int.reduceSub,Int.reduceMul,Int.reduceNeg,Int.reduceNe,reduceCtorEq,Int.reduceToNat,↓reduceIte]
  refine ⟨fun hlt => ?_, fun hge => bool_eq ?_⟩
  · have hia : i < a.size := by omega
    have hib : i < b.size := by omega
    (repeat (refine And.intro (by first | omega | exact inR_of (by omega) (by omega) | exact ⟨by omega, by omega⟩ | exact ⟨by omega, by omega, by omega⟩ | rfl) ?_))
    rw [show (i : Int).toNat = i by omega, byteAt_eq hia, byteAt_eq hib]
    refine ⟨fun hne => ?_, fun he => ?_⟩
    · (repeat (refine And.intro (by first | omega | exact inR_of (by omega) (by omega) | exact ⟨by omega, by omega⟩ | exact ⟨by omega, by omega, by omega⟩ | rfl) ?_))
      refine bool_eq ?_
      have hne' : a[i] ≠ b[i] := fun e => hne (by rw [e])
      rw [wless_at hsz hia (fun j h1 h2 => hall j h1 h2) hne']
      simp
    · refine ⟨inR_of (by omega) (by omega), a.size - (i + 1), by omega, i + 1, by omega, rfl, rfl, fun j h1 hj => ?_⟩
      by_cases e : j = i
      · subst e; exact UInt8.toNat_inj.1 (by omega)
      · exact hall j h1 (by omega)
  · rw [wless_same hsz (fun j h1 => hall j h1 (by omega))]
theorem p_rwmay (s : ByteArray) (hs : s.size ≤ 140737488355328) : PCalls Try.prog 72 [.str s] (.bool (wordMay s)) := by
  refine pcalls_of (by first | rfl | simp [free, free.frees, frees_str, frees_u8, frees_u16]) (by first | rfl | simp [free, free.frees, frees_str, frees_u8, frees_u16]) (acalls_of mixed F_ref02_May_ok (Nat.le_of_ble_eq_true rfl) ?_); simp only [F_ref02_May, wk,if_true,if_false,forall_const,implies_true,ne_eq,eq_self,Nat.reduceEqDiff,Nat.reduceAdd,Nat.reduceMul,Nat.reduceSub,Nat.reduceLeDiff,Nat.reduceLT,Int.reduceEq,Int.reduceLT,Int.reduceLE,Int.reduceAdd,Int.reduceSub,Int.reduceMul,Int.reduceNeg,Int.reduceNe,reduceCtorEq,Int.reduceToNat,↓reduceIte]
  refine PCalls.use (p_ratoms s hs) ?_; simp only [wk,if_true,if_false,forall_const,implies_true,ne_eq,eq_self,Nat.reduceEqDiff,Nat.reduceAdd,Nat.reduceMul,Nat.reduceSub,Nat.reduceLeDiff,Nat.reduceLT,Int.reduceEq,Int.reduceLT,Int.reduceLE,Int.reduceAdd,Int.reduceSub,Int.reduceMul,Int.reduceNeg,Int.reduceNe,reduceCtorEq,Int.reduceToNat,↓reduceIte]
  refine W_loop (fun n fr h => ∃ i : Nat, i ≤ s.size / 2 ∧ n = s.size / 2 - i ∧ fr = [(0, .str s), (3, .lst .ro (s.size / 2) (atomsL s (s.size / 2))), (4, .int .i64 i)] ∧ (∀ j, j < i → atomAt s j ≠ 0)) (s.size / 2) ⟨0, by omega, by omega, rfl, fun j hj => by omega⟩ ?_
  rintro n fr h ⟨i, hi, rfl, rfl, hall⟩
  simp only [wk,if_true,if_false,forall_const,implies_true,ne_eq,eq_self,Nat.reduceEqDiff,Nat.reduceAdd,Nat.reduceMul,Nat.reduceSub,Nat.reduceLeDiff,Nat.reduceLT,Int.reduceEq,Int.reduceLT,Int.reduceLE,Int.reduceAdd,Int.reduceSub,Int.reduceMul,Int.reduceNeg,Int.reduceNe,reduceCtorEq,Int.reduceToNat,↓reduceIte]
  refine ⟨fun hlt => ?_, fun hge => ?_⟩
  · (repeat (refine And.intro (by first | omega | exact inR_of (by omega) (by omega) | exact ⟨by omega, by omega⟩ | exact ⟨by omega, by omega, by omega⟩ | rfl) ?_))
    rw [show (i : Int).toNat = i by omega, atomsL_drop (by omega)]
    simp only [wk,if_true,if_false,forall_const,implies_true,ne_eq,eq_self,Nat.reduceEqDiff,Nat.reduceAdd,Nat.reduceMul,Nat.reduceSub,Nat.reduceLeDiff,Nat.reduceLT,Int.reduceEq,Int.reduceLT,Int.reduceLE,Int.reduceAdd,Int.reduceSub,Int.reduceMul,Int.reduceNeg,Int.reduceNe,reduceCtorEq,Int.reduceToNat,↓reduceIte]
    refine ⟨fun h0 => bool_eq ?_, fun h0 => ⟨inR_of (by omega) (by omega), s.size / 2 - (i + 1), by omega, i + 1, by omega, rfl, rfl, fun j hj => ?_⟩⟩
    · simp only [wordMay]; symm; rw [decide_eq_false_iff_not]; rintro ⟨_, _, _, h4⟩; exact h4 i (by omega) (by omega)
    · by_cases e : j = i
      · subst e; omega
      · exact hall j (by omega)
  · rw [Int.tmod_eq_emod_of_nonneg (by omega)]
    have hall' : ∀ j, j < s.size / 2 → atomAt s j ≠ 0 := fun j hj => hall j (by omega)
    refine ⟨fun h1 => ⟨fun h2 => bool_eq ?_, fun h2 => bool_eq ?_⟩, fun h1 => bool_eq ?_⟩
    · simp only [wordMay]; rw [Bool.eq_iff_iff, decide_eq_true_eq, decide_eq_true_eq]
      exact ⟨fun h3 => ⟨by omega, by omega, by omega, hall'⟩, fun h3 => by omega⟩
    · simp only [wordMay]; symm; rw [decide_eq_false_iff_not]; omega
    · simp only [wordMay]; symm; rw [decide_eq_false_iff_not]; omega
set_option maxRecDepth 100000 in
set_option maxHeartbeats 2000000 in
theorem p_rsmay (l : List ByteArray) (hl : l.length ≤ 9223372036854775807) (hs : ∀ x ∈ l, x.size ≤ 140737488355328) : PCalls Try.prog 32 [.lst .ro l.length (l.map .str)] (.bool (setMay l)) := by
  refine pcalls_of (by first | rfl | simp [free, free.frees, frees_str, frees_u8, frees_u16]) (by first | rfl | simp [free, free.frees, frees_str, frees_u8, frees_u16]) (acalls_of mixed F_ref03_May_ok (Nat.le_of_ble_eq_true rfl) ?_); simp only [F_ref03_May, wk,if_true,if_false,forall_const,implies_true,ne_eq,eq_self,Nat.reduceEqDiff,Nat.reduceAdd,Nat.reduceMul,Nat.reduceSub,Nat.reduceLeDiff,Nat.reduceLT,Int.reduceEq,Int.reduceLT,Int.reduceLE,Int.reduceAdd,Int.reduceSub,Int.reduceMul,Int.reduceNeg,Int.reduceNe,reduceCtorEq,Int.reduceToNat,↓reduceIte]
  refine ⟨fun h1 => ?_, fun h1 => bool_eq (setMay_len (by omega)).symm⟩
  refine ⟨fun h2 => bool_eq (setMay_len (by omega)).symm, fun h2 => ?_⟩
  refine W_loop (fun n fr h => ∃ i : Nat, i ≤ l.length ∧ n = l.length - i ∧ fr = [(0, .lst .ro l.length (l.map .str)), (3, .int .i64 i)] ∧ risingTo l i = true) l.length ⟨0, by omega, by omega, rfl, risingTo_zero l⟩ ?_
  rintro n fr h ⟨i, hi, rfl, rfl, hris⟩
  simp only [wk,if_true,if_false,forall_const,implies_true,ne_eq,eq_self,Nat.reduceEqDiff,Nat.reduceAdd,Nat.reduceMul,Nat.reduceSub,Nat.reduceLeDiff,Nat.reduceLT,Int.reduceEq,Int.reduceLT,Int.reduceLE,Int.reduceAdd,Int.reduceSub,Int.reduceMul,Int.reduceNeg,Int.reduceNe,reduceCtorEq,Int.reduceToNat,↓reduceIte]
  refine ⟨fun hlt => ?_, fun hge => bool_eq ?_⟩
  · have hil : i < l.length := by omega
    have hget : l[i]? = some l[i] := by simp [hil]
    (repeat (refine And.intro (by first | omega | exact inR_of (by omega) (by omega) | exact ⟨by omega, by omega⟩ | exact ⟨by omega, by omega, by omega⟩ | rfl) ?_))
    rw [show (i : Int).toNat = i by omega, drop_str hil]
    simp only [wk,if_true,if_false,forall_const,implies_true,ne_eq,eq_self,Nat.reduceEqDiff,Nat.reduceAdd,Nat.reduceMul,Nat.reduceSub,Nat.reduceLeDiff,Nat.reduceLT,Int.reduceEq,Int.reduceLT,Int.reduceLE,Int.reduceAdd,Int.reduceSub,Int.reduceMul,Int.reduceNeg,Int.reduceNe,reduceCtorEq,Int.reduceToNat,↓reduceIte]
    refine ⟨_, p_rwmay l[i] (hs _ (List.getElem_mem hil)), ?_⟩; simp only [wk,if_true,if_false,forall_const,implies_true,ne_eq,eq_self,Nat.reduceEqDiff,Nat.reduceAdd,Nat.reduceMul,Nat.reduceSub,Nat.reduceLeDiff,Nat.reduceLT,Int.reduceEq,Int.reduceLT,Int.reduceLE,Int.reduceAdd,Int.reduceSub,Int.reduceMul,Int.reduceNeg,Int.reduceNe,reduceCtorEq,Int.reduceToNat,↓reduceIte]
    refine ⟨fun hw => ⟨fun h0 => ?_, fun h0 => ?_⟩, fun hw => bool_eq ?_⟩
    · obtain ⟨m, rfl⟩ : ∃ m, i = m + 1 := ⟨i - 1, by omega⟩
      (repeat (refine And.intro (by first | omega | exact inR_of (by omega) (by omega) | exact ⟨by omega, by omega⟩ | exact ⟨by omega, by omega, by omega⟩ | rfl) ?_))
      rw [show (((m + 1 : Nat) : Int) - 1).toNat = m by omega, drop_str (show m < l.length by omega)]
      simp only [wk,if_true,if_false,forall_const,implies_true,ne_eq,eq_self,Nat.reduceEqDiff,Nat.reduceAdd,Nat.reduceMul,Nat.reduceSub,Nat.reduceLeDiff,Nat.reduceLT,Int.reduceEq,Int.reduceLT,Int.reduceLE,Int.reduceAdd,Int.reduceSub,Int.reduceMul,Int.reduceNeg,Int.reduceNe,reduceCtorEq,Int.reduceToNat,↓reduceIte]
      (repeat (refine And.intro (by first | omega | exact inR_of (by omega) (by omega) | exact ⟨by omega, by omega⟩ | exact ⟨by omega, by omega, by omega⟩ | rfl) ?_))
      rw [show ((m + 1 : Nat) : Int).toNat = m + 1 by omega, drop_str hil]
      simp only [wk,if_true,if_false,forall_const,implies_true,ne_eq,eq_self,Nat.reduceEqDiff,Nat.reduceAdd,Nat.reduceMul,Nat.reduceSub,Nat.reduceLeDiff,Nat.reduceLT,Int.reduceEq,Int.reduceLT,Int.reduceLE,Int.reduceAdd,Int.reduceSub,Int.reduceMul,Int.reduceNeg,Int.reduceNe,reduceCtorEq,Int.reduceToNat,↓reduceIte]
      refine ⟨_, p_rwless l[m] l[m + 1] (by have := hs l[m] (List.getElem_mem (by omega)); omega), ?_⟩; simp only [wk,if_true,if_false,forall_const,implies_true,ne_eq,eq_self,Nat.reduceEqDiff,Nat.reduceAdd,Nat.reduceMul,Nat.reduceSub,Nat.reduceLeDiff,Nat.reduceLT,Int.reduceEq,Int.reduceLT,Int.reduceLE,Int.reduceAdd,Int.reduceSub,Int.reduceMul,Int.reduceNeg,Int.reduceNe,reduceCtorEq,Int.reduceToNat,↓reduceIte]
      refine ⟨fun hw2 => bool_eq ?_, fun hw2 => ⟨inR_of (by omega) (by omega), l.length - (m + 2), by omega, m + 2, by omega, rfl, rfl, ?_⟩⟩
      · symm
        refine setMay_no (k := m + 2) (by omega) ?_
        rw [risingTo_succ (x := l[m]) (List.getElem?_eq_getElem (by omega)) hget, hw2]; simp
      · rw [risingTo_succ (x := l[m]) (List.getElem?_eq_getElem (by omega)) hget, hw2, hw, hris]; rfl
    · have hi0 : i = 0 := by omega
      subst hi0
      refine ⟨inR_of (by omega) (by omega), l.length - 1, by omega, 1, by omega, rfl, rfl, ?_⟩
      rw [risingTo_one hget, hw]
    · symm
      refine setMay_no (k := i + 1) (by omega) ?_
      cases hi0 : i with
      | zero => subst hi0; rw [risingTo_one hget, hw]
      | succ m => subst hi0; rw [risingTo_succ (x := l[m]'(by omega)) (List.getElem?_eq_getElem (by omega)) hget, hw]; simp
  · rw [setMay_eq l (by omega) (by omega), show l.length = i by omega, hris]
theorem p_requal (a b : List ByteArray) (ha : a.length ≤ 9223372036854775807) : PCalls Try.prog 30 [.lst .ro a.length (a.map .str), .lst .ro b.length (b.map .str)] (.bool (decide (a = b))) := by
  refine pcalls_of (by first | rfl | simp [free, free.frees, frees_str, frees_u8, frees_u16]) (by first | rfl | simp [free, free.frees, frees_str, frees_u8, frees_u16]) (acalls_of mixed F_ref03_Equal_ok (Nat.le_of_ble_eq_true rfl) ?_); simp only [F_ref03_Equal, wk,if_true,if_false,forall_const,implies_true,ne_eq,eq_self,Nat.reduceEqDiff,Nat.reduceAdd,Nat.reduceMul,Nat.reduceSub,Nat.reduceLeDiff,Nat.reduceLT,Int.reduceEq,Int.reduceLT,Int.reduceLE,Int.reduceAdd,Int.reduceSub,Int.reduceMul,Int.reduceNeg,Int.reduceNe,reduceCtorEq,Int.reduceToNat,↓reduceIte]
  refine ⟨fun h => bool_eq ?_, fun h => ?_⟩
  · symm; rw [decide_eq_false_iff_not]; intro e; rw [e] at h; exact h rfl
  have hab : a.length = b.length := by omega
  refine W_loop (fun n fr h => ∃ i : Nat, i ≤ a.length ∧ n = a.length - i ∧ fr = [(0, .lst .ro a.length (a.map .str)), (1, .lst .ro b.length (b.map .str)), (5, .int .i64 i)] ∧ a.take i = b.take i) a.length ⟨0, by omega, by omega, rfl, rfl⟩ ?_
  rintro n fr h ⟨i, hi, rfl, rfl, hall⟩
  simp only [wk,if_true,if_false,forall_const,implies_true,ne_eq,eq_self,Nat.reduceEqDiff,Nat.reduceAdd,Nat.reduceMul,Nat.reduceSub,Nat.reduceLeDiff,Nat.reduceLT,Int.reduceEq,Int.reduceLT,Int.reduceLE,Int.reduceAdd,Int.reduceSub,Int.reduceMul,Int.reduceNeg,Int.reduceNe,reduceCtorEq,Int.reduceToNat,↓reduceIte]
  refine ⟨fun hlt => ?_, fun hge => bool_eq ?_⟩
  · have hia : i < a.length := by omega
    have hib : i < b.length := by omega
    (repeat (refine And.intro (by first | omega | exact inR_of (by omega) (by omega) | exact ⟨by omega, by omega⟩ | exact ⟨by omega, by omega, by omega⟩ | rfl) ?_))
    rw [show (i : Int).toNat = i by omega, drop_str hia]
    simp only [wk,if_true,if_false,forall_const,implies_true,ne_eq,eq_self,Nat.reduceEqDiff,Nat.reduceAdd,Nat.reduceMul,Nat.reduceSub,Nat.reduceLeDiff,Nat.reduceLT,Int.reduceEq,Int.reduceLT,Int.reduceLE,Int.reduceAdd,Int.reduceSub,Int.reduceMul,Int.reduceNeg,Int.reduceNe,reduceCtorEq,Int.reduceToNat,↓reduceIte]
    (repeat (refine And.intro (by first | omega | exact inR_of (by omega) (by omega) | exact ⟨by omega, by omega⟩ | exact ⟨by omega, by omega, by omega⟩ | rfl) ?_))
    rw [show (i : Int).toNat = i by omega, drop_str hib]
    simp only [wk,if_true,if_false,forall_const,implies_true,ne_eq,eq_self,Nat.reduceEqDiff,Nat.reduceAdd,Nat.reduceMul,Nat.reduceSub,Nat.reduceLeDiff,Nat.reduceLT,Int.reduceEq,Int.reduceLT,Int.reduceLE,Int.reduceAdd,Int.reduceSub,Int.reduceMul,Int.reduceNeg,Int.reduceNe,reduceCtorEq,Int.reduceToNat,↓reduceIte]
    refine ⟨fun hne => bool_eq ?_, fun he => ?_⟩
    · symm; rw [decide_eq_false_iff_not]; intro e; subst e; exact hne rfl
    · refine ⟨inR_of (by omega) (by omega), a.length - (i + 1), by omega, i + 1, by omega, rfl, rfl, ?_⟩
      rw [List.take_succ_eq_append_getElem hia, List.take_succ_eq_append_getElem hib, hall, he]
  · symm; rw [decide_eq_true_eq]
    rw [List.take_of_length_le (by omega), List.take_of_length_le (by omega)] at hall
    exact hall

abbrev u8s (l : List UInt8) : List AV := l.map fun b => AV.int .u8 b.toNat
theorem u8s_app (l m : List UInt8) : u8s l ++ u8s m = u8s (l ++ m) := by simp [u8s]
def atomBytes (l : List Nat) : List UInt8 := l.flatMap fun a => [UInt8.ofNat (a / 256), UInt8.ofNat (a % 256)]
abbrev u16s (l : List Nat) : List AV := l.map fun (b : Nat) => AV.int .u16 (b : Int)
theorem u16s_drop {l : List Nat} {i : Nat} (h : i < l.length) : (u16s l).drop i = .int .u16 ((l[i] : Nat) : Int) :: (u16s l).drop (i + 1) := by
  rw [List.drop_eq_getElem_cons (by simpa using h)]; simp
theorem p_rof (l : List Nat) (hl : l.length ≤ 70368744177664) (ha : ∀ a ∈ l, a < 65536) : PCalls Try.prog 47 [.lst .ro l.length (u16s l)] (.str ⟨(atomBytes l).toArray⟩) := by
  refine pcalls_of (by first | rfl | simp [free, free.frees, frees_str, frees_u8, frees_u16]) (by first | rfl | simp [free, free.frees, frees_str, frees_u8, frees_u16]) (acalls_of mixed F_ref02_Of_ok (Nat.le_of_ble_eq_true rfl) ?_); simp only [F_ref02_Of, wk,if_true,if_false,forall_const,implies_true,ne_eq,eq_self,Nat.reduceEqDiff,Nat.reduceAdd,Nat.reduceMul,Nat.reduceSub,Nat.reduceLeDiff,Nat.reduceLT,Int.reduceEq,Int.reduceLT,Int.reduceLE,Int.reduceAdd,Int.reduceSub,Int.reduceMul,Int.reduceNeg,Int.reduceNe,reduceCtorEq,Int.reduceToNat,↓reduceIte]
  refine W_loop (fun n fr h => ∃ i : Nat, i ≤ l.length ∧ n = l.length - i ∧ fr = [(0, .lst .ro l.length (u16s l)), (3, .lst (.own 5) (2 * i) (u8s (atomBytes (l.take i)))), (4, .int .i64 i)]) l.length ⟨0, by omega, by omega, rfl⟩ ?_
  rintro n fr h ⟨i, hi, rfl, rfl⟩
  simp only [wk,if_true,if_false,forall_const,implies_true,ne_eq,eq_self,Nat.reduceEqDiff,Nat.reduceAdd,Nat.reduceMul,Nat.reduceSub,Nat.reduceLeDiff,Nat.reduceLT,Int.reduceEq,Int.reduceLT,Int.reduceLE,Int.reduceAdd,Int.reduceSub,Int.reduceMul,Int.reduceNeg,Int.reduceNe,reduceCtorEq,Int.reduceToNat,↓reduceIte]
  refine ⟨fun hlt => ?_, fun hge => ?_⟩
  · have hil : i < l.length := by omega
    have h16 := ha l[i] (List.getElem_mem hil)
    (repeat (refine And.intro (by first | omega | exact inR_of (by omega) (by omega) | exact ⟨by omega, by omega⟩ | exact ⟨by omega, by omega, by omega⟩ | rfl) ?_))
    rw [show (i : Int).toNat = i by omega, u16s_drop hil]
    simp only [wk,if_true,if_false,forall_const,implies_true,ne_eq,eq_self,Nat.reduceEqDiff,Nat.reduceAdd,Nat.reduceMul,Nat.reduceSub,Nat.reduceLeDiff,Nat.reduceLT,Int.reduceEq,Int.reduceLT,Int.reduceLE,Int.reduceAdd,Int.reduceSub,Int.reduceMul,Int.reduceNeg,Int.reduceNe,reduceCtorEq,Int.reduceToNat,↓reduceIte]
    refine ⟨⟨by omega, by omega⟩, ?_⟩
    rw [show (i : Int).toNat = i by omega, u16s_drop hil]
    simp only [wk,if_true,if_false,forall_const,implies_true,ne_eq,eq_self,Nat.reduceEqDiff,Nat.reduceAdd,Nat.reduceMul,Nat.reduceSub,Nat.reduceLeDiff,Nat.reduceLT,Int.reduceEq,Int.reduceLT,Int.reduceLE,Int.reduceAdd,Int.reduceSub,Int.reduceMul,Int.reduceNeg,Int.reduceNe,reduceCtorEq,Int.reduceToNat,↓reduceIte]
    (repeat (refine And.intro (by first | omega | exact inR_of (by omega) (by omega) | exact ⟨by omega, by omega⟩ | exact ⟨by omega, by omega, by omega⟩ | rfl) ?_))
    refine ⟨l.length - (i + 1), by omega, i + 1, by omega, rfl, ?_⟩
    have e1 : IntKind.u8.wrap (IntKind.u16.wrap ((l[i] : Int).tdiv 256)) = ((UInt8.ofNat (l[i] / 256)).toNat : Int) := by
      rw [Int.tdiv_eq_ediv_of_nonneg (by omega), IntKind.wrap_u16, IntKind.wrap_u8]; simp only [UInt8.toNat_ofNat']; omega
    have e2 : IntKind.u8.wrap ((l[i] : Int).tmod 256) = ((UInt8.ofNat (l[i] % 256)).toNat : Int) := by
      rw [Int.tmod_eq_emod_of_nonneg (by omega), IntKind.wrap_u8]; simp only [UInt8.toNat_ofNat']; omega
    have e3 : atomBytes (l.take (i + 1)) = atomBytes (l.take i) ++ [UInt8.ofNat (l[i] / 256), UInt8.ofNat (l[i] % 256)] := by rw [List.take_succ_eq_append_getElem hil, atomBytes, List.flatMap_append]; rfl
    rw [e1, e2, e3, ← u8s_app]
    rfl
  · have : i = l.length := by omega
    subst this
    refine ⟨atomBytes l, by rw [List.take_length], ?_, rfl⟩
    have : ∀ l : List Nat, (atomBytes l).length = 2 * l.length := by
      intro l; induction l with
      | nil => rfl
      | cons a l ih => simp only [atomBytes, List.flatMap_cons, List.length_append, List.length_cons, List.length_nil] at ih ⊢; omega
    rw [this]
end Go.Proofs.Ytpiofcjkekpboaa

/- The abstract layer: a full slice may be handed where one is only read. -/
namespace Go.Proofs.Ytpiofcjkekpboaa
set_option linter.unusedSimpArgs false
set_option linter.unusedVariables false
open Go.RowKit Go.Lib

def ro : AV → AV
  | .lst .clip n l => .lst .ro n l
  | a => a
theorem Rep.ro {g : Gh} {v : Value} {a : AV} (h : Rep g v a) : Rep g v (ro a) := by
  cases h with
  | lst b off n c f vs l h1 h2 h3 h4 h5 => cases f with
    | clip => exact .lst b off n c .ro vs l h1 h2 h3 (fun h => by cases h) h5
    | _ => exact .lst b off n c _ vs l h1 h2 h3 h4 h5
  | lst0 a c f h => cases f with
    | clip => exact .lst0 a c .ro (fun h => by cases h)
    | _ => exact .lst0 a c _ h
  | itr b s p => exact .itr _ _ _
  | omp b ks vs => exact .omp b ks vs
  | mp b => exact .mp b
  | fmp b obj ks vs h1 h2 => exact .fmp b obj ks vs h1 h2
  | stk a c e o l h1 h2 h3 => exact .stk a c e o l h1 h2 h3
  | raw a n c h1 h2 => exact .raw a n c h1 h2
  | rawp b i n c => exact .rawp b i n c
  | opq v h h' => exact .opq _ h h'
  | frn v Q S W0 h h' h3 h4 => exact .frn _ Q S W0 h h' h3 h4
  | _ => first | exact .bool _ | exact .int _ _ | exact .str _ | exact .nilp | (exact .ptr _ _ _ ‹_›) | (exact .fp _ _ _ _ ‹_› ‹_› ‹_›) | (exact .hs _ _ _ _ ‹_› ‹_›) | (exact .hsc _ _ _ _ ‹_› ‹_›) | (exact .agg _ _ ‹_› ‹_› ‹_›) | (exact .tup _ _ ‹_› ‹_›) | (exact .fn _ _ _ ‹_› ‹_›) | (exact .fnb _ _ _ ‹_› ‹_›) | exact .nilf
theorem RepL.ro {g : Gh} : ∀ {vs : List Value} {l : List AV}, RepL g vs l → RepL g vs (l.map ro)
  | _, _, .nil => .nil
  | _, _, .cons h hl => .cons h.ro (RepL.ro hl)
theorem plain_ro {a : AV} (h : plain a = true) : plain (ro a) = true := by
  cases a with
  | lst f n l => cases f <;> first | rfl | exact h
  | _ => exact h
theorem free_ro (a : AV) : free (ro a) = free a := by
  cases a with
  | lst f n l => cases f <;> simp [Go.Proofs.Ytpiofcjkekpboaa.ro, free]
  | _ => rfl
theorem frees_ro : ∀ l : List AV, free.frees (l.map ro) = free.frees l
  | [] => rfl
  | a :: l => by simp only [List.map_cons, free.frees, free_ro, frees_ro l]
theorem ACalls.ro {P : Program} {f : FuncId} {args : List AV} {h : Hp} {R : AV → Hp → Prop} (hc : ACalls P f (args.map ro) h R) : ACalls P f args h R :=
  ⟨hc.1, fun g w vargs h1 h2 h3 h4 => hc.2 g w vargs h1 h2 h3.ro (fun a ha => by
    obtain ⟨b, hb, rfl⟩ := List.mem_map.1 ha
    exact plain_ro (h4 b hb))⟩
theorem PCalls.ro {P : Program} {f : FuncId} {args : List AV} {v : AV} (hc : PCalls P f (args.map ro) v) : PCalls P f args v :=
  ⟨by rw [← frees_ro]; exact hc.1, hc.2.1, ACalls.ro hc.2.2⟩
def rod : AV → AV
  | .tup l => .tup (l.map ro)
  | a => ro a
theorem Rep.rod {g : Gh} {v : Value} {a : AV} (h : Rep g v a) : Rep g v (rod a) := by
  cases h with
  | tup vs l h1 h2 => exact .tup vs _ (fun a ha => by obtain ⟨b, hb, rfl⟩ := List.mem_map.1 ha; exact plain_ro (h1 b hb)) h2.ro
  | lst b off n c f vs l h1 h2 h3 h4 h5 => exact (Rep.lst b off n c f vs l h1 h2 h3 h4 h5).ro
  | lst0 a c f h => exact (Rep.lst0 a c f h).ro
  | itr b s p => exact .itr _ _ _
  | omp b ks vs => exact .omp b ks vs
  | mp b => exact .mp b
  | fmp b obj ks vs h1 h2 => exact .fmp b obj ks vs h1 h2
  | stk a c e o l h1 h2 h3 => exact .stk a c e o l h1 h2 h3
  | raw a n c h1 h2 => exact .raw a n c h1 h2
  | rawp b i n c => exact .rawp b i n c
  | opq v h h' => exact .opq _ h h'
  | frn v Q S W0 h h' h3 h4 => exact .frn _ Q S W0 h h' h3 h4
  | _ => first | exact .bool _ | exact .int _ _ | exact .str _ | exact .nilp | (exact .ptr _ _ _ ‹_›) | (exact .fp _ _ _ _ ‹_› ‹_› ‹_›) | (exact .hs _ _ _ _ ‹_› ‹_›) | (exact .hsc _ _ _ _ ‹_› ‹_›) | (exact .agg _ _ ‹_› ‹_› ‹_›) | (exact .fn _ _ _ ‹_› ‹_›) | (exact .fnb _ _ _ ‹_› ‹_›) | exact .nilf
theorem plain_rod {a : AV} (h : plain a = true) : plain (rod a) = true := by
  cases a with
  | lst f n l => exact plain_ro h
  | _ => first | rfl | exact h
theorem ACalls.weak {P : Program} {f : FuncId} {args : List AV} {h : Hp} {R : AV → Hp → Prop} (hc : ACalls P f args h (fun a h' => R (Go.Proofs.Ytpiofcjkekpboaa.rod a) h')) : ACalls P f args h R :=
  ⟨hc.1, fun g w vargs h1 h2 h3 h4 => (hc.2 g w vargs h1 h2 h3 h4).mono fun _ _ ⟨x, a, h', g', q1, q2, q3, q4, q5, q6, q7⟩ => ⟨x, _, h', g', q1, q2, q3, q4, q5.rod, plain_rod q6, q7⟩⟩
theorem rod_tup (l : List AV) : rod (.tup l) = .tup (l.map ro) := id rfl
theorem ro_ro (n : Nat) (l : List AV) : ro (.lst .ro n l) = .lst .ro n l := id rfl
theorem ro_int (k : IntKind) (n : Int) : ro (.int k n) = .int k n := id rfl
end Go.Proofs.Ytpiofcjkekpboaa

/- What the reference's sets do: words in order, each once. -/
namespace Go.Proofs.Ytpiofcjkekpboaa
set_option linter.unusedSimpArgs false
set_option linter.unusedVariables false
open Go.RowKit Go.Lib

theorem rising_get {r : List ByteArray} (hr : rising r = true) : ∀ {i j : Nat} (hi : i < j) (hj : j < r.length), wless (r[i]'(by omega)) r[j] = true := by
  induction r with
  | nil => intro i j _ hj; simp at hj
  | cons x r ih =>
    obtain ⟨h1, h2⟩ := rising_cons.1 hr
    intro i j hi hj
    cases j with
    | zero => omega
    | succ j =>
      cases i with
      | zero => exact h1 _ (List.getElem_mem _)
      | succ i => exact ih h2 (by omega) (by simpa using hj)
def aft (r : List ByteArray) (k : Nat) (x : ByteArray) : Prop := k = 0 ∨ ∃ h : k - 1 < r.length, wless r[k - 1] x = true
theorem aft_iff {r : List ByteArray} (hr : rising r = true) {k j : Nat} (hk : k ≤ r.length) (hj : j < r.length) : aft r k r[j] ↔ k ≤ j := by
  unfold aft
  constructor
  · rintro (h | ⟨h, hw⟩)
    · omega
    · rcases Nat.lt_or_ge j k with hlt | hge
      · by_cases e : j = k - 1
        · subst e; rw [wless_irrefl] at hw; cases hw
        · have := rising_get hr (i := j) (j := k - 1) (by omega) (by omega)
          rw [wless_asymm this] at hw; cases hw
      · exact hge
  · intro h
    by_cases h0 : k = 0
    · exact .inl h0
    · exact .inr ⟨by omega, rising_get hr (by omega) hj⟩
structure RInv (l : List ByteArray) (k i : Nat) (best : ByteArray) (found : Bool) : Prop where
  no : found = false → ∀ x ∈ l.take i, ¬ aft (nrm l) k x
  mem : found = true → best ∈ l ∧ aft (nrm l) k best
  least : found = true → ∀ x ∈ l.take i, aft (nrm l) k x → wless x best = false
theorem RInv.zero (l : List ByteArray) (k : Nat) : RInv l k 0 ⟨#[]⟩ false := ⟨fun _ x hx => by simp at hx, fun h => (nomatch h), fun h => (nomatch h)⟩
theorem RInv.take {l : List ByteArray} {k i : Nat} {best : ByteArray} {found : Bool} (h : RInv l k i best found) (hi : i < l.length) (ha : aft (nrm l) k l[i]) (hb : found = true → wless l[i] best = true) : RInv l k (i + 1) l[i] true := by
  refine ⟨fun h => (nomatch h), fun _ => ⟨List.getElem_mem hi, ha⟩, fun _ x hx hax => ?_⟩
  rcases (by rw [List.take_succ_eq_append_getElem hi, List.mem_append] at hx; simpa using hx : x ∈ l.take i ∨ x = l[i]) with hx | rfl
  · cases found with
    | false => exact absurd hax (h.no rfl x hx)
    | true =>
      cases hw : wless x l[i] with
      | false => rfl
      | true =>
        have := wless_trans hw (hb rfl)
        rw [h.least rfl x hx hax] at this; cases this
  · exact wless_irrefl _
theorem RInv.skip {l : List ByteArray} {k i : Nat} {best : ByteArray} {found : Bool} (h : RInv l k i best found) (hi : i < l.length) (hs : ¬ aft (nrm l) k l[i] ∨ (found = true ∧ wless l[i] best = false)) : RInv l k (i + 1) best found := by
  have key : ∀ x, x ∈ l.take (i + 1) → x ∈ l.take i ∨ x = l[i] := fun x hx => by rw [List.take_succ_eq_append_getElem hi, List.mem_append] at hx; simpa using hx
  refine ⟨fun hf x hx => ?_, h.mem, fun hf x hx hax => ?_⟩
  · rcases key x hx with hx | rfl
    · exact h.no hf x hx
    · rcases hs with hs | ⟨hs, _⟩
      · exact hs
      · rw [hf] at hs; cases hs
  · rcases key x hx with hx | rfl
    · exact h.least hf x hx hax
    · rcases hs with hs | ⟨_, hs⟩
      · exact absurd hax hs
      · exact hs
theorem RInv.stop {l : List ByteArray} {k : Nat} {best : ByteArray} (h : RInv l k l.length best false) (hk : k ≤ (nrm l).length) : k = (nrm l).length := by
  rcases Nat.lt_or_ge k (nrm l).length with hlt | hge
  · have hm : (nrm l)[k] ∈ l := mem_nrm.1 (List.getElem_mem hlt)
    exact absurd ((aft_iff (rising_nrm l) hk hlt).2 (Nat.le_refl _)) (h.no rfl _ (by rw [List.take_length]; exact hm))
  · omega
theorem RInv.next {l : List ByteArray} {k : Nat} {best : ByteArray} (h : RInv l k l.length best true) (hk : k ≤ (nrm l).length) : ∃ hlt : k < (nrm l).length, best = (nrm l)[k] := by
  obtain ⟨hm, ha⟩ := h.mem rfl
  obtain ⟨j, hj, e⟩ := List.mem_iff_getElem.1 (mem_nrm.2 hm)
  subst e
  have hkj := (aft_iff (rising_nrm l) hk hj).1 ha
  refine ⟨by omega, ?_⟩
  by_cases e : j = k
  · subst e; rfl
  · have hlt : k < (nrm l).length := by omega
    have h1 := h.least rfl (nrm l)[k] (by rw [List.take_length]; exact mem_nrm.1 (List.getElem_mem hlt)) ((aft_iff (rising_nrm l) hk hlt).2 (Nat.le_refl _))
    rw [rising_get (rising_nrm l) (by omega) hj] at h1; cases h1
theorem nrm_len : ∀ l : List ByteArray, (nrm l).length ≤ l.length := by
  have h : ∀ (x : ByteArray) (l : List ByteArray), (ins x l).length ≤ l.length + 1 := by
    intro x l
    induction l with
    | nil => simp [ins]
    | cons y l ih => simp only [ins]; split; simp; split <;> simp only [List.length_cons] <;> omega
  intro l
  induction l with
  | nil => simp [nrm]
  | cons x l ih => simp only [nrm, List.length_cons]; have := h x (nrm l); omega
set_option maxRecDepth 100000 in
set_option maxHeartbeats 2000000 in
theorem p_rright (l : List ByteArray) (hl : l.length ≤ 1000000) (hs : ∀ x ∈ l, x.size ≤ 1000000) : PCalls Try.prog 74 [.lst .ro l.length (l.map .str)] (.lst .ro (nrm l).length ((nrm l).map .str)) := by
  refine pcalls_of (by first | rfl | simp [free, free.frees, frees_str, frees_u8, frees_u16]) (by first | rfl | simp [free, free.frees, frees_str, frees_u8, frees_u16]) (acalls_of mixed J_ref03_Right_ok (Nat.le_of_ble_eq_true rfl) ?_); simp only [J_ref03_Right, wk,if_true,if_false,forall_const,implies_true,ne_eq,eq_self,Nat.reduceEqDiff,Nat.reduceAdd,Nat.reduceMul,Nat.reduceSub,Nat.reduceLeDiff,Nat.reduceLT,Int.reduceEq,Int.reduceLT,Int.reduceLE,Int.reduceAdd,Int.reduceSub,Int.reduceMul,Int.reduceNeg,Int.reduceNe,reduceCtorEq,Int.reduceToNat,↓reduceIte]
  have hnl := nrm_len l
  refine W_loop (fun n fr h => ∃ k : Nat, k ≤ (nrm l).length ∧ n = (nrm l).length - k ∧ fr = [(0, .lst .ro l.length (l.map .str)), (3, .lst (.own 72) k (((nrm l).take k).map .str))]) (nrm l).length ⟨0, by omega, by omega, rfl⟩ ?_
  rintro n fr h ⟨k, hk, rfl, rfl⟩
  simp only [J_ref03_Right_j4, wk,if_true,if_false,forall_const,implies_true,ne_eq,eq_self,Nat.reduceEqDiff,Nat.reduceAdd,Nat.reduceMul,Nat.reduceSub,Nat.reduceLeDiff,Nat.reduceLT,Int.reduceEq,Int.reduceLT,Int.reduceLE,Int.reduceAdd,Int.reduceSub,Int.reduceMul,Int.reduceNeg,Int.reduceNe,reduceCtorEq,Int.reduceToNat,↓reduceIte]
  refine W_loop (fun n fr h => ∃ (i : Nat) (best : ByteArray) (found : Bool), i ≤ l.length ∧ n = l.length - i ∧ best.size ≤ 1000000 ∧ RInv l k i best found ∧ fr = [(0, .lst .ro l.length (l.map .str)), (3, .lst (.own 72) k (((nrm l).take k).map .str)), (4, .str best), (5, .bool found), (6, .int .i64 i)]) l.length ⟨0, ⟨#[]⟩, false, by omega, by omega, by decide, RInv.zero l k, rfl⟩ ?_
  rintro n fr h ⟨i, best, found, hi, rfl, hbs, hinv, rfl⟩
  simp only [J_ref03_Right_j3, wk,if_true,if_false,forall_const,implies_true,ne_eq,eq_self,Nat.reduceEqDiff,Nat.reduceAdd,Nat.reduceMul,Nat.reduceSub,Nat.reduceLeDiff,Nat.reduceLT,Int.reduceEq,Int.reduceLT,Int.reduceLE,Int.reduceAdd,Int.reduceSub,Int.reduceMul,Int.reduceNeg,Int.reduceNe,reduceCtorEq,Int.reduceToNat,↓reduceIte]
  refine ⟨fun hlt => ?_, fun hge => ?_⟩
  · have hil : i < l.length := by omega
    have hxs := hs l[i] (List.getElem_mem hil)
    have hd : (l.map AV.str).drop (i : Int).toNat = .str l[i] :: (l.map AV.str).drop (i + 1) := by rw [show (i : Int).toNat = i by omega, drop_str hil]
    have hz : (0 ≤ (i : Int)) = True := eq_true (by omega)
    have hlt' : ((i : Int) < (l.length : Int)) = True := eq_true (by omega)
    have htk : ∀ {fr0 : Fr} {Q : Exit → Fr → Hp → Prop} {h : Hp}, restr [0, 3, 4, 5, 6] fr0 = [(0, .lst .ro l.length (l.map .str)), (3, .lst (.own 72) k (((nrm l).take k).map .str)), (4, .str l[i]), (5, .bool true), (6, .int .i64 i)] → aft (nrm l) k l[i] → (found = true → wless l[i] best = true) → W Try.prog J_ref03_Right_j2 fr0 h (kloop [0, 3, 4, 5, 6] (fun n fr h => ∃ (i : Nat) (best : ByteArray) (found : Bool), i ≤ l.length ∧ n = l.length - i ∧ best.size ≤ 1000000 ∧ RInv l k i best found ∧ fr = [(0, .lst .ro l.length (l.map .str)), (3, .lst (.own 72) k (((nrm l).take k).map .str)), (4, .str best), (5, .bool found), (6, .int .i64 i)]) (l.length - i) Q) := by
      intro fr0 Q h hf ha hb
      simp only [J_ref03_Right_j2, W_keep]
      rw [hf]
      simp only [wk,if_true,if_false,forall_const,implies_true,ne_eq,eq_self,Nat.reduceEqDiff,Nat.reduceAdd,Nat.reduceMul,Nat.reduceSub,Nat.reduceLeDiff,Nat.reduceLT,Int.reduceEq,Int.reduceLT,Int.reduceLE,Int.reduceAdd,Int.reduceSub,Int.reduceMul,Int.reduceNeg,Int.reduceNe,reduceCtorEq,Int.reduceToNat,↓reduceIte]
      exact ⟨inR_of (by omega) (by omega), l.length - (i + 1), by omega, i + 1, l[i], true, by omega, rfl, hxs, hinv.take hil ha hb, rfl⟩
    have hsk : ∀ {fr0 : Fr} {Q : Exit → Fr → Hp → Prop} {h : Hp}, restr [0, 3, 4, 5, 6] fr0 = [(0, .lst .ro l.length (l.map .str)), (3, .lst (.own 72) k (((nrm l).take k).map .str)), (4, .str best), (5, .bool found), (6, .int .i64 i)] → (¬ aft (nrm l) k l[i] ∨ (found = true ∧ wless l[i] best = false)) → W Try.prog J_ref03_Right_j2 fr0 h (kloop [0, 3, 4, 5, 6] (fun n fr h => ∃ (i : Nat) (best : ByteArray) (found : Bool), i ≤ l.length ∧ n = l.length - i ∧ best.size ≤ 1000000 ∧ RInv l k i best found ∧ fr = [(0, .lst .ro l.length (l.map .str)), (3, .lst (.own 72) k (((nrm l).take k).map .str)), (4, .str best), (5, .bool found), (6, .int .i64 i)]) (l.length - i) Q) := by
      intro fr0 Q h hf hss
      simp only [J_ref03_Right_j2, W_keep]
      rw [hf]
      simp only [wk,if_true,if_false,forall_const,implies_true,ne_eq,eq_self,Nat.reduceEqDiff,Nat.reduceAdd,Nat.reduceMul,Nat.reduceSub,Nat.reduceLeDiff,Nat.reduceLT,Int.reduceEq,Int.reduceLT,Int.reduceLE,Int.reduceAdd,Int.reduceSub,Int.reduceMul,Int.reduceNeg,Int.reduceNe,reduceCtorEq,Int.reduceToNat,↓reduceIte]
      exact ⟨inR_of (by omega) (by omega), l.length - (i + 1), by omega, i + 1, best, found, by omega, rfl, hbs, hinv.skip hil hss, rfl⟩
    simp only [wk,if_true,if_false,forall_const,implies_true,ne_eq,eq_self,Nat.reduceEqDiff,Nat.reduceAdd,Nat.reduceMul,Nat.reduceSub,Nat.reduceLeDiff,Nat.reduceLT,Int.reduceEq,Int.reduceLT,Int.reduceLE,Int.reduceAdd,Int.reduceSub,Int.reduceMul,Int.reduceNeg,Int.reduceNe,reduceCtorEq,Int.reduceToNat,↓reduceIte, hd, hz, hlt']
    refine ⟨fun hk0 => ?_, fun hk0 => ?_⟩
    · -- some were taken
      have hkp : 0 < k := by omega
      have hkl : k - 1 < ((nrm l).take k).length := by rw [List.length_take]; omega
      have hd2 : (((nrm l).take k).map AV.str).drop ((k : Int) - 1).toNat = .str ((nrm l)[k - 1]'(by omega)) :: (((nrm l).take k).map AV.str).drop k := by
        rw [show ((k : Int) - 1).toNat = k - 1 by omega, drop_str hkl, List.getElem_take, show k - 1 + 1 = k by omega]
      refine ⟨inR_of (by omega) (by omega), ⟨by omega, by omega⟩, ?_⟩
      simp only [wk,if_true,if_false,forall_const,implies_true,ne_eq,eq_self,Nat.reduceEqDiff,Nat.reduceAdd,Nat.reduceMul,Nat.reduceSub,Nat.reduceLeDiff,Nat.reduceLT,Int.reduceEq,Int.reduceLT,Int.reduceLE,Int.reduceAdd,Int.reduceSub,Int.reduceMul,Int.reduceNeg,Int.reduceNe,reduceCtorEq,Int.reduceToNat,↓reduceIte, hd2, hd, hz, hlt']
      refine ⟨_, p_rwless (nrm l)[k - 1] l[i] (by have := hs _ (mem_nrm.1 (List.getElem_mem (l := nrm l) (n := k - 1) (by omega))); omega), ?_⟩
      have haf : ∀ b, wless (nrm l)[k - 1] l[i] = b → (b = true ↔ aft (nrm l) k l[i]) := by
        intro b hb
        unfold aft
        constructor
        · intro h; exact .inr ⟨by omega, by rw [hb, h]⟩
        · rintro (h | ⟨_, h⟩)
          · omega
          · rw [← hb]; exact h
      cases hwb : wless (nrm l)[k - 1] l[i] with
      | true =>
        simp only [wk,if_true,if_false,forall_const,implies_true,ne_eq,eq_self,Nat.reduceEqDiff,Nat.reduceAdd,Nat.reduceMul,Nat.reduceSub,Nat.reduceLeDiff,Nat.reduceLT,Int.reduceEq,Int.reduceLT,Int.reduceLE,Int.reduceAdd,Int.reduceSub,Int.reduceMul,Int.reduceNeg,Int.reduceNe,reduceCtorEq,Int.reduceToNat,↓reduceIte, hd, hz, hlt']
        refine ⟨fun hfo => ?_, fun hfo => htk (by first | rfl | (subst hfo; rfl)) ((haf true hwb).1 rfl) (fun h => by rw [hfo] at h; cases h)⟩
        subst hfo
        refine PCalls.use (p_rwless l[i] best (by omega)) ?_; simp only [wk,if_true,if_false,forall_const,implies_true,ne_eq,eq_self,Nat.reduceEqDiff,Nat.reduceAdd,Nat.reduceMul,Nat.reduceSub,Nat.reduceLeDiff,Nat.reduceLT,Int.reduceEq,Int.reduceLT,Int.reduceLE,Int.reduceAdd,Int.reduceSub,Int.reduceMul,Int.reduceNeg,Int.reduceNe,reduceCtorEq,Int.reduceToNat,↓reduceIte]
        refine ⟨fun hw => ?_, fun hw => ?_⟩
        · simp only [wk,if_true,if_false,forall_const,implies_true,ne_eq,eq_self,Nat.reduceEqDiff,Nat.reduceAdd,Nat.reduceMul,Nat.reduceSub,Nat.reduceLeDiff,Nat.reduceLT,Int.reduceEq,Int.reduceLT,Int.reduceLE,Int.reduceAdd,Int.reduceSub,Int.reduceMul,Int.reduceNeg,Int.reduceNe,reduceCtorEq,Int.reduceToNat,↓reduceIte, hd, hz, hlt']
          exact htk rfl ((haf true hwb).1 rfl) (fun _ => hw)
        · exact hsk rfl (.inr ⟨rfl, hw⟩)
      | false =>
        simp only [wk,if_true,if_false,forall_const,implies_true,ne_eq,eq_self,Nat.reduceEqDiff,Nat.reduceAdd,Nat.reduceMul,Nat.reduceSub,Nat.reduceLeDiff,Nat.reduceLT,Int.reduceEq,Int.reduceLT,Int.reduceLE,Int.reduceAdd,Int.reduceSub,Int.reduceMul,Int.reduceNeg,Int.reduceNe,reduceCtorEq,Int.reduceToNat,↓reduceIte]
        exact hsk rfl (.inl (fun h => by have := (haf false hwb).2 h; cases this))
    · have haf : aft (nrm l) k l[i] := .inl (by omega)
      refine ⟨fun hfo => ?_, fun hfo => htk (by first | rfl | (subst hfo; rfl)) haf (fun h => by rw [hfo] at h; cases h)⟩
      subst hfo
      refine PCalls.use (p_rwless l[i] best (by omega)) ?_; simp only [wk,if_true,if_false,forall_const,implies_true,ne_eq,eq_self,Nat.reduceEqDiff,Nat.reduceAdd,Nat.reduceMul,Nat.reduceSub,Nat.reduceLeDiff,Nat.reduceLT,Int.reduceEq,Int.reduceLT,Int.reduceLE,Int.reduceAdd,Int.reduceSub,Int.reduceMul,Int.reduceNeg,Int.reduceNe,reduceCtorEq,Int.reduceToNat,↓reduceIte]
      refine ⟨fun hw => ?_, fun hw => ?_⟩
      · simp only [wk,if_true,if_false,forall_const,implies_true,ne_eq,eq_self,Nat.reduceEqDiff,Nat.reduceAdd,Nat.reduceMul,Nat.reduceSub,Nat.reduceLeDiff,Nat.reduceLT,Int.reduceEq,Int.reduceLT,Int.reduceLE,Int.reduceAdd,Int.reduceSub,Int.reduceMul,Int.reduceNeg,Int.reduceNe,reduceCtorEq,Int.reduceToNat,↓reduceIte, hd, hz, hlt']
        exact htk rfl haf (fun _ => hw)
      · exact hsk rfl (.inr ⟨rfl, hw⟩)
  · have hie : i = l.length := by omega
    subst hie
    simp only [J_ref03_Right_j1, wk,if_true,if_false,forall_const,implies_true,ne_eq,eq_self,Nat.reduceEqDiff,Nat.reduceAdd,Nat.reduceMul,Nat.reduceSub,Nat.reduceLeDiff,Nat.reduceLT,Int.reduceEq,Int.reduceLT,Int.reduceLE,Int.reduceAdd,Int.reduceSub,Int.reduceMul,Int.reduceNeg,Int.reduceNe,reduceCtorEq,Int.reduceToNat,↓reduceIte]
    cases found with
    | false =>
      obtain rfl := hinv.stop hk
      exact ⟨fun _ => by rw [List.take_length], fun h => (nomatch h)⟩
    | true =>
      obtain ⟨hkl, rfl⟩ := hinv.next hk
      refine ⟨fun h => (nomatch h), fun _ => ⟨⟨by omega, by omega⟩, (nrm l).length - (k + 1), by omega, k + 1, by omega, rfl, ?_⟩⟩
      rw [List.take_succ_eq_append_getElem hkl, List.map_append]
      rfl
end Go.Proofs.Ytpiofcjkekpboaa

/- What the reference's sets do: Of, And, Quote, As, For, and what is asked. -/
namespace Go.Proofs.Ytpiofcjkekpboaa
set_option linter.unusedSimpArgs false
set_option linter.unusedVariables false
open Go.RowKit Go.Lib

def vSet (r : List ByteArray × Int) : AV := .tup [.lst .ro r.1.length (r.1.map .str), .int .i64 r.2]
theorem free_vSet (r : List ByteArray × Int) : free (vSet r) = true := by simp [vSet, free, free.frees, frees_str]
def boundE (l : List ByteArray) : List ByteArray × Int := if 1 ≤ l.length ∧ l.length ≤ 16 then (l, 0) else ([], 3)
theorem ofE_may {l : List ByteArray} (h : ∀ x ∈ l, wordMay x = true) : ofE l = boundE (nrm l) := by
  unfold ofE
  rw [if_neg (by rw [List.all_eq_true.2 h]; simp)]; rfl
theorem p_rbound (l : List ByteArray) (hl : l.length ≤ 1000000) : PCalls Try.prog 73 [.lst .ro l.length (l.map .str)] (vSet (boundE l)) := by
  refine pcalls_of (by simp [free, free.frees, frees_str]) (free_vSet _) (ACalls.weak (acalls_of mixed J_ref03_bound_ok (Nat.le_of_ble_eq_true rfl) ?_)); simp only [J_ref03_bound, wk,if_true,if_false,forall_const,implies_true,ne_eq,eq_self,Nat.reduceEqDiff,Nat.reduceAdd,Nat.reduceMul,Nat.reduceSub,Nat.reduceLeDiff,Nat.reduceLT,Int.reduceEq,Int.reduceLT,Int.reduceLE,Int.reduceAdd,Int.reduceSub,Int.reduceMul,Int.reduceNeg,Int.reduceNe,reduceCtorEq,Int.reduceToNat,↓reduceIte]
  refine ⟨fun h1 => ⟨fun h2 => ?_, fun h2 => ?_⟩, fun h1 => ?_⟩
  all_goals unfold boundE
  · rw [if_neg (by omega)]; rfl
  · rw [if_pos (by omega)]; rfl
  · rw [if_neg (by omega)]; rfl
set_option maxHeartbeats 1000000 in
theorem p_rsof (l : List ByteArray) (hl : l.length ≤ 1000000) (hs : ∀ x ∈ l, x.size ≤ 1000000) : PCalls Try.prog 29 [.lst .ro l.length (l.map .str)] (vSet (ofE l)) := by
  refine pcalls_of (by simp [free, free.frees, frees_str]) (free_vSet _) (ACalls.weak (acalls_of mixed J_ref03_Of_ok (Nat.le_of_ble_eq_true rfl) ?_)); simp only [J_ref03_Of, wk,if_true,if_false,forall_const,implies_true,ne_eq,eq_self,Nat.reduceEqDiff,Nat.reduceAdd,Nat.reduceMul,Nat.reduceSub,Nat.reduceLeDiff,Nat.reduceLT,Int.reduceEq,Int.reduceLT,Int.reduceLE,Int.reduceAdd,Int.reduceSub,Int.reduceMul,Int.reduceNeg,Int.reduceNe,reduceCtorEq,Int.reduceToNat,↓reduceIte]
  refine W_loop (fun n fr h => ∃ i : Nat, i ≤ l.length ∧ n = l.length - i ∧ fr = [(0, .lst .ro l.length (l.map .str)), (4, .int .i64 i)] ∧ ∀ x ∈ l.take i, wordMay x = true) l.length ⟨0, by omega, by omega, rfl, by simp⟩ ?_
  rintro n fr h ⟨i, hi, rfl, rfl, hall⟩
  simp only [J_ref03_Of_j2, wk,if_true,if_false,forall_const,implies_true,ne_eq,eq_self,Nat.reduceEqDiff,Nat.reduceAdd,Nat.reduceMul,Nat.reduceSub,Nat.reduceLeDiff,Nat.reduceLT,Int.reduceEq,Int.reduceLT,Int.reduceLE,Int.reduceAdd,Int.reduceSub,Int.reduceMul,Int.reduceNeg,Int.reduceNe,reduceCtorEq,Int.reduceToNat,↓reduceIte]
  refine ⟨fun hlt => ?_, fun hge => ?_⟩
  · have hil : i < l.length := by omega
    (repeat (refine And.intro (by first | omega | exact inR_of (by omega) (by omega) | exact ⟨by omega, by omega⟩ | exact ⟨by omega, by omega, by omega⟩ | rfl) ?_))
    rw [show (i : Int).toNat = i by omega, drop_str hil]
    simp only [wk,if_true,if_false,forall_const,implies_true,ne_eq,eq_self,Nat.reduceEqDiff,Nat.reduceAdd,Nat.reduceMul,Nat.reduceSub,Nat.reduceLeDiff,Nat.reduceLT,Int.reduceEq,Int.reduceLT,Int.reduceLE,Int.reduceAdd,Int.reduceSub,Int.reduceMul,Int.reduceNeg,Int.reduceNe,reduceCtorEq,Int.reduceToNat,↓reduceIte]
    refine PCalls.use (p_rwmay l[i] (by have := hs _ (List.getElem_mem hil); omega)) ?_; simp only [wk,if_true,if_false,forall_const,implies_true,ne_eq,eq_self,Nat.reduceEqDiff,Nat.reduceAdd,Nat.reduceMul,Nat.reduceSub,Nat.reduceLeDiff,Nat.reduceLT,Int.reduceEq,Int.reduceLT,Int.reduceLE,Int.reduceAdd,Int.reduceSub,Int.reduceMul,Int.reduceNeg,Int.reduceNe,reduceCtorEq,Int.reduceToNat,↓reduceIte]
    refine ⟨fun hm => ?_, fun hm => ⟨inR_of (by omega) (by omega), l.length - (i + 1), by omega, i + 1, by omega, rfl, rfl, fun x hx => ?_⟩⟩
    · unfold ofE
      rw [if_pos]
      · rfl
      · cases hb : l.all wordMay with
        | false => rfl
        | true => rw [List.all_eq_true.1 hb _ (List.getElem_mem hil)] at hm; cases hm
    · rw [List.take_succ_eq_append_getElem hil, List.mem_append] at hx
      rcases hx with hx | hx
      · exact hall x hx
      · simp at hx; subst hx; exact hm
  · rw [List.take_of_length_le (by omega)] at hall
    simp only [J_ref03_Of_j1, wk,if_true,if_false,forall_const,implies_true,ne_eq,eq_self,Nat.reduceEqDiff,Nat.reduceAdd,Nat.reduceMul,Nat.reduceSub,Nat.reduceLeDiff,Nat.reduceLT,Int.reduceEq,Int.reduceLT,Int.reduceLE,Int.reduceAdd,Int.reduceSub,Int.reduceMul,Int.reduceNeg,Int.reduceNe,reduceCtorEq,Int.reduceToNat,↓reduceIte]
    refine PCalls.use (p_rright l hl hs) ?_; simp only [wk,if_true,if_false,forall_const,implies_true,ne_eq,eq_self,Nat.reduceEqDiff,Nat.reduceAdd,Nat.reduceMul,Nat.reduceSub,Nat.reduceLeDiff,Nat.reduceLT,Int.reduceEq,Int.reduceLT,Int.reduceLE,Int.reduceAdd,Int.reduceSub,Int.reduceMul,Int.reduceNeg,Int.reduceNe,reduceCtorEq,Int.reduceToNat,↓reduceIte]
    refine PCalls.use (p_rbound (nrm l) (by have := nrm_len l; omega)) ?_; simp only [wk,if_true,if_false,forall_const,implies_true,ne_eq,eq_self,Nat.reduceEqDiff,Nat.reduceAdd,Nat.reduceMul,Nat.reduceSub,Nat.reduceLeDiff,Nat.reduceLT,Int.reduceEq,Int.reduceLT,Int.reduceLE,Int.reduceAdd,Int.reduceSub,Int.reduceMul,Int.reduceNeg,Int.reduceNe,reduceCtorEq,Int.reduceToNat,↓reduceIte]
    rw [ofE_may hall]
    simp only [vSet, rod_tup, ro_ro, ro_int, wk,if_true,if_false,forall_const,implies_true,ne_eq,eq_self,Nat.reduceEqDiff,Nat.reduceAdd,Nat.reduceMul,Nat.reduceSub,Nat.reduceLeDiff,Nat.reduceLT,Int.reduceEq,Int.reduceLT,Int.reduceLE,Int.reduceAdd,Int.reduceSub,Int.reduceMul,Int.reduceNeg,Int.reduceNe,reduceCtorEq,Int.reduceToNat,↓reduceIte]
set_option maxHeartbeats 1000000 in
theorem p_rand (a b : List ByteArray) (ha : a.length ≤ 10000) (hb : b.length ≤ 10000) (hsa : ∀ x ∈ a, x.size ≤ 1000000) (hsb : ∀ x ∈ b, x.size ≤ 1000000) : PCalls Try.prog 34 [.lst .ro a.length (a.map .str), .lst .ro b.length (b.map .str)] (vSet (andE a b)) := by
  refine pcalls_of (by simp [free, free.frees, frees_str]) (free_vSet _) (ACalls.weak (acalls_of mixed J_ref03_And_ok (Nat.le_of_ble_eq_true rfl) ?_)); simp only [J_ref03_And, wk,if_true,if_false,forall_const,implies_true,ne_eq,eq_self,Nat.reduceEqDiff,Nat.reduceAdd,Nat.reduceMul,Nat.reduceSub,Nat.reduceLeDiff,Nat.reduceLT,Int.reduceEq,Int.reduceLT,Int.reduceLE,Int.reduceAdd,Int.reduceSub,Int.reduceMul,Int.reduceNeg,Int.reduceNe,reduceCtorEq,Int.reduceToNat,↓reduceIte]
  refine PCalls.use (p_rsmay a (by omega) (fun x hx => by have := hsa x hx; omega)) ?_; simp only [wk,if_true,if_false,forall_const,implies_true,ne_eq,eq_self,Nat.reduceEqDiff,Nat.reduceAdd,Nat.reduceMul,Nat.reduceSub,Nat.reduceLeDiff,Nat.reduceLT,Int.reduceEq,Int.reduceLT,Int.reduceLE,Int.reduceAdd,Int.reduceSub,Int.reduceMul,Int.reduceNeg,Int.reduceNe,reduceCtorEq,Int.reduceToNat,↓reduceIte]
  refine ⟨fun hm => ?_, fun hm => ?_⟩
  · refine PCalls.use (p_rsmay b (by omega) (fun x hx => by have := hsb x hx; omega)) ?_; simp only [wk,if_true,if_false,forall_const,implies_true,ne_eq,eq_self,Nat.reduceEqDiff,Nat.reduceAdd,Nat.reduceMul,Nat.reduceSub,Nat.reduceLeDiff,Nat.reduceLT,Int.reduceEq,Int.reduceLT,Int.reduceLE,Int.reduceAdd,Int.reduceSub,Int.reduceMul,Int.reduceNeg,Int.reduceNe,reduceCtorEq,Int.reduceToNat,↓reduceIte]
    refine ⟨fun hm2 => ?_, fun hm2 => ?_⟩
    · unfold andE; rw [if_pos (.inr hm2)]; rfl
    · refine ⟨⟨by simp, by omega, by omega⟩, ⟨by simp, by omega, by omega⟩, ?_⟩
      rw [show a.length + b.length = (a ++ b).length by simp, ← List.map_append]
      refine PCalls.use (p_rright (a ++ b) (by simp; omega) (fun x hx => by rcases List.mem_append.1 hx with h | h; exact hsa x h; exact hsb x h)) ?_; simp only [wk,if_true,if_false,forall_const,implies_true,ne_eq,eq_self,Nat.reduceEqDiff,Nat.reduceAdd,Nat.reduceMul,Nat.reduceSub,Nat.reduceLeDiff,Nat.reduceLT,Int.reduceEq,Int.reduceLT,Int.reduceLE,Int.reduceAdd,Int.reduceSub,Int.reduceMul,Int.reduceNeg,Int.reduceNe,reduceCtorEq,Int.reduceToNat,↓reduceIte]
      refine PCalls.use (p_rbound (nrm (a ++ b)) (by have := nrm_len (a ++ b); simp at this; omega)) ?_; simp only [wk,if_true,if_false,forall_const,implies_true,ne_eq,eq_self,Nat.reduceEqDiff,Nat.reduceAdd,Nat.reduceMul,Nat.reduceSub,Nat.reduceLeDiff,Nat.reduceLT,Int.reduceEq,Int.reduceLT,Int.reduceLE,Int.reduceAdd,Int.reduceSub,Int.reduceMul,Int.reduceNeg,Int.reduceNe,reduceCtorEq,Int.reduceToNat,↓reduceIte]
      unfold andE
      rw [if_neg (by simp [hm, hm2]), ofE_may (fun x hx => by rcases List.mem_append.1 hx with h | h; exact (setMay_words hm).2 x h; exact (setMay_words hm2).2 x h)]
      simp only [vSet, rod_tup, ro_ro, ro_int, wk,if_true,if_false,forall_const,implies_true,ne_eq,eq_self,Nat.reduceEqDiff,Nat.reduceAdd,Nat.reduceMul,Nat.reduceSub,Nat.reduceLeDiff,Nat.reduceLT,Int.reduceEq,Int.reduceLT,Int.reduceLE,Int.reduceAdd,Int.reduceSub,Int.reduceMul,Int.reduceNeg,Int.reduceNe,reduceCtorEq,Int.reduceToNat,↓reduceIte]
  · unfold andE; rw [if_pos (.inl hm)]; rfl
def atomNs (s : ByteArray) : List Nat := (List.range (s.size / 2)).map (atomAt s)
theorem atomsL_eq (s : ByteArray) : atomsL s (s.size / 2) = u16s (atomNs s) := by simp [atomsL, atomNs, u16s]
theorem atomNs_len (s : ByteArray) : (atomNs s).length = s.size / 2 := by simp [atomNs]
theorem atomNs_lt (s : ByteArray) : ∀ a ∈ atomNs s, a < 65536 := by
  intro a ha
  obtain ⟨i, _, rfl⟩ := List.mem_map.1 ha
  exact atomAt_lt s i
theorem atomBytes_app (a b : List Nat) : atomBytes (a ++ b) = atomBytes a ++ atomBytes b := by simp [atomBytes]
theorem atomBytes_atoms {s : ByteArray} (h : s.size % 2 = 0) : atomBytes (atomNs s) = s.data.toList := by
  have key : ∀ k, 2 * k ≤ s.size → atomBytes ((List.range k).map (atomAt s)) = s.data.toList.take (2 * k) := by
    intro k
    induction k with
    | zero => intro _; rfl
    | succ k ih =>
      intro hk
      rw [List.range_succ, List.map_append, atomBytes_app, ih (by omega)]
      have h1 : 2 * k < s.data.toList.length := by simp; omega
      have h2 : 2 * k + 1 < s.data.toList.length := by simp; omega
      rw [show 2 * (k + 1) = 2 * k + 1 + 1 by omega, List.take_succ_eq_append_getElem h2, List.take_succ_eq_append_getElem h1, List.append_assoc]
      congr 1
      have ha : atomAt s k = s[2 * k].toNat * 256 + s[2 * k + 1].toNat := by unfold atomAt; rw [dif_pos (by omega)]
      have b1 := s[2 * k].toNat_lt
      have b2 := s[2 * k + 1].toNat_lt
      simp only [List.map_cons, List.map_nil, atomBytes, List.flatMap_cons, List.flatMap_nil, List.append_nil, ha]
      have e1 : (s[2 * k].toNat * 256 + s[2 * k + 1].toNat) / 256 = s[2 * k].toNat := by omega
      have e2 : (s[2 * k].toNat * 256 + s[2 * k + 1].toNat) % 256 = s[2 * k + 1].toNat := by omega
      rw [e1, e2]
      simp
      exact ⟨rfl, rfl⟩
  have := key (s.size / 2) (by omega)
  unfold atomNs
  rw [this, List.take_of_length_le (by simp; omega)]
def catN (l : List ByteArray) : List Nat := l.flatMap atomNs
def catE (l : List ByteArray) : ByteArray × Int := if 8 < (catN l).length then (⟨#[]⟩, 4) else (⟨(l.flatMap fun s => s.data.toList).toArray⟩, 0)
theorem catN_bytes {l : List ByteArray} (h : ∀ x ∈ l, x.size % 2 = 0) : atomBytes (catN l) = l.flatMap fun s => s.data.toList := by
  induction l with
  | nil => rfl
  | cons x l ih => simp only [catN, List.flatMap_cons] at ih ⊢; rw [atomBytes_app, atomBytes_atoms (h x (by simp)), ih (fun y hy => h y (by simp [hy]))]
set_option maxHeartbeats 1000000 in
theorem p_rcat (l : List ByteArray) (hl : l.length ≤ 1000) (hs : ∀ x ∈ l, x.size ≤ 1000) (hev : ∀ x ∈ l, x.size % 2 = 0) : PCalls Try.prog 81 [.lst .ro l.length (l.map .str)] (.tup [.str (catE l).1, .int .i64 (catE l).2]) := by
  refine pcalls_of (by first | rfl | simp [free, free.frees, frees_str, frees_u8, frees_u16]) (by first | rfl | simp [free, free.frees, frees_str, frees_u8, frees_u16]) (acalls_of mixed J_ref02_Cat_ok (Nat.le_of_ble_eq_true rfl) ?_); simp only [J_ref02_Cat, wk,if_true,if_false,forall_const,implies_true,ne_eq,eq_self,Nat.reduceEqDiff,Nat.reduceAdd,Nat.reduceMul,Nat.reduceSub,Nat.reduceLeDiff,Nat.reduceLT,Int.reduceEq,Int.reduceLT,Int.reduceLE,Int.reduceAdd,Int.reduceSub,Int.reduceMul,Int.reduceNeg,Int.reduceNe,reduceCtorEq,Int.reduceToNat,↓reduceIte]
  have hd : ∀ {i : Nat} (h : i < l.length), (l.map AV.str).drop (i : Int).toNat = .str l[i] :: (l.map AV.str).drop (i + 1) := fun h => by rw [show ∀ i : Nat, (i : Int).toNat = i from fun i => by omega, drop_str h]
  have hlen : ∀ i, (catN (l.take i)).length ≤ 500 * i := by
    intro i
    induction i with
    | zero => simp [catN]
    | succ i ih =>
      by_cases h : i < l.length
      · rw [List.take_succ_eq_append_getElem h]
        have := hs l[i] (List.getElem_mem h)
        simp only [catN, List.flatMap_append, List.length_append, List.flatMap_cons, List.flatMap_nil, List.append_nil, atomNs_len] at ih ⊢; omega
      · rw [List.take_of_length_le (by omega)] at ih ⊢; omega
  refine W_loop (fun n fr h => ∃ i : Nat, i ≤ l.length ∧ n = l.length - i ∧ fr = [(0, .lst .ro l.length (l.map .str)), (4, .lst (.own 32) 0 []), (5, .int .i64 i)]) l.length ⟨0, by omega, by omega, rfl⟩ ?_
  rintro n fr h ⟨i, hi, rfl, rfl⟩
  simp only [J_ref02_Cat_j4, wk,if_true,if_false,forall_const,implies_true,ne_eq,eq_self,Nat.reduceEqDiff,Nat.reduceAdd,Nat.reduceMul,Nat.reduceSub,Nat.reduceLeDiff,Nat.reduceLT,Int.reduceEq,Int.reduceLT,Int.reduceLE,Int.reduceAdd,Int.reduceSub,Int.reduceMul,Int.reduceNeg,Int.reduceNe,reduceCtorEq,Int.reduceToNat,↓reduceIte]
  refine ⟨fun hlt => ?_, fun hge => ?_⟩
  · have hil : i < l.length := by omega
    have he := hev l[i] (List.getElem_mem hil)
    refine ⟨⟨by omega, by omega⟩, ?_⟩
    simp only [hd hil, wk,if_true,if_false,forall_const,implies_true,ne_eq,eq_self,Nat.reduceEqDiff,Nat.reduceAdd,Nat.reduceMul,Nat.reduceSub,Nat.reduceLeDiff,Nat.reduceLT,Int.reduceEq,Int.reduceLT,Int.reduceLE,Int.reduceAdd,Int.reduceSub,Int.reduceMul,Int.reduceNeg,Int.reduceNe,reduceCtorEq,Int.reduceToNat,↓reduceIte]
    refine ⟨fun h1 => ?_, fun _ => ⟨inR_of (by omega) (by omega), l.length - (i + 1), by omega, i + 1, by omega, rfl, rfl⟩⟩
    rw [Int.tmod_eq_emod_of_nonneg (by omega)] at h1
    omega
  · simp only [J_ref02_Cat_j3, wk,if_true,if_false,forall_const,implies_true,ne_eq,eq_self,Nat.reduceEqDiff,Nat.reduceAdd,Nat.reduceMul,Nat.reduceSub,Nat.reduceLeDiff,Nat.reduceLT,Int.reduceEq,Int.reduceLT,Int.reduceLE,Int.reduceAdd,Int.reduceSub,Int.reduceMul,Int.reduceNeg,Int.reduceNe,reduceCtorEq,Int.reduceToNat,↓reduceIte]
    refine W_loop (fun n fr h => ∃ i : Nat, i ≤ l.length ∧ n = l.length - i ∧ fr = [(0, .lst .ro l.length (l.map .str)), (4, .lst (.own 32) (catN (l.take i)).length (u16s (catN (l.take i)))), (6, .int .i64 i)] ∧ (catN (l.take i)).length ≤ 8) l.length ⟨0, by omega, by omega, rfl, by simp [catN]⟩ ?_
    rintro n fr h ⟨i, hi, rfl, rfl, h8⟩
    simp only [J_ref02_Cat_j2, wk,if_true,if_false,forall_const,implies_true,ne_eq,eq_self,Nat.reduceEqDiff,Nat.reduceAdd,Nat.reduceMul,Nat.reduceSub,Nat.reduceLeDiff,Nat.reduceLT,Int.reduceEq,Int.reduceLT,Int.reduceLE,Int.reduceAdd,Int.reduceSub,Int.reduceMul,Int.reduceNeg,Int.reduceNe,reduceCtorEq,Int.reduceToNat,↓reduceIte]
    refine ⟨fun hlt => ?_, fun hge => ?_⟩
    · have hil : i < l.length := by omega
      have hx := hs l[i] (List.getElem_mem hil)
      have hnx : catN (l.take (i + 1)) = catN (l.take i) ++ atomNs l[i] := by unfold catN; rw [List.take_succ_eq_append_getElem hil, List.flatMap_append]; simp only [List.flatMap_cons, List.flatMap_nil, List.append_nil]
      refine ⟨⟨by omega, by omega⟩, ?_⟩
      simp only [hd hil, wk,if_true,if_false,forall_const,implies_true,ne_eq,eq_self,Nat.reduceEqDiff,Nat.reduceAdd,Nat.reduceMul,Nat.reduceSub,Nat.reduceLeDiff,Nat.reduceLT,Int.reduceEq,Int.reduceLT,Int.reduceLE,Int.reduceAdd,Int.reduceSub,Int.reduceMul,Int.reduceNeg,Int.reduceNe,reduceCtorEq,Int.reduceToNat,↓reduceIte]
      refine PCalls.use (p_ratoms l[i] (by omega)) ?_; simp only [wk,if_true,if_false,forall_const,implies_true,ne_eq,eq_self,Nat.reduceEqDiff,Nat.reduceAdd,Nat.reduceMul,Nat.reduceSub,Nat.reduceLeDiff,Nat.reduceLT,Int.reduceEq,Int.reduceLT,Int.reduceLE,Int.reduceAdd,Int.reduceSub,Int.reduceMul,Int.reduceNeg,Int.reduceNe,reduceCtorEq,Int.reduceToNat,↓reduceIte]
      rw [atomsL_eq]
      refine ⟨⟨by simp [atomNs_len], by omega, by omega⟩, ?_⟩
      rw [← atomNs_len, ← List.length_append, ← List.map_append, ← hnx]
      refine ⟨fun hgt => ?_, fun hng => ?_⟩
      · have hbig : 8 < (catN l).length := by
          have : catN l = catN (l.take (i + 1)) ++ catN (l.drop (i + 1)) := by unfold catN; rw [← List.flatMap_append, List.take_append_drop]
          rw [this, List.length_append]; omega
        unfold catE; rw [if_pos hbig]
      · exact ⟨inR_of (by omega) (by omega), l.length - (i + 1), by omega, i + 1, by omega, rfl, rfl, by omega⟩
    · obtain rfl : i = l.length := by omega
      rw [List.take_length] at h8 ⊢
      simp only [J_ref02_Cat_j1, wk,if_true,if_false,forall_const,implies_true,ne_eq,eq_self,Nat.reduceEqDiff,Nat.reduceAdd,Nat.reduceMul,Nat.reduceSub,Nat.reduceLeDiff,Nat.reduceLT,Int.reduceEq,Int.reduceLT,Int.reduceLE,Int.reduceAdd,Int.reduceSub,Int.reduceMul,Int.reduceNeg,Int.reduceNe,reduceCtorEq,Int.reduceToNat,↓reduceIte]
      refine PCalls.use (p_rof (catN l) (by omega) (fun a ha => by obtain ⟨s, _, hs⟩ := List.mem_flatMap.1 ha; exact atomNs_lt s a hs)) ?_; simp only [wk,if_true,if_false,forall_const,implies_true,ne_eq,eq_self,Nat.reduceEqDiff,Nat.reduceAdd,Nat.reduceMul,Nat.reduceSub,Nat.reduceLeDiff,Nat.reduceLT,Int.reduceEq,Int.reduceLT,Int.reduceLE,Int.reduceAdd,Int.reduceSub,Int.reduceMul,Int.reduceNeg,Int.reduceNe,reduceCtorEq,Int.reduceToNat,↓reduceIte]
      unfold catE
      rw [if_neg (by omega), catN_bytes hev]
end Go.Proofs.Ytpiofcjkekpboaa

/- What the reference's sets do: Quote, As, For. -/
namespace Go.Proofs.Ytpiofcjkekpboaa
set_option linter.unusedSimpArgs false
set_option linter.unusedVariables false
open Go.RowKit Go.Lib

theorem wordMay_even {s : ByteArray} (h : wordMay s = true) : s.size % 2 = 0 ∧ s.size ≤ 16 := by have := wordMay_size h; omega
theorem catE_two {x y : ByteArray} (hx : wordMay x = true) (hy : wordMay y = true) : catE [x, y] = if 8 < (x ++ y).size / 2 then (⟨#[]⟩, 4) else (x ++ y, 0) := by
  have h1 := wordMay_even hx
  have h2 := wordMay_even hy
  have e : (catN [x, y]).length = (x ++ y).size / 2 := by
    simp only [catN, List.flatMap_cons, List.flatMap_nil, List.append_nil, List.length_append, atomNs_len, ByteArray.size_append]; omega
  have e2 : (⟨([x, y].flatMap fun s => s.data.toList).toArray⟩ : ByteArray) = x ++ y := by
    apply ByteArray.ext; apply Array.ext'; simp
  unfold catE
  rw [e, e2]
def prodTo (a b : List ByteArray) (i k : Nat) : List ByteArray := prodW (a.take i) b ++ (match a[i]? with | some x => (b.take k).map fun y => x ++ y | none => [])
theorem prodTo_zero (a b : List ByteArray) (i : Nat) : prodTo a b i 0 = prodW (a.take i) b := by unfold prodTo; cases a[i]? <;> simp
theorem prodTo_succ {a b : List ByteArray} {i k : Nat} (hi : i < a.length) (hk : k < b.length) : prodTo a b i (k + 1) = prodTo a b i k ++ [a[i] ++ b[k]] := by
  unfold prodTo
  rw [List.getElem?_eq_getElem hi]
  simp only
  rw [List.take_succ_eq_append_getElem hk, List.map_append, List.append_assoc]; rfl
theorem prodTo_next {a b : List ByteArray} {i : Nat} (hi : i < a.length) : prodTo a b i b.length = prodW (a.take (i + 1)) b := by
  unfold prodTo prodW
  rw [List.getElem?_eq_getElem hi, List.take_succ_eq_append_getElem hi, List.flatMap_append, List.take_length]
  simp
theorem prodTo_len {a b : List ByteArray} {i k : Nat} (ha : a.length ≤ 16) (hb : b.length ≤ 16) : (prodTo a b i k).length ≤ 272 := by
  have h1 : ∀ l : List ByteArray, (prodW l b).length = l.length * b.length := by
    intro l
    induction l with
    | nil => simp [prodW]
    | cons x l ih => simp only [prodW, List.flatMap_cons, List.length_append, List.length_map, List.length_cons] at ih ⊢; rw [ih, Nat.add_mul]; omega
  unfold prodTo
  rw [List.length_append, h1]
  have h2 : (a.take i).length * b.length ≤ 16 * 16 := Nat.mul_le_mul (by rw [List.length_take]; omega) hb
  have h3 : (match a[i]? with | some x => (b.take k).map fun y => x ++ y | none => []).length ≤ 16 := by
    cases a[i]? with
    | none => simp
    | some x => simp only [List.length_map, List.length_take]; omega
  omega
theorem mem_prodW {a b : List ByteArray} {w : ByteArray} : w ∈ prodW a b ↔ ∃ x ∈ a, ∃ y ∈ b, w = x ++ y := by
  unfold prodW
  simp only [List.mem_flatMap, List.mem_map]
  constructor
  · rintro ⟨x, hx, y, hy, rfl⟩; exact ⟨x, hx, y, hy, rfl⟩
  · rintro ⟨x, hx, y, hy, rfl⟩; exact ⟨x, hx, y, hy, rfl⟩
theorem atomAt_app_left {x y : ByteArray} {i : Nat} (h : 2 * i + 1 < x.size) : atomAt (x ++ y) i = atomAt x i := by
  unfold atomAt
  rw [dif_pos (by rw [ByteArray.size_append]; omega), dif_pos h, ByteArray.getElem_append_left (by omega), ByteArray.getElem_append_left h]
theorem atomAt_app_right {x y : ByteArray} {i : Nat} (hx : x.size % 2 = 0) (h : x.size ≤ 2 * i) (h2 : 2 * i + 1 < (x ++ y).size) : atomAt (x ++ y) i = atomAt y (i - x.size / 2) := by
  rw [ByteArray.size_append] at h2
  unfold atomAt
  rw [dif_pos (by rw [ByteArray.size_append]; omega), dif_pos (by omega), ByteArray.getElem_append_right (by omega), ByteArray.getElem_append_right (by omega)]
  have e1 : 2 * (i - x.size / 2) = 2 * i - x.size := by omega
  have e2 : 2 * i + 1 - x.size = 2 * i - x.size + 1 := by omega
  simp only [e1, e2]
theorem wordMay_app {x y : ByteArray} (hx : wordMay x = true) (hy : wordMay y = true) (h8 : (x ++ y).size / 2 ≤ 8) : wordMay (x ++ y) = true := by
  have h1 := wordMay_size hx
  have h2 := wordMay_size hy
  simp only [wordMay, decide_eq_true_eq] at hx hy ⊢
  rw [ByteArray.size_append] at h8 ⊢
  refine ⟨by omega, by omega, by omega, fun i hi => ?_⟩
  by_cases h : 2 * i < x.size
  · rw [atomAt_app_left (by omega)]; exact hx.2.2.2 i (by omega)
  · rw [atomAt_app_right (by omega) (by omega) (by rw [ByteArray.size_append]; omega)]; exact hy.2.2.2 _ (by omega)
theorem quoteE_big {a b : List ByteArray} (ha : setMay a = true) (hb : setMay b = true) {x y : ByteArray} (hx : x ∈ a) (hy : y ∈ b) (h : 8 < (x ++ y).size / 2) : quoteE a b = ([], 4) := by
  unfold quoteE
  rw [if_neg (by simp [ha, hb]), if_pos]
  rw [List.any_eq_true]
  exact ⟨x ++ y, mem_prodW.2 ⟨x, hx, y, hy, rfl⟩, by simpa using h⟩
theorem quoteE_fit {a b : List ByteArray} (ha : setMay a = true) (hb : setMay b = true) (h : ∀ w ∈ prodW a b, w.size / 2 ≤ 8) : quoteE a b = boundE (nrm (prodW a b)) := by
  unfold quoteE
  rw [if_neg (by simp [ha, hb]), if_neg]
  · refine ofE_may fun w hw => ?_
    have h8 := h w hw
    obtain ⟨x, hx, y, hy, rfl⟩ := mem_prodW.1 hw
    exact wordMay_app ((setMay_words ha).2 x hx) ((setMay_words hb).2 y hy) h8
  · rw [List.any_eq_true]
    rintro ⟨w, hw, h1⟩
    have := h w hw
    simp only [decide_eq_true_eq] at h1
    omega
set_option maxRecDepth 100000 in
set_option maxHeartbeats 2000000 in
theorem p_rquote (a b : List ByteArray) (ha : a.length ≤ 10000) (hb : b.length ≤ 10000) (hsa : ∀ x ∈ a, x.size ≤ 1000000) (hsb : ∀ x ∈ b, x.size ≤ 1000000) : PCalls Try.prog 36 [.lst .ro a.length (a.map .str), .lst .ro b.length (b.map .str)] (vSet (quoteE a b)) := by
  refine pcalls_of (by simp [free, free.frees, frees_str]) (free_vSet _) (ACalls.weak (acalls_of mixed J_ref03_Quote_ok (Nat.le_of_ble_eq_true rfl) ?_)); simp only [J_ref03_Quote, wk,if_true,if_false,forall_const,implies_true,ne_eq,eq_self,Nat.reduceEqDiff,Nat.reduceAdd,Nat.reduceMul,Nat.reduceSub,Nat.reduceLeDiff,Nat.reduceLT,Int.reduceEq,Int.reduceLT,Int.reduceLE,Int.reduceAdd,Int.reduceSub,Int.reduceMul,Int.reduceNeg,Int.reduceNe,reduceCtorEq,Int.reduceToNat,↓reduceIte]
  refine PCalls.use (p_rsmay a (by omega) (fun x hx => by have := hsa x hx; omega)) ?_; simp only [wk,if_true,if_false,forall_const,implies_true,ne_eq,eq_self,Nat.reduceEqDiff,Nat.reduceAdd,Nat.reduceMul,Nat.reduceSub,Nat.reduceLeDiff,Nat.reduceLT,Int.reduceEq,Int.reduceLT,Int.reduceLE,Int.reduceAdd,Int.reduceSub,Int.reduceMul,Int.reduceNeg,Int.reduceNe,reduceCtorEq,Int.reduceToNat,↓reduceIte]
  refine ⟨fun hm => ?_, fun hm => by unfold quoteE; rw [if_pos (.inl hm)]; rfl⟩
  refine PCalls.use (p_rsmay b (by omega) (fun x hx => by have := hsb x hx; omega)) ?_; simp only [wk,if_true,if_false,forall_const,implies_true,ne_eq,eq_self,Nat.reduceEqDiff,Nat.reduceAdd,Nat.reduceMul,Nat.reduceSub,Nat.reduceLeDiff,Nat.reduceLT,Int.reduceEq,Int.reduceLT,Int.reduceLE,Int.reduceAdd,Int.reduceSub,Int.reduceMul,Int.reduceNeg,Int.reduceNe,reduceCtorEq,Int.reduceToNat,↓reduceIte]
  refine ⟨fun hm2 => by unfold quoteE; rw [if_pos (.inr hm2)]; rfl, fun hm2 => ?_⟩
  have hwa := setMay_words hm
  have hwb := setMay_words hm2
  refine W_loop (fun n fr h => ∃ i : Nat, i ≤ a.length ∧ n = a.length - i ∧ fr = [(0, .lst .ro a.length (a.map .str)), (1, .lst .ro b.length (b.map .str)), (6, .lst (.own 72) (prodTo a b i 0).length ((prodTo a b i 0).map .str)), (7, .int .i64 i)] ∧ ∀ w ∈ prodTo a b i 0, w.size / 2 ≤ 8) a.length ⟨0, by omega, by omega, by simp [prodTo_zero, prodW]; rfl, by simp [prodTo_zero, prodW]⟩ ?_
  rintro n fr h ⟨i, hi, rfl, rfl, hfit⟩
  simp only [J_ref03_Quote_j4, wk,if_true,if_false,forall_const,implies_true,ne_eq,eq_self,Nat.reduceEqDiff,Nat.reduceAdd,Nat.reduceMul,Nat.reduceSub,Nat.reduceLeDiff,Nat.reduceLT,Int.reduceEq,Int.reduceLT,Int.reduceLE,Int.reduceAdd,Int.reduceSub,Int.reduceMul,Int.reduceNeg,Int.reduceNe,reduceCtorEq,Int.reduceToNat,↓reduceIte]
  refine ⟨fun hlt => ?_, fun hge => ?_⟩
  · have hil : i < a.length := by omega
    have hda : (a.map AV.str).drop (i : Int).toNat = .str a[i] :: (a.map AV.str).drop (i + 1) := by rw [show (i : Int).toNat = i by omega, drop_str hil]
    refine W_loop (fun n fr h => ∃ k : Nat, k ≤ b.length ∧ n = b.length - k ∧ fr = [(0, .lst .ro a.length (a.map .str)), (1, .lst .ro b.length (b.map .str)), (6, .lst (.own 72) (prodTo a b i k).length ((prodTo a b i k).map .str)), (7, .int .i64 i), (8, .int .i64 k)] ∧ ∀ w ∈ prodTo a b i k, w.size / 2 ≤ 8) b.length ⟨0, by omega, by omega, rfl, hfit⟩ ?_
    rintro n fr h ⟨k, hk, rfl, rfl, hfit2⟩
    simp only [J_ref03_Quote_j3, wk,if_true,if_false,forall_const,implies_true,ne_eq,eq_self,Nat.reduceEqDiff,Nat.reduceAdd,Nat.reduceMul,Nat.reduceSub,Nat.reduceLeDiff,Nat.reduceLT,Int.reduceEq,Int.reduceLT,Int.reduceLE,Int.reduceAdd,Int.reduceSub,Int.reduceMul,Int.reduceNeg,Int.reduceNe,reduceCtorEq,Int.reduceToNat,↓reduceIte]
    refine ⟨fun hlt2 => ?_, fun hge2 => ?_⟩
    · have hkl : k < b.length := by omega
      have hdb : (b.map AV.str).drop (k : Int).toNat = .str b[k] :: (b.map AV.str).drop (k + 1) := by rw [show (k : Int).toNat = k by omega, drop_str hkl]
      have hplen := prodTo_len (a := a) (b := b) (i := i) (k := k) (by omega) (by omega)
      have hwx := hwa.2 a[i] (List.getElem_mem hil)
      have hwy := hwb.2 b[k] (List.getElem_mem hkl)
      refine ⟨⟨by omega, by omega⟩, ?_⟩
      simp only [hda, wk,if_true,if_false,forall_const,implies_true,ne_eq,eq_self,Nat.reduceEqDiff,Nat.reduceAdd,Nat.reduceMul,Nat.reduceSub,Nat.reduceLeDiff,Nat.reduceLT,Int.reduceEq,Int.reduceLT,Int.reduceLE,Int.reduceAdd,Int.reduceSub,Int.reduceMul,Int.reduceNeg,Int.reduceNe,reduceCtorEq,Int.reduceToNat,↓reduceIte]
      refine ⟨⟨by omega, by omega⟩, ?_⟩
      simp only [hdb, wk,if_true,if_false,forall_const,implies_true,ne_eq,eq_self,Nat.reduceEqDiff,Nat.reduceAdd,Nat.reduceMul,Nat.reduceSub,Nat.reduceLeDiff,Nat.reduceLT,Int.reduceEq,Int.reduceLT,Int.reduceLE,Int.reduceAdd,Int.reduceSub,Int.reduceMul,Int.reduceNeg,Int.reduceNe,reduceCtorEq,Int.reduceToNat,↓reduceIte]
      have hcat := p_rcat [a[i], b[k]] (by simp) (by intro x hx; simp at hx; rcases hx with rfl | rfl; exact (by have := wordMay_even hwx; omega); exact (by have := wordMay_even hwy; omega)) (by intro x hx; simp at hx; rcases hx with rfl | rfl; exact (wordMay_even hwx).1; exact (wordMay_even hwy).1)
      rw [catE_two hwx hwy] at hcat
      refine ⟨_, hcat, ?_⟩
      by_cases h8 : 8 < (a[i] ++ b[k]).size / 2
      · simp only [if_pos h8, wk,if_true,if_false,forall_const,implies_true,ne_eq,eq_self,Nat.reduceEqDiff,Nat.reduceAdd,Nat.reduceMul,Nat.reduceSub,Nat.reduceLeDiff,Nat.reduceLT,Int.reduceEq,Int.reduceLT,Int.reduceLE,Int.reduceAdd,Int.reduceSub,Int.reduceMul,Int.reduceNeg,Int.reduceNe,reduceCtorEq,Int.reduceToNat,↓reduceIte]
        rw [quoteE_big hm hm2 (List.getElem_mem hil) (List.getElem_mem hkl) h8]; rfl
      · simp only [if_neg h8, wk,if_true,if_false,forall_const,implies_true,ne_eq,eq_self,Nat.reduceEqDiff,Nat.reduceAdd,Nat.reduceMul,Nat.reduceSub,Nat.reduceLeDiff,Nat.reduceLT,Int.reduceEq,Int.reduceLT,Int.reduceLE,Int.reduceAdd,Int.reduceSub,Int.reduceMul,Int.reduceNeg,Int.reduceNe,reduceCtorEq,Int.reduceToNat,↓reduceIte]
        (repeat (refine And.intro (by first | omega | exact inR_of (by omega) (by omega) | exact ⟨by omega, by omega⟩ | exact ⟨by omega, by omega, by omega⟩ | rfl) ?_))
        refine ⟨b.length - (k + 1), by omega, k + 1, by omega, rfl, ?_, fun w hw => ?_⟩
        · rw [prodTo_succ hil hkl]; simp
        · rw [prodTo_succ hil hkl, List.mem_append] at hw
          rcases hw with hw | hw
          · exact hfit2 w hw
          · simp at hw; subst hw; omega
    · obtain rfl : k = b.length := by omega
      simp only [J_ref03_Quote_j2, wk,if_true,if_false,forall_const,implies_true,ne_eq,eq_self,Nat.reduceEqDiff,Nat.reduceAdd,Nat.reduceMul,Nat.reduceSub,Nat.reduceLeDiff,Nat.reduceLT,Int.reduceEq,Int.reduceLT,Int.reduceLE,Int.reduceAdd,Int.reduceSub,Int.reduceMul,Int.reduceNeg,Int.reduceNe,reduceCtorEq,Int.reduceToNat,↓reduceIte]
      refine ⟨inR_of (by omega) (by omega), a.length - (i + 1), by omega, i + 1, by omega, rfl, ?_, ?_⟩
      · rw [prodTo_zero, ← prodTo_next hil]; rfl
      · rw [prodTo_zero, ← prodTo_next hil]; exact hfit2
  · obtain rfl : i = a.length := by omega
    rw [prodTo_zero, List.take_length] at hfit ⊢
    have hpl : (prodW a b).length ≤ 272 := by
      have := prodTo_len (a := a) (b := b) (i := a.length) (k := 0) (by omega) (by omega)
      rwa [prodTo_zero, List.take_length] at this
    simp only [J_ref03_Quote_j1, wk,if_true,if_false,forall_const,implies_true,ne_eq,eq_self,Nat.reduceEqDiff,Nat.reduceAdd,Nat.reduceMul,Nat.reduceSub,Nat.reduceLeDiff,Nat.reduceLT,Int.reduceEq,Int.reduceLT,Int.reduceLE,Int.reduceAdd,Int.reduceSub,Int.reduceMul,Int.reduceNeg,Int.reduceNe,reduceCtorEq,Int.reduceToNat,↓reduceIte]
    refine PCalls.use (p_rright (prodW a b) (by omega) (fun w hw => by have := hfit w hw; omega)) ?_; simp only [wk,if_true,if_false,forall_const,implies_true,ne_eq,eq_self,Nat.reduceEqDiff,Nat.reduceAdd,Nat.reduceMul,Nat.reduceSub,Nat.reduceLeDiff,Nat.reduceLT,Int.reduceEq,Int.reduceLT,Int.reduceLE,Int.reduceAdd,Int.reduceSub,Int.reduceMul,Int.reduceNeg,Int.reduceNe,reduceCtorEq,Int.reduceToNat,↓reduceIte]
    refine PCalls.use (p_rbound (nrm (prodW a b)) (by have := nrm_len (prodW a b); omega)) ?_; simp only [wk,if_true,if_false,forall_const,implies_true,ne_eq,eq_self,Nat.reduceEqDiff,Nat.reduceAdd,Nat.reduceMul,Nat.reduceSub,Nat.reduceLeDiff,Nat.reduceLT,Int.reduceEq,Int.reduceLT,Int.reduceLE,Int.reduceAdd,Int.reduceSub,Int.reduceMul,Int.reduceNeg,Int.reduceNe,reduceCtorEq,Int.reduceToNat,↓reduceIte]
    rw [quoteE_fit hm hm2 hfit]
    simp only [vSet, rod_tup, ro_ro, ro_int, wk,if_true,if_false,forall_const,implies_true,ne_eq,eq_self,Nat.reduceEqDiff,Nat.reduceAdd,Nat.reduceMul,Nat.reduceSub,Nat.reduceLeDiff,Nat.reduceLT,Int.reduceEq,Int.reduceLT,Int.reduceLE,Int.reduceAdd,Int.reduceSub,Int.reduceMul,Int.reduceNeg,Int.reduceNe,reduceCtorEq,Int.reduceToNat,↓reduceIte]
theorem atomBytes_one (r : Nat) : (⟨(atomBytes [r]).toArray⟩ : ByteArray) = atomW r := by
  apply ByteArray.ext; apply Array.ext'; simp [atomBytes, atomW]
theorem p_ras (a : List ByteArray) (r : Nat) (hr : r < 65536) (ha : a.length ≤ 10000) (hsa : ∀ x ∈ a, x.size ≤ 1000000) : PCalls Try.prog 40 [.lst .ro a.length (a.map .str), .int .u16 r] (vSet (asE a r)) := by
  refine pcalls_of (by simp [free, free.frees, frees_str]) (free_vSet _) (ACalls.weak (acalls_of mixed J_ref03_As_ok (Nat.le_of_ble_eq_true rfl) ?_)); simp only [J_ref03_As, wk,if_true,if_false,forall_const,implies_true,ne_eq,eq_self,Nat.reduceEqDiff,Nat.reduceAdd,Nat.reduceMul,Nat.reduceSub,Nat.reduceLeDiff,Nat.reduceLT,Int.reduceEq,Int.reduceLT,Int.reduceLE,Int.reduceAdd,Int.reduceSub,Int.reduceMul,Int.reduceNeg,Int.reduceNe,reduceCtorEq,Int.reduceToNat,↓reduceIte]
  refine PCalls.use (p_rsmay a (by omega) (fun x hx => by have := hsa x hx; omega)) ?_; simp only [wk,if_true,if_false,forall_const,implies_true,ne_eq,eq_self,Nat.reduceEqDiff,Nat.reduceAdd,Nat.reduceMul,Nat.reduceSub,Nat.reduceLeDiff,Nat.reduceLT,Int.reduceEq,Int.reduceLT,Int.reduceLE,Int.reduceAdd,Int.reduceSub,Int.reduceMul,Int.reduceNeg,Int.reduceNe,reduceCtorEq,Int.reduceToNat,↓reduceIte]
  refine ⟨fun hm => by unfold asE; rw [if_pos hm]; rfl, fun hm => ?_⟩
  refine ⟨fun h1 => ⟨fun h2 => ?_, fun h2 => ?_⟩, fun h1 => ?_⟩
  · unfold asE; rw [if_neg (by simp [hm]), if_neg (by omega)]; rfl
  · refine PCalls.use (p_rof [r] (by simp) (by simpa using hr)) ?_; simp only [wk,if_true,if_false,forall_const,implies_true,ne_eq,eq_self,Nat.reduceEqDiff,Nat.reduceAdd,Nat.reduceMul,Nat.reduceSub,Nat.reduceLeDiff,Nat.reduceLT,Int.reduceEq,Int.reduceLT,Int.reduceLE,Int.reduceAdd,Int.reduceSub,Int.reduceMul,Int.reduceNeg,Int.reduceNe,reduceCtorEq,Int.reduceToNat,↓reduceIte]
    rw [atomBytes_one]
    refine PCalls.use (p_rquote a [atomW r] ha (by simp) hsa (by intro x hx; simp at hx; subst hx; have : (atomW r).size = 2 := rfl; omega)) ?_; simp only [wk,if_true,if_false,forall_const,implies_true,ne_eq,eq_self,Nat.reduceEqDiff,Nat.reduceAdd,Nat.reduceMul,Nat.reduceSub,Nat.reduceLeDiff,Nat.reduceLT,Int.reduceEq,Int.reduceLT,Int.reduceLE,Int.reduceAdd,Int.reduceSub,Int.reduceMul,Int.reduceNeg,Int.reduceNe,reduceCtorEq,Int.reduceToNat,↓reduceIte]
    unfold asE; rw [if_neg (by simp [hm]), if_pos (by omega)]
    simp only [vSet, rod_tup, ro_ro, ro_int, wk,if_true,if_false,forall_const,implies_true,ne_eq,eq_self,Nat.reduceEqDiff,Nat.reduceAdd,Nat.reduceMul,Nat.reduceSub,Nat.reduceLeDiff,Nat.reduceLT,Int.reduceEq,Int.reduceLT,Int.reduceLE,Int.reduceAdd,Int.reduceSub,Int.reduceMul,Int.reduceNeg,Int.reduceNe,reduceCtorEq,Int.reduceToNat,↓reduceIte]
  · unfold asE; rw [if_neg (by simp [hm]), if_neg (by omega)]; rfl
theorem ofE_good {l r : List ByteArray} (h : ofE l = (r, 0)) : setMay r = true := by
  unfold ofE at h
  split at h
  · cases h
  · next hall =>
    split at h
    · next hlen =>
      simp only [Prod.mk.injEq, and_true] at h
      subst h
      refine setMay_mk hlen.1 hlen.2 (fun x hx => ?_) (rising_nrm l)
      have : l.all wordMay = true := by simpa using hall
      exact List.all_eq_true.1 this x (mem_nrm.1 hx)
    · cases h
theorem quoteE_good {a b : List ByteArray} (h : (quoteE a b).2 = 0) : setMay (quoteE a b).1 = true := by
  have e : quoteE a b = ((quoteE a b).1, 0) := by rw [← h]
  unfold quoteE at e
  split at e
  · simp at e
  · split at e
    · simp at e
    · next h1 h2 => rw [show quoteE a b = ofE (prodW a b) by unfold quoteE; rw [if_neg h1, if_neg h2]]; exact ofE_good e
theorem setMay_small {l : List ByteArray} (h : setMay l = true) : l.length ≤ 16 ∧ ∀ x ∈ l, x.size ≤ 16 := ⟨(setMay_words h).1.2, fun x hx => by have := wordMay_size ((setMay_words h).2 x hx); omega⟩
theorem p_rfor (a b : List ByteArray) (ha : a.length ≤ 10000) (hb : b.length ≤ 10000) (hsa : ∀ x ∈ a, x.size ≤ 1000000) (hsb : ∀ x ∈ b, x.size ≤ 1000000) : PCalls Try.prog 38 [.lst .ro a.length (a.map .str), .lst .ro b.length (b.map .str)] (vSet (forE a b)) := by
  refine pcalls_of (by simp [free, free.frees, frees_str]) (free_vSet _) (ACalls.weak (acalls_of mixed J_ref03_For_ok (Nat.le_of_ble_eq_true rfl) ?_)); simp only [J_ref03_For, wk,if_true,if_false,forall_const,implies_true,ne_eq,eq_self,Nat.reduceEqDiff,Nat.reduceAdd,Nat.reduceMul,Nat.reduceSub,Nat.reduceLeDiff,Nat.reduceLT,Int.reduceEq,Int.reduceLT,Int.reduceLE,Int.reduceAdd,Int.reduceSub,Int.reduceMul,Int.reduceNeg,Int.reduceNe,reduceCtorEq,Int.reduceToNat,↓reduceIte]
  refine PCalls.use (p_rquote a b ha hb hsa hsb) ?_; simp only [wk,if_true,if_false,forall_const,implies_true,ne_eq,eq_self,Nat.reduceEqDiff,Nat.reduceAdd,Nat.reduceMul,Nat.reduceSub,Nat.reduceLeDiff,Nat.reduceLT,Int.reduceEq,Int.reduceLT,Int.reduceLE,Int.reduceAdd,Int.reduceSub,Int.reduceMul,Int.reduceNeg,Int.reduceNe,reduceCtorEq,Int.reduceToNat,↓reduceIte]
  simp only [vSet, wk,if_true,if_false,forall_const,implies_true,ne_eq,eq_self,Nat.reduceEqDiff,Nat.reduceAdd,Nat.reduceMul,Nat.reduceSub,Nat.reduceLeDiff,Nat.reduceLT,Int.reduceEq,Int.reduceLT,Int.reduceLE,Int.reduceAdd,Int.reduceSub,Int.reduceMul,Int.reduceNeg,Int.reduceNe,reduceCtorEq,Int.reduceToNat,↓reduceIte]
  refine ⟨fun hne => ?_, fun h0 => ?_⟩
  · unfold forE; rw [if_neg hne]; rfl
  · refine PCalls.use (p_rof [1] (by simp) (by simp)) ?_; simp only [wk,if_true,if_false,forall_const,implies_true,ne_eq,eq_self,Nat.reduceEqDiff,Nat.reduceAdd,Nat.reduceMul,Nat.reduceSub,Nat.reduceLeDiff,Nat.reduceLT,Int.reduceEq,Int.reduceLT,Int.reduceLE,Int.reduceAdd,Int.reduceSub,Int.reduceMul,Int.reduceNeg,Int.reduceNe,reduceCtorEq,Int.reduceToNat,↓reduceIte]
    rw [atomBytes_one]
    refine PCalls.use (p_rquote [atomW 1] b (by simp) hb (by intro x hx; simp at hx; subst hx; have : (atomW 1).size = 2 := rfl; omega) hsb) ?_; simp only [wk,if_true,if_false,forall_const,implies_true,ne_eq,eq_self,Nat.reduceEqDiff,Nat.reduceAdd,Nat.reduceMul,Nat.reduceSub,Nat.reduceLeDiff,Nat.reduceLT,Int.reduceEq,Int.reduceLT,Int.reduceLE,Int.reduceAdd,Int.reduceSub,Int.reduceMul,Int.reduceNeg,Int.reduceNe,reduceCtorEq,Int.reduceToNat,↓reduceIte]
    simp only [vSet, wk,if_true,if_false,forall_const,implies_true,ne_eq,eq_self,Nat.reduceEqDiff,Nat.reduceAdd,Nat.reduceMul,Nat.reduceSub,Nat.reduceLeDiff,Nat.reduceLT,Int.reduceEq,Int.reduceLT,Int.reduceLE,Int.reduceAdd,Int.reduceSub,Int.reduceMul,Int.reduceNeg,Int.reduceNe,reduceCtorEq,Int.reduceToNat,↓reduceIte]
    refine ⟨fun hne => ?_, fun h1 => ?_⟩
    · unfold forE; rw [if_pos h0, if_neg hne]; rfl
    · have g1 := setMay_small (quoteE_good h0)
      have g2 := setMay_small (quoteE_good h1)
      refine PCalls.use (p_rand (quoteE a b).1 (quoteE [atomW 1] b).1 (by omega) (by omega) (fun x hx => by have := g1.2 x hx; omega) (fun x hx => by have := g2.2 x hx; omega)) ?_; simp only [wk,if_true,if_false,forall_const,implies_true,ne_eq,eq_self,Nat.reduceEqDiff,Nat.reduceAdd,Nat.reduceMul,Nat.reduceSub,Nat.reduceLeDiff,Nat.reduceLT,Int.reduceEq,Int.reduceLT,Int.reduceLE,Int.reduceAdd,Int.reduceSub,Int.reduceMul,Int.reduceNeg,Int.reduceNe,reduceCtorEq,Int.reduceToNat,↓reduceIte]
      unfold forE; rw [if_pos h0, if_pos h1]
      simp only [vSet, rod_tup, ro_ro, ro_int, wk,if_true,if_false,forall_const,implies_true,ne_eq,eq_self,Nat.reduceEqDiff,Nat.reduceAdd,Nat.reduceMul,Nat.reduceSub,Nat.reduceLeDiff,Nat.reduceLT,Int.reduceEq,Int.reduceLT,Int.reduceLE,Int.reduceAdd,Int.reduceSub,Int.reduceMul,Int.reduceNeg,Int.reduceNe,reduceCtorEq,Int.reduceToNat,↓reduceIte]
end Go.Proofs.Ytpiofcjkekpboaa

/- The abstract layer: full slices as ones that are only read, however deep; results that are objects as ones that stay. -/
namespace Go.Proofs.Ytpiofcjkekpboaa
set_option linter.unusedSimpArgs false
set_option linter.unusedVariables false
open Go.RowKit Go.Lib

mutual
def rdp : AV → AV
  | .lst .clip n l => .lst .ro n (rdps l)
  | .lst f n l => .lst f n (rdps l)
  | .agg l => .agg (rdps l)
  | .tup l => .tup (rdps l)
  | .fp l => .fp (rdps l)
  | .fn f l => .fn f (rdps l)
  | .fnb f l => .fnb f (rdps l)
  | a => a
def rdps : List AV → List AV
  | [] => []
  | a :: l => rdp a :: rdps l
end
theorem plain_rdp (a : AV) (h : plain a = true) : plain (rdp a) = true := by
  cases a with
  | lst f n l => cases f <;> first | (simp [plain] at h; done) | simp [rdp, plain]
  | itr s p => simp [plain] at h
  | omp b ks vs => simp [plain] at h
  | stk e o l => simp [plain] at h
  | _ => simp [rdp, plain]
theorem plains_rdp : ∀ {l : List AV}, plains l → plains (rdps l)
  | [], _ => by intro a ha; simp [rdps] at ha
  | a :: l, h => by
    intro b hb
    simp only [rdps, List.mem_cons] at hb
    rcases hb with rfl | hb
    · exact plain_rdp a (h a (by simp))
    · exact plains_rdp (fun x hx => h x (by simp [hx])) b hb
mutual
theorem Rep.rdp {g : Gh} : ∀ {v : Value} {a : AV}, Rep g v a → Rep g v (rdp a)
  | _, _, .bool b => by simp only [Go.Proofs.Ytpiofcjkekpboaa.rdp]; exact .bool b
  | _, _, .int k n => by simp only [Go.Proofs.Ytpiofcjkekpboaa.rdp]; exact .int k n
  | _, _, .str s => by simp only [Go.Proofs.Ytpiofcjkekpboaa.rdp]; exact .str s
  | _, _, .nilp => by simp only [Go.Proofs.Ytpiofcjkekpboaa.rdp]; exact .nilp
  | _, _, .ptr id off b h => by simp only [Go.Proofs.Ytpiofcjkekpboaa.rdp]; exact .ptr id off b h
  | _, _, .fp b off vs l h hp hl => by simp only [Go.Proofs.Ytpiofcjkekpboaa.rdp]; exact .fp b off vs _ h (plains_rdp hp) (RepL.rdp hl)
  | _, _, .lst b off n c .clip vs l h hp h1 h2 hl => by simp only [Go.Proofs.Ytpiofcjkekpboaa.rdp]; exact .lst b off n c .ro vs _ h (plains_rdp hp) h1 (fun e => by cases e) (RepL.rdp hl)
  | _, _, .lst b off n c .ro vs l h hp h1 h2 hl => by simp only [Go.Proofs.Ytpiofcjkekpboaa.rdp]; exact .lst b off n c .ro vs _ h (plains_rdp hp) h1 (fun e => by cases e) (RepL.rdp hl)
  | _, _, .lst b off n c (.own e) vs l h hp h1 h2 hl => by simp only [Go.Proofs.Ytpiofcjkekpboaa.rdp]; exact .lst b off n c (.own e) vs _ h (plains_rdp hp) h1 (fun e => by cases e) (RepL.rdp hl)
  | _, _, .lst0 a c .clip h => by simp only [Go.Proofs.Ytpiofcjkekpboaa.rdp, rdps]; exact .lst0 a c .ro (fun e => by cases e)
  | _, _, .lst0 a c .ro h => by simp only [Go.Proofs.Ytpiofcjkekpboaa.rdp, rdps]; exact .lst0 a c .ro (fun e => by cases e)
  | _, _, .lst0 a c (.own e) h => by simp only [Go.Proofs.Ytpiofcjkekpboaa.rdp, rdps]; exact .lst0 a c (.own e) (fun e => by cases e)
  | _, _, .hs id b n c h h1 => by simp only [Go.Proofs.Ytpiofcjkekpboaa.rdp]; exact .hs id b n c h h1
  | _, _, .hsc id b n c h h1 => by simp only [Go.Proofs.Ytpiofcjkekpboaa.rdp]; exact .hsc id b n c h h1
  | _, _, .agg vs l h hp hl => by simp only [Go.Proofs.Ytpiofcjkekpboaa.rdp]; exact .agg vs _ h (plains_rdp hp) (RepL.rdp hl)
  | _, _, .tup vs l hp hl => by simp only [Go.Proofs.Ytpiofcjkekpboaa.rdp]; exact .tup vs _ (plains_rdp hp) (RepL.rdp hl)
  | _, _, .fn f vs l hp hl => by simp only [Go.Proofs.Ytpiofcjkekpboaa.rdp]; exact .fn f vs _ (plains_rdp hp) (RepL.rdp hl)
  | _, _, .fnb f vs l hp hl => by simp only [Go.Proofs.Ytpiofcjkekpboaa.rdp]; exact .fnb f vs _ (plains_rdp hp) (RepL.rdp hl)
  | _, _, .nilf => by simp only [Go.Proofs.Ytpiofcjkekpboaa.rdp]; exact .nilf
  | _, _, .opq v h h' => by simp only [Go.Proofs.Ytpiofcjkekpboaa.rdp]; exact .opq v h h'
  | _, _, .frn v Q S W0 h h' h3 h4 => by simp only [Go.Proofs.Ytpiofcjkekpboaa.rdp]; exact .frn v Q S W0 h h' h3 h4
  | _, _, .itr b s p => by simp only [Go.Proofs.Ytpiofcjkekpboaa.rdp]; exact .itr b s p
  | _, _, .omp b ks vs => by simp only [Go.Proofs.Ytpiofcjkekpboaa.rdp]; exact .omp b ks vs
  | _, _, .mp b => by simp only [Go.Proofs.Ytpiofcjkekpboaa.rdp]; exact .mp b
  | _, _, .fmp b obj ks vs h1 h2 => by simp only [Go.Proofs.Ytpiofcjkekpboaa.rdp]; exact .fmp b obj ks vs h1 h2
  | _, _, .stk a c e o l h1 h2 h3 => by simp only [Go.Proofs.Ytpiofcjkekpboaa.rdp]; exact .stk a c e o l h1 h2 h3
  | _, _, .raw a m c h1 h2 => by simp only [Go.Proofs.Ytpiofcjkekpboaa.rdp]; exact .raw a m c h1 h2
  | _, _, .rawp b i m c => by simp only [Go.Proofs.Ytpiofcjkekpboaa.rdp]; exact .rawp b i m c
theorem RepL.rdp {g : Gh} : ∀ {vs : List Value} {l : List AV}, RepL g vs l → RepL g vs (rdps l)
  | _, _, .nil => by simp only [rdps]; exact .nil
  | _, _, .cons h hl => by simp only [rdps]; exact .cons (Rep.rdp h) (RepL.rdp hl)
end
theorem ACalls.deep {P : Program} {f : FuncId} {args : List AV} {h : Hp} {R : AV → Hp → Prop} (hc : ACalls P f args h (fun a h' => R (rdp a) h')) : ACalls P f args h R :=
  ⟨hc.1, fun g w vargs h1 h2 h3 h4 => (hc.2 g w vargs h1 h2 h3 h4).mono fun _ _ ⟨x, a, h', g', q1, q2, q3, q4, q5, q6, q7⟩ => ⟨x, _, h', g', q1, q2, q3, q4, q5.rdp, plain_rdp _ q6, q7⟩⟩
mutual
theorem free_rdp : ∀ a : AV, free (rdp a) = free a
  | .lst .clip n l => by simp only [rdp, free, frees_rdp l]
  | .lst .ro n l => by simp only [rdp, free, frees_rdp l]
  | .lst (.own e) n l => by simp only [rdp, free, frees_rdp l]
  | .agg l => by simp only [rdp, free, frees_rdp l]
  | .tup l => by simp only [rdp, free, frees_rdp l]
  | .fp l => by simp only [rdp, free, frees_rdp l]
  | .fn f l => by simp only [rdp, free, frees_rdp l]
  | .fnb f l => by simp only [rdp, free, frees_rdp l]
  | .bool _ => by simp only [rdp]
  | .int _ _ => by simp only [rdp]
  | .str _ => by simp only [rdp]
  | .nilp => by simp only [rdp]
  | .ptr _ _ => by simp only [rdp]
  | .hs _ _ => by simp only [rdp]
  | .hsc _ _ _ => by simp only [rdp]
  | .nilf => by simp only [rdp]
  | .opq => by simp only [rdp]
  | .frn _ => by simp only [rdp]
  | .itr _ _ => by simp only [rdp]
  | .omp _ _ _ => by simp only [rdp]
  | .mp _ => by simp only [rdp]
  | .fmp _ _ => by simp only [rdp]
  | .stk _ _ _ => by simp only [rdp]
  | .raw _ _ => by simp only [rdp]
  | .rawp _ _ => by simp only [rdp]
theorem frees_rdp : ∀ l : List AV, free.frees (rdps l) = free.frees l
  | [] => rfl
  | a :: l => by simp only [rdps, free.frees, free_rdp a, frees_rdp l]
end
end Go.Proofs.Ytpiofcjkekpboaa
