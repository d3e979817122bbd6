/- Texts of one proof, laid together: FnS Sr Ss St Sa FnC Po Pi Pj Pb Pc Az Oh Oi. -/
import Derived.Test.YtnmikopkjdekaaaProg
import Derived.Test.YtnmikopkjdekaaaMB12
import Derived.Test.YtnmikopkjdekaaaMB13
import Derived.Test.YtnmikopkjdekaaaMB9

namespace Go.Proofs.Ytnmikopkjdekaaa
open Go.RowKit
def J_ref03_Of_j1 : ACode :=
 .keep [0] (.seq (.ops [⟨some 17, none, .mv (.t 0), none⟩,
 ⟨some 18, none, .call (.f 51) [(.t 17)], none⟩,
 ⟨some 19, none, .call (.f 50) [(.t 18)], none⟩,
 ⟨some 20, none, .ext 0 (.t 19), none⟩,
 ⟨some 21, none, .ext 1 (.t 19), none⟩,
 ⟨some 2, none, .mv (.t 20), none⟩,
 ⟨some 3, none, .mv (.t 21), none⟩])
 (.ret))
def J_ref03_Of_j2 : ACode :=
 .seq (.seq (.ops [⟨some 5, none, .mv (.t 4), none⟩,
 ⟨some 6, none, .mv (.t 0), none⟩,
 ⟨some 7, none, .lenl (.t 6), none⟩,
 ⟨some 8, none, .bin .lss (.t 5) (.t 7), none⟩])
 (.keep [0, 4, 8] (.cond (.t 8)
 (.skip)
 (.exit 0))))
 (.keep [0, 4] (.seq (.block 1 (.seq (.ops [⟨some 11, none, .mv (.t 0), none⟩,
 ⟨some 12, none, .mv (.t 4), none⟩,
 ⟨some 13, none, .idxa 1 (.t 11) (.t 12), none⟩,
 ⟨some 14, none, .load none (.t 13), none⟩,
 ⟨some 15, none, .call (.f 35) [(.t 14)], none⟩,
 ⟨some 16, none, .not (.t 15), none⟩])
 (.keep [0, 4, 16] (.cond (.t 16)
 (.seq (.ops [⟨some 2, none, .mv (.c (.lst .clip 0 [])), none⟩,
 ⟨some 3, none, .mv (.c (.int .i64 2)), none⟩])
 (.ret))
 (.skip)))))
 (.keep [0, 4] (.ops [⟨some 9, none, .mv (.t 4), none⟩,
 ⟨some 10, none, .bin .add (.t 9) (.c (.int .i64 1)), none⟩,
 ⟨some 4, none, .mv (.t 10), none⟩]))))
def J_ref03_Of : AFn :=
 ⟨22, [.t 2, .t 3], .seq (.ops [⟨some 2, none, .mv (.c (.lst .clip 0 [])), none⟩,
 ⟨some 3, none, .mv (.c (.int .i64 0)), none⟩])
 (.keep [0] (.seq (.seq (.ops [⟨some 4, none, .mv (.c (.int .i64 0)), none⟩])
 (.keep [0, 4] (.block 0 (.loop [0, 4] (J_ref03_Of_j2)))))
 (J_ref03_Of_j1)))⟩
theorem J_ref03_Of_ok : chkFn Try.prog 28 J_ref03_Of = true := by kernel_rfl
def J_word_Of_j1 : ACode :=
 .keep [3] (.seq (.ops [⟨some 25, none, .mv (.t 3), none⟩,
 ⟨some 26, none, .b2s (.t 25), none⟩,
 ⟨some 2, none, .mv (.t 26), none⟩])
 (.ret))
def J_word_Of_j2 : ACode :=
 .seq (.ops [⟨some 13, none, .bin .lss (.t 12) (.t 11), none⟩])
 (.keep [3, 10, 11, 12, 13] (.seq (.cond (.t 13)
 (.skip)
 (.exit 0))
 (.keep [3, 10, 11, 12] (.seq (.block 1 (.seq (.ops [⟨some 14, none, .idxa 1 (.t 10) (.t 12), none⟩,
 ⟨some 15, none, .load none (.t 14), none⟩,
 ⟨some 5, none, .mv (.t 15), none⟩])
 (.keep [3, 5, 10, 11, 12] (.ops [⟨some 16, none, .mvo 3, none⟩,
 ⟨some 17, none, .mv (.t 5), none⟩,
 ⟨some 18, none, .bin .shr (.t 17) (.c (.int .u64 8)), none⟩,
 ⟨some 19, none, .conv .u8 (.t 18), none⟩,
 ⟨some 20, none, .mv (.t 5), none⟩,
 ⟨some 21, none, .conv .u8 (.t 20), none⟩,
 ⟨some 22, none, .bsl 5 1 2 [(.int .u8 0), (.int .u8 0)] [(0, 1, (.t 19)), (1, 1, (.t 21))], none⟩,
 ⟨some 23, none, .appo 5 1 1 16 (.t 22), none⟩,
 ⟨some 3, none, .mvo 23, none⟩]))))
 (.keep [3, 10, 11, 12] (.ops [⟨some 24, none, .bin .add (.t 12) (.c (.int .i64 1)), none⟩,
 ⟨some 12, none, .mv (.t 24), none⟩]))))))
def J_word_Of : AFn :=
 ⟨27, [.t 2], .seq (.ops [⟨some 2, none, .mv (.c (.str ⟨#[]⟩)), none⟩])
 (.keep [0] (.seq (.ops [⟨some 6, none, .mv (.t 0), none⟩,
 ⟨some 7, none, .lenl (.t 6), none⟩,
 ⟨some 8, none, .bin .mul (.c (.int .i64 2)) (.t 7), none⟩,
 ⟨some 9, none, .mk0 5 1 1 (.t 8), none⟩,
 ⟨some 3, none, .mvo 9, none⟩])
 (.keep [0, 3] (.seq (.seq (.ops [⟨some 10, none, .mv (.t 0), none⟩,
 ⟨some 11, none, .lenl (.t 10), none⟩,
 ⟨some 12, none, .mv (.c (.int .i64 0)), none⟩])
 (.keep [3, 10, 11, 12] (.block 0 (.loop [3, 10, 11, 12] (J_word_Of_j2)))))
 (J_word_Of_j1)))))⟩
theorem J_word_Of_ok : chkFn Try.prog 45 J_word_Of = true := by kernel_rfl
def J_ref03_bound : AFn :=
 ⟨13, [.t 2, .t 3], .seq (.ops [⟨some 2, none, .mv (.c (.lst .clip 0 [])), none⟩,
 ⟨some 3, none, .mv (.c (.int .i64 0)), none⟩])
 (.keep [0] (.seq (.seq (.ops [⟨some 4, none, .mv (.t 0), none⟩,
 ⟨some 5, none, .lenl (.t 4), none⟩,
 ⟨some 6, none, .bin .lss (.t 5) (.c (.int .i64 1)), none⟩,
 ⟨some 7, none, .mv (.t 6), none⟩,
 ⟨some 8, (some (7, false)), .mv (.t 0), none⟩,
 ⟨some 9, (some (7, false)), .lenl (.t 8), none⟩,
 ⟨some 10, (some (7, false)), .bin .gtr (.t 9) (.c (.int .i64 16)), none⟩,
 ⟨some 11, none, .pick (.t 7) (.c (.bool true)) (.t 10), none⟩])
 (.keep [0, 11] (.cond (.t 11)
 (.seq (.ops [⟨some 2, none, .mv (.c (.lst .clip 0 [])), none⟩,
 ⟨some 3, none, .mv (.c (.int .i64 3)), none⟩])
 (.ret))
 (.skip))))
 (.keep [0] (.seq (.ops [⟨some 12, none, .mv (.t 0), none⟩,
 ⟨some 2, none, .mv (.t 12), none⟩,
 ⟨some 3, none, .mv (.c (.int .i64 0)), none⟩])
 (.ret)))))⟩
theorem J_ref03_bound_ok : chkFn Try.prog 50 J_ref03_bound = true := by kernel_rfl
def J_ref03_Right_j1 : ACode :=
 .keep [0, 3, 4, 5] (.seq (.seq (.ops [⟨some 48, none, .mv (.t 5), none⟩,
 ⟨some 49, none, .not (.t 48), none⟩])
 (.keep [0, 3, 4, 49] (.cond (.t 49)
 (.seq (.ops [⟨some 50, none, .mv (.t 3), none⟩,
 ⟨some 2, none, .mv (.t 50), none⟩])
 (.ret))
 (.skip))))
 (.keep [0, 3, 4] (.ops [⟨some 51, none, .mvo 3, none⟩,
 ⟨some 52, none, .mv (.t 4), none⟩,
 ⟨some 53, none, .bsl 27 1 1 [(.str ⟨#[]⟩)] [(0, 1, (.t 52))], none⟩,
 ⟨some 54, none, .appo 27 1 16 51 (.t 53), none⟩,
 ⟨some 3, none, .mvo 54, none⟩])))
def J_ref03_Right_j2 : ACode :=
 .keep [0, 3, 4, 5, 6] (.ops [⟨some 13, none, .mv (.t 6), none⟩,
 ⟨some 14, none, .bin .add (.t 13) (.c (.int .i64 1)), none⟩,
 ⟨some 6, none, .mv (.t 14), none⟩])
def J_ref03_Right_j3 : ACode :=
 .seq (.seq (.ops [⟨some 9, none, .mv (.t 6), none⟩,
 ⟨some 10, none, .mv (.t 0), none⟩,
 ⟨some 11, none, .lenl (.t 10), none⟩,
 ⟨some 12, none, .bin .lss (.t 9) (.t 11), none⟩])
 (.keep [0, 3, 4, 5, 6, 12] (.cond (.t 12)
 (.skip)
 (.exit 2))))
 (.keep [0, 3, 4, 5, 6] (.seq (.block 3 (.seq (.draw [0, 3, 4, 5, 6, 7] [⟨some 15, none, .mv (.t 3), none⟩,
 ⟨some 16, none, .lenl (.t 15), none⟩,
 ⟨some 17, none, .bin .eql (.t 16) (.c (.int .i64 0)), none⟩,
 ⟨some 18, none, .mv (.t 17), none⟩,
 ⟨some 19, (some (18, false)), .mv (.t 3), none⟩,
 ⟨some 20, (some (18, false)), .mv (.t 3), none⟩,
 ⟨some 21, (some (18, false)), .lenl (.t 20), none⟩,
 ⟨some 22, (some (18, false)), .bin .sub (.t 21) (.c (.int .i64 1)), none⟩,
 ⟨some 23, (some (18, false)), .idxa 1 (.t 19) (.t 22), none⟩,
 ⟨some 24, (some (18, false)), .load none (.t 23), none⟩,
 ⟨some 25, (some (18, false)), .mv (.t 0), none⟩,
 ⟨some 26, (some (18, false)), .mv (.t 6), none⟩,
 ⟨some 27, (some (18, false)), .idxa 1 (.t 25) (.t 26), none⟩,
 ⟨some 28, (some (18, false)), .load none (.t 27), none⟩,
 ⟨some 29, (some (18, false)), .call (.f 49) [(.t 24), (.t 28)], none⟩,
 ⟨some 30, none, .pick (.t 18) (.c (.bool true)) (.t 29), none⟩,
 ⟨some 7, none, .mv (.t 30), none⟩])
 (.keep [0, 3, 4, 5, 6, 7] (.seq (.ops [⟨some 31, none, .mv (.t 7), none⟩,
 ⟨some 32, none, .mv (.t 31), none⟩,
 ⟨some 33, (some (32, true)), .mv (.t 5), none⟩,
 ⟨some 34, (some (32, true)), .not (.t 33), none⟩,
 ⟨some 35, (some (32, true)), .mv (.t 34), none⟩,
 ⟨some 36, (some (35, false)), .mv (.t 0), none⟩,
 ⟨some 37, (some (35, false)), .mv (.t 6), none⟩,
 ⟨some 38, (some (35, false)), .idxa 1 (.t 36) (.t 37), none⟩,
 ⟨some 39, (some (35, false)), .load none (.t 38), none⟩,
 ⟨some 40, (some (35, false)), .mv (.t 4), none⟩,
 ⟨some 41, (some (35, false)), .call (.f 49) [(.t 39), (.t 40)], none⟩,
 ⟨some 42, (some (32, true)), .pick (.t 35) (.c (.bool true)) (.t 41), none⟩,
 ⟨some 43, none, .pick (.t 32) (.t 42) (.c (.bool false)), none⟩])
 (.keep [0, 3, 4, 5, 6, 43] (.cond (.t 43)
 (.seq (.ops [⟨some 44, none, .mv (.t 0), none⟩,
 ⟨some 45, none, .mv (.t 6), none⟩,
 ⟨some 46, none, .idxa 1 (.t 44) (.t 45), none⟩,
 ⟨some 47, none, .load none (.t 46), none⟩,
 ⟨some 4, none, .mv (.t 47), none⟩])
 (.keep [0, 3, 4, 6] (.ops [⟨some 5, none, .mv (.c (.bool true)), none⟩])))
 (.skip)))))))
 (J_ref03_Right_j2)))
def J_ref03_Right_j4 : ACode :=
 .block 1 (.seq (.ops [⟨some 4, none, .mv (.c (.str ⟨#[]⟩)), none⟩])
 (.keep [0, 3, 4] (.seq (.ops [⟨some 5, none, .mv (.c (.bool false)), none⟩])
 (.keep [0, 3, 4, 5] (.seq (.seq (.ops [⟨some 6, none, .mv (.c (.int .i64 0)), none⟩])
 (.keep [0, 3, 4, 5, 6] (.block 2 (.loop [0, 3, 4, 5, 6] (J_ref03_Right_j3)))))
 (J_ref03_Right_j1))))))
def J_ref03_Right : AFn :=
 ⟨55, [.t 2], .seq (.ops [⟨some 2, none, .mv (.c (.lst .clip 0 [])), none⟩])
 (.keep [0] (.seq (.ops [⟨some 8, none, .bsl 27 1 0 [] [], none⟩,
 ⟨some 3, none, .mvo 8, none⟩])
 (.keep [0, 3] (.block 0 (.loop [0, 3] (J_ref03_Right_j4))))))⟩
theorem J_ref03_Right_ok : chkFn Try.prog 51 J_ref03_Right = true := by kernel_rfl
def J_slices_Contains_int_int : AFn :=
 ⟨9, [.t 4], .seq (.ops [⟨some 4, none, .mv (.c (.bool false)), none⟩])
 (.keep [0, 1] (.seq (.ops [⟨some 5, none, .mv (.t 0), none⟩,
 ⟨some 6, none, .mv (.t 1), none⟩,
 ⟨some 7, none, .call (.f 71) [(.t 5), (.t 6)], none⟩,
 ⟨some 8, none, .bin .geq (.t 7) (.c (.int .i64 0)), none⟩,
 ⟨some 4, none, .mv (.t 8), none⟩])
 (.ret)))⟩
theorem J_slices_Contains_int_int_ok : chkFn Try.prog 66 J_slices_Contains_int_int = true := by kernel_rfl
def J_slices_Index_int_int_j1 : ACode :=
 .keep [] (.seq (.ops [⟨some 4, none, .mv (.c (.int .i64 (-1))), none⟩])
 (.ret))
def J_slices_Index_int_int_j2 : ACode :=
 .seq (.ops [⟨some 9, none, .bin .lss (.t 8) (.t 7), none⟩])
 (.keep [0, 1, 7, 8, 9] (.seq (.cond (.t 9)
 (.skip)
 (.exit 0))
 (.keep [0, 1, 7, 8] (.seq (.block 1 (.seq (.ops [⟨some 10, none, .mv (.t 8), none⟩,
 ⟨some 5, none, .mv (.t 10), none⟩])
 (.keep [0, 1, 5, 7, 8] (.seq (.ops [⟨some 11, none, .mv (.t 1), none⟩,
 ⟨some 12, none, .mv (.t 0), none⟩,
 ⟨some 13, none, .mv (.t 5), none⟩,
 ⟨some 14, none, .idxa 1 (.t 12) (.t 13), none⟩,
 ⟨some 15, none, .load none (.t 14), none⟩,
 ⟨some 16, none, .bin .eql (.t 11) (.t 15), none⟩])
 (.keep [0, 1, 5, 7, 8, 16] (.cond (.t 16)
 (.seq (.ops [⟨some 17, none, .mv (.t 5), none⟩,
 ⟨some 4, none, .mv (.t 17), none⟩])
 (.ret))
 (.skip)))))))
 (.keep [0, 1, 7, 8] (.ops [⟨some 18, none, .bin .add (.t 8) (.c (.int .i64 1)), none⟩,
 ⟨some 8, none, .mv (.t 18), none⟩]))))))
def J_slices_Index_int_int : AFn :=
 ⟨19, [.t 4], .seq (.ops [⟨some 4, none, .mv (.c (.int .i64 0)), none⟩])
 (.keep [0, 1] (.seq (.seq (.ops [⟨some 6, none, .mv (.t 0), none⟩,
 ⟨some 7, none, .lenl (.t 6), none⟩,
 ⟨some 8, none, .mv (.c (.int .i64 0)), none⟩])
 (.keep [0, 1, 7, 8] (.block 0 (.loop [0, 1, 7, 8] (J_slices_Index_int_int_j2)))))
 (J_slices_Index_int_int_j1)))⟩
theorem J_slices_Index_int_int_ok : chkFn Try.prog 71 J_slices_Index_int_int = true := by kernel_rfl
def J_word_Swap : AFn :=
 ⟨42, [.t 8, .t 9], .seq (.ops [⟨some 8, none, .mv (.c (.str ⟨#[]⟩)), none⟩,
 ⟨some 9, none, .mv (.c (.int .i64 0)), none⟩])
 (.keep [0, 1, 2, 3] (.seq (.seq (.ops [⟨some 10, none, .mv (.t 0), none⟩,
 ⟨some 11, none, .call (.f 53) [(.t 10)], none⟩,
 ⟨some 12, none, .mv (.t 11), none⟩,
 ⟨some 13, (some (12, false)), .mv (.t 3), none⟩,
 ⟨some 14, (some (12, false)), .call (.f 53) [(.t 13)], none⟩,
 ⟨some 15, none, .pick (.t 12) (.c (.bool true)) (.t 14), none⟩])
 (.keep [0, 1, 2, 3, 15] (.cond (.t 15)
 (.seq (.ops [⟨some 8, none, .mv (.c (.str ⟨#[]⟩)), none⟩,
 ⟨some 9, none, .mv (.c (.int .i64 2)), none⟩])
 (.ret))
 (.skip))))
 (.keep [0, 1, 2, 3] (.seq (.seq (.ops [⟨some 16, none, .mv (.t 0), none⟩,
 ⟨some 17, none, .mv (.t 1), none⟩,
 ⟨some 18, none, .mv (.t 2), none⟩,
 ⟨some 19, none, .call (.f 75) [(.t 16), (.t 17), (.t 18)], none⟩,
 ⟨some 20, none, .not (.t 19), none⟩])
 (.keep [0, 1, 2, 3, 20] (.cond (.t 20)
 (.seq (.ops [⟨some 8, none, .mv (.c (.str ⟨#[]⟩)), none⟩,
 ⟨some 9, none, .mv (.c (.int .i64 5)), none⟩])
 (.ret))
 (.skip))))
 (.keep [0, 1, 2, 3] (.seq (.seq (.ops [⟨some 21, none, .mv (.t 0), none⟩,
 ⟨some 22, none, .call (.f 54) [(.t 21)], none⟩,
 ⟨some 23, none, .mv (.t 2), none⟩,
 ⟨some 24, none, .bin .sub (.t 22) (.t 23), none⟩,
 ⟨some 25, none, .mv (.t 3), none⟩,
 ⟨some 26, none, .call (.f 54) [(.t 25)], none⟩,
 ⟨some 27, none, .bin .add (.t 24) (.t 26), none⟩,
 ⟨some 28, none, .bin .gtr (.t 27) (.c (.int .i64 8)), none⟩])
 (.keep [0, 1, 2, 3, 28] (.cond (.t 28)
 (.seq (.ops [⟨some 8, none, .mv (.c (.str ⟨#[]⟩)), none⟩,
 ⟨some 9, none, .mv (.c (.int .i64 4)), none⟩])
 (.ret))
 (.skip))))
 (.keep [0, 1, 2, 3] (.seq (.draw [8, 9] [⟨some 29, none, .mv (.t 0), none⟩,
 ⟨some 30, none, .mv (.t 1), none⟩,
 ⟨some 31, none, .bin .mul (.c (.int .i64 2)) (.t 30), none⟩,
 ⟨some 32, none, .slcs (.t 29) none (some (.t 31)), none⟩,
 ⟨some 33, none, .mv (.t 3), none⟩,
 ⟨some 34, none, .bin .add (.t 32) (.t 33), none⟩,
 ⟨some 35, none, .mv (.t 0), none⟩,
 ⟨some 36, none, .mv (.t 1), none⟩,
 ⟨some 37, none, .mv (.t 2), none⟩,
 ⟨some 38, none, .bin .add (.t 36) (.t 37), none⟩,
 ⟨some 39, none, .bin .mul (.c (.int .i64 2)) (.t 38), none⟩,
 ⟨some 40, none, .slcs (.t 35) (some (.t 39)) none, none⟩,
 ⟨some 41, none, .bin .add (.t 34) (.t 40), none⟩,
 ⟨some 8, none, .mv (.t 41), none⟩,
 ⟨some 9, none, .mv (.c (.int .i64 0)), none⟩])
 (.ret)))))))))⟩
theorem J_word_Swap_ok : chkFn Try.prog 72 J_word_Swap = true := by kernel_rfl
def J_set_Same : AFn :=
 ⟨13, [.t 4], .seq (.ops [⟨some 4, none, .mv (.c (.bool false)), none⟩])
 (.keep [0, 1] (.seq (.ops [⟨some 5, none, .mv (.t 0), none⟩,
 ⟨some 6, none, .mv (.t 1), none⟩,
 ⟨some 7, none, .call (.f 81) [(.t 5), (.t 6)], none⟩,
 ⟨some 8, none, .mv (.t 7), none⟩,
 ⟨some 9, (some (8, true)), .mv (.t 1), none⟩,
 ⟨some 10, (some (8, true)), .mv (.t 0), none⟩,
 ⟨some 11, (some (8, true)), .call (.f 81) [(.t 9), (.t 10)], none⟩,
 ⟨some 12, none, .pick (.t 8) (.t 11) (.c (.bool false)), none⟩,
 ⟨some 4, none, .mv (.t 12), none⟩])
 (.ret)))⟩
theorem J_set_Same_ok : chkFn Try.prog 74 J_set_Same = true := by kernel_rfl
def J_word_within : AFn :=
 ⟨27, [.t 6], .seq (.ops [⟨some 6, none, .mv (.c (.bool false)), none⟩])
 (.keep [0, 1, 2] (.seq (.ops [⟨some 7, none, .mv (.t 1), none⟩,
 ⟨some 8, none, .bin .geq (.t 7) (.c (.int .i64 0)), none⟩,
 ⟨some 9, none, .mv (.t 8), none⟩,
 ⟨some 10, (some (9, true)), .mv (.t 2), none⟩,
 ⟨some 11, (some (9, true)), .bin .geq (.t 10) (.c (.int .i64 0)), none⟩,
 ⟨some 12, none, .pick (.t 9) (.t 11) (.c (.bool false)), none⟩,
 ⟨some 13, none, .mv (.t 12), none⟩,
 ⟨some 14, (some (13, true)), .mv (.t 1), none⟩,
 ⟨some 15, (some (13, true)), .mv (.t 0), none⟩,
 ⟨some 16, (some (13, true)), .call (.f 54) [(.t 15)], none⟩,
 ⟨some 17, (some (13, true)), .bin .leq (.t 14) (.t 16), none⟩,
 ⟨some 18, none, .pick (.t 13) (.t 17) (.c (.bool false)), none⟩,
 ⟨some 19, none, .mv (.t 18), none⟩,
 ⟨some 20, (some (19, true)), .mv (.t 2), none⟩,
 ⟨some 21, (some (19, true)), .mv (.t 0), none⟩,
 ⟨some 22, (some (19, true)), .call (.f 54) [(.t 21)], none⟩,
 ⟨some 23, (some (19, true)), .mv (.t 1), none⟩,
 ⟨some 24, (some (19, true)), .bin .sub (.t 22) (.t 23), none⟩,
 ⟨some 25, (some (19, true)), .bin .leq (.t 20) (.t 24), none⟩,
 ⟨some 26, none, .pick (.t 19) (.t 25) (.c (.bool false)), none⟩,
 ⟨some 6, none, .mv (.t 26), none⟩])
 (.ret)))⟩
theorem J_word_within_ok : chkFn Try.prog 75 J_word_within = true := by kernel_rfl
end Go.Proofs.Ytnmikopkjdekaaa

/- What the reference's sets do: words in order, each once. -/
namespace Go.Proofs.Ytnmikopkjdekaaa
set_option linter.unusedSimpArgs false
set_option linter.unusedVariables false
open Go.RowKit Go.Lib

theorem rising_get {r : List ByteArray} (hr : rising r = true) : ∀ {i j : Nat} (hi : i < j) (hj : j < r.length), wless (r[i]'(by omega)) r[j] = true := by
  induction r with
  | nil => intro i j _ hj; simp at hj
  | cons x r ih =>
    obtain ⟨h1, h2⟩ := rising_cons.1 hr
    intro i j hi hj
    cases j with
    | zero => omega
    | succ j =>
      cases i with
      | zero => exact h1 _ (List.getElem_mem _)
      | succ i => exact ih h2 (by omega) (by simpa using hj)
def aft (r : List ByteArray) (k : Nat) (x : ByteArray) : Prop := k = 0 ∨ ∃ h : k - 1 < r.length, wless r[k - 1] x = true
theorem aft_iff {r : List ByteArray} (hr : rising r = true) {k j : Nat} (hk : k ≤ r.length) (hj : j < r.length) : aft r k r[j] ↔ k ≤ j := by
  unfold aft
  constructor
  · rintro (h | ⟨h, hw⟩)
    · omega
    · rcases Nat.lt_or_ge j k with hlt | hge
      · by_cases e : j = k - 1
        · subst e; rw [wless_irrefl] at hw; cases hw
        · have := rising_get hr (i := j) (j := k - 1) (by omega) (by omega)
          rw [wless_asymm this] at hw; cases hw
      · exact hge
  · intro h
    by_cases h0 : k = 0
    · exact .inl h0
    · exact .inr ⟨by omega, rising_get hr (by omega) hj⟩
structure RInv (l : List ByteArray) (k i : Nat) (best : ByteArray) (found : Bool) : Prop where
  no : found = false → ∀ x ∈ l.take i, ¬ aft (nrm l) k x
  mem : found = true → best ∈ l ∧ aft (nrm l) k best
  least : found = true → ∀ x ∈ l.take i, aft (nrm l) k x → wless x best = false
theorem RInv.zero (l : List ByteArray) (k : Nat) : RInv l k 0 ⟨#[]⟩ false := ⟨fun _ x hx => by simp at hx, fun h => (nomatch h), fun h => (nomatch h)⟩
theorem RInv.take {l : List ByteArray} {k i : Nat} {best : ByteArray} {found : Bool} (h : RInv l k i best found) (hi : i < l.length) (ha : aft (nrm l) k l[i]) (hb : found = true → wless l[i] best = true) : RInv l k (i + 1) l[i] true := by
  refine ⟨fun h => (nomatch h), fun _ => ⟨List.getElem_mem hi, ha⟩, fun _ x hx hax => ?_⟩
  rcases (by rw [List.take_succ_eq_append_getElem hi, List.mem_append] at hx; simpa using hx : x ∈ l.take i ∨ x = l[i]) with hx | rfl
  · cases found with
    | false => exact absurd hax (h.no rfl x hx)
    | true =>
      cases hw : wless x l[i] with
      | false => rfl
      | true =>
        have := wless_trans hw (hb rfl)
        rw [h.least rfl x hx hax] at this; cases this
  · exact wless_irrefl _
theorem RInv.skip {l : List ByteArray} {k i : Nat} {best : ByteArray} {found : Bool} (h : RInv l k i best found) (hi : i < l.length) (hs : ¬ aft (nrm l) k l[i] ∨ (found = true ∧ wless l[i] best = false)) : RInv l k (i + 1) best found := by
  have key : ∀ x, x ∈ l.take (i + 1) → x ∈ l.take i ∨ x = l[i] := fun x hx => by rw [List.take_succ_eq_append_getElem hi, List.mem_append] at hx; simpa using hx
  refine ⟨fun hf x hx => ?_, h.mem, fun hf x hx hax => ?_⟩
  · rcases key x hx with hx | rfl
    · exact h.no hf x hx
    · rcases hs with hs | ⟨hs, _⟩
      · exact hs
      · rw [hf] at hs; cases hs
  · rcases key x hx with hx | rfl
    · exact h.least hf x hx hax
    · rcases hs with hs | ⟨_, hs⟩
      · exact absurd hax hs
      · exact hs
theorem RInv.stop {l : List ByteArray} {k : Nat} {best : ByteArray} (h : RInv l k l.length best false) (hk : k ≤ (nrm l).length) : k = (nrm l).length := by
  rcases Nat.lt_or_ge k (nrm l).length with hlt | hge
  · have hm : (nrm l)[k] ∈ l := mem_nrm.1 (List.getElem_mem hlt)
    exact absurd ((aft_iff (rising_nrm l) hk hlt).2 (Nat.le_refl _)) (h.no rfl _ (by rw [List.take_length]; exact hm))
  · omega
theorem RInv.next {l : List ByteArray} {k : Nat} {best : ByteArray} (h : RInv l k l.length best true) (hk : k ≤ (nrm l).length) : ∃ hlt : k < (nrm l).length, best = (nrm l)[k] := by
  obtain ⟨hm, ha⟩ := h.mem rfl
  obtain ⟨j, hj, e⟩ := List.mem_iff_getElem.1 (mem_nrm.2 hm)
  subst e
  have hkj := (aft_iff (rising_nrm l) hk hj).1 ha
  refine ⟨by omega, ?_⟩
  by_cases e : j = k
  · subst e; rfl
  · have hlt : k < (nrm l).length := by omega
    have h1 := h.least rfl (nrm l)[k] (by rw [List.take_length]; exact mem_nrm.1 (List.getElem_mem hlt)) ((aft_iff (rising_nrm l) hk hlt).2 (Nat.le_refl _))
    rw [rising_get (rising_nrm l) (by omega) hj] at h1; cases h1
theorem nrm_len : ∀ l : List ByteArray, (nrm l).length ≤ l.length := by
  have h : ∀ (x : ByteArray) (l : List ByteArray), (ins x l).length ≤ l.length + 1 := by
    intro x l
    induction l with
    | nil => simp [ins]
    | cons y l ih => simp only [ins]; split; simp; split <;> simp only [List.length_cons] <;> omega
  intro l
  induction l with
  | nil => simp [nrm]
  | cons x l ih => simp only [nrm, List.length_cons]; have := h x (nrm l); omega
set_option maxRecDepth 100000 in
set_option maxHeartbeats 2000000 in
theorem p_rright (l : List ByteArray) (hl : l.length ≤ 1000000) (hs : ∀ x ∈ l, x.size ≤ 1000000) : PCalls Try.prog 51 [.lst .ro l.length (l.map .str)] (.lst .ro (nrm l).length ((nrm l).map .str)) := by
  refine pcalls_of (by first | rfl | simp [free, free.frees, frees_str, frees_u8, frees_u16]) (by first | rfl | simp [free, free.frees, frees_str, frees_u8, frees_u16]) (acalls_of mixed J_ref03_Right_ok (Nat.le_of_ble_eq_true rfl) ?_); simp only [J_ref03_Right, wk,if_true,if_false,forall_const,implies_true,ne_eq,eq_self,Nat.reduceEqDiff,Nat.reduceAdd,Nat.reduceMul,Nat.reduceSub,Nat.reduceLeDiff,Nat.reduceLT,Int.reduceEq,Int.reduceLT,Int.reduceLE,Int.reduceAdd,Int.reduceSub,Int.reduceMul,Int.reduceNeg,Int.reduceNe,reduceCtorEq,Int.reduceToNat,↓reduceIte]
  have hnl := nrm_len l
  refine W_loop (fun n fr h => ∃ k : Nat, k ≤ (nrm l).length ∧ n = (nrm l).length - k ∧ fr = [(0, .lst .ro l.length (l.map .str)), (3, .lst (.own 27) k (((nrm l).take k).map .str))]) (nrm l).length ⟨0, by omega, by omega, rfl⟩ ?_
  rintro n fr h ⟨k, hk, rfl, rfl⟩
  simp only [J_ref03_Right_j4, wk,if_true,if_false,forall_const,implies_true,ne_eq,eq_self,Nat.reduceEqDiff,Nat.reduceAdd,Nat.reduceMul,Nat.reduceSub,Nat.reduceLeDiff,Nat.reduceLT,Int.reduceEq,Int.reduceLT,Int.reduceLE,Int.reduceAdd,Int.reduceSub,Int.reduceMul,Int.reduceNeg,Int.reduceNe,reduceCtorEq,Int.reduceToNat,↓reduceIte]
  refine W_loop (fun n fr h => ∃ (i : Nat) (best : ByteArray) (found : Bool), i ≤ l.length ∧ n = l.length - i ∧ best.size ≤ 1000000 ∧ RInv l k i best found ∧ fr = [(0, .lst .ro l.length (l.map .str)), (3, .lst (.own 27) k (((nrm l).take k).map .str)), (4, .str best), (5, .bool found), (6, .int .i64 i)]) l.length ⟨0, ⟨#[]⟩, false, by omega, by omega, by decide, RInv.zero l k, rfl⟩ ?_
  rintro n fr h ⟨i, best, found, hi, rfl, hbs, hinv, rfl⟩
  simp only [J_ref03_Right_j3, wk,if_true,if_false,forall_const,implies_true,ne_eq,eq_self,Nat.reduceEqDiff,Nat.reduceAdd,Nat.reduceMul,Nat.reduceSub,Nat.reduceLeDiff,Nat.reduceLT,Int.reduceEq,Int.reduceLT,Int.reduceLE,Int.reduceAdd,Int.reduceSub,Int.reduceMul,Int.reduceNeg,Int.reduceNe,reduceCtorEq,Int.reduceToNat,↓reduceIte]
  refine ⟨fun hlt => ?_, fun hge => ?_⟩
  · have hil : i < l.length := by omega
    have hxs := hs l[i] (List.getElem_mem hil)
    have hd : (l.map AV.str).drop (i : Int).toNat = .str l[i] :: (l.map AV.str).drop (i + 1) := by rw [show (i : Int).toNat = i by omega, drop_str hil]
    have hz : (0 ≤ (i : Int)) = True := eq_true (by omega)
    have hlt' : ((i : Int) < (l.length : Int)) = True := eq_true (by omega)
    have htk : ∀ {fr0 : Fr} {Q : Exit → Fr → Hp → Prop} {h : Hp}, restr [0, 3, 4, 5, 6] fr0 = [(0, .lst .ro l.length (l.map .str)), (3, .lst (.own 27) k (((nrm l).take k).map .str)), (4, .str l[i]), (5, .bool true), (6, .int .i64 i)] → aft (nrm l) k l[i] → (found = true → wless l[i] best = true) → W Try.prog J_ref03_Right_j2 fr0 h (kloop [0, 3, 4, 5, 6] (fun n fr h => ∃ (i : Nat) (best : ByteArray) (found : Bool), i ≤ l.length ∧ n = l.length - i ∧ best.size ≤ 1000000 ∧ RInv l k i best found ∧ fr = [(0, .lst .ro l.length (l.map .str)), (3, .lst (.own 27) k (((nrm l).take k).map .str)), (4, .str best), (5, .bool found), (6, .int .i64 i)]) (l.length - i) Q) := by
      intro fr0 Q h hf ha hb
      simp only [J_ref03_Right_j2, W_keep]
      rw [hf]
      simp only [wk,if_true,if_false,forall_const,implies_true,ne_eq,eq_self,Nat.reduceEqDiff,Nat.reduceAdd,Nat.reduceMul,Nat.reduceSub,Nat.reduceLeDiff,Nat.reduceLT,Int.reduceEq,Int.reduceLT,Int.reduceLE,Int.reduceAdd,Int.reduceSub,Int.reduceMul,Int.reduceNeg,Int.reduceNe,reduceCtorEq,Int.reduceToNat,↓reduceIte]
      exact ⟨inR_of (by omega) (by omega), l.length - (i + 1), by omega, i + 1, l[i], true, by omega, rfl, hxs, hinv.take hil ha hb, rfl⟩
    have hsk : ∀ {fr0 : Fr} {Q : Exit → Fr → Hp → Prop} {h : Hp}, restr [0, 3, 4, 5, 6] fr0 = [(0, .lst .ro l.length (l.map .str)), (3, .lst (.own 27) k (((nrm l).take k).map .str)), (4, .str best), (5, .bool found), (6, .int .i64 i)] → (¬ aft (nrm l) k l[i] ∨ (found = true ∧ wless l[i] best = false)) → W Try.prog J_ref03_Right_j2 fr0 h (kloop [0, 3, 4, 5, 6] (fun n fr h => ∃ (i : Nat) (best : ByteArray) (found : Bool), i ≤ l.length ∧ n = l.length - i ∧ best.size ≤ 1000000 ∧ RInv l k i best found ∧ fr = [(0, .lst .ro l.length (l.map .str)), (3, .lst (.own 27) k (((nrm l).take k).map .str)), (4, .str best), (5, .bool found), (6, .int .i64 i)]) (l.length - i) Q) := by
      intro fr0 Q h hf hss
      simp only [J_ref03_Right_j2, W_keep]
      rw [hf]
      simp only [wk,if_true,if_false,forall_const,implies_true,ne_eq,eq_self,Nat.reduceEqDiff,Nat.reduceAdd,Nat.reduceMul,Nat.reduceSub,Nat.reduceLeDiff,Nat.reduceLT,Int.reduceEq,Int.reduceLT,Int.reduceLE,Int.reduceAdd,Int.reduceSub,Int.reduceMul,Int.reduceNeg,Int.reduceNe,reduceCtorEq,Int.reduceToNat,↓reduceIte]
      exact ⟨inR_of (by omega) (by omega), l.length - (i + 1), by omega, i + 1, best, found, by omega, rfl, hbs, hinv.skip hil hss, rfl⟩
    simp only [wk,if_true,if_false,forall_const,implies_true,ne_eq,eq_self,Nat.reduceEqDiff,Nat.reduceAdd,Nat.reduceMul,Nat.reduceSub,Nat.reduceLeDiff,Nat.reduceLT,Int.reduceEq,Int.reduceLT,Int.reduceLE,Int.reduceAdd,Int.reduceSub,Int.reduceMul,Int.reduceNeg,Int.reduceNe,reduceCtorEq,Int.reduceToNat,↓reduceIte, hd, hz, hlt']
    refine ⟨fun hk0 => ?_, fun hk0 => ?_⟩
    · -- some were taken
      have hkp : 0 < k := by omega
      have hkl : k - 1 < ((nrm l).take k).length := by rw [List.length_take]; omega
      have hd2 : (((nrm l).take k).map AV.str).drop ((k : Int) - 1).toNat = .str ((nrm l)[k - 1]'(by omega)) :: (((nrm l).take k).map AV.str).drop k := by
        rw [show ((k : Int) - 1).toNat = k - 1 by omega, drop_str hkl, List.getElem_take, show k - 1 + 1 = k by omega]
      refine ⟨inR_of (by omega) (by omega), ⟨by omega, by omega⟩, ?_⟩
      simp only [wk,if_true,if_false,forall_const,implies_true,ne_eq,eq_self,Nat.reduceEqDiff,Nat.reduceAdd,Nat.reduceMul,Nat.reduceSub,Nat.reduceLeDiff,Nat.reduceLT,Int.reduceEq,Int.reduceLT,Int.reduceLE,Int.reduceAdd,Int.reduceSub,Int.reduceMul,Int.reduceNeg,Int.reduceNe,reduceCtorEq,Int.reduceToNat,↓reduceIte, hd2, hd, hz, hlt']
      refine ⟨_, p_rwless (nrm l)[k - 1] l[i] (by have := hs _ (mem_nrm.1 (List.getElem_mem (l := nrm l) (n := k - 1) (by omega))); omega), ?_⟩
      have haf : ∀ b, wless (nrm l)[k - 1] l[i] = b → (b = true ↔ aft (nrm l) k l[i]) := by
        intro b hb
        unfold aft
        constructor
        · intro h; exact .inr ⟨by omega, by rw [hb, h]⟩
        · rintro (h | ⟨_, h⟩)
          · omega
          · rw [← hb]; exact h
      cases hwb : wless (nrm l)[k - 1] l[i] with
      | true =>
        simp only [wk,if_true,if_false,forall_const,implies_true,ne_eq,eq_self,Nat.reduceEqDiff,Nat.reduceAdd,Nat.reduceMul,Nat.reduceSub,Nat.reduceLeDiff,Nat.reduceLT,Int.reduceEq,Int.reduceLT,Int.reduceLE,Int.reduceAdd,Int.reduceSub,Int.reduceMul,Int.reduceNeg,Int.reduceNe,reduceCtorEq,Int.reduceToNat,↓reduceIte, hd, hz, hlt']
        refine ⟨fun hfo => ?_, fun hfo => htk (by first | rfl | (subst hfo; rfl)) ((haf true hwb).1 rfl) (fun h => by rw [hfo] at h; cases h)⟩
        subst hfo
        refine PCalls.use (p_rwless l[i] best (by omega)) ?_; simp only [wk,if_true,if_false,forall_const,implies_true,ne_eq,eq_self,Nat.reduceEqDiff,Nat.reduceAdd,Nat.reduceMul,Nat.reduceSub,Nat.reduceLeDiff,Nat.reduceLT,Int.reduceEq,Int.reduceLT,Int.reduceLE,Int.reduceAdd,Int.reduceSub,Int.reduceMul,Int.reduceNeg,Int.reduceNe,reduceCtorEq,Int.reduceToNat,↓reduceIte]
        refine ⟨fun hw => ?_, fun hw => ?_⟩
        · simp only [wk,if_true,if_false,forall_const,implies_true,ne_eq,eq_self,Nat.reduceEqDiff,Nat.reduceAdd,Nat.reduceMul,Nat.reduceSub,Nat.reduceLeDiff,Nat.reduceLT,Int.reduceEq,Int.reduceLT,Int.reduceLE,Int.reduceAdd,Int.reduceSub,Int.reduceMul,Int.reduceNeg,Int.reduceNe,reduceCtorEq,Int.reduceToNat,↓reduceIte, hd, hz, hlt']
          exact htk rfl ((haf true hwb).1 rfl) (fun _ => hw)
        · exact hsk rfl (.inr ⟨rfl, hw⟩)
      | false =>
        simp only [wk,if_true,if_false,forall_const,implies_true,ne_eq,eq_self,Nat.reduceEqDiff,Nat.reduceAdd,Nat.reduceMul,Nat.reduceSub,Nat.reduceLeDiff,Nat.reduceLT,Int.reduceEq,Int.reduceLT,Int.reduceLE,Int.reduceAdd,Int.reduceSub,Int.reduceMul,Int.reduceNeg,Int.reduceNe,reduceCtorEq,Int.reduceToNat,↓reduceIte]
        exact hsk rfl (.inl (fun h => by have := (haf false hwb).2 h; cases this))
    · have haf : aft (nrm l) k l[i] := .inl (by omega)
      refine ⟨fun hfo => ?_, fun hfo => htk (by first | rfl | (subst hfo; rfl)) haf (fun h => by rw [hfo] at h; cases h)⟩
      subst hfo
      refine PCalls.use (p_rwless l[i] best (by omega)) ?_; simp only [wk,if_true,if_false,forall_const,implies_true,ne_eq,eq_self,Nat.reduceEqDiff,Nat.reduceAdd,Nat.reduceMul,Nat.reduceSub,Nat.reduceLeDiff,Nat.reduceLT,Int.reduceEq,Int.reduceLT,Int.reduceLE,Int.reduceAdd,Int.reduceSub,Int.reduceMul,Int.reduceNeg,Int.reduceNe,reduceCtorEq,Int.reduceToNat,↓reduceIte]
      refine ⟨fun hw => ?_, fun hw => ?_⟩
      · simp only [wk,if_true,if_false,forall_const,implies_true,ne_eq,eq_self,Nat.reduceEqDiff,Nat.reduceAdd,Nat.reduceMul,Nat.reduceSub,Nat.reduceLeDiff,Nat.reduceLT,Int.reduceEq,Int.reduceLT,Int.reduceLE,Int.reduceAdd,Int.reduceSub,Int.reduceMul,Int.reduceNeg,Int.reduceNe,reduceCtorEq,Int.reduceToNat,↓reduceIte, hd, hz, hlt']
        exact htk rfl haf (fun _ => hw)
      · exact hsk rfl (.inr ⟨rfl, hw⟩)
  · have hie : i = l.length := by omega
    subst hie
    simp only [J_ref03_Right_j1, wk,if_true,if_false,forall_const,implies_true,ne_eq,eq_self,Nat.reduceEqDiff,Nat.reduceAdd,Nat.reduceMul,Nat.reduceSub,Nat.reduceLeDiff,Nat.reduceLT,Int.reduceEq,Int.reduceLT,Int.reduceLE,Int.reduceAdd,Int.reduceSub,Int.reduceMul,Int.reduceNeg,Int.reduceNe,reduceCtorEq,Int.reduceToNat,↓reduceIte]
    cases found with
    | false =>
      obtain rfl := hinv.stop hk
      exact ⟨fun _ => by rw [List.take_length], fun h => (nomatch h)⟩
    | true =>
      obtain ⟨hkl, rfl⟩ := hinv.next hk
      refine ⟨fun h => (nomatch h), fun _ => ⟨⟨by omega, by omega⟩, (nrm l).length - (k + 1), by omega, k + 1, by omega, rfl, ?_⟩⟩
      rw [List.take_succ_eq_append_getElem hkl, List.map_append]
      rfl
end Go.Proofs.Ytnmikopkjdekaaa

/- What the reference's sets do: Of, And, Quote, As, For, and what is asked. -/
namespace Go.Proofs.Ytnmikopkjdekaaa
set_option linter.unusedSimpArgs false
set_option linter.unusedVariables false
open Go.RowKit Go.Lib

def vSet (r : List ByteArray × Int) : AV := .tup [.lst .ro r.1.length (r.1.map .str), .int .i64 r.2]
theorem free_vSet (r : List ByteArray × Int) : free (vSet r) = true := by simp [vSet, free, free.frees, frees_str]
def boundE (l : List ByteArray) : List ByteArray × Int := if 1 ≤ l.length ∧ l.length ≤ 16 then (l, 0) else ([], 3)
theorem ofE_may {l : List ByteArray} (h : ∀ x ∈ l, wordMay x = true) : ofE l = boundE (nrm l) := by
  unfold ofE
  rw [if_neg (by rw [List.all_eq_true.2 h]; simp)]; rfl
theorem p_rbound (l : List ByteArray) (hl : l.length ≤ 1000000) : PCalls Try.prog 50 [.lst .ro l.length (l.map .str)] (vSet (boundE l)) := by
  refine pcalls_of (by simp [free, free.frees, frees_str]) (free_vSet _) (ACalls.weak (acalls_of mixed J_ref03_bound_ok (Nat.le_of_ble_eq_true rfl) ?_)); simp only [J_ref03_bound, wk,if_true,if_false,forall_const,implies_true,ne_eq,eq_self,Nat.reduceEqDiff,Nat.reduceAdd,Nat.reduceMul,Nat.reduceSub,Nat.reduceLeDiff,Nat.reduceLT,Int.reduceEq,Int.reduceLT,Int.reduceLE,Int.reduceAdd,Int.reduceSub,Int.reduceMul,Int.reduceNeg,Int.reduceNe,reduceCtorEq,Int.reduceToNat,↓reduceIte]
  refine ⟨fun h1 => ⟨fun h2 => ?_, fun h2 => ?_⟩, fun h1 => ?_⟩
  all_goals unfold boundE
  · rw [if_neg (by omega)]; rfl
  · rw [if_pos (by omega)]; rfl
  · rw [if_neg (by omega)]; rfl
set_option maxHeartbeats 1000000 in
theorem p_rsof (l : List ByteArray) (hl : l.length ≤ 1000000) (hs : ∀ x ∈ l, x.size ≤ 1000000) : PCalls Try.prog 28 [.lst .ro l.length (l.map .str)] (vSet (ofE l)) := by
  refine pcalls_of (by simp [free, free.frees, frees_str]) (free_vSet _) (ACalls.weak (acalls_of mixed J_ref03_Of_ok (Nat.le_of_ble_eq_true rfl) ?_)); simp only [J_ref03_Of, wk,if_true,if_false,forall_const,implies_true,ne_eq,eq_self,Nat.reduceEqDiff,Nat.reduceAdd,Nat.reduceMul,Nat.reduceSub,Nat.reduceLeDiff,Nat.reduceLT,Int.reduceEq,Int.reduceLT,Int.reduceLE,Int.reduceAdd,Int.reduceSub,Int.reduceMul,Int.reduceNeg,Int.reduceNe,reduceCtorEq,Int.reduceToNat,↓reduceIte]
  refine W_loop (fun n fr h => ∃ i : Nat, i ≤ l.length ∧ n = l.length - i ∧ fr = [(0, .lst .ro l.length (l.map .str)), (4, .int .i64 i)] ∧ ∀ x ∈ l.take i, wordMay x = true) l.length ⟨0, by omega, by omega, rfl, by simp⟩ ?_
  rintro n fr h ⟨i, hi, rfl, rfl, hall⟩
  simp only [J_ref03_Of_j2, wk,if_true,if_false,forall_const,implies_true,ne_eq,eq_self,Nat.reduceEqDiff,Nat.reduceAdd,Nat.reduceMul,Nat.reduceSub,Nat.reduceLeDiff,Nat.reduceLT,Int.reduceEq,Int.reduceLT,Int.reduceLE,Int.reduceAdd,Int.reduceSub,Int.reduceMul,Int.reduceNeg,Int.reduceNe,reduceCtorEq,Int.reduceToNat,↓reduceIte]
  refine ⟨fun hlt => ?_, fun hge => ?_⟩
  · have hil : i < l.length := by omega
    (repeat (refine And.intro (by first | omega | exact inR_of (by omega) (by omega) | exact ⟨by omega, by omega⟩ | exact ⟨by omega, by omega, by omega⟩ | rfl) ?_))
    rw [show (i : Int).toNat = i by omega, drop_str hil]
    simp only [wk,if_true,if_false,forall_const,implies_true,ne_eq,eq_self,Nat.reduceEqDiff,Nat.reduceAdd,Nat.reduceMul,Nat.reduceSub,Nat.reduceLeDiff,Nat.reduceLT,Int.reduceEq,Int.reduceLT,Int.reduceLE,Int.reduceAdd,Int.reduceSub,Int.reduceMul,Int.reduceNeg,Int.reduceNe,reduceCtorEq,Int.reduceToNat,↓reduceIte]
    refine PCalls.use (p_rwmay l[i] (by have := hs _ (List.getElem_mem hil); omega)) ?_; simp only [wk,if_true,if_false,forall_const,implies_true,ne_eq,eq_self,Nat.reduceEqDiff,Nat.reduceAdd,Nat.reduceMul,Nat.reduceSub,Nat.reduceLeDiff,Nat.reduceLT,Int.reduceEq,Int.reduceLT,Int.reduceLE,Int.reduceAdd,Int.reduceSub,Int.reduceMul,Int.reduceNeg,Int.reduceNe,reduceCtorEq,Int.reduceToNat,↓reduceIte]
    refine ⟨fun hm => ?_, fun hm => ⟨inR_of (by omega) (by omega), l.length - (i + 1), by omega, i + 1, by omega, rfl, rfl, fun x hx => ?_⟩⟩
    · unfold ofE
      rw [if_pos]
      · rfl
      · cases hb : l.all wordMay with
        | false => rfl
        | true => rw [List.all_eq_true.1 hb _ (List.getElem_mem hil)] at hm; cases hm
    · rw [List.take_succ_eq_append_getElem hil, List.mem_append] at hx
      rcases hx with hx | hx
      · exact hall x hx
      · simp at hx; subst hx; exact hm
  · rw [List.take_of_length_le (by omega)] at hall
    simp only [J_ref03_Of_j1, wk,if_true,if_false,forall_const,implies_true,ne_eq,eq_self,Nat.reduceEqDiff,Nat.reduceAdd,Nat.reduceMul,Nat.reduceSub,Nat.reduceLeDiff,Nat.reduceLT,Int.reduceEq,Int.reduceLT,Int.reduceLE,Int.reduceAdd,Int.reduceSub,Int.reduceMul,Int.reduceNeg,Int.reduceNe,reduceCtorEq,Int.reduceToNat,↓reduceIte]
    refine PCalls.use (p_rright l hl hs) ?_; simp only [wk,if_true,if_false,forall_const,implies_true,ne_eq,eq_self,Nat.reduceEqDiff,Nat.reduceAdd,Nat.reduceMul,Nat.reduceSub,Nat.reduceLeDiff,Nat.reduceLT,Int.reduceEq,Int.reduceLT,Int.reduceLE,Int.reduceAdd,Int.reduceSub,Int.reduceMul,Int.reduceNeg,Int.reduceNe,reduceCtorEq,Int.reduceToNat,↓reduceIte]
    refine PCalls.use (p_rbound (nrm l) (by have := nrm_len l; omega)) ?_; simp only [wk,if_true,if_false,forall_const,implies_true,ne_eq,eq_self,Nat.reduceEqDiff,Nat.reduceAdd,Nat.reduceMul,Nat.reduceSub,Nat.reduceLeDiff,Nat.reduceLT,Int.reduceEq,Int.reduceLT,Int.reduceLE,Int.reduceAdd,Int.reduceSub,Int.reduceMul,Int.reduceNeg,Int.reduceNe,reduceCtorEq,Int.reduceToNat,↓reduceIte]
    rw [ofE_may hall]
    simp only [vSet, rod_tup, ro_ro, ro_int, wk,if_true,if_false,forall_const,implies_true,ne_eq,eq_self,Nat.reduceEqDiff,Nat.reduceAdd,Nat.reduceMul,Nat.reduceSub,Nat.reduceLeDiff,Nat.reduceLT,Int.reduceEq,Int.reduceLT,Int.reduceLE,Int.reduceAdd,Int.reduceSub,Int.reduceMul,Int.reduceNeg,Int.reduceNe,reduceCtorEq,Int.reduceToNat,↓reduceIte]
end Go.Proofs.Ytnmikopkjdekaaa

/- What the reference's sets do: Quote, As, For. -/
namespace Go.Proofs.Ytnmikopkjdekaaa
set_option linter.unusedSimpArgs false
set_option linter.unusedVariables false
open Go.RowKit Go.Lib

theorem wordMay_even {s : ByteArray} (h : wordMay s = true) : s.size % 2 = 0 ∧ s.size ≤ 16 := by have := wordMay_size h; omega
theorem atomBytes_one (r : Nat) : (⟨(atomBytes [r]).toArray⟩ : ByteArray) = atomW r := by
  apply ByteArray.ext; apply Array.ext'; simp [atomBytes, atomW]
theorem ofE_good {l r : List ByteArray} (h : ofE l = (r, 0)) : setMay r = true := by
  unfold ofE at h
  split at h
  · cases h
  · next hall =>
    split at h
    · next hlen =>
      simp only [Prod.mk.injEq, and_true] at h
      subst h
      refine setMay_mk hlen.1 hlen.2 (fun x hx => ?_) (rising_nrm l)
      have : l.all wordMay = true := by simpa using hall
      exact List.all_eq_true.1 this x (mem_nrm.1 hx)
    · cases h
theorem setMay_small {l : List ByteArray} (h : setMay l = true) : l.length ≤ 16 ∧ ∀ x ∈ l, x.size ≤ 16 := ⟨(setMay_words h).1.2, fun x hx => by have := wordMay_size ((setMay_words h).2 x hx); omega⟩
end Go.Proofs.Ytnmikopkjdekaaa

/- What the library's Index, Contains, Equal do with words; Has, Heavy; a word of atoms. -/
namespace Go.Proofs.Ytnmikopkjdekaaa
set_option linter.unusedSimpArgs false
set_option linter.unusedVariables false
open Go.RowKit Go.Lib

theorem take_mem_succ {α : Type} {x : α} {l : List α} {i : Nat} (h : i < l.length) : x ∈ l.take (i + 1) ↔ x ∈ l.take i ∨ x = l[i] := by
  rw [List.take_succ_eq_append_getElem h, List.mem_append]; simp
set_option maxHeartbeats 1000000 in
theorem p_wof (l : List Nat) (hl : l.length ≤ 1000000) (ha : ∀ a ∈ l, a < 65536) : PCalls Try.prog 45 [.lst .ro l.length (u16s l)] (.str ⟨(atomBytes l).toArray⟩) := by
  refine pcalls_of (by first | rfl | simp [free, free.frees, frees_str, frees_u8, frees_u16]) (by first | rfl | simp [free, free.frees, frees_str, frees_u8, frees_u16]) (acalls_of mixed J_word_Of_ok (Nat.le_of_ble_eq_true rfl) ?_); simp only [J_word_Of, wk,if_true,if_false,forall_const,implies_true,ne_eq,eq_self,Nat.reduceEqDiff,Nat.reduceAdd,Nat.reduceMul,Nat.reduceSub,Nat.reduceLeDiff,Nat.reduceLT,Int.reduceEq,Int.reduceLT,Int.reduceLE,Int.reduceAdd,Int.reduceSub,Int.reduceMul,Int.reduceNeg,Int.reduceNe,reduceCtorEq,Int.reduceToNat,↓reduceIte]
  refine ⟨inR_of (by omega) (by omega), ⟨by omega, by omega, by omega⟩, ?_⟩
  refine W_loop (fun n fr h => ∃ i : Nat, i ≤ l.length ∧ n = l.length - i ∧ fr = [(3, .lst (.own 5) (2 * i) (u8s (atomBytes (l.take i)))), (10, .lst .ro l.length (u16s l)), (11, .int .i64 l.length), (12, .int .i64 i)]) l.length ⟨0, by omega, by omega, rfl⟩ ?_
  rintro n fr h ⟨i, hi, rfl, rfl⟩
  simp only [J_word_Of_j2, J_word_Of_j1, wk,if_true,if_false,forall_const,implies_true,ne_eq,eq_self,Nat.reduceEqDiff,Nat.reduceAdd,Nat.reduceMul,Nat.reduceSub,Nat.reduceLeDiff,Nat.reduceLT,Int.reduceEq,Int.reduceLT,Int.reduceLE,Int.reduceAdd,Int.reduceSub,Int.reduceMul,Int.reduceNeg,Int.reduceNe,reduceCtorEq,Int.reduceToNat,↓reduceIte]
  refine ⟨fun hlt => ?_, fun hge => ?_⟩
  · have hil : i < l.length := by omega
    have hx := ha l[i] (List.getElem_mem hil)
    (repeat (refine And.intro (by first | omega | exact inR_of (by omega) (by omega) | exact ⟨by omega, by omega⟩ | exact ⟨by omega, by omega, by omega⟩ | rfl) ?_))
    rw [show (i : Int).toNat = i by omega, u16s_drop hil]
    simp only [wk,if_true,if_false,forall_const,implies_true,ne_eq,eq_self,Nat.reduceEqDiff,Nat.reduceAdd,Nat.reduceMul,Nat.reduceSub,Nat.reduceLeDiff,Nat.reduceLT,Int.reduceEq,Int.reduceLT,Int.reduceLE,Int.reduceAdd,Int.reduceSub,Int.reduceMul,Int.reduceNeg,Int.reduceNe,reduceCtorEq,Int.reduceToNat,↓reduceIte]
    have e1 : IntKind.u8.wrap ((l[i] : Int).fdiv (2 ^ (min 8 IntKind.u16.bits))) = ((UInt8.ofNat (l[i] / 256)).toNat : Int) := by
      rw [show (min 8 IntKind.u16.bits) = 8 by decide, Int.fdiv_eq_ediv_of_nonneg _ (by omega), IntKind.wrap_u8]
      simp only [UInt8.toNat_ofNat']; omega
    have e2 : IntKind.u8.wrap (l[i] : Int) = ((UInt8.ofNat (l[i] % 256)).toNat : Int) := by
      rw [IntKind.wrap_u8]; simp only [UInt8.toNat_ofNat']; omega
    refine ⟨⟨by omega, by omega⟩, inR_of (by omega) (by omega), l.length - (i + 1), by omega, i + 1, by omega, rfl, ?_⟩
    have e3 : atomBytes (l.take (i + 1)) = atomBytes (l.take i) ++ [UInt8.ofNat (l[i] / 256), UInt8.ofNat (l[i] % 256)] := by
      unfold atomBytes; rw [List.take_succ_eq_append_getElem hil, List.flatMap_append]; simp
    rw [e1, e2, e3, ← u8s_app]
    rfl
  · obtain rfl : i = l.length := by omega
    rw [List.take_length]
    refine ⟨atomBytes l, rfl, ?_, rfl⟩
    have : ∀ l : List Nat, (atomBytes l).length = 2 * l.length := by
      intro l
      induction l with
      | nil => rfl
      | cons a l ih => simp only [atomBytes, List.flatMap_cons, List.length_append, List.length_cons, List.length_nil] at ih ⊢; omega
    rw [this]
end Go.Proofs.Ytnmikopkjdekaaa

namespace Go.Proofs.Ytnmikopkjdekaaa
open Go.RowKit
def J_cert_Check_j1 : ACode :=
 .keep [1] (.seq (.seq (.ops [⟨some 60, none, .load (some 7) (.t 1), none⟩,
 ⟨some 61, none, .call (.f 62) [(.t 60)], none⟩,
 ⟨some 62, none, .not (.t 61), none⟩])
 (.keep [62] (.cond (.t 62)
 (.seq (.ops [⟨some 2, none, .mv (.c (.int .i64 13)), none⟩])
 (.ret))
 (.skip))))
 (.keep [] (.seq (.ops [⟨some 2, none, .mv (.c (.int .i64 0)), none⟩])
 (.ret))))
def J_cert_Check_j2 : ACode :=
 .seq (.ops [⟨some 50, none, .bin .lss (.t 49) (.t 48), none⟩])
 (.keep [1, 47, 48, 49, 50] (.seq (.cond (.t 50)
 (.skip)
 (.exit 0))
 (.keep [1, 47, 48, 49] (.seq (.block 1 (.seq (.ops [⟨some 51, none, .idxa 1 (.t 47) (.t 49), none⟩,
 ⟨some 52, none, .load none (.t 51), none⟩,
 ⟨some 4, none, .mv (.t 52), none⟩])
 (.keep [1, 4, 47, 48, 49] (.seq (.ops [⟨some 53, none, .fld 2 (.t 1), none⟩,
 ⟨some 54, none, .load none (.t 53), none⟩,
 ⟨some 55, none, .call (.f 54) [(.t 54)], none⟩,
 ⟨some 56, none, .mv (.t 4), none⟩,
 ⟨some 57, none, .call (.f 54) [(.t 56)], none⟩,
 ⟨some 58, none, .bin .gtr (.t 55) (.t 57), none⟩])
 (.keep [1, 47, 48, 49, 58] (.cond (.t 58)
 (.seq (.ops [⟨some 2, none, .mv (.c (.int .i64 4)), none⟩])
 (.ret))
 (.skip)))))))
 (.keep [1, 47, 48, 49] (.ops [⟨some 59, none, .bin .add (.t 49) (.c (.int .i64 1)), none⟩,
 ⟨some 49, none, .mv (.t 59), none⟩]))))))
def J_cert_Check : AFn :=
 ⟨63, [.t 2], .seq (.ops [⟨some 1, none, .box (.t 0) [], none⟩,
 ⟨some 2, none, .mv (.c (.int .i64 0)), none⟩])
 (.keep [1] (.seq (.seq (.ops [⟨some 5, none, .fld 0 (.t 1), none⟩,
 ⟨some 6, none, .load none (.t 5), none⟩,
 ⟨some 7, none, .bin .lss (.t 6) (.c (.int .i64 1)), none⟩,
 ⟨some 8, none, .mv (.t 7), none⟩,
 ⟨some 9, (some (8, false)), .fld 0 (.t 1), none⟩,
 ⟨some 10, (some (8, false)), .load none (.t 9), none⟩,
 ⟨some 11, (some (8, false)), .bin .gtr (.t 10) (.c (.int .i64 7)), none⟩,
 ⟨some 12, none, .pick (.t 8) (.c (.bool true)) (.t 11), none⟩])
 (.keep [1, 12] (.cond (.t 12)
 (.seq (.ops [⟨some 2, none, .mv (.c (.int .i64 1)), none⟩])
 (.ret))
 (.skip))))
 (.keep [1] (.seq (.seq (.ops [⟨some 13, none, .fld 1 (.t 1), none⟩,
 ⟨some 14, none, .load none (.t 13), none⟩,
 ⟨some 15, none, .bsl 3 1 1 [(.int .i64 0)] [(0, 1, (.c (.int .i64 1)))], none⟩,
 ⟨some 16, none, .call (.f 60) [(.t 14), (.t 15)], none⟩,
 ⟨some 17, none, .not (.t 16), none⟩,
 ⟨some 18, none, .mv (.t 17), none⟩,
 ⟨some 19, (some (18, false)), .fld 2 (.t 1), none⟩,
 ⟨some 20, (some (18, false)), .load none (.t 19), none⟩,
 ⟨some 21, (some (18, false)), .call (.f 31) [(.t 20)], none⟩,
 ⟨some 22, (some (18, false)), .not (.t 21), none⟩,
 ⟨some 23, none, .pick (.t 18) (.c (.bool true)) (.t 22), none⟩,
 ⟨some 24, none, .mv (.t 23), none⟩,
 ⟨some 25, (some (24, false)), .fld 3 (.t 1), none⟩,
 ⟨some 26, (some (24, false)), .load none (.t 25), none⟩,
 ⟨some 27, (some (24, false)), .call (.f 38) [(.t 26)], none⟩,
 ⟨some 28, (some (24, false)), .not (.t 27), none⟩,
 ⟨some 29, none, .pick (.t 24) (.c (.bool true)) (.t 28), none⟩,
 ⟨some 30, none, .mv (.t 29), none⟩,
 ⟨some 31, (some (30, false)), .fld 4 (.t 1), none⟩,
 ⟨some 32, (some (30, false)), .load none (.t 31), none⟩,
 ⟨some 33, (some (30, false)), .fld 5 (.t 1), none⟩,
 ⟨some 34, (some (30, false)), .load none (.t 33), none⟩,
 ⟨some 35, (some (30, false)), .fld 6 (.t 1), none⟩,
 ⟨some 36, (some (30, false)), .load none (.t 35), none⟩,
 ⟨some 37, (some (30, false)), .bsl 2 1 3 [(.int .i64 0), (.int .i64 0), (.int .i64 0)] [(0, 1, (.t 32)), (1, 1, (.t 34)), (2, 1, (.t 36))], none⟩,
 ⟨some 38, (some (30, false)), .call (.f 61) [(.t 37)], none⟩,
 ⟨some 39, (some (30, false)), .not (.t 38), none⟩,
 ⟨some 40, none, .pick (.t 30) (.c (.bool true)) (.t 39), none⟩])
 (.keep [1, 40] (.cond (.t 40)
 (.seq (.ops [⟨some 2, none, .mv (.c (.int .i64 2)), none⟩])
 (.ret))
 (.skip))))
 (.keep [1] (.seq (.seq (.ops [⟨some 41, none, .fld 4 (.t 1), none⟩,
 ⟨some 42, none, .load none (.t 41), none⟩,
 ⟨some 43, none, .fld 5 (.t 1), none⟩,
 ⟨some 44, none, .load none (.t 43), none⟩,
 ⟨some 45, none, .bin .gtr (.t 42) (.t 44), none⟩])
 (.keep [1, 45] (.cond (.t 45)
 (.seq (.ops [⟨some 2, none, .mv (.c (.int .i64 5)), none⟩])
 (.ret))
 (.skip))))
 (.keep [1] (.seq (.seq (.ops [⟨some 46, none, .fld 3 (.t 1), none⟩,
 ⟨some 47, none, .load none (.t 46), none⟩,
 ⟨some 48, none, .lenl (.t 47), none⟩,
 ⟨some 49, none, .mv (.c (.int .i64 0)), none⟩])
 (.keep [1, 47, 48, 49] (.block 0 (.loop [1, 47, 48, 49] (J_cert_Check_j2)))))
 (J_cert_Check_j1)))))))))⟩
theorem J_cert_Check_ok : chkFn Try.prog 44 J_cert_Check = true := by kernel_rfl
def J_cert_Rules_j1 : ACode :=
 .keep [3] (.seq (.ops [⟨some 25, none, .mv (.t 3), none⟩,
 ⟨some 2, none, .mv (.t 25), none⟩])
 (.ret))
def J_cert_Rules_j2 : ACode :=
 .seq (.ops [⟨some 14, none, .bin .lss (.t 13) (.t 12), none⟩])
 (.keep [1, 3, 11, 12, 13, 14] (.seq (.cond (.t 14)
 (.skip)
 (.exit 0))
 (.keep [1, 3, 11, 12, 13] (.seq (.block 1 (.seq (.ops [⟨some 15, none, .idxa 1 (.t 11) (.t 13), none⟩,
 ⟨some 16, none, .load none (.t 15), none⟩,
 ⟨some 5, none, .mv (.t 16), none⟩])
 (.keep [1, 3, 5, 11, 12, 13] (.ops [⟨some 17, none, .mvo 3, none⟩,
 ⟨some 18, none, .mv (.t 5), none⟩,
 ⟨some 19, none, .fld 2 (.t 1), none⟩,
 ⟨some 20, none, .load none (.t 19), none⟩,
 ⟨some 21, none, .build [(.str ⟨#[]⟩), (.str ⟨#[]⟩)] [(0, 1, (.t 18)), (1, 1, (.t 20))], none⟩,
 ⟨some 22, none, .bsl 29 2 1 [(.str ⟨#[]⟩), (.str ⟨#[]⟩)] [(0, 2, (.t 21))], none⟩,
 ⟨some 23, none, .appo 29 2 32 17 (.t 22), none⟩,
 ⟨some 3, none, .mvo 23, none⟩]))))
 (.keep [1, 3, 11, 12, 13] (.ops [⟨some 24, none, .bin .add (.t 13) (.c (.int .i64 1)), none⟩,
 ⟨some 13, none, .mv (.t 24), none⟩]))))))
def J_cert_Rules : AFn :=
 ⟨26, [.t 2], .seq (.ops [⟨some 1, none, .box (.t 0) [], none⟩,
 ⟨some 2, none, .mv (.c (.lst .clip 0 [])), none⟩])
 (.keep [1] (.seq (.ops [⟨some 6, none, .fld 3 (.t 1), none⟩,
 ⟨some 7, none, .load none (.t 6), none⟩,
 ⟨some 8, none, .lenl (.t 7), none⟩,
 ⟨some 9, none, .mk0 29 2 32 (.t 8), none⟩,
 ⟨some 3, none, .mvo 9, none⟩])
 (.keep [1, 3] (.seq (.seq (.ops [⟨some 10, none, .fld 3 (.t 1), none⟩,
 ⟨some 11, none, .load none (.t 10), none⟩,
 ⟨some 12, none, .lenl (.t 11), none⟩,
 ⟨some 13, none, .mv (.c (.int .i64 0)), none⟩])
 (.keep [1, 3, 11, 12, 13] (.block 0 (.loop [1, 3, 11, 12, 13] (J_cert_Rules_j2)))))
 (J_cert_Rules_j1)))))⟩
theorem J_cert_Rules_ok : chkFn Try.prog 46 J_cert_Rules = true := by kernel_rfl
def J_cert_isOf : AFn :=
 ⟨10, [.t 4], .seq (.ops [⟨some 4, none, .mv (.c (.bool false)), none⟩])
 (.keep [0, 1] (.seq (.ops [⟨some 5, none, .mv (.t 1), none⟩,
 ⟨some 6, none, .mv (.t 0), none⟩,
 ⟨some 7, none, .conv .i64 (.t 6), none⟩,
 ⟨some 8, none, .bin .quo (.t 7) (.c (.int .i64 8192)), none⟩,
 ⟨some 9, none, .call (.f 66) [(.t 5), (.t 8)], none⟩,
 ⟨some 4, none, .mv (.t 9), none⟩])
 (.ret)))⟩
theorem J_cert_isOf_ok : chkFn Try.prog 60 J_cert_isOf = true := by kernel_rfl
def J_cert_num_j1 : ACode :=
 .keep [] (.seq (.ops [⟨some 2, none, .mv (.c (.bool true)), none⟩])
 (.ret))
def J_cert_num_j2 : ACode :=
 .seq (.ops [⟨some 8, none, .bin .lss (.t 7) (.t 6), none⟩])
 (.keep [5, 6, 7, 8] (.seq (.cond (.t 8)
 (.skip)
 (.exit 0))
 (.keep [5, 6, 7] (.seq (.block 1 (.seq (.ops [⟨some 9, none, .idxa 1 (.t 5) (.t 7), none⟩,
 ⟨some 10, none, .load none (.t 9), none⟩,
 ⟨some 4, none, .mv (.t 10), none⟩])
 (.keep [4, 5, 6, 7] (.seq (.ops [⟨some 11, none, .mv (.t 4), none⟩,
 ⟨some 12, none, .bin .lss (.t 11) (.c (.int .i64 0)), none⟩,
 ⟨some 13, none, .mv (.t 12), none⟩,
 ⟨some 14, (some (13, false)), .mv (.t 4), none⟩,
 ⟨some 15, (some (13, false)), .bin .gtr (.t 14) (.c (.int .i64 4611686018427387904)), none⟩,
 ⟨some 16, none, .pick (.t 13) (.c (.bool true)) (.t 15), none⟩])
 (.keep [5, 6, 7, 16] (.cond (.t 16)
 (.seq (.ops [⟨some 2, none, .mv (.c (.bool false)), none⟩])
 (.ret))
 (.skip)))))))
 (.keep [5, 6, 7] (.ops [⟨some 17, none, .bin .add (.t 7) (.c (.int .i64 1)), none⟩,
 ⟨some 7, none, .mv (.t 17), none⟩]))))))
def J_cert_num : AFn :=
 ⟨18, [.t 2], .seq (.ops [⟨some 2, none, .mv (.c (.bool false)), none⟩])
 (.keep [0] (.seq (.seq (.ops [⟨some 5, none, .mv (.t 0), none⟩,
 ⟨some 6, none, .lenl (.t 5), none⟩,
 ⟨some 7, none, .mv (.c (.int .i64 0)), none⟩])
 (.keep [5, 6, 7] (.block 0 (.loop [5, 6, 7] (J_cert_num_j2)))))
 (J_cert_num_j1)))⟩
theorem J_cert_num_ok : chkFn Try.prog 61 J_cert_num = true := by kernel_rfl
def J_cert_like : AFn :=
 ⟨96, [.t 2], .seq (.ops [⟨some 1, none, .box (.t 0) [], none⟩,
 ⟨some 2, none, .mv (.c (.bool false)), none⟩])
 (.keep [1] (.seq (.seq (.ops [⟨some 5, none, .fld 0 (.t 1), none⟩,
 ⟨some 6, none, .load none (.t 5), none⟩])
 (.keep [1, 6] (.block 0 (.seq (.ops [⟨some 8, none, .bin .eql (.t 6) (.c (.int .i64 6)), none⟩,
 ⟨some 7, none, .mv (.t 8), none⟩])
 (.keep [1, 6, 7] (.cond (.t 7)
 (.seq (.ops [⟨some 2, none, .mv (.c (.bool true)), none⟩])
 (.ret))
 (.seq (.ops [⟨some 10, none, .bin .eql (.t 6) (.c (.int .i64 7)), none⟩,
 ⟨some 9, none, .mv (.t 10), none⟩])
 (.keep [1, 9] (.cond (.t 9)
 (.seq (.ops [⟨some 11, none, .load (some 7) (.t 1), none⟩,
 ⟨some 12, none, .call (.f 67) [(.t 11)], none⟩,
 ⟨some 2, none, .mv (.t 12), none⟩])
 (.ret))
 (.skip))))))))))
 (.keep [1] (.seq (.seq (.ops [⟨some 13, none, .fld 3 (.t 1), none⟩,
 ⟨some 14, none, .load none (.t 13), none⟩,
 ⟨some 15, none, .lenl (.t 14), none⟩,
 ⟨some 16, none, .bin .neq (.t 15) (.c (.int .i64 1)), none⟩])
 (.keep [1, 16] (.cond (.t 16)
 (.seq (.ops [⟨some 2, none, .mv (.c (.bool false)), none⟩])
 (.ret))
 (.skip))))
 (.keep [1] (.seq (.ops [⟨some 17, none, .fld 3 (.t 1), none⟩,
 ⟨some 18, none, .load none (.t 17), none⟩,
 ⟨some 19, none, .idxa 1 (.t 18) (.c (.int .i64 0)), none⟩,
 ⟨some 20, none, .load none (.t 19), none⟩,
 ⟨some 3, none, .mv (.t 20), none⟩])
 (.keep [1, 3] (.seq (.ops [⟨some 21, none, .mv (.t 3), none⟩,
 ⟨some 22, none, .call (.f 54) [(.t 21)], none⟩,
 ⟨some 4, none, .mv (.t 22), none⟩])
 (.keep [1, 3, 4] (.seq (.seq (.ops [⟨some 23, none, .fld 0 (.t 1), none⟩,
 ⟨some 24, none, .load none (.t 23), none⟩])
 (.keep [1, 3, 4, 24] (.block 1 (.seq (.ops [⟨some 26, none, .bin .eql (.t 24) (.c (.int .i64 1)), none⟩,
 ⟨some 25, none, .mv (.t 26), none⟩])
 (.keep [1, 3, 4, 24, 25] (.cond (.t 25)
 (.seq (.ops [⟨some 27, none, .fld 2 (.t 1), none⟩,
 ⟨some 28, none, .load none (.t 27), none⟩,
 ⟨some 29, none, .bsl 3 1 1 [(.int .i64 0)] [(0, 1, (.c (.int .i64 1)))], none⟩,
 ⟨some 30, none, .call (.f 68) [(.t 28), (.t 29)], none⟩,
 ⟨some 31, none, .mv (.t 30), none⟩,
 ⟨some 32, (some (31, true)), .mv (.t 4), none⟩,
 ⟨some 33, (some (31, true)), .bin .eql (.t 32) (.c (.int .i64 2)), none⟩,
 ⟨some 34, none, .pick (.t 31) (.t 33) (.c (.bool false)), none⟩,
 ⟨some 35, none, .mv (.t 34), none⟩,
 ⟨some 36, (some (35, true)), .mv (.t 3), none⟩,
 ⟨some 37, (some (35, true)), .call (.f 55) [(.t 36), (.c (.int .i64 0))], none⟩,
 ⟨some 38, (some (35, true)), .bsl 3 1 1 [(.int .i64 0)] [(0, 1, (.c (.int .i64 3)))], none⟩,
 ⟨some 39, (some (35, true)), .call (.f 60) [(.t 37), (.t 38)], none⟩,
 ⟨some 40, none, .pick (.t 35) (.t 39) (.c (.bool false)), none⟩,
 ⟨some 41, none, .mv (.t 40), none⟩,
 ⟨some 42, (some (41, true)), .mv (.t 3), none⟩,
 ⟨some 43, (some (41, true)), .call (.f 55) [(.t 42), (.c (.int .i64 1))], none⟩,
 ⟨some 44, (some (41, true)), .bsl 3 1 1 [(.int .i64 0)] [(0, 1, (.c (.int .i64 5)))], none⟩,
 ⟨some 45, (some (41, true)), .call (.f 60) [(.t 43), (.t 44)], none⟩,
 ⟨some 46, none, .pick (.t 41) (.t 45) (.c (.bool false)), none⟩,
 ⟨some 2, none, .mv (.t 46), none⟩])
 (.ret))
 (.seq (.ops [⟨some 48, none, .bin .eql (.t 24) (.c (.int .i64 2)), none⟩,
 ⟨some 47, none, .mv (.t 48), none⟩])
 (.keep [1, 3, 4, 24, 47] (.cond (.t 47)
 (.seq (.ops [⟨some 49, none, .fld 2 (.t 1), none⟩,
 ⟨some 50, none, .load none (.t 49), none⟩,
 ⟨some 51, none, .bsl 3 1 1 [(.int .i64 0)] [(0, 1, (.c (.int .i64 1)))], none⟩,
 ⟨some 52, none, .call (.f 68) [(.t 50), (.t 51)], none⟩,
 ⟨some 53, none, .mv (.t 52), none⟩,
 ⟨some 54, (some (53, true)), .mv (.t 3), none⟩,
 ⟨some 55, (some (53, true)), .fld 1 (.t 1), none⟩,
 ⟨some 56, (some (53, true)), .load none (.t 55), none⟩,
 ⟨some 57, (some (53, true)), .bsl 51 1 1 [(.int .u16 0)] [(0, 1, (.t 56))], none⟩,
 ⟨some 58, (some (53, true)), .call (.f 45) [(.t 57)], none⟩,
 ⟨some 59, (some (53, true)), .bin .eql (.t 54) (.t 58), none⟩,
 ⟨some 60, none, .pick (.t 53) (.t 59) (.c (.bool false)), none⟩,
 ⟨some 2, none, .mv (.t 60), none⟩])
 (.ret))
 (.seq (.ops [⟨some 62, none, .bin .eql (.t 24) (.c (.int .i64 3)), none⟩,
 ⟨some 61, none, .mv (.t 62), none⟩])
 (.keep [1, 3, 4, 24, 61] (.cond (.t 61)
 (.seq (.ops [⟨some 63, none, .fld 2 (.t 1), none⟩,
 ⟨some 64, none, .load none (.t 63), none⟩,
 ⟨some 65, none, .bsl 3 1 1 [(.int .i64 0)] [(0, 1, (.c (.int .i64 2)))], none⟩,
 ⟨some 66, none, .call (.f 68) [(.t 64), (.t 65)], none⟩,
 ⟨some 2, none, .mv (.t 66), none⟩])
 (.ret))
 (.seq (.ops [⟨some 68, none, .bin .eql (.t 24) (.c (.int .i64 4)), none⟩,
 ⟨some 67, none, .mv (.t 68), none⟩])
 (.keep [1, 3, 4, 24, 67] (.cond (.t 67)
 (.seq (.ops [⟨some 69, none, .fld 2 (.t 1), none⟩,
 ⟨some 70, none, .load none (.t 69), none⟩,
 ⟨some 71, none, .bsl 3 1 1 [(.int .i64 0)] [(0, 1, (.c (.int .i64 3)))], none⟩,
 ⟨some 72, none, .call (.f 68) [(.t 70), (.t 71)], none⟩,
 ⟨some 73, none, .mv (.t 72), none⟩,
 ⟨some 74, (some (73, true)), .mv (.t 3), none⟩,
 ⟨some 75, (some (73, true)), .bsl 3 1 1 [(.int .i64 0)] [(0, 1, (.c (.int .i64 4)))], none⟩,
 ⟨some 76, (some (73, true)), .call (.f 68) [(.t 74), (.t 75)], none⟩,
 ⟨some 77, none, .pick (.t 73) (.t 76) (.c (.bool false)), none⟩,
 ⟨some 2, none, .mv (.t 77), none⟩])
 (.ret))
 (.seq (.ops [⟨some 79, none, .bin .eql (.t 24) (.c (.int .i64 5)), none⟩,
 ⟨some 78, none, .mv (.t 79), none⟩])
 (.keep [1, 3, 4, 78] (.cond (.t 78)
 (.seq (.ops [⟨some 80, none, .fld 2 (.t 1), none⟩,
 ⟨some 81, none, .load none (.t 80), none⟩,
 ⟨some 82, none, .bsl 3 1 2 [(.int .i64 0), (.int .i64 0)] [(0, 1, (.c (.int .i64 1))), (1, 1, (.c (.int .i64 2)))], none⟩,
 ⟨some 83, none, .call (.f 68) [(.t 81), (.t 82)], none⟩,
 ⟨some 84, none, .mv (.t 83), none⟩,
 ⟨some 85, (some (84, true)), .mv (.t 4), none⟩,
 ⟨some 86, (some (84, true)), .bin .geq (.t 85) (.c (.int .i64 2)), none⟩,
 ⟨some 87, none, .pick (.t 84) (.t 86) (.c (.bool false)), none⟩,
 ⟨some 88, none, .mv (.t 87), none⟩,
 ⟨some 89, (some (88, true)), .mv (.t 3), none⟩,
 ⟨some 90, (some (88, true)), .mv (.t 4), none⟩,
 ⟨some 91, (some (88, true)), .bin .sub (.t 90) (.c (.int .i64 1)), none⟩,
 ⟨some 92, (some (88, true)), .call (.f 55) [(.t 89), (.t 91)], none⟩,
 ⟨some 93, (some (88, true)), .bsl 3 1 1 [(.int .i64 0)] [(0, 1, (.c (.int .i64 5)))], none⟩,
 ⟨some 94, (some (88, true)), .call (.f 60) [(.t 92), (.t 93)], none⟩,
 ⟨some 95, none, .pick (.t 88) (.t 94) (.c (.bool false)), none⟩,
 ⟨some 2, none, .mv (.t 95), none⟩])
 (.ret))
 (.skip)))))))))))))))))))
 (.keep [] (.seq (.ops [⟨some 2, none, .mv (.c (.bool false)), none⟩])
 (.ret)))))))))))))⟩
theorem J_cert_like_ok : chkFn Try.prog 62 J_cert_like = true := by kernel_rfl
def J_cert_delegate : AFn :=
 ⟨36, [.t 2], .seq (.ops [⟨some 1, none, .box (.t 0) [], none⟩,
 ⟨some 2, none, .mv (.c (.bool false)), none⟩])
 (.keep [1] (.seq (.seq (.ops [⟨some 6, none, .fld 2 (.t 1), none⟩,
 ⟨some 7, none, .load none (.t 6), none⟩,
 ⟨some 8, none, .call (.f 54) [(.t 7)], none⟩,
 ⟨some 9, none, .bin .lss (.t 8) (.c (.int .i64 2)), none⟩])
 (.keep [1, 9] (.cond (.t 9)
 (.seq (.ops [⟨some 2, none, .mv (.c (.bool false)), none⟩])
 (.ret))
 (.skip))))
 (.keep [1] (.seq (.draw [1, 3, 4] [⟨some 11, none, .fld 2 (.t 1), none⟩,
 ⟨some 12, none, .load none (.t 11), none⟩,
 ⟨some 13, none, .bsl 51 1 1 [(.int .u16 0)] [(0, 1, (.c (.int .u16 1)))], none⟩,
 ⟨some 14, none, .call (.f 45) [(.t 13)], none⟩,
 ⟨some 15, none, .call (.f 72) [(.t 12), (.c (.int .i64 0)), (.c (.int .i64 1)), (.t 14)], none⟩,
 ⟨some 10, none, .mv (.t 15), none⟩,
 ⟨some 16, none, .ext 0 (.t 10), none⟩,
 ⟨some 17, none, .ext 1 (.t 10), none⟩,
 ⟨some 3, none, .mv (.t 16), none⟩,
 ⟨some 4, none, .mv (.t 17), none⟩])
 (.keep [1, 3, 4] (.seq (.seq (.ops [⟨some 18, none, .mv (.t 4), none⟩,
 ⟨some 19, none, .bin .neq (.t 18) (.c (.int .i64 0)), none⟩])
 (.keep [1, 3, 19] (.cond (.t 19)
 (.seq (.ops [⟨some 2, none, .mv (.c (.bool false)), none⟩])
 (.ret))
 (.skip))))
 (.keep [1, 3] (.seq (.ops [⟨some 21, none, .fld 2 (.t 1), none⟩,
 ⟨some 22, none, .load none (.t 21), none⟩,
 ⟨some 23, none, .mv (.t 3), none⟩,
 ⟨some 24, none, .bsl 27 1 2 [(.str ⟨#[]⟩), (.str ⟨#[]⟩)] [(0, 1, (.t 22)), (1, 1, (.t 23))], none⟩,
 ⟨some 25, none, .call (.f 73) [(.t 24)], none⟩,
 ⟨some 20, none, .mv (.t 25), none⟩,
 ⟨some 26, none, .ext 0 (.t 20), none⟩,
 ⟨some 27, none, .ext 1 (.t 20), none⟩,
 ⟨some 5, none, .mv (.t 26), none⟩,
 ⟨some 4, none, .mv (.t 27), none⟩])
 (.keep [1, 4, 5] (.seq (.ops [⟨some 28, none, .mv (.t 4), none⟩,
 ⟨some 29, none, .bin .eql (.t 28) (.c (.int .i64 0)), none⟩,
 ⟨some 30, none, .mv (.t 29), none⟩,
 ⟨some 31, (some (30, true)), .fld 3 (.t 1), none⟩,
 ⟨some 32, (some (30, true)), .load none (.t 31), none⟩,
 ⟨some 33, (some (30, true)), .mv (.t 5), none⟩,
 ⟨some 34, (some (30, true)), .call (.f 74) [(.t 32), (.t 33)], none⟩,
 ⟨some 35, none, .pick (.t 30) (.t 34) (.c (.bool false)), none⟩,
 ⟨some 2, none, .mv (.t 35), none⟩])
 (.ret)))))))))))⟩
theorem J_cert_delegate_ok : chkFn Try.prog 67 J_cert_delegate = true := by kernel_rfl
def J_cert_alone : AFn :=
 ⟨14, [.t 4], .seq (.ops [⟨some 4, none, .mv (.c (.bool false)), none⟩])
 (.keep [0, 1] (.seq (.ops [⟨some 5, none, .mv (.t 0), none⟩,
 ⟨some 6, none, .call (.f 54) [(.t 5)], none⟩,
 ⟨some 7, none, .bin .eql (.t 6) (.c (.int .i64 1)), none⟩,
 ⟨some 8, none, .mv (.t 7), none⟩,
 ⟨some 9, (some (8, true)), .mv (.t 0), none⟩,
 ⟨some 10, (some (8, true)), .call (.f 55) [(.t 9), (.c (.int .i64 0))], none⟩,
 ⟨some 11, (some (8, true)), .mv (.t 1), none⟩,
 ⟨some 12, (some (8, true)), .call (.f 60) [(.t 10), (.t 11)], none⟩,
 ⟨some 13, none, .pick (.t 8) (.t 12) (.c (.bool false)), none⟩,
 ⟨some 4, none, .mv (.t 13), none⟩])
 (.ret)))⟩
theorem J_cert_alone_ok : chkFn Try.prog 68 J_cert_alone = true := by kernel_rfl
end Go.Proofs.Ytnmikopkjdekaaa

/- What pack's Out and its reference do, over the abstract code. -/
namespace Go.Proofs.Ytnmikopkjdekaaa
set_option linter.unusedSimpArgs false
set_option linter.unusedVariables false
open Go.RowKit Go.Lib

theorem hset {h : Hp} {id : Nat} {y : Option (Bool × List AV)} (ho : h[id]? = some y) (x : Option (Bool × List AV)) : (h.set id x)[id]? = some x := by
  have : id < h.length := (List.getElem?_eq_some_iff.1 ho).1
  rw [List.getElem?_set_self this]
def eI : Bool → Int
  | true => 2
  | false => 0
def told (s : Bool × List UInt8) : AV := .tup [.str (if s.1 then ⟨#[]⟩ else ⟨s.2.toArray⟩), .int .i64 (eI s.1)]
end Go.Proofs.Ytnmikopkjdekaaa

/- What pack's In does, over the abstract code. -/
namespace Go.Proofs.Ytnmikopkjdekaaa
set_option linter.unusedSimpArgs false
set_option linter.unusedVariables false
open Go.RowKit Go.Lib

end Go.Proofs.Ytnmikopkjdekaaa

/- What pack's In does: counts, texts, words, sets. -/
-- tight
namespace Go.Proofs.Ytnmikopkjdekaaa
set_option linter.unusedSimpArgs false
set_option linter.unusedVariables false
open Go.RowKit Go.Lib

end Go.Proofs.Ytnmikopkjdekaaa

/- The plain law of reading: what is read was written so. -/
namespace Go.Proofs.Ytnmikopkjdekaaa
set_option linter.unusedSimpArgs false
set_option linter.unusedVariables false
open Go.RowKit Go.Lib

end Go.Proofs.Ytnmikopkjdekaaa

/- The plain law of writing: what is written is read. -/
namespace Go.Proofs.Ytnmikopkjdekaaa
set_option linter.unusedSimpArgs false
set_option linter.unusedVariables false
open Go.RowKit Go.Lib

end Go.Proofs.Ytnmikopkjdekaaa

/- The abstract layer: full slices as ones that are only read, however deep; results that are objects as ones that stay. -/
namespace Go.Proofs.Ytnmikopkjdekaaa
set_option linter.unusedSimpArgs false
set_option linter.unusedVariables false
open Go.RowKit Go.Lib

mutual
def rdp : AV → AV
  | .lst .clip n l => .lst .ro n (rdps l)
  | .lst f n l => .lst f n (rdps l)
  | .agg l => .agg (rdps l)
  | .tup l => .tup (rdps l)
  | .fp l => .fp (rdps l)
  | .fn f l => .fn f (rdps l)
  | .fnb f l => .fnb f (rdps l)
  | a => a
def rdps : List AV → List AV
  | [] => []
  | a :: l => rdp a :: rdps l
end
theorem plain_rdp (a : AV) (h : plain a = true) : plain (rdp a) = true := by
  cases a with
  | lst f n l => cases f <;> first | (simp [plain] at h; done) | simp [rdp, plain]
  | itr s p => simp [plain] at h
  | omp b ks vs => simp [plain] at h
  | stk e o l => simp [plain] at h
  | _ => simp [rdp, plain]
theorem plains_rdp : ∀ {l : List AV}, plains l → plains (rdps l)
  | [], _ => by intro a ha; simp [rdps] at ha
  | a :: l, h => by
    intro b hb
    simp only [rdps, List.mem_cons] at hb
    rcases hb with rfl | hb
    · exact plain_rdp a (h a (by simp))
    · exact plains_rdp (fun x hx => h x (by simp [hx])) b hb
mutual
theorem Rep.rdp {g : Gh} : ∀ {v : Value} {a : AV}, Rep g v a → Rep g v (rdp a)
  | _, _, .bool b => by simp only [Go.Proofs.Ytnmikopkjdekaaa.rdp]; exact .bool b
  | _, _, .int k n => by simp only [Go.Proofs.Ytnmikopkjdekaaa.rdp]; exact .int k n
  | _, _, .str s => by simp only [Go.Proofs.Ytnmikopkjdekaaa.rdp]; exact .str s
  | _, _, .nilp => by simp only [Go.Proofs.Ytnmikopkjdekaaa.rdp]; exact .nilp
  | _, _, .ptr id off b h => by simp only [Go.Proofs.Ytnmikopkjdekaaa.rdp]; exact .ptr id off b h
  | _, _, .fp b off vs l h hp hl => by simp only [Go.Proofs.Ytnmikopkjdekaaa.rdp]; exact .fp b off vs _ h (plains_rdp hp) (RepL.rdp hl)
  | _, _, .lst b off n c .clip vs l h hp h1 h2 hl => by simp only [Go.Proofs.Ytnmikopkjdekaaa.rdp]; exact .lst b off n c .ro vs _ h (plains_rdp hp) h1 (fun e => by cases e) (RepL.rdp hl)
  | _, _, .lst b off n c .ro vs l h hp h1 h2 hl => by simp only [Go.Proofs.Ytnmikopkjdekaaa.rdp]; exact .lst b off n c .ro vs _ h (plains_rdp hp) h1 (fun e => by cases e) (RepL.rdp hl)
  | _, _, .lst b off n c (.own e) vs l h hp h1 h2 hl => by simp only [Go.Proofs.Ytnmikopkjdekaaa.rdp]; exact .lst b off n c (.own e) vs _ h (plains_rdp hp) h1 (fun e => by cases e) (RepL.rdp hl)
  | _, _, .lst0 a c .clip h => by simp only [Go.Proofs.Ytnmikopkjdekaaa.rdp, rdps]; exact .lst0 a c .ro (fun e => by cases e)
  | _, _, .lst0 a c .ro h => by simp only [Go.Proofs.Ytnmikopkjdekaaa.rdp, rdps]; exact .lst0 a c .ro (fun e => by cases e)
  | _, _, .lst0 a c (.own e) h => by simp only [Go.Proofs.Ytnmikopkjdekaaa.rdp, rdps]; exact .lst0 a c (.own e) (fun e => by cases e)
  | _, _, .hs id b n c h h1 => by simp only [Go.Proofs.Ytnmikopkjdekaaa.rdp]; exact .hs id b n c h h1
  | _, _, .agg vs l h hp hl => by simp only [Go.Proofs.Ytnmikopkjdekaaa.rdp]; exact .agg vs _ h (plains_rdp hp) (RepL.rdp hl)
  | _, _, .tup vs l hp hl => by simp only [Go.Proofs.Ytnmikopkjdekaaa.rdp]; exact .tup vs _ (plains_rdp hp) (RepL.rdp hl)
  | _, _, .fn f vs l hp hl => by simp only [Go.Proofs.Ytnmikopkjdekaaa.rdp]; exact .fn f vs _ (plains_rdp hp) (RepL.rdp hl)
  | _, _, .fnb f vs l hp hl => by simp only [Go.Proofs.Ytnmikopkjdekaaa.rdp]; exact .fnb f vs _ (plains_rdp hp) (RepL.rdp hl)
  | _, _, .nilf => by simp only [Go.Proofs.Ytnmikopkjdekaaa.rdp]; exact .nilf
  | _, _, .opq v h h' => by simp only [Go.Proofs.Ytnmikopkjdekaaa.rdp]; exact .opq v h h'
  | _, _, .frn v Q S W0 h h' h3 h4 => by simp only [Go.Proofs.Ytnmikopkjdekaaa.rdp]; exact .frn v Q S W0 h h' h3 h4
  | _, _, .itr b s p => by simp only [Go.Proofs.Ytnmikopkjdekaaa.rdp]; exact .itr b s p
  | _, _, .omp b ks vs => by simp only [Go.Proofs.Ytnmikopkjdekaaa.rdp]; exact .omp b ks vs
  | _, _, .mp b => by simp only [Go.Proofs.Ytnmikopkjdekaaa.rdp]; exact .mp b
  | _, _, .fmp b obj ks vs h1 h2 => by simp only [Go.Proofs.Ytnmikopkjdekaaa.rdp]; exact .fmp b obj ks vs h1 h2
  | _, _, .stk a c e o l h1 h2 h3 => by simp only [Go.Proofs.Ytnmikopkjdekaaa.rdp]; exact .stk a c e o l h1 h2 h3
  | _, _, .raw a m c h1 h2 => by simp only [Go.Proofs.Ytnmikopkjdekaaa.rdp]; exact .raw a m c h1 h2
  | _, _, .rawp b i m c => by simp only [Go.Proofs.Ytnmikopkjdekaaa.rdp]; exact .rawp b i m c
theorem RepL.rdp {g : Gh} : ∀ {vs : List Value} {l : List AV}, RepL g vs l → RepL g vs (rdps l)
  | _, _, .nil => by simp only [rdps]; exact .nil
  | _, _, .cons h hl => by simp only [rdps]; exact .cons (Rep.rdp h) (RepL.rdp hl)
end
theorem ACalls.deep {P : Program} {f : FuncId} {args : List AV} {h : Hp} {R : AV → Hp → Prop} (hc : ACalls P f args h (fun a h' => R (rdp a) h')) : ACalls P f args h R :=
  ⟨hc.1, fun g w vargs h1 h2 h3 h4 => (hc.2 g w vargs h1 h2 h3 h4).mono fun _ _ ⟨x, a, h', g', q1, q2, q3, q4, q5, q6, q7⟩ => ⟨x, _, h', g', q1, q2, q3, q4, q5.rdp, plain_rdp _ q6, q7⟩⟩
theorem ACalls.argd {P : Program} {f : FuncId} {args : List AV} {h : Hp} {R : AV → Hp → Prop} (hc : ACalls P f (rdps args) h R) : ACalls P f args h R :=
  ⟨hc.1, fun g w vargs h1 h2 h3 h4 => hc.2 g w vargs h1 h2 h3.rdp (plains_rdp h4)⟩
mutual
theorem free_rdp : ∀ a : AV, free (rdp a) = free a
  | .lst .clip n l => by simp only [rdp, free, frees_rdp l]
  | .lst .ro n l => by simp only [rdp, free, frees_rdp l]
  | .lst (.own e) n l => by simp only [rdp, free, frees_rdp l]
  | .agg l => by simp only [rdp, free, frees_rdp l]
  | .tup l => by simp only [rdp, free, frees_rdp l]
  | .fp l => by simp only [rdp, free, frees_rdp l]
  | .fn f l => by simp only [rdp, free, frees_rdp l]
  | .fnb f l => by simp only [rdp, free, frees_rdp l]
  | .bool _ => by simp only [rdp]
  | .int _ _ => by simp only [rdp]
  | .str _ => by simp only [rdp]
  | .nilp => by simp only [rdp]
  | .ptr _ _ => by simp only [rdp]
  | .hs _ _ => by simp only [rdp]
  | .nilf => by simp only [rdp]
  | .opq => by simp only [rdp]
  | .frn _ => by simp only [rdp]
  | .itr _ _ => by simp only [rdp]
  | .omp _ _ _ => by simp only [rdp]
  | .mp _ => by simp only [rdp]
  | .fmp _ _ => by simp only [rdp]
  | .stk _ _ _ => by simp only [rdp]
  | .raw _ _ => by simp only [rdp]
  | .rawp _ _ => by simp only [rdp]
theorem frees_rdp : ∀ l : List AV, free.frees (rdps l) = free.frees l
  | [] => rfl
  | a :: l => by simp only [rdps, free.frees, free_rdp a, frees_rdp l]
end
theorem PCalls.argd {P : Program} {f : FuncId} {args : List AV} {v : AV} (hc : PCalls P f (rdps args) v) : PCalls P f args v :=
  ⟨by rw [← frees_rdp]; exact hc.1, hc.2.1, ACalls.argd hc.2.2⟩
theorem rdps_nil : rdps [] = [] := by simp only [rdps]
theorem rdps_cons (a : AV) (l : List AV) : rdps (a :: l) = rdp a :: rdps l := by simp only [rdps]
theorem rdp_bool (b : Bool) : rdp (.bool b) = .bool b := by simp only [rdp]
theorem rdp_int (k : IntKind) (n : Int) : rdp (.int k n) = .int k n := by simp only [rdp]
theorem rdp_str (s : ByteArray) : rdp (.str s) = .str s := by simp only [rdp]
theorem rdp_nilp : rdp .nilp = .nilp := by simp only [rdp]
theorem rdp_hs (i n : Nat) : rdp (.hs i n) = .hs i n := by simp only [rdp]
theorem rdp_ptr (i n : Nat) : rdp (.ptr i n) = .ptr i n := by simp only [rdp]
theorem rdp_ro (n : Nat) (l : List AV) : rdp (.lst .ro n l) = .lst .ro n (rdps l) := by simp only [rdp]
theorem rdp_clip (n : Nat) (l : List AV) : rdp (.lst .clip n l) = .lst .ro n (rdps l) := by simp only [rdp]
theorem rdp_agg (l : List AV) : rdp (.agg l) = .agg (rdps l) := by simp only [rdp]
theorem rdp_tup (l : List AV) : rdp (.tup l) = .tup (rdps l) := by simp only [rdp]
theorem rdps_str : ∀ l : List ByteArray, rdps (l.map .str) = l.map .str
  | [] => rdps_nil
  | a :: l => by simp only [List.map_cons, rdps_cons, rdp_str, rdps_str l]
theorem rdpw : type_of% (And.intro @rdps_nil (And.intro @rdps_cons (And.intro @rdp_bool (And.intro @rdp_int (And.intro @rdp_str (And.intro @rdp_nilp (And.intro @rdp_hs (And.intro @rdp_ptr (And.intro @rdp_ro (And.intro @rdp_clip (And.intro @rdp_agg (And.intro @rdp_tup @rdps_str)))))))))))) :=
  And.intro @rdps_nil (And.intro @rdps_cons (And.intro @rdp_bool (And.intro @rdp_int (And.intro @rdp_str (And.intro @rdp_nilp (And.intro @rdp_hs (And.intro @rdp_ptr (And.intro @rdp_ro (And.intro @rdp_clip (And.intro @rdp_agg (And.intro @rdp_tup @rdps_str)))))))))))
end Go.Proofs.Ytnmikopkjdekaaa

/- Models: relations as bits: plain. -/
namespace Go.Proofs.Ytnmikopkjdekaaa
set_option linter.unusedSimpArgs false
set_option linter.unusedVariables false
open Go.RowKit Go.Lib

def bt (a : UInt8) (j : Nat) : Bool := a.toBitVec.getLsbD j
def bitR (r : Rl) (i j : Nat) : Bool := bt (r.getD i 0) j
theorem bt_or (a b : UInt8) (j : Nat) : bt (a ||| b) j = (bt a j || bt b j) := by simp [bt]
theorem bt_zero (j : Nat) : bt 0 j = false := by simp [bt]
theorem bt_sub (a b : UInt8) : (a &&& ~~~b = 0) ↔ ∀ j, bt a j = true → bt b j = true := by
  constructor
  · intro h j ha
    have := congrArg (fun x : UInt8 => bt x j) h
    simp only [bt_zero] at this
    have hj : j < 8 := by
      rcases Nat.lt_or_ge j 8 with h | h
      · exact h
      · simp only [bt] at ha; rw [BitVec.getLsbD_of_ge _ _ h] at ha; cases ha
    simp only [bt, UInt8.toBitVec_and, UInt8.toBitVec_not, BitVec.getLsbD_and, BitVec.getLsbD_not, hj, decide_true, Bool.true_and] at this ha ⊢
    rw [ha] at this
    simpa using this
  · intro h
    apply UInt8.toBitVec_inj.1
    apply BitVec.eq_of_getLsbD_eq
    intro j hj
    simp only [UInt8.toBitVec_and, UInt8.toBitVec_not, BitVec.getLsbD_and, BitVec.getLsbD_not, hj, decide_true, Bool.true_and]
    have := h j
    simp only [bt] at this
    cases ha : a.toBitVec.getLsbD j with
    | false => simp
    | true => rw [this ha]; simp
theorem within_iff (r s : Rl) : withinR r s = true ↔ ∀ i, i < 8 → ∀ j, bitR r i j = true → bitR s i j = true := by
  simp only [withinR, List.all_eq_true, List.mem_range, decide_eq_true_eq, bt_sub, bitR]
theorem bit_orR {r s : Rl} (hr : r.length = 8) (hs : s.length = 8) {i : Nat} (hi : i < 8) (j : Nat) : bitR (orR r s) i j = (bitR r i j || bitR s i j) := by
  have : (orR r s).getD i 0 = r.getD i 0 ||| s.getD i 0 := by
    simp only [List.getD_eq_getElem?_getD, orR]
    rw [List.getElem?_eq_getElem (by simp [hr, hs]; omega), List.getElem?_eq_getElem (by omega : i < r.length), List.getElem?_eq_getElem (by omega : i < s.length)]
    simp
  simp only [bitR, this, bt_or]
theorem bit_setN (l : List Row) (s : List ByteArray) {i : Nat} (hi : i < 8) (j : Nat) : bitR (setN l s) i j = true ↔ ∃ w ∈ s, bitR (wordR l w) i j = true := by
  have key : ∀ (s : List ByteArray) (z : Rl), z.length = 8 → (bitR (s.foldl (fun r w => orR r (wordR l w)) z) i j = true ↔ bitR z i j = true ∨ ∃ w ∈ s, bitR (wordR l w) i j = true) := by
    intro s
    induction s with
    | nil => intro z hz; simp
    | cons x s ih =>
      intro z hz
      simp only [List.foldl_cons]
      rw [ih _ (orR_length _ _ hz (wordR_length _ _)), bit_orR hz (wordR_length _ _) hi]
      simp only [Bool.or_eq_true, List.mem_cons, exists_eq_or_imp]
      exact or_assoc
  have h0 : bitR zR i j = false := by
    have : zR.getD i 0 = 0 := by
      have hz : zR = List.replicate 8 0 := rfl
      rw [hz, List.getD_eq_getElem?_getD, List.getElem?_replicate]; simp [hi]
    simp only [bitR, this, bt_zero]
  rw [setN, key s zR rfl, h0]
  simp
end Go.Proofs.Ytnmikopkjdekaaa

/- Models: a word behind a word leads where one leads behind the other: plain. -/
namespace Go.Proofs.Ytnmikopkjdekaaa
set_option linter.unusedSimpArgs false
set_option linter.unusedVariables false
open Go.RowKit Go.Lib

end Go.Proofs.Ytnmikopkjdekaaa
