/- Texts of one proof, laid together: FnE Al Ke Kf Ec Ed Ee Ef Eg Kg Kh Kj Kk Ay. -/
import Derived.Test.YtmbijfcjfhdnjaaProg
import Derived.Test.YtmbijfcjfhdnjaaMR9
import Derived.Test.YtmbijfcjfhdnjaaMR10

namespace Go.Proofs.Ytmbijfcjfhdnjaa
open Go.RowKit
def J_law05_ExprJoins : AFn :=
 ⟨90, [.t 6], .seq (.ops [⟨some 6, none, .mv (.c (.bool false)), none⟩])
 (.keep [0, 1, 2] (.seq (.seq (.ops [⟨some 10, none, .call (.f 15) [], none⟩,
 ⟨some 11, none, .not (.t 10), none⟩])
 (.keep [0, 1, 2, 11] (.cond (.t 11)
 (.seq (.ops [⟨some 6, none, .mv (.c (.bool false)), none⟩])
 (.ret))
 (.skip))))
 (.keep [0, 1, 2] (.seq (.seq (.ops [⟨some 12, none, .mv (.t 0), none⟩,
 ⟨some 13, none, .call (.f 21) [(.t 12)], none⟩,
 ⟨some 14, none, .mv (.t 13), none⟩,
 ⟨some 15, (some (14, false)), .mv (.t 1), none⟩,
 ⟨some 16, (some (14, false)), .call (.f 21) [(.t 15)], none⟩,
 ⟨some 17, none, .pick (.t 14) (.c (.bool true)) (.t 16), none⟩,
 ⟨some 18, none, .mv (.t 17), none⟩,
 ⟨some 19, (some (18, false)), .mv (.t 0), none⟩,
 ⟨some 20, (some (18, false)), .call (.f 24) [(.t 19)], none⟩,
 ⟨some 21, (some (18, false)), .not (.t 20), none⟩,
 ⟨some 22, none, .pick (.t 18) (.c (.bool true)) (.t 21), none⟩,
 ⟨some 23, none, .mv (.t 22), none⟩,
 ⟨some 24, (some (23, false)), .mv (.t 1), none⟩,
 ⟨some 25, (some (23, false)), .call (.f 24) [(.t 24)], none⟩,
 ⟨some 26, (some (23, false)), .not (.t 25), none⟩,
 ⟨some 27, none, .pick (.t 23) (.c (.bool true)) (.t 26), none⟩,
 ⟨some 28, none, .mv (.t 27), none⟩,
 ⟨some 29, (some (28, false)), .mv (.t 0), none⟩,
 ⟨some 30, (some (28, false)), .lenl (.t 29), none⟩,
 ⟨some 31, (some (28, false)), .mv (.t 1), none⟩,
 ⟨some 32, (some (28, false)), .lenl (.t 31), none⟩,
 ⟨some 33, (some (28, false)), .bin .add (.t 30) (.t 32), none⟩,
 ⟨some 34, (some (28, false)), .bin .geq (.t 33) (.c (.int .i64 200)), none⟩,
 ⟨some 35, none, .pick (.t 28) (.c (.bool true)) (.t 34), none⟩])
 (.keep [0, 1, 2, 35] (.cond (.t 35)
 (.seq (.ops [⟨some 6, none, .mv (.c (.bool true)), none⟩])
 (.ret))
 (.skip))))
 (.keep [0, 1, 2] (.seq (.ops [⟨some 36, none, .bsl 3 1 4 [(.int .i64 0), (.int .i64 0), (.int .i64 0), (.int .i64 0)] [(0, 1, (.c (.int .i64 2))), (1, 1, (.c (.int .i64 3))), (2, 1, (.c (.int .i64 4))), (3, 1, (.c (.int .i64 5)))], none⟩,
 ⟨some 37, none, .mv (.t 2), none⟩,
 ⟨some 38, none, .bin .rem (.t 37) (.c (.int .u8 4)), none⟩,
 ⟨some 39, none, .idxa 1 (.t 36) (.t 38), none⟩,
 ⟨some 40, none, .load none (.t 39), none⟩,
 ⟨some 7, none, .mv (.t 40), none⟩])
 (.keep [0, 1, 7] (.seq (.ops [⟨some 41, none, .bsl 45 3 0 [] [], none⟩,
 ⟨some 42, none, .mv (.t 0), none⟩,
 ⟨some 43, none, .appo 45 3 32 41 (.t 42), none⟩,
 ⟨some 44, none, .mv (.t 1), none⟩,
 ⟨some 45, none, .appo 45 3 32 43 (.t 44), none⟩,
 ⟨some 8, none, .mvo 45, none⟩])
 (.keep [0, 1, 7, 8] (.seq (.seq (.ops [⟨some 46, none, .mv (.t 8), none⟩,
 ⟨some 47, none, .call (.f 24) [(.t 46)], none⟩])
 (.keep [0, 1, 7, 8, 47] (.cond (.t 47)
 (.seq (.ops [⟨some 6, none, .mv (.c (.bool false)), none⟩])
 (.ret))
 (.skip))))
 (.keep [0, 1, 7, 8] (.seq (.ops [⟨some 48, none, .mvo 8, none⟩,
 ⟨some 49, none, .mv (.t 7), none⟩,
 ⟨some 50, none, .build [(.int .i64 0), (.int .i64 0), (.str ⟨#[]⟩)] [(0, 1, (.t 49))], none⟩,
 ⟨some 51, none, .bsl 45 3 1 [(.int .i64 0), (.int .i64 0), (.str ⟨#[]⟩)] [(0, 3, (.t 50))], none⟩,
 ⟨some 52, none, .appo 45 3 32 48 (.t 51), none⟩,
 ⟨some 8, none, .mvo 52, none⟩])
 (.keep [0, 1, 7, 8] (.seq (.ops [⟨some 53, none, .mv (.t 1), none⟩,
 ⟨some 54, none, .lenl (.t 53), none⟩,
 ⟨some 55, none, .bin .eql (.t 54) (.c (.int .i64 1)), none⟩,
 ⟨some 56, none, .mv (.t 55), none⟩,
 ⟨some 57, (some (56, true)), .mv (.t 1), none⟩,
 ⟨some 58, (some (56, true)), .idxa 3 (.t 57) (.c (.int .i64 0)), none⟩,
 ⟨some 59, (some (56, true)), .fld 1 (.t 58), none⟩,
 ⟨some 60, (some (56, true)), .load none (.t 59), none⟩,
 ⟨some 61, (some (56, true)), .bin .eql (.t 60) (.c (.int .i64 5)), none⟩,
 ⟨some 62, none, .pick (.t 56) (.t 61) (.c (.bool false)), none⟩,
 ⟨some 9, none, .mv (.t 62), none⟩])
 (.keep [0, 1, 7, 8, 9] (.seq (.seq (.ops [⟨some 63, none, .mv (.t 7), none⟩,
 ⟨some 64, none, .bin .eql (.t 63) (.c (.int .i64 5)), none⟩,
 ⟨some 65, none, .mv (.t 64), none⟩,
 ⟨some 66, (some (65, true)), .mv (.t 9), none⟩,
 ⟨some 67, (some (65, true)), .not (.t 66), none⟩,
 ⟨some 68, none, .pick (.t 65) (.t 67) (.c (.bool false)), none⟩])
 (.keep [0, 1, 8, 68] (.cond (.t 68)
 (.seq (.ops [⟨some 69, none, .mv (.t 8), none⟩,
 ⟨some 70, none, .call (.f 24) [(.t 69)], none⟩,
 ⟨some 71, none, .not (.t 70), none⟩,
 ⟨some 72, none, .mv (.t 71), none⟩,
 ⟨some 73, (some (72, true)), .mv (.t 8), none⟩,
 ⟨some 74, (some (72, true)), .call (.f 26) [(.t 73)], none⟩,
 ⟨some 75, (some (72, true)), .bin .eql (.t 74) (.c (.int .i64 0)), none⟩,
 ⟨some 76, none, .pick (.t 72) (.t 75) (.c (.bool false)), none⟩,
 ⟨some 6, none, .mv (.t 76), none⟩])
 (.ret))
 (.skip))))
 (.keep [0, 1, 8] (.seq (.ops [⟨some 77, none, .mv (.t 8), none⟩,
 ⟨some 78, none, .call (.f 24) [(.t 77)], none⟩,
 ⟨some 79, none, .mv (.t 78), none⟩,
 ⟨some 80, (some (79, true)), .mv (.t 8), none⟩,
 ⟨some 81, (some (79, true)), .call (.f 26) [(.t 80)], none⟩,
 ⟨some 82, (some (79, true)), .mv (.t 0), none⟩,
 ⟨some 83, (some (79, true)), .call (.f 26) [(.t 82)], none⟩,
 ⟨some 84, (some (79, true)), .mv (.t 1), none⟩,
 ⟨some 85, (some (79, true)), .call (.f 26) [(.t 84)], none⟩,
 ⟨some 86, (some (79, true)), .mx (.t 83) (.t 85), none⟩,
 ⟨some 87, (some (79, true)), .bin .add (.c (.int .i64 1)) (.t 86), none⟩,
 ⟨some 88, (some (79, true)), .bin .eql (.t 81) (.t 87), none⟩,
 ⟨some 89, none, .pick (.t 79) (.t 88) (.c (.bool false)), none⟩,
 ⟨some 6, none, .mv (.t 89), none⟩])
 (.ret)))))))))))))))))))⟩
theorem J_law05_ExprJoins_ok : chkFn Try.prog 10 J_law05_ExprJoins = true := by kernel_rfl
def J_law05_ExprOpen : AFn :=
 ⟨89, [.t 2], .seq (.ops [⟨some 2, none, .mv (.c (.bool false)), none⟩])
 (.keep [0] (.seq (.seq (.ops [⟨some 15, none, .call (.f 15) [], none⟩,
 ⟨some 16, none, .not (.t 15), none⟩])
 (.keep [0, 16] (.cond (.t 16)
 (.seq (.ops [⟨some 2, none, .mv (.c (.bool false)), none⟩])
 (.ret))
 (.skip))))
 (.keep [0] (.seq (.seq (.ops [⟨some 17, none, .mv (.t 0), none⟩,
 ⟨some 18, none, .lens (.t 17), none⟩,
 ⟨some 19, none, .bin .gtr (.t 18) (.c (.int .i64 3000)), none⟩])
 (.keep [0, 19] (.cond (.t 19)
 (.seq (.ops [⟨some 2, none, .mv (.c (.bool true)), none⟩])
 (.ret))
 (.skip))))
 (.keep [0] (.seq (.ops [⟨some 21, none, .mv (.t 0), none⟩,
 ⟨some 22, none, .call (.f 16) [(.t 21)], none⟩,
 ⟨some 20, none, .mv (.t 22), none⟩,
 ⟨some 23, none, .ext 0 (.t 20), none⟩,
 ⟨some 24, none, .ext 1 (.t 20), none⟩,
 ⟨some 25, none, .ext 2 (.t 20), none⟩,
 ⟨some 3, none, .mv (.t 23), none⟩,
 ⟨some 4, none, .mv (.t 24), none⟩,
 ⟨some 5, none, .mv (.t 25), none⟩])
 (.keep [0, 3, 5] (.seq (.seq (.ops [⟨some 26, none, .mv (.t 5), none⟩,
 ⟨some 27, none, .bin .neq (.t 26) (.c (.int .i64 0)), none⟩])
 (.keep [0, 3, 27] (.cond (.t 27)
 (.seq (.ops [⟨some 2, none, .mv (.c (.bool true)), none⟩])
 (.ret))
 (.skip))))
 (.keep [0, 3] (.seq (.ops [⟨some 29, none, .mv (.t 0), none⟩,
 ⟨some 30, none, .bin .add (.c (.str ⟨#[40]⟩)) (.t 29), none⟩,
 ⟨some 31, none, .bin .add (.t 30) (.c (.str ⟨#[10, 41]⟩)), none⟩,
 ⟨some 32, none, .call (.f 16) [(.t 31)], none⟩,
 ⟨some 28, none, .mv (.t 32), none⟩,
 ⟨some 33, none, .ext 0 (.t 28), none⟩,
 ⟨some 34, none, .ext 1 (.t 28), none⟩,
 ⟨some 35, none, .ext 2 (.t 28), none⟩,
 ⟨some 6, none, .mv (.t 33), none⟩,
 ⟨some 7, none, .mv (.t 34), none⟩,
 ⟨some 8, none, .mv (.t 35), none⟩])
 (.keep [0, 3, 6, 8] (.seq (.ops [⟨some 37, none, .mv (.t 0), none⟩,
 ⟨some 38, none, .bin .add (.t 37) (.c (.str ⟨#[10, 41]⟩)), none⟩,
 ⟨some 39, none, .call (.f 16) [(.t 38)], none⟩,
 ⟨some 36, none, .mv (.t 39), none⟩,
 ⟨some 40, none, .ext 0 (.t 36), none⟩,
 ⟨some 41, none, .ext 1 (.t 36), none⟩,
 ⟨some 42, none, .ext 2 (.t 36), none⟩,
 ⟨some 9, none, .mv (.t 40), none⟩,
 ⟨some 10, none, .mv (.t 41), none⟩,
 ⟨some 11, none, .mv (.t 42), none⟩])
 (.keep [0, 3, 6, 8, 10, 11] (.seq (.ops [⟨some 44, none, .mv (.t 0), none⟩,
 ⟨some 45, none, .bin .add (.c (.str ⟨#[40]⟩)) (.t 44), none⟩,
 ⟨some 46, none, .call (.f 16) [(.t 45)], none⟩,
 ⟨some 43, none, .mv (.t 46), none⟩,
 ⟨some 47, none, .ext 0 (.t 43), none⟩,
 ⟨some 48, none, .ext 1 (.t 43), none⟩,
 ⟨some 49, none, .ext 2 (.t 43), none⟩,
 ⟨some 12, none, .mv (.t 47), none⟩,
 ⟨some 13, none, .mv (.t 48), none⟩,
 ⟨some 14, none, .mv (.t 49), none⟩])
 (.keep [0, 3, 6, 8, 10, 11, 13, 14] (.seq (.seq (.ops [⟨some 50, none, .mv (.t 8), none⟩,
 ⟨some 51, none, .bin .eql (.t 50) (.c (.int .i64 3)), none⟩,
 ⟨some 52, none, .mv (.t 51), none⟩,
 ⟨some 53, (some (52, false)), .mv (.t 11), none⟩,
 ⟨some 54, (some (52, false)), .bin .eql (.t 53) (.c (.int .i64 3)), none⟩,
 ⟨some 55, none, .pick (.t 52) (.c (.bool true)) (.t 54), none⟩,
 ⟨some 56, none, .mv (.t 55), none⟩,
 ⟨some 57, (some (56, false)), .mv (.t 14), none⟩,
 ⟨some 58, (some (56, false)), .bin .eql (.t 57) (.c (.int .i64 3)), none⟩,
 ⟨some 59, none, .pick (.t 56) (.c (.bool true)) (.t 58), none⟩])
 (.keep [0, 3, 6, 8, 10, 11, 13, 14, 59] (.cond (.t 59)
 (.seq (.ops [⟨some 2, none, .mv (.c (.bool true)), none⟩])
 (.ret))
 (.skip))))
 (.keep [0, 3, 6, 8, 10, 11, 13, 14] (.seq (.ops [⟨some 60, none, .mv (.t 8), none⟩,
 ⟨some 61, none, .bin .eql (.t 60) (.c (.int .i64 0)), none⟩,
 ⟨some 62, none, .mv (.t 61), none⟩,
 ⟨some 63, (some (62, true)), .mv (.t 3), none⟩,
 ⟨some 64, (some (62, true)), .mv (.t 6), none⟩,
 ⟨some 65, (some (62, true)), .call (.f 18) [(.t 63), (.t 64)], none⟩,
 ⟨some 66, none, .pick (.t 62) (.t 65) (.c (.bool false)), none⟩,
 ⟨some 67, none, .mv (.t 66), none⟩,
 ⟨some 68, (some (67, true)), .mv (.t 11), none⟩,
 ⟨some 69, (some (67, true)), .bin .eql (.t 68) (.c (.int .i64 2)), none⟩,
 ⟨some 70, none, .pick (.t 67) (.t 69) (.c (.bool false)), none⟩,
 ⟨some 71, none, .mv (.t 70), none⟩,
 ⟨some 72, (some (71, true)), .mv (.t 10), none⟩,
 ⟨some 73, (some (71, true)), .mv (.t 0), none⟩,
 ⟨some 74, (some (71, true)), .lens (.t 73), none⟩,
 ⟨some 75, (some (71, true)), .bin .add (.t 74) (.c (.int .i64 1)), none⟩,
 ⟨some 76, (some (71, true)), .bin .eql (.t 72) (.t 75), none⟩,
 ⟨some 77, none, .pick (.t 71) (.t 76) (.c (.bool false)), none⟩,
 ⟨some 78, none, .mv (.t 77), none⟩,
 ⟨some 79, (some (78, true)), .mv (.t 14), none⟩,
 ⟨some 80, (some (78, true)), .bin .eql (.t 79) (.c (.int .i64 2)), none⟩,
 ⟨some 81, none, .pick (.t 78) (.t 80) (.c (.bool false)), none⟩,
 ⟨some 82, none, .mv (.t 81), none⟩,
 ⟨some 83, (some (82, true)), .mv (.t 13), none⟩,
 ⟨some 84, (some (82, true)), .mv (.t 0), none⟩,
 ⟨some 85, (some (82, true)), .lens (.t 84), none⟩,
 ⟨some 86, (some (82, true)), .bin .add (.t 85) (.c (.int .i64 1)), none⟩,
 ⟨some 87, (some (82, true)), .bin .eql (.t 83) (.t 86), none⟩,
 ⟨some 88, none, .pick (.t 82) (.t 87) (.c (.bool false)), none⟩,
 ⟨some 2, none, .mv (.t 88), none⟩])
 (.ret)))))))))))))))))))⟩
theorem J_law05_ExprOpen_ok : chkFn Try.prog 11 J_law05_ExprOpen = true := by kernel_rfl
def J_law05_awake : AFn :=
 ⟨97, [.t 0], .seq (.ops [⟨some 0, none, .mv (.c (.bool false)), none⟩])
 (.keep [] (.seq (.ops [⟨some 15, none, .call (.f 16) [(.c (.str ⟨#[97, 32, 97, 110, 100, 32, 98, 124, 99, 32, 97, 115, 32, 114, 111, 108, 101, 58, 114]⟩))], none⟩,
 ⟨some 14, none, .mv (.t 15), none⟩,
 ⟨some 16, none, .ext 0 (.t 14), none⟩,
 ⟨some 17, none, .ext 1 (.t 14), none⟩,
 ⟨some 18, none, .ext 2 (.t 14), none⟩,
 ⟨some 1, none, .mv (.t 16), none⟩,
 ⟨some 2, none, .mv (.t 17), none⟩,
 ⟨some 3, none, .mv (.t 18), none⟩])
 (.keep [1, 2, 3] (.seq (.ops [⟨some 20, none, .mv (.t 1), none⟩,
 ⟨some 21, none, .call (.f 22) [(.t 20)], none⟩,
 ⟨some 19, none, .mv (.t 21), none⟩,
 ⟨some 22, none, .ext 0 (.t 19), none⟩,
 ⟨some 23, none, .ext 1 (.t 19), none⟩,
 ⟨some 4, none, .mv (.t 22), none⟩,
 ⟨some 5, none, .mv (.t 23), none⟩])
 (.keep [1, 2, 3, 4, 5] (.seq (.ops [⟨some 25, none, .call (.f 16) [(.c (.str ⟨#[97, 32, 97, 110, 100, 32, 97, 110, 100]⟩))], none⟩,
 ⟨some 24, none, .mv (.t 25), none⟩,
 ⟨some 26, none, .ext 0 (.t 24), none⟩,
 ⟨some 27, none, .ext 1 (.t 24), none⟩,
 ⟨some 28, none, .ext 2 (.t 24), none⟩,
 ⟨some 6, none, .mv (.t 26), none⟩,
 ⟨some 7, none, .mv (.t 27), none⟩,
 ⟨some 8, none, .mv (.t 28), none⟩])
 (.keep [1, 2, 3, 4, 5, 7, 8] (.seq (.ops [⟨some 30, none, .call (.f 16) [(.c (.str ⟨#[97, 32, 102, 111, 114, 32, 40, 98, 32, 102, 111, 114, 32, 99, 41]⟩))], none⟩,
 ⟨some 29, none, .mv (.t 30), none⟩,
 ⟨some 31, none, .ext 0 (.t 29), none⟩,
 ⟨some 32, none, .ext 1 (.t 29), none⟩,
 ⟨some 33, none, .ext 2 (.t 29), none⟩,
 ⟨some 9, none, .mv (.t 31), none⟩,
 ⟨some 10, none, .mv (.t 32), none⟩,
 ⟨some 11, none, .mv (.t 33), none⟩])
 (.keep [1, 2, 3, 4, 5, 7, 8, 9] (.seq (.ops [⟨some 35, none, .mv (.t 9), none⟩,
 ⟨some 36, none, .call (.f 22) [(.t 35)], none⟩,
 ⟨some 34, none, .mv (.t 36), none⟩,
 ⟨some 37, none, .ext 0 (.t 34), none⟩,
 ⟨some 38, none, .ext 1 (.t 34), none⟩,
 ⟨some 12, none, .mv (.t 37), none⟩,
 ⟨some 13, none, .mv (.t 38), none⟩])
 (.keep [1, 2, 3, 4, 5, 7, 8, 12] (.seq (.ops [⟨some 39, none, .mv (.t 1), none⟩,
 ⟨some 40, none, .lenl (.t 39), none⟩,
 ⟨some 41, none, .bin .eql (.t 40) (.c (.int .i64 7)), none⟩,
 ⟨some 42, none, .mv (.t 41), none⟩,
 ⟨some 43, (some (42, true)), .mv (.t 1), none⟩,
 ⟨some 44, (some (42, true)), .idxa 3 (.t 43) (.c (.int .i64 4)), none⟩,
 ⟨some 45, (some (42, true)), .fld 0 (.t 44), none⟩,
 ⟨some 46, (some (42, true)), .load none (.t 45), none⟩,
 ⟨some 47, (some (42, true)), .bin .eql (.t 46) (.c (.int .i64 5)), none⟩,
 ⟨some 48, none, .pick (.t 42) (.t 47) (.c (.bool false)), none⟩,
 ⟨some 49, none, .mv (.t 48), none⟩,
 ⟨some 50, (some (49, true)), .mv (.t 1), none⟩,
 ⟨some 51, (some (49, true)), .idxa 3 (.t 50) (.c (.int .i64 6)), none⟩,
 ⟨some 52, (some (49, true)), .fld 0 (.t 51), none⟩,
 ⟨some 53, (some (49, true)), .load none (.t 52), none⟩,
 ⟨some 54, (some (49, true)), .bin .eql (.t 53) (.c (.int .i64 2)), none⟩,
 ⟨some 55, none, .pick (.t 49) (.t 54) (.c (.bool false)), none⟩,
 ⟨some 56, none, .mv (.t 55), none⟩,
 ⟨some 57, (some (56, true)), .mv (.t 2), none⟩,
 ⟨some 58, (some (56, true)), .bin .eql (.t 57) (.c (.int .i64 0)), none⟩,
 ⟨some 59, none, .pick (.t 56) (.t 58) (.c (.bool false)), none⟩,
 ⟨some 60, none, .mv (.t 59), none⟩,
 ⟨some 61, (some (60, true)), .mv (.t 3), none⟩,
 ⟨some 62, (some (60, true)), .bin .eql (.t 61) (.c (.int .i64 0)), none⟩,
 ⟨some 63, none, .pick (.t 60) (.t 62) (.c (.bool false)), none⟩,
 ⟨some 64, none, .mv (.t 63), none⟩,
 ⟨some 65, (some (64, true)), .mv (.t 4), none⟩,
 ⟨some 66, (some (64, true)), .bin .eql (.t 65) (.c (.str ⟨#[97, 32, 97, 110, 100, 32, 98, 32, 124, 32, 99, 32, 97, 115, 32, 114, 111, 108, 101, 58, 114]⟩)), none⟩,
 ⟨some 67, none, .pick (.t 64) (.t 66) (.c (.bool false)), none⟩,
 ⟨some 68, none, .mv (.t 67), none⟩,
 ⟨some 69, (some (68, true)), .mv (.t 5), none⟩,
 ⟨some 70, (some (68, true)), .bin .eql (.t 69) (.c (.int .i64 0)), none⟩,
 ⟨some 71, none, .pick (.t 68) (.t 70) (.c (.bool false)), none⟩,
 ⟨some 72, none, .mv (.t 71), none⟩,
 ⟨some 73, (some (72, true)), .mv (.t 7), none⟩,
 ⟨some 74, (some (72, true)), .bin .eql (.t 73) (.c (.int .i64 6)), none⟩,
 ⟨some 75, none, .pick (.t 72) (.t 74) (.c (.bool false)), none⟩,
 ⟨some 76, none, .mv (.t 75), none⟩,
 ⟨some 77, (some (76, true)), .mv (.t 8), none⟩,
 ⟨some 78, (some (76, true)), .bin .eql (.t 77) (.c (.int .i64 2)), none⟩,
 ⟨some 79, none, .pick (.t 76) (.t 78) (.c (.bool false)), none⟩,
 ⟨some 80, none, .mv (.t 79), none⟩,
 ⟨some 81, (some (80, true)), .mv (.t 12), none⟩,
 ⟨some 82, (some (80, true)), .bin .eql (.t 81) (.c (.str ⟨#[97, 32, 102, 111, 114, 32, 40, 32, 98, 32, 102, 111, 114, 32, 99, 32, 41]⟩)), none⟩,
 ⟨some 83, none, .pick (.t 80) (.t 82) (.c (.bool false)), none⟩,
 ⟨some 84, none, .mv (.t 83), none⟩,
 ⟨some 85, (some (84, true)), .mv (.t 1), none⟩,
 ⟨some 86, (some (84, true)), .call (.f 24) [(.t 85)], none⟩,
 ⟨some 87, none, .pick (.t 84) (.t 86) (.c (.bool false)), none⟩,
 ⟨some 88, none, .mv (.t 87), none⟩,
 ⟨some 89, (some (88, true)), .call (.f 24) [(.c (.lst .clip 0 []))], none⟩,
 ⟨some 90, (some (88, true)), .not (.t 89), none⟩,
 ⟨some 91, none, .pick (.t 88) (.t 90) (.c (.bool false)), none⟩,
 ⟨some 92, none, .mv (.t 91), none⟩,
 ⟨some 93, (some (92, true)), .mv (.t 1), none⟩,
 ⟨some 94, (some (92, true)), .call (.f 26) [(.t 93)], none⟩,
 ⟨some 95, (some (92, true)), .bin .eql (.t 94) (.c (.int .i64 4)), none⟩,
 ⟨some 96, none, .pick (.t 92) (.t 95) (.c (.bool false)), none⟩,
 ⟨some 0, none, .mv (.t 96), none⟩])
 (.ret)))))))))))))⟩
theorem J_law05_awake_ok : chkFn Try.prog 15 J_law05_awake = true := by kernel_rfl
def J_expr_Parse : AFn :=
 ⟨45, [.t 2, .t 3, .t 4], .seq (.ops [⟨some 2, none, .mv (.c (.lst .clip 0 [])), none⟩,
 ⟨some 3, none, .mv (.c (.int .i64 0)), none⟩,
 ⟨some 4, none, .mv (.c (.int .i64 0)), none⟩])
 (.keep [0] (.seq (.ops [⟨some 11, none, .mv (.t 0), none⟩,
 ⟨some 12, none, .call (.f 13) [(.t 11)], none⟩,
 ⟨some 10, none, .mv (.t 12), none⟩,
 ⟨some 13, none, .ext 0 (.t 10), none⟩,
 ⟨some 14, none, .ext 1 (.t 10), none⟩,
 ⟨some 15, none, .ext 2 (.t 10), none⟩,
 ⟨some 5, none, .mv (.t 13), none⟩,
 ⟨some 6, none, .mv (.t 14), none⟩,
 ⟨some 7, none, .mv (.t 15), none⟩])
 (.keep [0, 5, 6, 7] (.seq (.seq (.ops [⟨some 16, none, .mv (.t 7), none⟩,
 ⟨some 17, none, .bin .neq (.t 16) (.c (.int .i64 0)), none⟩])
 (.keep [0, 5, 6, 7, 17] (.cond (.t 17)
 (.seq (.ops [⟨some 18, none, .mv (.t 6), none⟩,
 ⟨some 19, none, .mv (.t 7), none⟩,
 ⟨some 2, none, .mv (.c (.lst .clip 0 [])), none⟩,
 ⟨some 3, none, .mv (.t 18), none⟩,
 ⟨some 4, none, .mv (.t 19), none⟩])
 (.ret))
 (.skip))))
 (.keep [0, 5] (.seq (.ops [⟨some 21, none, .mv (.t 5), none⟩,
 ⟨some 22, none, .call (.f 19) [(.t 21)], none⟩,
 ⟨some 20, none, .mv (.t 22), none⟩,
 ⟨some 23, none, .ext 0 (.t 20), none⟩,
 ⟨some 24, none, .ext 1 (.t 20), none⟩,
 ⟨some 25, none, .ext 2 (.t 20), none⟩,
 ⟨some 8, none, .mv (.t 23), none⟩,
 ⟨some 9, none, .mv (.t 24), none⟩,
 ⟨some 7, none, .mv (.t 25), none⟩])
 (.keep [0, 5, 7, 8, 9] (.seq (.seq (.ops [⟨some 26, none, .mv (.t 7), none⟩,
 ⟨some 27, none, .bin .eql (.t 26) (.c (.int .i64 0)), none⟩])
 (.keep [0, 5, 7, 8, 9, 27] (.cond (.t 27)
 (.seq (.ops [⟨some 28, none, .mv (.t 8), none⟩,
 ⟨some 2, none, .mv (.t 28), none⟩,
 ⟨some 3, none, .mv (.c (.int .i64 0)), none⟩,
 ⟨some 4, none, .mv (.c (.int .i64 0)), none⟩])
 (.ret))
 (.skip))))
 (.keep [0, 5, 7, 9] (.seq (.seq (.ops [⟨some 29, none, .mv (.t 9), none⟩,
 ⟨some 30, none, .mv (.t 5), none⟩,
 ⟨some 31, none, .lenl (.t 30), none⟩,
 ⟨some 32, none, .bin .lss (.t 29) (.t 31), none⟩])
 (.keep [0, 5, 7, 9, 32] (.cond (.t 32)
 (.seq (.draw [2, 3, 4] [⟨some 33, none, .mv (.t 5), none⟩,
 ⟨some 34, none, .mv (.t 9), none⟩,
 ⟨some 35, none, .idxa 4 (.t 33) (.t 34), none⟩,
 ⟨some 36, none, .fld 3 (.t 35), none⟩,
 ⟨some 37, none, .load none (.t 36), none⟩,
 ⟨some 38, none, .mv (.t 7), none⟩,
 ⟨some 2, none, .mv (.c (.lst .clip 0 [])), none⟩,
 ⟨some 3, none, .mv (.t 37), none⟩,
 ⟨some 4, none, .mv (.t 38), none⟩])
 (.ret))
 (.skip))))
 (.keep [0, 7] (.seq (.seq (.ops [⟨some 39, none, .mv (.t 7), none⟩,
 ⟨some 40, none, .bin .eql (.t 39) (.c (.int .i64 3)), none⟩])
 (.keep [0, 7, 40] (.cond (.t 40)
 (.seq (.ops [⟨some 41, none, .mv (.t 7), none⟩,
 ⟨some 2, none, .mv (.c (.lst .clip 0 [])), none⟩,
 ⟨some 3, none, .mv (.c (.int .i64 0)), none⟩,
 ⟨some 4, none, .mv (.t 41), none⟩])
 (.ret))
 (.skip))))
 (.keep [0, 7] (.seq (.ops [⟨some 42, none, .mv (.t 0), none⟩,
 ⟨some 43, none, .lens (.t 42), none⟩,
 ⟨some 44, none, .mv (.t 7), none⟩,
 ⟨some 2, none, .mv (.c (.lst .clip 0 [])), none⟩,
 ⟨some 3, none, .mv (.t 43), none⟩,
 ⟨some 4, none, .mv (.t 44), none⟩])
 (.ret)))))))))))))))⟩
theorem J_expr_Parse_ok : chkFn Try.prog 16 J_expr_Parse = true := by kernel_rfl
def J_law05_same_j1 : ACode :=
 .keep [] (.seq (.ops [⟨some 4, none, .mv (.c (.bool true)), none⟩])
 (.ret))
def J_law05_same_j2 : ACode :=
 .seq (.ops [⟨some 14, none, .bin .lss (.t 13) (.t 12), none⟩])
 (.keep [0, 1, 12, 13, 14] (.seq (.cond (.t 14)
 (.skip)
 (.exit 0))
 (.keep [0, 1, 12, 13] (.seq (.block 1 (.seq (.ops [⟨some 15, none, .mv (.t 13), none⟩,
 ⟨some 5, none, .mv (.t 15), none⟩])
 (.keep [0, 1, 5, 12, 13] (.seq (.draw [0, 1, 12, 13, 24] [⟨some 16, none, .mv (.t 0), none⟩,
 ⟨some 17, none, .mv (.t 5), none⟩,
 ⟨some 18, none, .idxa 3 (.t 16) (.t 17), none⟩,
 ⟨some 19, none, .load (some 3) (.t 18), none⟩,
 ⟨some 20, none, .mv (.t 1), none⟩,
 ⟨some 21, none, .mv (.t 5), none⟩,
 ⟨some 22, none, .idxa 3 (.t 20) (.t 21), none⟩,
 ⟨some 23, none, .load (some 3) (.t 22), none⟩,
 ⟨some 24, none, .ex (.aeq true [0, 0, 1]) [(.t 19), (.t 23)], none⟩])
 (.keep [0, 1, 12, 13, 24] (.cond (.t 24)
 (.seq (.ops [⟨some 4, none, .mv (.c (.bool false)), none⟩])
 (.ret))
 (.skip)))))))
 (.keep [0, 1, 12, 13] (.ops [⟨some 25, none, .bin .add (.t 13) (.c (.int .i64 1)), none⟩,
 ⟨some 13, none, .mv (.t 25), none⟩]))))))
def J_law05_same : AFn :=
 ⟨26, [.t 4], .seq (.ops [⟨some 4, none, .mv (.c (.bool false)), none⟩])
 (.keep [0, 1] (.seq (.seq (.ops [⟨some 6, none, .mv (.t 0), none⟩,
 ⟨some 7, none, .lenl (.t 6), none⟩,
 ⟨some 8, none, .mv (.t 1), none⟩,
 ⟨some 9, none, .lenl (.t 8), none⟩,
 ⟨some 10, none, .bin .neq (.t 7) (.t 9), none⟩])
 (.keep [0, 1, 10] (.cond (.t 10)
 (.seq (.ops [⟨some 4, none, .mv (.c (.bool false)), none⟩])
 (.ret))
 (.skip))))
 (.keep [0, 1] (.seq (.seq (.ops [⟨some 11, none, .mv (.t 0), none⟩,
 ⟨some 12, none, .lenl (.t 11), none⟩,
 ⟨some 13, none, .mv (.c (.int .i64 0)), none⟩])
 (.keep [0, 1, 12, 13] (.block 0 (.loop [0, 1, 12, 13] (J_law05_same_j2)))))
 (J_law05_same_j1)))))⟩
theorem J_law05_same_ok : chkFn Try.prog 18 J_law05_same = true := by kernel_rfl
def J_expr_Read_j1 : ACode :=
 .keep [0, 7] (.seq (.seq (.ops [⟨some 37, none, .fld 3 (.t 7), none⟩,
 ⟨some 38, none, .load none (.t 37), none⟩,
 ⟨some 39, none, .not (.t 38), none⟩,
 ⟨some 40, none, .mv (.t 39), none⟩,
 ⟨some 41, (some (40, false)), .fld 2 (.t 7), none⟩,
 ⟨some 42, (some (40, false)), .load none (.t 41), none⟩,
 ⟨some 43, (some (40, false)), .bin .gtr (.t 42) (.c (.int .i64 0)), none⟩,
 ⟨some 44, none, .pick (.t 40) (.c (.bool true)) (.t 43), none⟩])
 (.keep [0, 7, 44] (.cond (.t 44)
 (.seq (.ops [⟨some 45, none, .mv (.t 0), none⟩,
 ⟨some 46, none, .lenl (.t 45), none⟩,
 ⟨some 2, none, .mv (.c (.lst .clip 0 [])), none⟩,
 ⟨some 3, none, .mv (.t 46), none⟩,
 ⟨some 4, none, .mv (.c (.int .i64 2)), none⟩])
 (.ret))
 (.skip))))
 (.keep [0, 7] (.seq (.ops [⟨some 47, none, .call (.f 39) [(.t 7), (.c (.int .i64 1))], none⟩])
 (.keep [0, 7] (.seq (.seq (.ops [⟨some 48, none, .fld 0 (.t 7), none⟩,
 ⟨some 49, none, .load none (.t 48), none⟩,
 ⟨some 50, none, .lenl (.t 49), none⟩,
 ⟨some 51, none, .bin .gtr (.t 50) (.c (.int .i64 200)), none⟩])
 (.keep [0, 7, 51] (.cond (.t 51)
 (.seq (.ops [⟨some 52, none, .mv (.t 0), none⟩,
 ⟨some 53, none, .lenl (.t 52), none⟩,
 ⟨some 2, none, .mv (.c (.lst .clip 0 [])), none⟩,
 ⟨some 3, none, .mv (.t 53), none⟩,
 ⟨some 4, none, .mv (.c (.int .i64 3)), none⟩])
 (.ret))
 (.skip))))
 (.keep [7] (.seq (.ops [⟨some 54, none, .fld 0 (.t 7), none⟩,
 ⟨some 55, none, .load none (.t 54), none⟩,
 ⟨some 2, none, .mv (.t 55), none⟩,
 ⟨some 3, none, .mv (.c (.int .i64 0)), none⟩,
 ⟨some 4, none, .mv (.c (.int .i64 0)), none⟩])
 (.ret))))))))
def J_expr_Read_j2 : ACode :=
 .seq (.ops [⟨some 26, none, .bin .lss (.t 25) (.t 24), none⟩])
 (.keep [0, 7, 23, 24, 25, 26] (.seq (.cond (.t 26)
 (.skip)
 (.exit 2))
 (.keep [0, 7, 23, 24, 25] (.seq (.block 3 (.seq (.ops [⟨some 27, none, .mv (.t 25), none⟩,
 ⟨some 28, none, .idxa 4 (.t 23) (.t 25), none⟩,
 ⟨some 29, none, .load (some 4) (.t 28), none⟩,
 ⟨some 9, none, .new [(.int .i64 0), (.str ⟨#[]⟩), (.int .i64 0), (.int .i64 0)] [], none⟩,
 ⟨some 8, none, .mv (.t 27), none⟩,
 ⟨none, none, .stores 4 (.t 9) (.t 29), none⟩])
 (.keep [0, 7, 8, 9, 23, 24, 25] (.seq (.ops [⟨some 30, none, .load (some 4) (.t 9), none⟩,
 ⟨some 31, none, .call (.f 38) [(.t 7), (.t 30)], none⟩,
 ⟨some 10, none, .mv (.t 31), none⟩])
 (.keep [0, 7, 8, 10, 23, 24, 25] (.seq (.ops [⟨some 32, none, .mv (.t 10), none⟩,
 ⟨some 33, none, .bin .neq (.t 32) (.c (.int .i64 0)), none⟩])
 (.keep [0, 7, 8, 10, 23, 24, 25, 33] (.cond (.t 33)
 (.seq (.ops [⟨some 34, none, .mv (.t 8), none⟩,
 ⟨some 35, none, .mv (.t 10), none⟩,
 ⟨some 2, none, .mv (.c (.lst .clip 0 [])), none⟩,
 ⟨some 3, none, .mv (.t 34), none⟩,
 ⟨some 4, none, .mv (.t 35), none⟩])
 (.ret))
 (.skip)))))))))
 (.keep [0, 7, 23, 24, 25] (.ops [⟨some 36, none, .bin .add (.t 25) (.c (.int .i64 1)), none⟩,
 ⟨some 25, none, .mv (.t 36), none⟩]))))))
def J_expr_Read_j3 : ACode :=
 .keep [0] (.seq (.ops [⟨some 7, none, .k (.new [(.lst .clip 0 []), (.lst .clip 0 []), (.int .i64 0), (.bool false)] [(0, 45, 3)] [(1, 3)]), none⟩])
 (.keep [0, 7] (.seq (.seq (.ops [⟨some 23, none, .mv (.t 0), none⟩,
 ⟨some 24, none, .lenl (.t 23), none⟩,
 ⟨some 25, none, .mv (.c (.int .i64 0)), none⟩])
 (.keep [0, 7, 23, 24, 25] (.block 2 (.loop [0, 7, 23, 24, 25] (J_expr_Read_j2)))))
 (J_expr_Read_j1))))
def J_expr_Read_j4 : ACode :=
 .seq (.ops [⟨some 14, none, .bin .lss (.t 13) (.t 12), none⟩])
 (.keep [0, 11, 12, 13, 14] (.seq (.cond (.t 14)
 (.skip)
 (.exit 0))
 (.keep [0, 11, 12, 13] (.seq (.block 1 (.seq (.ops [⟨some 15, none, .mv (.t 13), none⟩,
 ⟨some 16, none, .idxa 4 (.t 11) (.t 13), none⟩,
 ⟨some 17, none, .load (some 4) (.t 16), none⟩,
 ⟨some 6, none, .new [(.int .i64 0), (.str ⟨#[]⟩), (.int .i64 0), (.int .i64 0)] [], none⟩,
 ⟨some 5, none, .mv (.t 15), none⟩,
 ⟨none, none, .stores 4 (.t 6) (.t 17), none⟩])
 (.keep [0, 5, 6, 11, 12, 13] (.seq (.ops [⟨some 18, none, .load (some 4) (.t 6), none⟩,
 ⟨some 19, none, .call (.f 14) [(.t 18)], none⟩,
 ⟨some 20, none, .bin .eql (.t 19) (.c (.str ⟨#[]⟩)), none⟩])
 (.keep [0, 5, 11, 12, 13, 20] (.cond (.t 20)
 (.seq (.ops [⟨some 21, none, .mv (.t 5), none⟩,
 ⟨some 2, none, .mv (.c (.lst .clip 0 [])), none⟩,
 ⟨some 3, none, .mv (.t 21), none⟩,
 ⟨some 4, none, .mv (.c (.int .i64 2)), none⟩])
 (.ret))
 (.skip)))))))
 (.keep [0, 11, 12, 13] (.ops [⟨some 22, none, .bin .add (.t 13) (.c (.int .i64 1)), none⟩,
 ⟨some 13, none, .mv (.t 22), none⟩]))))))
def J_expr_Read : AFn :=
 ⟨56, [.t 2, .t 3, .t 4], .seq (.ops [⟨some 2, none, .mv (.c (.lst .clip 0 [])), none⟩,
 ⟨some 3, none, .mv (.c (.int .i64 0)), none⟩,
 ⟨some 4, none, .mv (.c (.int .i64 0)), none⟩])
 (.keep [0] (.seq (.seq (.ops [⟨some 11, none, .mv (.t 0), none⟩,
 ⟨some 12, none, .lenl (.t 11), none⟩,
 ⟨some 13, none, .mv (.c (.int .i64 0)), none⟩])
 (.keep [0, 11, 12, 13] (.block 0 (.loop [0, 11, 12, 13] (J_expr_Read_j4)))))
 (J_expr_Read_j3)))⟩
theorem J_expr_Read_ok : chkFn Try.prog 19 J_expr_Read = true := by kernel_rfl
def J_law05_large_j1 : ACode :=
 .keep [] (.seq (.ops [⟨some 2, none, .mv (.c (.bool false)), none⟩])
 (.ret))
def J_law05_large_j2 : ACode :=
 .seq (.ops [⟨some 10, none, .bin .lss (.t 9) (.t 8), none⟩])
 (.keep [0, 8, 9, 10] (.seq (.cond (.t 10)
 (.skip)
 (.exit 0))
 (.keep [0, 8, 9] (.seq (.block 1 (.seq (.ops [⟨some 11, none, .mv (.t 9), none⟩,
 ⟨some 3, none, .mv (.t 11), none⟩])
 (.keep [0, 3, 8, 9] (.seq (.ops [⟨some 12, none, .mv (.t 0), none⟩,
 ⟨some 13, none, .mv (.t 3), none⟩,
 ⟨some 14, none, .idxa 3 (.t 12) (.t 13), none⟩,
 ⟨some 15, none, .fld 2 (.t 14), none⟩,
 ⟨some 16, none, .load none (.t 15), none⟩,
 ⟨some 17, none, .lens (.t 16), none⟩,
 ⟨some 18, none, .bin .gtr (.t 17) (.c (.int .i64 100)), none⟩])
 (.keep [0, 8, 9, 18] (.cond (.t 18)
 (.seq (.ops [⟨some 2, none, .mv (.c (.bool true)), none⟩])
 (.ret))
 (.skip)))))))
 (.keep [0, 8, 9] (.ops [⟨some 19, none, .bin .add (.t 9) (.c (.int .i64 1)), none⟩,
 ⟨some 9, none, .mv (.t 19), none⟩]))))))
def J_law05_large : AFn :=
 ⟨20, [.t 2], .seq (.ops [⟨some 2, none, .mv (.c (.bool false)), none⟩])
 (.keep [0] (.seq (.seq (.ops [⟨some 4, none, .mv (.t 0), none⟩,
 ⟨some 5, none, .lenl (.t 4), none⟩,
 ⟨some 6, none, .bin .gtr (.t 5) (.c (.int .i64 300)), none⟩])
 (.keep [0, 6] (.cond (.t 6)
 (.seq (.ops [⟨some 2, none, .mv (.c (.bool true)), none⟩])
 (.ret))
 (.skip))))
 (.keep [0] (.seq (.seq (.ops [⟨some 7, none, .mv (.t 0), none⟩,
 ⟨some 8, none, .lenl (.t 7), none⟩,
 ⟨some 9, none, .mv (.c (.int .i64 0)), none⟩])
 (.keep [0, 8, 9] (.block 0 (.loop [0, 8, 9] (J_law05_large_j2)))))
 (J_law05_large_j1)))))⟩
theorem J_law05_large_ok : chkFn Try.prog 21 J_law05_large = true := by kernel_rfl
def J_expr_Text : AFn :=
 ⟨23, [.t 2, .t 3], .seq (.ops [⟨some 1, none, .box (.t 0) [], none⟩,
 ⟨some 2, none, .mv (.c (.str ⟨#[]⟩)), none⟩,
 ⟨some 3, none, .mv (.c (.int .i64 0)), none⟩])
 (.keep [1] (.seq (.ops [⟨some 9, none, .load none (.t 1), none⟩,
 ⟨some 10, none, .call (.f 42) [(.t 9)], none⟩,
 ⟨some 8, none, .mv (.t 10), none⟩,
 ⟨some 11, none, .ext 0 (.t 8), none⟩,
 ⟨some 12, none, .ext 1 (.t 8), none⟩,
 ⟨some 4, none, .new [(.lst .clip 0 [])] [], none⟩,
 ⟨none, none, .store 1 (.t 4) (.t 11), none⟩,
 ⟨some 5, none, .mv (.t 12), none⟩])
 (.keep [1, 4, 5] (.seq (.seq (.ops [⟨some 13, none, .mv (.t 5), none⟩,
 ⟨some 14, none, .not (.t 13), none⟩])
 (.keep [1, 4, 14] (.cond (.t 14)
 (.seq (.ops [⟨some 2, none, .mv (.c (.str ⟨#[]⟩)), none⟩,
 ⟨some 3, none, .mv (.c (.int .i64 2)), none⟩])
 (.ret))
 (.skip))))
 (.keep [1, 4] (.seq (.ops [⟨some 6, none, .new [(.lst .clip 0 [])] [(0, 9, 1)], none⟩])
 (.keep [1, 4, 6] (.seq (.ops [⟨some 7, none, .new [.nilf] [], none⟩])
 (.keep [1, 4, 6, 7] (.seq (.ops [⟨some 15, none, .mkfn 43 [(.t 1), (.t 6), (.t 7), (.t 4)], none⟩,
 ⟨none, none, .store 1 (.t 7) (.t 15), none⟩])
 (.keep [1, 6, 7] (.seq (.ops [⟨some 16, none, .load none (.t 7), none⟩,
 ⟨some 17, none, .load none (.t 1), none⟩,
 ⟨some 18, none, .lenl (.t 17), none⟩,
 ⟨some 19, none, .bin .sub (.t 18) (.c (.int .i64 1)), none⟩,
 ⟨some 20, none, .call (.t 16) [(.t 19), (.c (.int .i64 0))], none⟩])
 (.keep [6] (.seq (.ops [⟨some 21, none, .load none (.t 6), none⟩,
 ⟨some 22, none, .call (.f 46) [(.t 21), (.c (.str ⟨#[32]⟩))], none⟩,
 ⟨some 2, none, .mv (.t 22), none⟩,
 ⟨some 3, none, .mv (.c (.int .i64 0)), none⟩])
 (.ret)))))))))))))))⟩
theorem J_expr_Text_ok : chkFn Try.prog 22 J_expr_Text = true := by kernel_rfl
def J_expr_May : AFn :=
 ⟨11, [.t 2], .seq (.ops [⟨some 2, none, .mv (.c (.bool false)), none⟩])
 (.keep [0] (.seq (.ops [⟨some 6, none, .mv (.t 0), none⟩,
 ⟨some 7, none, .call (.f 42) [(.t 6)], none⟩,
 ⟨some 5, none, .mv (.t 7), none⟩,
 ⟨some 8, none, .ext 0 (.t 5), none⟩,
 ⟨some 9, none, .ext 1 (.t 5), none⟩,
 ⟨some 3, none, .mv (.t 8), none⟩,
 ⟨some 4, none, .mv (.t 9), none⟩])
 (.keep [4] (.seq (.ops [⟨some 10, none, .mv (.t 4), none⟩,
 ⟨some 2, none, .mv (.t 10), none⟩])
 (.ret)))))⟩
theorem J_expr_May_ok : chkFn Try.prog 24 J_expr_May = true := by kernel_rfl
def J_expr_Deep : AFn :=
 ⟨19, [.t 2], .seq (.ops [⟨some 2, none, .mv (.c (.int .i64 0)), none⟩])
 (.keep [0] (.seq (.ops [⟨some 6, none, .mv (.t 0), none⟩,
 ⟨some 7, none, .call (.f 42) [(.t 6)], none⟩,
 ⟨some 5, none, .mv (.t 7), none⟩,
 ⟨some 8, none, .ext 0 (.t 5), none⟩,
 ⟨some 9, none, .ext 1 (.t 5), none⟩,
 ⟨some 3, none, .mv (.t 8), none⟩,
 ⟨some 4, none, .mv (.t 9), none⟩])
 (.keep [0, 3, 4] (.seq (.seq (.ops [⟨some 10, none, .mv (.t 4), none⟩,
 ⟨some 11, none, .not (.t 10), none⟩])
 (.keep [0, 3, 11] (.cond (.t 11)
 (.seq (.ops [⟨some 2, none, .mv (.c (.int .i64 0)), none⟩])
 (.ret))
 (.skip))))
 (.keep [0, 3] (.seq (.ops [⟨some 12, none, .mv (.t 3), none⟩,
 ⟨some 13, none, .mv (.t 0), none⟩,
 ⟨some 14, none, .lenl (.t 13), none⟩,
 ⟨some 15, none, .bin .sub (.t 14) (.c (.int .i64 1)), none⟩,
 ⟨some 16, none, .idxa 3 (.t 12) (.t 15), none⟩,
 ⟨some 17, none, .fld 2 (.t 16), none⟩,
 ⟨some 18, none, .load none (.t 17), none⟩,
 ⟨some 2, none, .mv (.t 18), none⟩])
 (.ret)))))))⟩
theorem J_expr_Deep_ok : chkFn Try.prog 26 J_expr_Deep = true := by kernel_rfl
def J_expr_reader_take_j1 : ACode :=
 .keep [] (.seq (.ops [⟨some 4, none, .mv (.c (.int .i64 0)), none⟩])
 (.ret))
def J_expr_reader_take_j2 : ACode :=
 .keep [0, 3, 14, 15] (.cond (.t 15)
 (.seq (.ops [⟨some 20, none, .mv (.t 0), none⟩,
 ⟨some 21, none, .fld 0 (.t 3), none⟩,
 ⟨some 22, none, .load none (.t 21), none⟩,
 ⟨some 23, none, .call (.f 44) [(.t 22)], none⟩,
 ⟨some 24, none, .call (.f 39) [(.t 20), (.t 23)], none⟩])
 (.keep [0, 3] (.seq (.draw [0] [⟨some 25, none, .mv (.t 0), none⟩,
 ⟨some 26, none, .mv (.t 0), none⟩,
 ⟨some 27, none, .nilck (.t 26), none⟩,
 ⟨some 28, none, .fld 1 (.t 27), none⟩,
 ⟨some 29, none, .k (.ld (.t 28)), (some (.s 0, [3]))⟩,
 ⟨some 30, none, .fld 0 (.t 3), none⟩,
 ⟨some 31, none, .load none (.t 30), (some (.s 3, [0]))⟩,
 ⟨some 32, none, .bsl 3 1 1 [(.int .i64 0)] [(0, 1, (.t 31))], none⟩,
 ⟨some 33, none, .k (.ap 3 8 29 (.t 32)), none⟩,
 ⟨some 34, none, .nilck (.t 25), none⟩,
 ⟨some 35, none, .fld 1 (.t 34), none⟩,
 ⟨none, none, .k (.st (.t 35) 33), none⟩])
 (.keep [0] (.ops [⟨some 36, none, .mv (.t 0), none⟩,
 ⟨some 37, none, .nilck (.t 36), none⟩,
 ⟨some 38, none, .fld 3 (.t 37), none⟩,
 ⟨none, none, .store 1 (.t 38) (.c (.bool false)), none⟩])))))
 (.seq (.ops [⟨some 40, none, .bin .eql (.t 14) (.c (.int .i64 7)), none⟩,
 ⟨some 39, none, .mv (.t 40), none⟩])
 (.keep [0, 39] (.cond (.t 39)
 (.seq (.seq (.ops [⟨some 41, none, .mv (.t 0), none⟩,
 ⟨some 42, none, .nilck (.t 41), none⟩,
 ⟨some 43, none, .fld 2 (.t 42), none⟩,
 ⟨some 44, none, .load none (.t 43), none⟩,
 ⟨some 45, none, .bin .eql (.t 44) (.c (.int .i64 0)), none⟩])
 (.keep [0, 45] (.cond (.t 45)
 (.seq (.ops [⟨some 4, none, .mv (.c (.int .i64 2)), none⟩])
 (.ret))
 (.skip))))
 (.keep [0] (.seq (.ops [⟨some 46, none, .mv (.t 0), none⟩,
 ⟨some 47, none, .call (.f 39) [(.t 46), (.c (.int .i64 1))], none⟩])
 (.keep [0] (.seq (.nmo 0 1 (.draw [0] [⟨some 48, none, .mv (.t 0), none⟩,
 ⟨some 49, none, .mv (.t 0), none⟩,
 ⟨some 50, none, .nilck (.t 49), none⟩,
 ⟨some 51, none, .fld 1 (.t 50), none⟩,
 ⟨some 52, none, .load none (.t 51), none⟩,
 ⟨some 53, none, .mv (.t 0), none⟩,
 ⟨some 54, none, .nilck (.t 53), none⟩,
 ⟨some 55, none, .fld 1 (.t 54), none⟩,
 ⟨some 56, none, .load none (.t 55), none⟩,
 ⟨some 57, none, .k (.len (.t 56)), none⟩,
 ⟨some 58, none, .bin .sub (.t 57) (.c (.int .i64 1)), none⟩,
 ⟨some 59, none, .k (.sl (.t 52) (.t 58)), none⟩,
 ⟨some 60, none, .nilck (.t 48), none⟩,
 ⟨some 61, none, .fld 1 (.t 60), none⟩,
 ⟨none, none, .k (.pop (.t 61) (.t 59)), none⟩]))
 (.keep [0] (.ops [⟨some 62, none, .mv (.t 0), none⟩,
 ⟨some 63, none, .nilck (.t 62), none⟩,
 ⟨some 64, none, .fld 2 (.t 63), none⟩,
 ⟨some 65, none, .load none (.t 64), none⟩,
 ⟨some 66, none, .bin .sub (.t 65) (.c (.int .i64 1)), none⟩,
 ⟨some 67, none, .nilck (.t 62), none⟩,
 ⟨some 68, none, .fld 2 (.t 67), none⟩,
 ⟨none, none, .store 1 (.t 68) (.t 66), none⟩])))))))
 (.seq (.ops [⟨some 4, none, .mv (.c (.int .i64 2)), none⟩])
 (.ret))))))
def J_expr_reader_take : AFn :=
 ⟨69, [.t 4], .seq (.ops [⟨some 3, none, .box (.t 1) [], none⟩,
 ⟨some 4, none, .mv (.c (.int .i64 0)), none⟩])
 (.keep [0, 3] (.seq (.seq (.ops [⟨some 5, none, .mv (.t 0), none⟩,
 ⟨some 6, none, .nilck (.t 5), none⟩,
 ⟨some 7, none, .fld 3 (.t 6), none⟩,
 ⟨some 8, none, .load none (.t 7), none⟩,
 ⟨some 9, none, .not (.t 8), none⟩])
 (.keep [0, 3, 9] (.cond (.t 9)
 (.seq (.ops [⟨some 10, none, .mv (.t 0), none⟩,
 ⟨some 11, none, .load (some 4) (.t 3), none⟩,
 ⟨some 12, none, .call (.f 62) [(.t 10), (.t 11)], none⟩,
 ⟨some 4, none, .mv (.t 12), none⟩])
 (.ret))
 (.skip))))
 (.keep [0, 3] (.seq (.seq (.ops [⟨some 13, none, .fld 0 (.t 3), none⟩,
 ⟨some 14, none, .load none (.t 13), none⟩])
 (.keep [0, 3, 14] (.block 0 (.seq (.seq (.ops [⟨some 16, none, .bin .eql (.t 14) (.c (.int .i64 2)), none⟩,
 ⟨some 15, none, .mv (.t 16), none⟩])
 (.keep [0, 3, 14, 15] (.cond (.t 15)
 (.skip)
 (.seq (.ops [⟨some 17, none, .bin .eql (.t 14) (.c (.int .i64 3)), none⟩,
 ⟨some 15, none, .mv (.t 17), none⟩])
 (.keep [0, 3, 14, 15] (.cond (.t 15)
 (.skip)
 (.seq (.ops [⟨some 18, none, .bin .eql (.t 14) (.c (.int .i64 4)), none⟩,
 ⟨some 15, none, .mv (.t 18), none⟩])
 (.keep [0, 3, 14, 15] (.cond (.t 15)
 (.skip)
 (.ops [⟨some 19, none, .bin .eql (.t 14) (.c (.int .i64 5)), none⟩,
 ⟨some 15, none, .mv (.t 19), none⟩]))))))))))
 (J_expr_reader_take_j2)))))
 (J_expr_reader_take_j1)))))⟩
theorem J_expr_reader_take_ok : chkFn Try.prog 38 J_expr_reader_take = true := by kernel_rfl
def J_expr_reader_lay_j1 : ACode :=
 .seq (.seq (.ops [⟨some 4, none, .mv (.t 0), none⟩,
 ⟨some 5, none, .call (.f 63) [(.t 4)], none⟩,
 ⟨some 6, none, .call (.f 44) [(.t 5)], none⟩,
 ⟨some 7, none, .mv (.t 1), none⟩,
 ⟨some 8, none, .bin .geq (.t 6) (.t 7), none⟩])
 (.keep [0, 1, 8] (.cond (.t 8)
 (.skip)
 (.exit 0))))
 (.keep [0, 1] (.block 1 (.seq (.draw [0, 1] [⟨some 9, none, .mv (.t 0), none⟩,
 ⟨some 10, none, .mv (.t 0), none⟩,
 ⟨some 11, none, .nilck (.t 10), none⟩,
 ⟨some 12, none, .fld 0 (.t 11), none⟩,
 ⟨some 13, none, .loado (.t 12), none⟩,
 ⟨some 14, none, .mv (.t 0), none⟩,
 ⟨some 15, none, .callr (.f 63) [(.t 14)], none⟩,
 ⟨some 16, none, .build [(.int .i64 0), (.int .i64 0), (.str ⟨#[]⟩)] [(0, 1, (.t 15))], none⟩,
 ⟨some 17, none, .bsl 45 3 1 [(.int .i64 0), (.int .i64 0), (.str ⟨#[]⟩)] [(0, 3, (.t 16))], none⟩,
 ⟨some 18, none, .appo 45 3 32 13 (.t 17), none⟩,
 ⟨some 19, none, .nilck (.t 9), none⟩,
 ⟨some 20, none, .fld 0 (.t 19), none⟩,
 ⟨none, none, .storeo (.t 20) 18, none⟩])
 (.keep [0, 1] (.nmo 0 1 (.draw [0, 1] [⟨some 21, none, .mv (.t 0), none⟩,
 ⟨some 22, none, .mv (.t 0), none⟩,
 ⟨some 23, none, .nilck (.t 22), none⟩,
 ⟨some 24, none, .fld 1 (.t 23), none⟩,
 ⟨some 25, none, .load none (.t 24), none⟩,
 ⟨some 26, none, .mv (.t 0), none⟩,
 ⟨some 27, none, .nilck (.t 26), none⟩,
 ⟨some 28, none, .fld 1 (.t 27), none⟩,
 ⟨some 29, none, .load none (.t 28), none⟩,
 ⟨some 30, none, .k (.len (.t 29)), none⟩,
 ⟨some 31, none, .bin .sub (.t 30) (.c (.int .i64 1)), none⟩,
 ⟨some 32, none, .k (.sl (.t 25) (.t 31)), none⟩,
 ⟨some 33, none, .nilck (.t 21), none⟩,
 ⟨some 34, none, .fld 1 (.t 33), none⟩,
 ⟨none, none, .k (.pop (.t 34) (.t 32)), none⟩]))))))
def J_expr_reader_lay : AFn :=
 ⟨35, [], .block 0 (.loop [0, 1] (J_expr_reader_lay_j1))⟩
theorem J_expr_reader_lay_ok : chkFn Try.prog 39 J_expr_reader_lay = true := by kernel_rfl
def J_expr_parts_j1 : ACode :=
 .keep [4, 5] (.seq (.nms 5 (.ops [⟨some 118, none, .mv (.t 4), none⟩,
 ⟨some 119, none, .mv (.t 5), none⟩,
 ⟨some 120, none, .k (.len (.t 119)), none⟩,
 ⟨some 121, none, .bin .eql (.t 120) (.c (.int .i64 1)), none⟩,
 ⟨some 2, none, .mv (.t 118), none⟩,
 ⟨some 3, none, .mv (.t 121), none⟩]))
 (.ret))
def J_expr_parts_j2 : ACode :=
 .keep [0, 4, 5, 22, 23, 24] (.ops [⟨some 117, none, .bin .add (.t 24) (.c (.int .i64 1)), none⟩,
 ⟨some 24, none, .mv (.t 117), none⟩])
def J_expr_parts_j3 : ACode :=
 .seq (.ops [⟨some 25, none, .bin .lss (.t 24) (.t 23), none⟩])
 (.keep [0, 4, 5, 22, 23, 24, 25] (.seq (.cond (.t 25)
 (.skip)
 (.exit 0))
 (.keep [0, 4, 5, 22, 23, 24] (.seq (.block 1 (.seq (.ops [⟨some 26, none, .mv (.t 24), none⟩,
 ⟨some 27, none, .idxa 3 (.t 22) (.t 24), none⟩,
 ⟨some 28, none, .load (some 3) (.t 27), none⟩,
 ⟨some 7, none, .new [(.int .i64 0), (.int .i64 0), (.str ⟨#[]⟩)] [], none⟩,
 ⟨some 6, none, .mv (.t 26), none⟩,
 ⟨none, none, .stores 3 (.t 7) (.t 28), none⟩])
 (.keep [0, 4, 5, 6, 7, 22, 23, 24] (.seq (.seq (.ops [⟨some 29, none, .fld 0 (.t 7), none⟩,
 ⟨some 30, none, .load none (.t 29), none⟩,
 ⟨some 31, none, .bin .eql (.t 30) (.c (.int .i64 1)), none⟩])
 (.keep [0, 4, 5, 6, 7, 22, 23, 24, 31] (.cond (.t 31)
 (.seq (.seq (.ops [⟨some 32, none, .load (some 3) (.t 7), none⟩,
 ⟨some 33, none, .call (.f 45) [(.t 32)], none⟩,
 ⟨some 34, none, .bin .eql (.t 33) (.c (.str ⟨#[]⟩)), none⟩])
 (.keep [0, 4, 5, 6, 22, 23, 24, 34] (.cond (.t 34)
 (.seq (.ops [⟨some 2, none, .mv (.c (.lst .clip 0 [])), none⟩,
 ⟨some 3, none, .mv (.c (.bool false)), none⟩])
 (.ret))
 (.skip))))
 (.keep [0, 4, 5, 6, 22, 23, 24] (.seq (.ops [⟨some 35, none, .mv (.t 4), none⟩,
 ⟨some 36, none, .mv (.t 6), none⟩,
 ⟨some 37, none, .idxa 3 (.t 35) (.t 36), none⟩,
 ⟨some 38, none, .fld 2 (.t 37), none⟩,
 ⟨none, none, .store 1 (.t 38) (.c (.int .i64 1)), none⟩])
 (.keep [0, 4, 5, 6, 22, 23, 24] (.seq (.ops [⟨some 39, none, .k (.mv 5), none⟩,
 ⟨some 40, none, .mv (.t 6), none⟩,
 ⟨some 41, none, .bsl 3 1 1 [(.int .i64 0)] [(0, 1, (.t 40))], none⟩,
 ⟨some 42, none, .k (.ap 3 8 39 (.t 41)), none⟩,
 ⟨some 5, none, .k (.mv 42), none⟩])
 (.exit 1))))))
 (.skip))))
 (.keep [0, 4, 5, 6, 7, 22, 23, 24] (.seq (.nms 5 (.ops [⟨some 43, none, .mv (.t 5), none⟩,
 ⟨some 44, none, .k (.len (.t 43)), none⟩,
 ⟨some 8, none, .mv (.t 44), none⟩]))
 (.keep [0, 4, 5, 6, 7, 8, 22, 23, 24] (.seq (.seq (.ops [⟨some 45, none, .fld 0 (.t 7), none⟩,
 ⟨some 46, none, .load none (.t 45), none⟩,
 ⟨some 47, none, .call (.f 44) [(.t 46)], none⟩,
 ⟨some 48, none, .bin .eql (.t 47) (.c (.int .i64 0)), none⟩,
 ⟨some 49, none, .mv (.t 48), none⟩,
 ⟨some 50, (some (49, false)), .fld 1 (.t 7), none⟩,
 ⟨some 51, (some (49, false)), .load none (.t 50), none⟩,
 ⟨some 52, (some (49, false)), .bin .neq (.t 51) (.c (.int .i64 0)), none⟩,
 ⟨some 53, none, .pick (.t 49) (.c (.bool true)) (.t 52), none⟩,
 ⟨some 54, none, .mv (.t 53), none⟩,
 ⟨some 55, (some (54, false)), .fld 2 (.t 7), none⟩,
 ⟨some 56, (some (54, false)), .load none (.t 55), none⟩,
 ⟨some 57, (some (54, false)), .bin .neq (.t 56) (.c (.str ⟨#[]⟩)), none⟩,
 ⟨some 58, none, .pick (.t 54) (.c (.bool true)) (.t 57), none⟩,
 ⟨some 59, none, .mv (.t 58), none⟩,
 ⟨some 60, (some (59, false)), .mv (.t 8), none⟩,
 ⟨some 61, (some (59, false)), .bin .lss (.t 60) (.c (.int .i64 2)), none⟩,
 ⟨some 62, none, .pick (.t 59) (.c (.bool true)) (.t 61), none⟩])
 (.keep [0, 4, 5, 6, 7, 8, 22, 23, 24, 62] (.cond (.t 62)
 (.seq (.ops [⟨some 2, none, .mv (.c (.lst .clip 0 [])), none⟩,
 ⟨some 3, none, .mv (.c (.bool false)), none⟩])
 (.ret))
 (.skip))))
 (.keep [0, 4, 5, 6, 7, 8, 22, 23, 24] (.seq (.nms 5 (.draw [0, 4, 5, 6, 7, 8, 9, 10, 22, 23, 24] [⟨some 63, none, .mv (.t 5), none⟩,
 ⟨some 64, none, .mv (.t 8), none⟩,
 ⟨some 65, none, .bin .sub (.t 64) (.c (.int .i64 2)), none⟩,
 ⟨some 66, none, .k (.ix (.t 63) (.t 65)), none⟩,
 ⟨some 67, none, .k (.pk 5 (.t 66)), none⟩,
 ⟨some 68, none, .mv (.t 5), none⟩,
 ⟨some 69, none, .mv (.t 8), none⟩,
 ⟨some 70, none, .bin .sub (.t 69) (.c (.int .i64 1)), none⟩,
 ⟨some 71, none, .k (.ix (.t 68) (.t 70)), none⟩,
 ⟨some 72, none, .k (.pk 5 (.t 71)), none⟩,
 ⟨some 9, none, .mv (.t 67), none⟩,
 ⟨some 10, none, .mv (.t 72), none⟩]))
 (.keep [0, 4, 5, 6, 7, 8, 9, 10, 22, 23, 24] (.seq (.seq (.ops [⟨some 73, none, .fld 0 (.t 7), none⟩,
 ⟨some 74, none, .load none (.t 73), none⟩,
 ⟨some 75, none, .bin .eql (.t 74) (.c (.int .i64 5)), none⟩,
 ⟨some 76, none, .mv (.t 75), none⟩,
 ⟨some 77, (some (76, true)), .mv (.t 0), none⟩,
 ⟨some 78, (some (76, true)), .mv (.t 10), none⟩,
 ⟨some 79, (some (76, true)), .idxa 3 (.t 77) (.t 78), none⟩,
 ⟨some 80, (some (76, true)), .fld 0 (.t 79), none⟩,
 ⟨some 81, (some (76, true)), .load none (.t 80), none⟩,
 ⟨some 82, (some (76, true)), .bin .neq (.t 81) (.c (.int .i64 1)), none⟩,
 ⟨some 83, (some (76, true)), .mv (.t 82), none⟩,
 ⟨some 84, (some (83, false)), .mv (.t 0), none⟩,
 ⟨some 85, (some (83, false)), .mv (.t 10), none⟩,
 ⟨some 86, (some (83, false)), .idxa 3 (.t 84) (.t 85), none⟩,
 ⟨some 87, (some (83, false)), .fld 1 (.t 86), none⟩,
 ⟨some 88, (some (83, false)), .load none (.t 87), none⟩,
 ⟨some 89, (some (83, false)), .bin .neq (.t 88) (.c (.int .i64 5)), none⟩,
 ⟨some 90, (some (76, true)), .pick (.t 83) (.c (.bool true)) (.t 89), none⟩,
 ⟨some 91, none, .pick (.t 76) (.t 90) (.c (.bool false)), none⟩])
 (.keep [0, 4, 5, 6, 8, 9, 10, 22, 23, 24, 91] (.cond (.t 91)
 (.seq (.ops [⟨some 2, none, .mv (.c (.lst .clip 0 [])), none⟩,
 ⟨some 3, none, .mv (.c (.bool false)), none⟩])
 (.ret))
 (.skip))))
 (.keep [0, 4, 5, 6, 8, 9, 10, 22, 23, 24] (.seq (.draw [0, 4, 5, 6, 8, 22, 23, 24] [⟨some 92, none, .mv (.t 4), none⟩,
 ⟨some 93, none, .mv (.t 6), none⟩,
 ⟨some 94, none, .mv (.t 9), none⟩,
 ⟨some 95, none, .mv (.t 10), none⟩,
 ⟨some 96, none, .mv (.t 4), none⟩,
 ⟨some 97, none, .mv (.t 9), none⟩,
 ⟨some 98, none, .idxa 3 (.t 96) (.t 97), none⟩,
 ⟨some 99, none, .fld 2 (.t 98), none⟩,
 ⟨some 100, none, .load none (.t 99), none⟩,
 ⟨some 101, none, .mv (.t 4), none⟩,
 ⟨some 102, none, .mv (.t 10), none⟩,
 ⟨some 103, none, .idxa 3 (.t 101) (.t 102), none⟩,
 ⟨some 104, none, .fld 2 (.t 103), none⟩,
 ⟨some 105, none, .load none (.t 104), none⟩,
 ⟨some 106, none, .mx (.t 100) (.t 105), none⟩,
 ⟨some 107, none, .bin .add (.c (.int .i64 1)) (.t 106), none⟩,
 ⟨some 108, none, .build [(.int .i64 0), (.int .i64 0), (.int .i64 0)] [(0, 1, (.t 94)), (1, 1, (.t 95)), (2, 1, (.t 107))], none⟩,
 ⟨some 109, none, .idxa 3 (.t 92) (.t 93), none⟩,
 ⟨none, none, .store 3 (.t 109) (.t 108), none⟩])
 (.keep [0, 4, 5, 6, 8, 22, 23, 24] (.ops [⟨some 110, none, .k (.mv 5), none⟩,
 ⟨some 111, none, .mv (.t 8), none⟩,
 ⟨some 112, none, .bin .sub (.t 111) (.c (.int .i64 2)), none⟩,
 ⟨some 113, none, .k (.cut 110 (.t 112)), none⟩,
 ⟨some 114, none, .mv (.t 6), none⟩,
 ⟨some 115, none, .bsl 3 1 1 [(.int .i64 0)] [(0, 1, (.t 114))], none⟩,
 ⟨some 116, none, .k (.ap 3 8 113 (.t 115)), none⟩,
 ⟨some 5, none, .k (.mv 116), none⟩]))))))))))))))))
 (J_expr_parts_j2)))))
def J_expr_parts : AFn :=
 ⟨122, [.t 2, .t 3], .seq (.ops [⟨some 2, none, .mv (.c (.lst .clip 0 [])), none⟩,
 ⟨some 3, none, .mv (.c (.bool false)), none⟩])
 (.keep [0] (.seq (.seq (.ops [⟨some 11, none, .mv (.t 0), none⟩,
 ⟨some 12, none, .lenl (.t 11), none⟩,
 ⟨some 13, none, .bin .lss (.t 12) (.c (.int .i64 1)), none⟩,
 ⟨some 14, none, .mv (.t 13), none⟩,
 ⟨some 15, (some (14, false)), .mv (.t 0), none⟩,
 ⟨some 16, (some (14, false)), .lenl (.t 15), none⟩,
 ⟨some 17, (some (14, false)), .bin .gtr (.t 16) (.c (.int .i64 200)), none⟩,
 ⟨some 18, none, .pick (.t 14) (.c (.bool true)) (.t 17), none⟩])
 (.keep [0, 18] (.cond (.t 18)
 (.seq (.ops [⟨some 2, none, .mv (.c (.lst .clip 0 [])), none⟩,
 ⟨some 3, none, .mv (.c (.bool false)), none⟩])
 (.ret))
 (.skip))))
 (.keep [0] (.seq (.ops [⟨some 19, none, .mv (.t 0), none⟩,
 ⟨some 20, none, .lenl (.t 19), none⟩,
 ⟨some 21, none, .mkn 68 3 24 [(.int .i64 0), (.int .i64 0), (.int .i64 0)] (.t 20), none⟩,
 ⟨some 4, none, .mv (.t 21), none⟩])
 (.keep [0, 4] (.seq (.ops [⟨some 5, none, .k (.mk 3 (.c (.lst .clip 0 []))), none⟩])
 (.keep [0, 4, 5] (.seq (.seq (.ops [⟨some 22, none, .mv (.t 0), none⟩,
 ⟨some 23, none, .lenl (.t 22), none⟩,
 ⟨some 24, none, .mv (.c (.int .i64 0)), none⟩])
 (.keep [0, 4, 5, 22, 23, 24] (.block 0 (.loop [0, 4, 5, 22, 23, 24] (J_expr_parts_j3)))))
 (J_expr_parts_j1)))))))))⟩
theorem J_expr_parts_ok : chkFn Try.prog 42 J_expr_parts = true := by kernel_rfl
def J_expr_Text_1_j1 : ACode :=
 .keep [1, 3, 8] (.seq (.ops [⟨some 60, none, .mv (.t 8), none⟩,
 ⟨some 61, none, .mv (.t 1), none⟩,
 ⟨some 62, none, .bin .lss (.t 60) (.t 61), none⟩])
 (.keep [3, 62] (.cond (.t 62)
 (.ops [⟨some 63, none, .loado (.t 3), none⟩,
 ⟨some 64, none, .bsl 9 1 1 [(.str ⟨#[]⟩)] [(0, 1, (.c (.str ⟨#[41]⟩)))], none⟩,
 ⟨some 65, none, .appo 9 1 16 63 (.t 64), none⟩,
 ⟨none, none, .storeo (.t 3) 65, none⟩])
 (.skip))))
def J_expr_Text_1_j2 : ACode :=
 .keep [0, 1, 2, 3, 4, 5, 8] (.seq (.seq (.ops [⟨some 21, none, .load none (.t 2), none⟩,
 ⟨some 22, none, .mv (.t 0), none⟩,
 ⟨some 23, none, .idxa 3 (.t 21) (.t 22), none⟩,
 ⟨some 24, none, .fld 0 (.t 23), none⟩,
 ⟨some 25, none, .load none (.t 24), none⟩,
 ⟨some 26, none, .bin .eql (.t 25) (.c (.int .i64 1)), none⟩])
 (.keep [0, 1, 2, 3, 4, 5, 8, 26] (.cond (.t 26)
 (.draw [1, 3, 8] [⟨some 27, none, .loado (.t 3), (some (.s 3, [2]))⟩,
 ⟨some 28, none, .load none (.t 2), (some (.s 2, [3]))⟩,
 ⟨some 29, none, .mv (.t 0), none⟩,
 ⟨some 30, none, .idxa 3 (.t 28) (.t 29), none⟩,
 ⟨some 31, none, .lds (some 3) (.t 30), none⟩,
 ⟨some 32, none, .call (.f 45) [(.t 31)], none⟩,
 ⟨some 33, none, .bsl 9 1 1 [(.str ⟨#[]⟩)] [(0, 1, (.t 32))], none⟩,
 ⟨some 34, none, .appo 9 1 16 27 (.t 33), none⟩,
 ⟨none, none, .storeo (.t 3) 34, none⟩])
 (.seq (.draw [0, 1, 2, 3, 4, 5, 8] [⟨some 35, none, .load none (.t 4), none⟩,
 ⟨some 36, none, .load none (.t 5), none⟩,
 ⟨some 37, none, .mv (.t 0), none⟩,
 ⟨some 38, none, .idxa 3 (.t 36) (.t 37), none⟩,
 ⟨some 39, none, .fld 0 (.t 38), none⟩,
 ⟨some 40, none, .load none (.t 39), none⟩,
 ⟨some 41, none, .mv (.t 8), none⟩,
 ⟨some 42, none, .calli (.t 35) [(.t 40), (.t 41)], none⟩])
 (.keep [0, 1, 2, 3, 4, 5, 8] (.seq (.draw [0, 1, 3, 4, 5, 8] [⟨some 43, none, .loado (.t 3), (some (.s 3, [2]))⟩,
 ⟨some 44, none, .load none (.t 2), (some (.s 2, [3]))⟩,
 ⟨some 45, none, .mv (.t 0), none⟩,
 ⟨some 46, none, .idxa 3 (.t 44) (.t 45), none⟩,
 ⟨some 47, none, .lds (some 3) (.t 46), none⟩,
 ⟨some 48, none, .call (.f 45) [(.t 47)], none⟩,
 ⟨some 49, none, .bsl 9 1 1 [(.str ⟨#[]⟩)] [(0, 1, (.t 48))], none⟩,
 ⟨some 50, none, .appo 9 1 16 43 (.t 49), none⟩,
 ⟨none, none, .storeo (.t 3) 50, none⟩])
 (.keep [0, 1, 3, 4, 5, 8] (.draw [1, 3, 8] [⟨some 51, none, .load none (.t 4), none⟩,
 ⟨some 52, none, .load none (.t 5), none⟩,
 ⟨some 53, none, .mv (.t 0), none⟩,
 ⟨some 54, none, .idxa 3 (.t 52) (.t 53), none⟩,
 ⟨some 55, none, .fld 1 (.t 54), none⟩,
 ⟨some 56, none, .load none (.t 55), none⟩,
 ⟨some 57, none, .mv (.t 8), none⟩,
 ⟨some 58, none, .bin .add (.t 57) (.c (.int .i64 1)), none⟩,
 ⟨some 59, none, .calli (.t 51) [(.t 56), (.t 58)], none⟩]))))))))
 (J_expr_Text_1_j1))
def J_expr_Text_1 : AFn :=
 ⟨66, [], .seq (.ops [⟨some 9, none, .load none (.t 2), none⟩,
 ⟨some 10, none, .mv (.t 0), none⟩,
 ⟨some 11, none, .idxa 3 (.t 9) (.t 10), none⟩,
 ⟨some 12, none, .fld 0 (.t 11), none⟩,
 ⟨some 13, none, .load none (.t 12), none⟩,
 ⟨some 14, none, .call (.f 44) [(.t 13)], none⟩,
 ⟨some 8, none, .mv (.t 14), none⟩])
 (.keep [0, 1, 2, 3, 4, 5, 8] (.seq (.seq (.ops [⟨some 15, none, .mv (.t 8), none⟩,
 ⟨some 16, none, .mv (.t 1), none⟩,
 ⟨some 17, none, .bin .lss (.t 15) (.t 16), none⟩])
 (.keep [0, 1, 2, 3, 4, 5, 8, 17] (.cond (.t 17)
 (.ops [⟨some 18, none, .loado (.t 3), none⟩,
 ⟨some 19, none, .bsl 9 1 1 [(.str ⟨#[]⟩)] [(0, 1, (.c (.str ⟨#[40]⟩)))], none⟩,
 ⟨some 20, none, .appo 9 1 16 18 (.t 19), none⟩,
 ⟨none, none, .storeo (.t 3) 20, none⟩])
 (.skip))))
 (J_expr_Text_1_j2)))⟩
theorem J_expr_Text_1_ok : chkFn Try.prog 43 J_expr_Text_1 = true := by kernel_rfl
def J_expr_bind : AFn :=
 ⟨14, [.t 2], .seq (.ops [⟨some 2, none, .mv (.c (.int .i64 0)), none⟩])
 (.keep [0] (.seq (.seq (.ops [⟨some 3, none, .mv (.t 0), none⟩])
 (.keep [3] (.block 0 (.seq (.ops [⟨some 5, none, .bin .eql (.t 3) (.c (.int .i64 2)), none⟩,
 ⟨some 4, none, .mv (.t 5), none⟩])
 (.keep [3, 4] (.cond (.t 4)
 (.seq (.ops [⟨some 2, none, .mv (.c (.int .i64 1)), none⟩])
 (.ret))
 (.seq (.ops [⟨some 7, none, .bin .eql (.t 3) (.c (.int .i64 3)), none⟩,
 ⟨some 6, none, .mv (.t 7), none⟩])
 (.keep [3, 6] (.cond (.t 6)
 (.seq (.ops [⟨some 2, none, .mv (.c (.int .i64 2)), none⟩])
 (.ret))
 (.seq (.ops [⟨some 9, none, .bin .eql (.t 3) (.c (.int .i64 4)), none⟩,
 ⟨some 8, none, .mv (.t 9), none⟩])
 (.keep [3, 8] (.cond (.t 8)
 (.seq (.ops [⟨some 2, none, .mv (.c (.int .i64 3)), none⟩])
 (.ret))
 (.seq (.ops [⟨some 11, none, .bin .eql (.t 3) (.c (.int .i64 5)), none⟩,
 ⟨some 10, none, .mv (.t 11), none⟩])
 (.keep [3, 10] (.cond (.t 10)
 (.seq (.ops [⟨some 2, none, .mv (.c (.int .i64 4)), none⟩])
 (.ret))
 (.seq (.ops [⟨some 13, none, .bin .eql (.t 3) (.c (.int .i64 1)), none⟩,
 ⟨some 12, none, .mv (.t 13), none⟩])
 (.keep [12] (.cond (.t 12)
 (.seq (.ops [⟨some 2, none, .mv (.c (.int .i64 5)), none⟩])
 (.ret))
 (.skip)))))))))))))))))))
 (.keep [] (.seq (.ops [⟨some 2, none, .mv (.c (.int .i64 0)), none⟩])
 (.ret)))))⟩
theorem J_expr_bind_ok : chkFn Try.prog 44 J_expr_bind = true := by kernel_rfl
def J_expr_written : AFn :=
 ⟨11, [.t 2], .seq (.ops [⟨some 1, none, .box (.t 0) [], none⟩,
 ⟨some 2, none, .mv (.c (.str ⟨#[]⟩)), none⟩])
 (.keep [1] (.seq (.ops [⟨some 3, none, .fld 0 (.t 1), none⟩,
 ⟨some 4, none, .load none (.t 3), none⟩,
 ⟨some 5, none, .fld 1 (.t 1), none⟩,
 ⟨some 6, none, .load none (.t 5), none⟩,
 ⟨some 7, none, .fld 2 (.t 1), none⟩,
 ⟨some 8, none, .load none (.t 7), none⟩,
 ⟨some 9, none, .build [(.int .i64 0), (.str ⟨#[]⟩), (.int .i64 0), (.int .i64 0)] [(0, 1, (.t 4)), (2, 1, (.t 6)), (1, 1, (.t 8))], none⟩,
 ⟨some 10, none, .call (.f 14) [(.t 9)], none⟩,
 ⟨some 2, none, .mv (.t 10), none⟩])
 (.ret)))⟩
theorem J_expr_written_ok : chkFn Try.prog 45 J_expr_written = true := by kernel_rfl
def J_expr_reader_part_j1 : ACode :=
 .keep [] (.seq (.ops [⟨some 4, none, .mv (.c (.int .i64 0)), none⟩])
 (.ret))
def J_expr_reader_part : AFn :=
 ⟨64, [.t 4], .seq (.ops [⟨some 3, none, .box (.t 1) [], none⟩,
 ⟨some 4, none, .mv (.c (.int .i64 0)), none⟩])
 (.keep [0, 3] (.seq (.block 0 (.seq (.ops [⟨some 6, none, .fld 0 (.t 3), none⟩,
 ⟨some 7, none, .load none (.t 6), none⟩,
 ⟨some 8, none, .bin .eql (.t 7) (.c (.int .i64 1)), none⟩,
 ⟨some 5, none, .mv (.t 8), none⟩])
 (.keep [0, 3, 5] (.cond (.t 5)
 (.seq (.seq (.ops [⟨some 9, none, .mv (.t 0), none⟩,
 ⟨some 10, none, .call (.f 63) [(.t 9)], none⟩,
 ⟨some 11, none, .bin .eql (.t 10) (.c (.int .i64 5)), none⟩,
 ⟨some 12, none, .mv (.t 11), none⟩,
 ⟨some 13, (some (12, true)), .fld 2 (.t 3), none⟩,
 ⟨some 14, (some (12, true)), .load none (.t 13), none⟩,
 ⟨some 15, (some (12, true)), .bin .neq (.t 14) (.c (.int .i64 5)), none⟩,
 ⟨some 16, none, .pick (.t 12) (.t 15) (.c (.bool false)), none⟩])
 (.keep [0, 3, 16] (.cond (.t 16)
 (.seq (.ops [⟨some 4, none, .mv (.c (.int .i64 2)), none⟩])
 (.ret))
 (.skip))))
 (.keep [0, 3] (.seq (.draw [0] [⟨some 17, none, .mv (.t 0), none⟩,
 ⟨some 18, none, .mv (.t 0), none⟩,
 ⟨some 19, none, .nilck (.t 18), none⟩,
 ⟨some 20, none, .fld 0 (.t 19), none⟩,
 ⟨some 21, none, .loado (.t 20), (some (.s 0, [3]))⟩,
 ⟨some 22, none, .fld 2 (.t 3), none⟩,
 ⟨some 23, none, .load none (.t 22), (some (.s 3, [0]))⟩,
 ⟨some 24, none, .fld 1 (.t 3), none⟩,
 ⟨some 25, none, .load none (.t 24), (some (.s 3, [0]))⟩,
 ⟨some 26, none, .build [(.int .i64 0), (.int .i64 0), (.str ⟨#[]⟩)] [(0, 1, (.c (.int .i64 1))), (1, 1, (.t 23)), (2, 1, (.t 25))], none⟩,
 ⟨some 27, none, .bsl 45 3 1 [(.int .i64 0), (.int .i64 0), (.str ⟨#[]⟩)] [(0, 3, (.t 26))], none⟩,
 ⟨some 28, none, .appo 45 3 32 21 (.t 27), none⟩,
 ⟨some 29, none, .nilck (.t 17), none⟩,
 ⟨some 30, none, .fld 0 (.t 29), none⟩,
 ⟨none, none, .storeo (.t 30) 28, none⟩])
 (.keep [0] (.ops [⟨some 31, none, .mv (.t 0), none⟩,
 ⟨some 32, none, .nilck (.t 31), none⟩,
 ⟨some 33, none, .fld 3 (.t 32), none⟩,
 ⟨none, none, .store 1 (.t 33) (.c (.bool true)), none⟩])))))
 (.seq (.ops [⟨some 35, none, .fld 0 (.t 3), none⟩,
 ⟨some 36, none, .load none (.t 35), none⟩,
 ⟨some 37, none, .bin .eql (.t 36) (.c (.int .i64 6)), none⟩,
 ⟨some 38, none, .mv (.t 37), none⟩,
 ⟨some 39, (some (38, true)), .mv (.t 0), none⟩,
 ⟨some 40, (some (38, true)), .call (.f 63) [(.t 39)], none⟩,
 ⟨some 41, (some (38, true)), .bin .neq (.t 40) (.c (.int .i64 5)), none⟩,
 ⟨some 42, none, .pick (.t 38) (.t 41) (.c (.bool false)), none⟩,
 ⟨some 34, none, .mv (.t 42), none⟩])
 (.keep [0, 34] (.cond (.t 34)
 (.seq (.seq (.ops [⟨some 43, none, .mv (.t 0), none⟩,
 ⟨some 44, none, .nilck (.t 43), none⟩,
 ⟨some 45, none, .fld 2 (.t 44), none⟩,
 ⟨some 46, none, .load none (.t 45), none⟩,
 ⟨some 47, none, .bin .eql (.t 46) (.c (.int .i64 100)), none⟩])
 (.keep [0, 47] (.cond (.t 47)
 (.seq (.ops [⟨some 4, none, .mv (.c (.int .i64 3)), none⟩])
 (.ret))
 (.skip))))
 (.keep [0] (.seq (.ops [⟨some 48, none, .mv (.t 0), none⟩,
 ⟨some 49, none, .mv (.t 0), none⟩,
 ⟨some 50, none, .nilck (.t 49), none⟩,
 ⟨some 51, none, .fld 1 (.t 50), none⟩,
 ⟨some 52, none, .k (.ld (.t 51)), none⟩,
 ⟨some 53, none, .bsl 3 1 1 [(.int .i64 0)] [(0, 1, (.c (.int .i64 6)))], none⟩,
 ⟨some 54, none, .k (.ap 3 8 52 (.t 53)), none⟩,
 ⟨some 55, none, .nilck (.t 48), none⟩,
 ⟨some 56, none, .fld 1 (.t 55), none⟩,
 ⟨none, none, .k (.st (.t 56) 54), none⟩])
 (.keep [0] (.ops [⟨some 57, none, .mv (.t 0), none⟩,
 ⟨some 58, none, .nilck (.t 57), none⟩,
 ⟨some 59, none, .fld 2 (.t 58), none⟩,
 ⟨some 60, none, .load none (.t 59), none⟩,
 ⟨some 61, none, .bin .add (.t 60) (.c (.int .i64 1)), none⟩,
 ⟨some 62, none, .nilck (.t 57), none⟩,
 ⟨some 63, none, .fld 2 (.t 62), none⟩,
 ⟨none, none, .store 1 (.t 63) (.t 61), none⟩])))))
 (.seq (.ops [⟨some 4, none, .mv (.c (.int .i64 2)), none⟩])
 (.ret)))))))))
 (J_expr_reader_part_j1)))⟩
theorem J_expr_reader_part_ok : chkFn Try.prog 62 J_expr_reader_part = true := by kernel_rfl
def J_expr_reader_top : AFn :=
 ⟨21, [.t 2], .seq (.ops [⟨some 2, none, .mv (.c (.int .i64 0)), none⟩])
 (.keep [0] (.seq (.seq (.nmo 0 1 (.ops [⟨some 3, none, .mv (.t 0), none⟩,
 ⟨some 4, none, .nilck (.t 3), none⟩,
 ⟨some 5, none, .fld 1 (.t 4), none⟩,
 ⟨some 6, none, .load none (.t 5), none⟩,
 ⟨some 7, none, .k (.len (.t 6)), none⟩,
 ⟨some 8, none, .bin .eql (.t 7) (.c (.int .i64 0)), none⟩]))
 (.keep [0, 8] (.cond (.t 8)
 (.seq (.ops [⟨some 2, none, .mv (.c (.int .i64 0)), none⟩])
 (.ret))
 (.skip))))
 (.keep [0] (.seq (.nmo 0 1 (.draw [2] [⟨some 9, none, .mv (.t 0), none⟩,
 ⟨some 10, none, .nilck (.t 9), none⟩,
 ⟨some 11, none, .fld 1 (.t 10), none⟩,
 ⟨some 12, none, .load none (.t 11), none⟩,
 ⟨some 13, none, .mv (.t 0), none⟩,
 ⟨some 14, none, .nilck (.t 13), none⟩,
 ⟨some 15, none, .fld 1 (.t 14), none⟩,
 ⟨some 16, none, .load none (.t 15), none⟩,
 ⟨some 17, none, .k (.len (.t 16)), none⟩,
 ⟨some 18, none, .bin .sub (.t 17) (.c (.int .i64 1)), none⟩,
 ⟨some 19, none, .k (.ix (.t 12) (.t 18)), none⟩,
 ⟨some 20, none, .k (.po (.t 11) (.t 19)), none⟩,
 ⟨some 2, none, .mv (.t 20), none⟩]))
 (.ret)))))⟩
theorem J_expr_reader_top_ok : chkFn Try.prog 63 J_expr_reader_top = true := by kernel_rfl
end Go.Proofs.Ytmbijfcjfhdnjaa

/- The abstract layer: laws of the walk for rows that grow and shrink, and for calls that only look. -/
namespace Go.Proofs.Ytmbijfcjfhdnjaa
set_option linter.unusedSimpArgs false
set_option linter.unusedVariables false
open Go.RowKit Go.Lib

theorem wop_k (P : Program) (d : Option Nat) (o : KOp) (fr : Fr) (h : Hp) (K : Fr → Hp → Prop) : wop P d (.k o) fr h K = (kF o fr h (fun a h' => K (put d a (ktk o fr)) h')) := id rfl
theorem eff_k (P : Program) (o : KOp) (fr : Fr) (h : Hp) (R : AV → Hp → Prop) : eff P (.k o) fr h R = (kF o fr h R) := id rfl
theorem tk_k (o : KOp) (fr : Fr) : tk (.k o) fr = (ktk o fr) := id rfl
theorem effF_kld (P : Program) (b : FB) (x : Opd) (fr : Fr) (h : Hp) (R : AV → Hp → Prop) : effF P b (.k (.ld x)) fr h R = (sameId (ev fr x) (fbId b fr h) ∧ kF (.ld x) fr h R) := id rfl
theorem wop_callr (P : Program) (d : Option Nat) (f : Opd) (args : List Opd) (fr : Fr) (h : Hp) (K : Fr → Hp → Prop) : wop P d (.callr f args) fr h K = (match ev fr f, evs fr args with
    | some (.fn f' caps), some l => ACalls P f' (l ++ caps) h (kcall d fr K)
    | _, _ => False) := id rfl
theorem eff_callr (P : Program) (f : Opd) (args : List Opd) (fr : Fr) (h : Hp) (R : AV → Hp → Prop) : eff P (.callr f args) fr h R = (match ev fr f, evs fr args with
    | some (.fn f' caps), some l => ∃ v, (∀ h0 : Hp, SameU h0 h → ACalls P f' (l ++ caps) h0 (fun a h' => a = v ∧ h' = h0)) ∧ R v h
    | _, _ => False) := id rfl
theorem tk_callr (f : Opd) (args : List Opd) (fr : Fr) : tk (.callr f args) fr = (fr) := id rfl
theorem kF_mk (e : Nat) (x : Opd) (fr : Fr) (h : Hp) (R : AV → Hp → Prop) : kF (.mk e x) fr h R = (match ev fr x with
    | some (.lst .clip 0 []) => R (.stk e none []) h
    | _ => False) := id rfl
theorem kF_mv (k : Nat) (fr : Fr) (h : Hp) (R : AV → Hp → Prop) : kF (.mv k) fr h R = (match lk fr k with
    | some (.stk e o l) => R (.stk e o l) h
    | _ => False) := id rfl
theorem kF_ld (x : Opd) (fr : Fr) (h : Hp) (R : AV → Hp → Prop) : kF (.ld x) fr h R = (match ev fr x with
    | some (.ptr id off) => (match h[id]? with
      | some (some (false, c)) => (match c[off]? with
        | some (.stk e o l) => R (.stk e o l) (h.set id (some (false, c.set off .opq)))
        | _ => False)
      | _ => False)
    | _ => False) := id rfl
theorem kF_st (a : Opd) (k : Nat) (fr : Fr) (h : Hp) (R : AV → Hp → Prop) : kF (.st a k) fr h R = (match ev fr a, lk fr k with
    | some (.ptr id off), some (.stk e o l) => (match h[id]? with
      | some (some (false, c)) => off < c.length ∧ R .nilp (h.set id (some (false, c.set off (.stk e o l))))
      | _ => False)
    | _, _ => False) := id rfl
theorem kF_ap (e b k : Nat) (y : Opd) (fr : Fr) (h : Hp) (R : AV → Hp → Prop) : kF (.ap e b k y) fr h R = (match lk fr k, ev fr y with
    | some (.stk e' _ l), some (.lst _ 1 [.int .i64 x]) => (e' = e ∧ l.length + 1 ≤ 9223372036854775807 ∧ (l.length + 1) * b ≤ 140737488355328) ∧ R (.stk e none (l ++ [x])) h
    | _, _ => False) := id rfl
theorem kF_cut (k : Nat) (j : Opd) (fr : Fr) (h : Hp) (R : AV → Hp → Prop) : kF (.cut k j) fr h R = (match lk fr k, ev fr j with
    | some (.stk e _ l), some (.int _ m) => (0 ≤ m ∧ m ≤ l.length) ∧ R (.stk e none (l.take m.toNat)) h
    | _, _ => False) := id rfl
theorem kF_pop (a x : Opd) (fr : Fr) (h : Hp) (R : AV → Hp → Prop) : kF (.pop a x) fr h R = (match ev fr a, ev fr x with
    | some (.ptr id off), some (.raw v n) => (match h[id]? with
      | some (some (false, c)) => (match c[off]? with
        | some (.stk e (some u) l) => (n ≤ l.length ∧ v = cutV u n) ∧ R .nilp (h.set id (some (false, c.set off (.stk e (some v) (l.take n)))))
        | _ => False)
      | _ => False)
    | _, _ => False) := id rfl
theorem kF_pk (k : Nat) (x : Opd) (fr : Fr) (h : Hp) (R : AV → Hp → Prop) : kF (.pk k x) fr h R = (match lk fr k, ev fr x with
    | some (.stk _ (some u) l), some (.rawp v i) => (v = u ∧ i < l.length) ∧ R (.int .i64 (l.getD i 0)) h
    | _, _ => False) := id rfl
theorem kF_po (a x : Opd) (fr : Fr) (h : Hp) (R : AV → Hp → Prop) : kF (.po a x) fr h R = (match ev fr a, ev fr x with
    | some (.ptr id off), some (.rawp v i) => (match h[id]? with
      | some (some (false, c)) => (match c[off]? with
        | some (.stk _ (some u) l) => (v = u ∧ i < l.length) ∧ R (.int .i64 (l.getD i 0)) h
        | _ => False)
      | _ => False)
    | _, _ => False) := id rfl
theorem kF_len (x : Opd) (fr : Fr) (h : Hp) (R : AV → Hp → Prop) : kF (.len x) fr h R = (match ev fr x with
    | some (.raw _ n) => R (.int .i64 n) h
    | _ => False) := id rfl
theorem kF_sl (x j : Opd) (fr : Fr) (h : Hp) (R : AV → Hp → Prop) : kF (.sl x j) fr h R = (match ev fr x, ev fr j with
    | some (.raw v n), some (.int _ m) => (0 ≤ m ∧ m ≤ n) ∧ R (.raw (cutV v m.toNat) m.toNat) h
    | _, _ => False) := id rfl
theorem kF_ix (x i : Opd) (fr : Fr) (h : Hp) (R : AV → Hp → Prop) : kF (.ix x i) fr h R = (match ev fr x, ev fr i with
    | some (.raw v n), some (.int _ i) => (0 ≤ i ∧ i < n) ∧ R (.rawp v i.toNat) h
    | _, _ => False) := id rfl
theorem kF_new (l : List AV) (u : List (Nat × Nat × Nat)) (ks : List (Nat × Nat)) (fr : Fr) (h : Hp) (R : AV → Hp → Prop) : kF (.new l u ks) fr h R = (upgK u l (fun l' => ksetK ks l' (fun l'' => R (.ptr h.length 0) (h ++ [some (false, l'')])))) := id rfl
theorem ksetK_nil (l : List AV) (K : List AV → Prop) : ksetK [] l K = (K l) := id rfl
theorem ksetK_cons (i e : Nat) (r : List (Nat × Nat)) (l : List AV) (K : List AV → Prop) : ksetK ((i, e) :: r) l K = (match l[i]? with
    | some (.lst .clip 0 []) => ksetK r (l.set i (.stk e none [])) K
    | _ => False) := id rfl
theorem ktk_mk (e : Nat) (x : Opd) (fr : Fr) : ktk (.mk e x) fr = (fr) := id rfl
theorem ktk_mv (k : Nat) (fr : Fr) : ktk (.mv k) fr = (degr k fr) := id rfl
theorem ktk_ld (x : Opd) (fr : Fr) : ktk (.ld x) fr = (fr) := id rfl
theorem ktk_st (a : Opd) (k : Nat) (fr : Fr) : ktk (.st a k) fr = (degr k fr) := id rfl
theorem ktk_ap (e b k : Nat) (y : Opd) (fr : Fr) : ktk (.ap e b k y) fr = (degr k fr) := id rfl
theorem ktk_cut (k : Nat) (j : Opd) (fr : Fr) : ktk (.cut k j) fr = (degr k fr) := id rfl
theorem ktk_pop (a x : Opd) (fr : Fr) : ktk (.pop a x) fr = (fr) := id rfl
theorem ktk_pk (k : Nat) (x : Opd) (fr : Fr) : ktk (.pk k x) fr = (fr) := id rfl
theorem ktk_po (a x : Opd) (fr : Fr) : ktk (.po a x) fr = (fr) := id rfl
theorem ktk_len (x : Opd) (fr : Fr) : ktk (.len x) fr = (fr) := id rfl
theorem ktk_sl (x j : Opd) (fr : Fr) : ktk (.sl x j) fr = (fr) := id rfl
theorem ktk_ix (x i : Opd) (fr : Fr) : ktk (.ix x i) fr = (fr) := id rfl
theorem ktk_new (l : List AV) (u : List (Nat × Nat × Nat)) (ks : List (Nat × Nat)) (fr : Fr) : ktk (.new l u ks) fr = (fr) := id rfl
theorem W_nms (P : Program) (k : Nat) (a : ACode) (fr : Fr) (h : Hp) (Q : Exit → Fr → Hp → Prop) : W P (.nms k a) fr h Q = (match lk fr k with
    | some (.stk e none l) => ∀ v, W P a ((k, .stk e (some v) l) :: fr) h Q
    | _ => W P a fr h Q) := id rfl
theorem W_nmo (P : Program) (k off : Nat) (a : ACode) (fr : Fr) (h : Hp) (Q : Exit → Fr → Hp → Prop) : W P (.nmo k off a) fr h Q = (match lk fr k with
    | some (.ptr id _) => (match h[id]? with
      | some (some (false, c)) => (match c[off]? with
        | some (.stk e none l) => ∀ v, W P a fr (h.set id (some (false, c.set off (.stk e (some v) l)))) Q
        | _ => W P a fr h Q)
      | _ => W P a fr h Q)
    | _ => W P a fr h Q) := id rfl
theorem deg_stks (e : TypeId) (v : Value) (l : List Int) : deg (.stk e (some v) l) = (.raw v l.length) := id rfl
theorem deg_stkn (e : TypeId) (l : List Int) : deg (.stk e none l) = (.opq) := id rfl
theorem deg_raw (v : Value) (n : Nat) : deg (.raw v n) = (.raw v n) := id rfl
theorem isTup_raw (v : Value) (n : Nat) : isTup (.raw v n) = (false) := id rfl
theorem cellsOf_raw (v : Value) (n : Nat) : cellsOf (.raw v n) = ([.raw v n]) := id rfl
theorem deg_rawp (v : Value) (n : Nat) : deg (.rawp v n) = (.rawp v n) := id rfl
theorem isTup_rawp (v : Value) (n : Nat) : isTup (.rawp v n) = (false) := id rfl
theorem cellsOf_rawp (v : Value) (n : Nat) : cellsOf (.rawp v n) = ([.rawp v n]) := id rfl
/-- a row's name is forgotten -/
theorem Sim.unname {P : Program} {g : Gh} {h : Hp} {w : World} {id off : Nat} {c : List AV} {e : TypeId} {u : Value} {l : List Int} (hl : h[id]? = some (some (false, c))) (hc : c[off]? = some (.stk e none l)) (hs : Sim P g (h.set id (some (false, c.set off (.stk e (some u) l)))) w) : Sim P g h w := by
  have hidlt : id < h.length := (List.getElem?_eq_some_iff.1 hl).1
  have hofflt : off < c.length := (List.getElem?_eq_some_iff.1 hc).1
  have hat : (h.set id (some (false, c.set off (.stk e (some u) l))))[id]? = some (some (false, c.set off (.stk e (some u) l))) := by simp [hidlt]
  refine ⟨hs.prot, ?_, hs.inj, fun i b hb => by have := hs.dom i b hb; rw [List.length_set] at this; exact this, hs.flt, hs.olt, fun i hi => hs.hole i ?_⟩
  · intro id' s l' hl'
    by_cases e1 : id' = id
    · subst e1
      rw [hl] at hl'
      simp only [Option.some.injEq, Prod.mk.injEq] at hl'
      obtain ⟨rfl, rfl⟩ := hl'
      obtain ⟨b, arr, e', p1, p2, p3, p4, p5, p6, p7, p8, p9⟩ := hs.obj id' false _ hat
      have hx : (c.set off (.stk e (some u) l))[off]? = some (.stk e (some u) l) := by simp [hofflt]
      obtain ⟨v, hv, hr⟩ := p3.get off _ hx
      obtain ⟨a, cc, rfl, q1, q2, q3⟩ := stk_slice hr
      have hcc : (c.set off (.stk e (some u) l)).set off (.stk e none l) = c := by
        rw [List.set_set]
        apply List.ext_getElem?
        intro j
        rw [List.getElem?_set]
        split
        · next ej => subst ej; first | rw [hc] | rw [if_pos hofflt, hc]
        · rfl
      have hrl := p3.setR off hv (.stk a cc e none l q1 q2 (fun v h => by cases h))
      rw [hcc] at hrl
      refine ⟨b, arr, e', p1, p2, hrl, p4, fun i x y hx2 hy => ?_, p6, (fun h => by cases h), p8, p9⟩
      by_cases ei : i = off
      · subst ei
        rw [hc] at hy
        simp only [Option.some.injEq] at hy
        subst hy
        have hq := p5 i x _ hx2 hx
        exact hq
      · exact p5 i x y hx2 (by rw [List.getElem?_set_ne (fun e => ei e.symm)]; exact hy)
    · exact hs.obj id' s l' (by rw [List.getElem?_set_ne (fun e => e1 e.symm)]; exact hl')
  · rw [List.getElem?_set_ne (fun e => by subst e; rw [hl] at hi; cases hi)]
    exact hi
theorem ACalls.unname {P : Program} {f : FuncId} {args : List AV} {h : Hp} {R : AV → Prop} {id off : Nat} {c : List AV} {e : TypeId} {l : List Int} (hl : h[id]? = some (some (false, c))) (hc : c[off]? = some (.stk e none l))
    (hA : ACalls P f args h (fun a h' => (∃ u, h' = h.set id (some (false, c.set off (.stk e (some u) l)))) ∧ R a)) : ACalls P f args h (fun a h' => R a ∧ h' = h) :=
  ⟨hA.1, fun g w vargs h1 h2 h3 h4 => (hA.2 g w vargs h1 h2 h3 h4).mono fun _ _ ⟨x, a, h', g', q1, q2, q3, q4, q5, q6, ⟨u, q7⟩, q8⟩ => ⟨x, a, h, g', q1, q2, Sim.unname hl hc (by rw [← q7]; exact q3), q4, q5, q6, q8, rfl⟩⟩
theorem wkr : type_of% (And.intro (And.intro (And.intro (And.intro (And.intro (@wop_k) (@eff_k)) (And.intro (@tk_k) (And.intro (@effF_kld) (@wop_callr)))) (And.intro (And.intro (@eff_callr) (And.intro (@tk_callr) (@kF_mk))) (And.intro (@kF_mv) (And.intro (@kF_ld) (@kF_st))))) (And.intro (And.intro (And.intro (@kF_ap) (@kF_cut)) (And.intro (@kF_pop) (And.intro (@kF_pk) (@kF_po)))) (And.intro (And.intro (@kF_len) (And.intro (@kF_sl) (@kF_ix))) (And.intro (@kF_new) (And.intro (@ksetK_nil) (@ksetK_cons)))))) (And.intro (And.intro (And.intro (And.intro (@ktk_mk) (@ktk_mv)) (And.intro (@ktk_ld) (And.intro (@ktk_st) (@ktk_ap)))) (And.intro (And.intro (@ktk_cut) (And.intro (@ktk_pop) (@ktk_pk))) (And.intro (@ktk_po) (And.intro (@ktk_len) (@ktk_sl))))) (And.intro (And.intro (And.intro (@ktk_ix) (And.intro (@ktk_new) (@W_nms))) (And.intro (@W_nmo) (And.intro (@deg_stks) (@deg_stkn)))) (And.intro (And.intro (@deg_raw) (And.intro (@isTup_raw) (@cellsOf_raw))) (And.intro (@deg_rawp) (And.intro (@isTup_rawp) (@cellsOf_rawp))))))) :=
  And.intro (And.intro (And.intro (And.intro (And.intro (@wop_k) (@eff_k)) (And.intro (@tk_k) (And.intro (@effF_kld) (@wop_callr)))) (And.intro (And.intro (@eff_callr) (And.intro (@tk_callr) (@kF_mk))) (And.intro (@kF_mv) (And.intro (@kF_ld) (@kF_st))))) (And.intro (And.intro (And.intro (@kF_ap) (@kF_cut)) (And.intro (@kF_pop) (And.intro (@kF_pk) (@kF_po)))) (And.intro (And.intro (@kF_len) (And.intro (@kF_sl) (@kF_ix))) (And.intro (@kF_new) (And.intro (@ksetK_nil) (@ksetK_cons)))))) (And.intro (And.intro (And.intro (And.intro (@ktk_mk) (@ktk_mv)) (And.intro (@ktk_ld) (And.intro (@ktk_st) (@ktk_ap)))) (And.intro (And.intro (@ktk_cut) (And.intro (@ktk_pop) (@ktk_pk))) (And.intro (@ktk_po) (And.intro (@ktk_len) (@ktk_sl))))) (And.intro (And.intro (And.intro (@ktk_ix) (And.intro (@ktk_new) (@W_nms))) (And.intro (@W_nmo) (And.intro (@deg_stks) (@deg_stkn)))) (And.intro (And.intro (@deg_raw) (And.intro (@isTup_raw) (@cellsOf_raw))) (And.intro (@deg_rawp) (And.intro (@isTup_rawp) (@cellsOf_rawp))))))
end Go.Proofs.Ytmbijfcjfhdnjaa

/- Names; the library's searches; the program's number, Word, name, sign. -/
namespace Go.Proofs.Ytmbijfcjfhdnjaa
set_option linter.unusedSimpArgs false
set_option linter.unusedVariables false
open Go.RowKit Go.Lib

def mayL (l : List UInt8) : Bool := decide (1 ≤ l.length) && (decide (l.length ≤ 24) && (lttI ((l.headD 0).toNat) && l.all fun b => innI b.toNat))
def mayN (s : ByteArray) : Bool := mayL s.data.toList
theorem mayL_bad {l : List UInt8} {i : Nat} (h : i < l.length) (hb : innI (l[i]).toNat = false) : mayL l = false := by
  have : l.all (fun b => innI b.toNat) = false := by
    rw [List.all_eq_false]; exact ⟨_, List.getElem_mem h, fun h2 => by rw [hb] at h2; cases h2⟩
  unfold mayL
  rw [this]; simp
theorem headD_get {l : List UInt8} (h : 0 < l.length) : l.headD 0 = l[0] := by
  cases l with
  | nil => simp at h
  | cons b r => rfl
set_option maxHeartbeats 4000000 in
theorem p_amay (s : ByteArray) (hs : s.size ≤ 9223372036854775807) : PCalls Try.prog 59 [.str s] (.bool (mayN s)) := by
  have hl := len_size s
  have no : mayN s = false → AV.bool false = .bool (mayN s) := fun h => by rw [h]
  refine pcalls_of (by first | rfl | simp [free, free.frees, frees_str, frees_u8, frees_u16]) (by first | rfl | simp [free, free.frees, frees_str, frees_u8, frees_u16]) (acalls_of mixed J_atom_May_ok (Nat.le_of_ble_eq_true rfl) ?_); simp only [J_atom_May, wk,if_true,if_false,forall_const,implies_true,ne_eq,eq_self,Nat.reduceEqDiff,Nat.reduceAdd,Nat.reduceMul,Nat.reduceSub,Nat.reduceLeDiff,Nat.reduceLT,Int.reduceEq,Int.reduceLT,Int.reduceLE,Int.reduceAdd,Int.reduceSub,Int.reduceMul,Int.reduceNeg,Int.reduceNe,reduceCtorEq,Int.reduceToNat,↓reduceIte]
  refine ⟨fun h1 => ⟨fun h2 => no ?_, fun h2 => ?_⟩, fun h1 => no ?_⟩
  · have : ¬ s.data.toList.length ≤ 24 := by omega
    unfold mayN mayL; rw [decide_eq_false this]; simp only [Bool.false_and, Bool.and_false]
  rotate_left
  · have : ¬ 1 ≤ s.data.toList.length := by omega
    unfold mayN mayL; rw [decide_eq_false this]; simp only [Bool.false_and]
  refine W_loop (fun m fr h' => ∃ n : Nat, n ≤ s.data.toList.length ∧ m = s.data.toList.length - n ∧ fr = [(0, .str s), (3, .int .i64 n)] ∧ (∀ b ∈ s.data.toList.take n, innI b.toNat = true) ∧ (0 < n → lttI ((s.data.toList.headD 0).toNat) = true)) s.data.toList.length ⟨0, by omega, by omega, rfl, by simp, by simp⟩ ?_
  rintro m fr h' ⟨n, hn, rfl, rfl, hall, hhd⟩
  simp only [J_atom_May_j3, wk,if_true,if_false,forall_const,implies_true,ne_eq,eq_self,Nat.reduceEqDiff,Nat.reduceAdd,Nat.reduceMul,Nat.reduceSub,Nat.reduceLeDiff,Nat.reduceLT,Int.reduceEq,Int.reduceLT,Int.reduceLE,Int.reduceAdd,Int.reduceSub,Int.reduceMul,Int.reduceNeg,Int.reduceNe,reduceCtorEq,Int.reduceToNat,↓reduceIte]
  refine ⟨fun hlt => ⟨⟨by omega, by omega⟩, ?_⟩, fun hge => ?_⟩
  · have hnl : n < s.data.toList.length := by omega
    rw [Int.toNat_natCast, byte_at hnl]
    obtain ⟨b, hb⟩ : ∃ b, b = s.data.toList[n] := ⟨_, rfl⟩
    rw [← hb]
    have hnx : innI b.toNat = true → (n = 0 → lttI b.toNat = true) → inR ((n : Int) + 1) ∧ ∃ m, m < s.data.toList.length - n ∧ ∃ n' : Nat, n' ≤ s.data.toList.length ∧ m = s.data.toList.length - n' ∧ [(0, AV.str s), (3, .int .i64 ((n : Int) + 1))] = [(0, .str s), (3, .int .i64 n')] ∧ (∀ b ∈ s.data.toList.take n', innI b.toNat = true) ∧ (0 < n' → lttI ((s.data.toList.headD 0).toNat) = true) := fun hi hz =>
      ⟨inR_of (by omega) (by omega), s.data.toList.length - (n + 1), by omega, n + 1, by omega, rfl, by simp, fun c hc => by
        rw [List.take_succ_eq_append_getElem hnl] at hc
        rcases List.mem_append.1 hc with hc | hc
        · exact hall c hc
        · simp at hc; subst hc; rw [hb] at hi; simpa using hi, fun _ => by
        rcases Nat.eq_zero_or_pos n with h0 | h0
        · subst h0; rw [headD_get (by omega), ← hb]; exact hz rfl
        · exact hhd h0⟩
    have hbad : innI b.toNat = false → mayN s = false := fun h => mayL_bad hnl (by rw [← hb]; exact h)
    have hbad0 : n = 0 → lttI b.toNat = false → mayN s = false := fun h0 h => by
      subst h0
      unfold mayN mayL
      rw [headD_get (by omega), ← hb, h]
      simp only [Bool.false_and, Bool.and_false]
    repeat' (first | (with_reducible refine And.intro ?_ ?_) | intro _)
    all_goals first
      | (simp only [J_atom_May_j2, wk,if_true,if_false,forall_const,implies_true,ne_eq,eq_self,Nat.reduceEqDiff,Nat.reduceAdd,Nat.reduceMul,Nat.reduceSub,Nat.reduceLeDiff,Nat.reduceLT,Int.reduceEq,Int.reduceLT,Int.reduceLE,Int.reduceAdd,Int.reduceSub,Int.reduceMul,Int.reduceNeg,Int.reduceNe,reduceCtorEq,Int.reduceToNat,↓reduceIte]; exact hnx (by simp [innI, digI, lttI]; omega) (by intro _; simp [lttI]; omega))
      | exact no (hbad (by simp [innI, digI, lttI]; omega))
      | exact no (hbad0 (by omega) (by simp [lttI]; omega))
  · rw [List.take_of_length_le (by omega)] at hall
    simp only [J_atom_May_j1, wk,if_true,if_false,forall_const,implies_true,ne_eq,eq_self,Nat.reduceEqDiff,Nat.reduceAdd,Nat.reduceMul,Nat.reduceSub,Nat.reduceLeDiff,Nat.reduceLT,Int.reduceEq,Int.reduceLT,Int.reduceLE,Int.reduceAdd,Int.reduceSub,Int.reduceMul,Int.reduceNeg,Int.reduceNe,reduceCtorEq,Int.reduceToNat,↓reduceIte]
    congr 1
    symm
    unfold mayN mayL
    have h3 := hhd (by omega)
    have h4 : s.data.toList.all (fun b => innI b.toNat) = true := List.all_eq_true.2 hall
    simp only [h3, h4, Bool.and_true, Bool.and_eq_true, decide_eq_true_eq]
    omega
def signsS : ByteArray := ⟨#[61, 44, 59, 60, 62, 33, 63, 42]⟩
theorem find_sign : ∀ n : Fin 256, decide (0 ≤ indexByte signsS.data.toList (UInt8.ofNat n)) = sigB n := by decide +kernel
theorem p_ibyte (s : ByteArray) (c : Int) : PCalls Try.prog 86 [.str s, .int .u8 c] (.int .i64 (indexByte s.data.toList c.toNat.toUInt8)) := by
  refine pcalls_of (by first | rfl | simp [free, free.frees, frees_str, frees_u8, frees_u16]) (by first | rfl | simp [free, free.frees, frees_str, frees_u8, frees_u16]) (acalls_of mixed J_internal_stringslite_IndexByte_ok (Nat.le_of_ble_eq_true rfl) ?_); simp only [J_internal_stringslite_IndexByte, wk,if_true,if_false,forall_const,implies_true,ne_eq,eq_self,Nat.reduceEqDiff,Nat.reduceAdd,Nat.reduceMul,Nat.reduceSub,Nat.reduceLeDiff,Nat.reduceLT,Int.reduceEq,Int.reduceLT,Int.reduceLE,Int.reduceAdd,Int.reduceSub,Int.reduceMul,Int.reduceNeg,Int.reduceNe,reduceCtorEq,Int.reduceToNat,↓reduceIte]
theorem p_sibyte (s : ByteArray) (c : Int) : PCalls Try.prog 82 [.str s, .int .u8 c] (.int .i64 (indexByte s.data.toList c.toNat.toUInt8)) := by
  refine pcalls_of (by first | rfl | simp [free, free.frees, frees_str, frees_u8, frees_u16]) (by first | rfl | simp [free, free.frees, frees_str, frees_u8, frees_u16]) (acalls_of mixed J_strings_IndexByte_ok (Nat.le_of_ble_eq_true rfl) ?_); simp only [J_strings_IndexByte, wk,if_true,if_false,forall_const,implies_true,ne_eq,eq_self,Nat.reduceEqDiff,Nat.reduceAdd,Nat.reduceMul,Nat.reduceSub,Nat.reduceLeDiff,Nat.reduceLT,Int.reduceEq,Int.reduceLT,Int.reduceLE,Int.reduceAdd,Int.reduceSub,Int.reduceMul,Int.reduceNeg,Int.reduceNe,reduceCtorEq,Int.reduceToNat,↓reduceIte]
  refine PCalls.use (p_ibyte s c) ?_; simp only [wk,if_true,if_false,forall_const,implies_true,ne_eq,eq_self,Nat.reduceEqDiff,Nat.reduceAdd,Nat.reduceMul,Nat.reduceSub,Nat.reduceLeDiff,Nat.reduceLT,Int.reduceEq,Int.reduceLT,Int.reduceLE,Int.reduceAdd,Int.reduceSub,Int.reduceMul,Int.reduceNeg,Int.reduceNe,reduceCtorEq,Int.reduceToNat,↓reduceIte]
theorem p_lindex (s x : ByteArray) (hx : x.size = 1) : PCalls Try.prog 78 [.str s, .str x] (.int .i64 (indexByte s.data.toList (byteAt x 0).toUInt8)) := by
  obtain ⟨b, rfl⟩ := one_byte hx
  have e0 : byteAt ⟨#[b]⟩ 0 = b.toNat := rfl
  refine pcalls_of (by first | rfl | simp [free, free.frees, frees_str, frees_u8, frees_u16]) (by first | rfl | simp [free, free.frees, frees_str, frees_u8, frees_u16]) (acalls_of mixed J_internal_stringslite_Index_ok (Nat.le_of_ble_eq_true rfl) ?_); simp only [J_internal_stringslite_Index, wk,if_true,if_false,forall_const,implies_true,ne_eq,eq_self,Nat.reduceEqDiff,Nat.reduceAdd,Nat.reduceMul,Nat.reduceSub,Nat.reduceLeDiff,Nat.reduceLT,Int.reduceEq,Int.reduceLT,Int.reduceLE,Int.reduceAdd,Int.reduceSub,Int.reduceMul,Int.reduceNeg,Int.reduceNe,reduceCtorEq,Int.reduceToNat,↓reduceIte]
  rw [e0]
  have e1 : ((⟨#[b]⟩ : ByteArray).size : Int) = 1 := rfl
  have q := p_ibyte s b.toNat
  rw [Int.toNat_natCast] at q
  refine ⟨fun _ => ⟨fun h => ?_, fun h => ⟨fun _ => ⟨by omega, PCalls.use q ?_⟩, fun h => absurd e1 h⟩⟩, fun h => by omega⟩
  · rw [← h]
    have : b.toNat.toUInt8 = b := by simp
    simp [indexByte, this]
  · simp only [wk,if_true,if_false,forall_const,implies_true,ne_eq,eq_self,Nat.reduceEqDiff,Nat.reduceAdd,Nat.reduceMul,Nat.reduceSub,Nat.reduceLeDiff,Nat.reduceLT,Int.reduceEq,Int.reduceLT,Int.reduceLE,Int.reduceAdd,Int.reduceSub,Int.reduceMul,Int.reduceNeg,Int.reduceNe,reduceCtorEq,Int.reduceToNat,↓reduceIte]
theorem p_sindex (s x : ByteArray) (hx : x.size = 1) : PCalls Try.prog 61 [.str s, .str x] (.int .i64 (indexByte s.data.toList (byteAt x 0).toUInt8)) := by
  refine pcalls_of (by first | rfl | simp [free, free.frees, frees_str, frees_u8, frees_u16]) (by first | rfl | simp [free, free.frees, frees_str, frees_u8, frees_u16]) (acalls_of mixed J_strings_Index_ok (Nat.le_of_ble_eq_true rfl) ?_); simp only [J_strings_Index, wk,if_true,if_false,forall_const,implies_true,ne_eq,eq_self,Nat.reduceEqDiff,Nat.reduceAdd,Nat.reduceMul,Nat.reduceSub,Nat.reduceLeDiff,Nat.reduceLT,Int.reduceEq,Int.reduceLT,Int.reduceLE,Int.reduceAdd,Int.reduceSub,Int.reduceMul,Int.reduceNeg,Int.reduceNe,reduceCtorEq,Int.reduceToNat,↓reduceIte]
  refine PCalls.use (p_lindex s x hx) ?_; simp only [wk,if_true,if_false,forall_const,implies_true,ne_eq,eq_self,Nat.reduceEqDiff,Nat.reduceAdd,Nat.reduceMul,Nat.reduceSub,Nat.reduceLeDiff,Nat.reduceLT,Int.reduceEq,Int.reduceLT,Int.reduceLE,Int.reduceAdd,Int.reduceSub,Int.reduceMul,Int.reduceNeg,Int.reduceNe,reduceCtorEq,Int.reduceToNat,↓reduceIte]
theorem sign_find (n : Nat) (h : n < 256) : decide (0 ≤ indexByte signsS.data.toList n.toUInt8) = sigB n := by
  have := find_sign ⟨n, h⟩
  simpa using this
theorem p_contains1 (x : ByteArray) (hx : x.size = 1) : PCalls Try.prog 37 [.str signsS, .str x] (.bool (sigB (byteAt x 0))) := by
  obtain ⟨b, rfl⟩ := one_byte hx
  have e0 : byteAt ⟨#[b]⟩ 0 = b.toNat := rfl
  have hf := sign_find b.toNat b.toNat_lt
  refine pcalls_of (by first | rfl | simp [free, free.frees, frees_str, frees_u8, frees_u16]) (by first | rfl | simp [free, free.frees, frees_str, frees_u8, frees_u16]) (acalls_of mixed J_strings_Contains_ok (Nat.le_of_ble_eq_true rfl) ?_); simp only [J_strings_Contains, wk,if_true,if_false,forall_const,implies_true,ne_eq,eq_self,Nat.reduceEqDiff,Nat.reduceAdd,Nat.reduceMul,Nat.reduceSub,Nat.reduceLeDiff,Nat.reduceLT,Int.reduceEq,Int.reduceLT,Int.reduceLE,Int.reduceAdd,Int.reduceSub,Int.reduceMul,Int.reduceNeg,Int.reduceNe,reduceCtorEq,Int.reduceToNat,↓reduceIte]
  refine PCalls.use (p_sindex signsS ⟨#[b]⟩ hx) ?_; simp only [wk,if_true,if_false,forall_const,implies_true,ne_eq,eq_self,Nat.reduceEqDiff,Nat.reduceAdd,Nat.reduceMul,Nat.reduceSub,Nat.reduceLeDiff,Nat.reduceLT,Int.reduceEq,Int.reduceLT,Int.reduceLE,Int.reduceAdd,Int.reduceSub,Int.reduceMul,Int.reduceNeg,Int.reduceNe,reduceCtorEq,Int.reduceToNat,↓reduceIte]
  rw [e0, ← hf]
theorem p_validRune (r : Int) : PCalls Try.prog 83 [.int .i32 r] (.bool ((decide (0 ≤ r) && decide (r < 55296)) || (decide (57343 < r) && decide (r ≤ 1114111)))) := by
  refine pcalls_of (by first | rfl | simp [free, free.frees, frees_str, frees_u8, frees_u16]) (by first | rfl | simp [free, free.frees, frees_str, frees_u8, frees_u16]) (acalls_of mixed J_unicode_utf8_ValidRune_ok (Nat.le_of_ble_eq_true rfl) ?_); simp only [J_unicode_utf8_ValidRune, wk,if_true,if_false,forall_const,implies_true,ne_eq,eq_self,Nat.reduceEqDiff,Nat.reduceAdd,Nat.reduceMul,Nat.reduceSub,Nat.reduceLeDiff,Nat.reduceLT,Int.reduceEq,Int.reduceLT,Int.reduceLE,Int.reduceAdd,Int.reduceSub,Int.reduceMul,Int.reduceNeg,Int.reduceNe,reduceCtorEq,Int.reduceToNat,↓reduceIte]
  repeat' (first | (with_reducible refine And.intro ?_ ?_) | intro _)
  all_goals (congr 1; simp_all; try omega)
theorem ibyte_no {c : UInt8} (hc : 128 ≤ c.toNat) : ∀ {l : List UInt8}, (∀ b ∈ l, b.toNat < 128) → indexByte l c = -1
  | [], _ => rfl
  | b :: l, h => by
    have h1 := h b (by simp)
    have h2 := ibyte_no hc (l := l) (fun x hx => h x (by simp [hx]))
    have h3 : (b == c) = false := by
      rw [beq_eq_false_iff_ne]; intro e; subst e; omega
    simp [indexByte, h2, h3]
theorem enc_hi {r : Int} (h0 : 128 ≤ r) (h1 : r ≤ 1114111) (hv : Utf8.valid r = true) : 2 ≤ (Utf8.encode r).size ∧ (Utf8.encode r).size ≤ 4 ∧ 128 ≤ byteAt (Utf8.encode r) ((Utf8.encode r).size - 1) ∧ byteAt (Utf8.encode r) ((Utf8.encode r).size - 1) < 256 := by
  have e : (if Utf8.valid r = true then r.toNat else Utf8.runeError) = r.toNat := if_pos hv
  have h80 : ∀ n : Nat, 128 ≤ (UInt8.ofNat (128 + n % 64)).toNat ∧ (UInt8.ofNat (128 + n % 64)).toNat < 256 := fun n => by
    rw [UInt8.toNat_ofNat']; omega
  unfold Utf8.encode
  simp only [e]
  rw [if_neg (by omega)]
  split
  · exact ⟨Nat.le_of_ble_eq_true rfl, Nat.le_of_ble_eq_true rfl, h80 _⟩
  · split
    · exact ⟨Nat.le_of_ble_eq_true rfl, Nat.le_of_ble_eq_true rfl, h80 _⟩
    · exact ⟨Nat.le_of_ble_eq_true rfl, Nat.le_of_ble_eq_true rfl, h80 _⟩
theorem signs_lo : ∀ b ∈ signsS.data.toList, b.toNat < 128 := by decide
set_option maxRecDepth 100000 in
set_option maxHeartbeats 4000000 in
theorem p_indexRune (r : Int) (h0 : 0 ≤ r) (h1 : r ≤ 1114111) (hv : 128 ≤ r → Utf8.valid r = true) : PCalls Try.prog 75 [.str signsS, .int .i32 r] (.int .i64 (if r < 128 then indexByte signsS.data.toList r.toNat.toUInt8 else -1)) := by
  refine pcalls_of (by first | rfl | simp [free, free.frees, frees_str, frees_u8, frees_u16]) (by first | rfl | simp [free, free.frees, frees_str, frees_u8, frees_u16]) (acalls_of mixed J_strings_IndexRune_ok (Nat.le_of_ble_eq_true rfl) ?_); simp only [J_strings_IndexRune, wk,if_true,if_false,forall_const,implies_true,ne_eq,eq_self,Nat.reduceEqDiff,Nat.reduceAdd,Nat.reduceMul,Nat.reduceSub,Nat.reduceLeDiff,Nat.reduceLT,Int.reduceEq,Int.reduceLT,Int.reduceLE,Int.reduceAdd,Int.reduceSub,Int.reduceMul,Int.reduceNeg,Int.reduceNe,reduceCtorEq,Int.reduceToNat,↓reduceIte]
  refine ⟨fun _ => ⟨fun hlt => ?_, fun hge => ⟨fun h65 => ?_, fun h65 => ?_⟩⟩, fun hn => absurd h0 hn⟩
  · have hw : IntKind.u8.wrap r = r := by rw [IntKind.wrap_u8]; omega
    rw [hw]
    refine PCalls.use (p_sibyte signsS r) ?_; simp only [wk,if_true,if_false,forall_const,implies_true,ne_eq,eq_self,Nat.reduceEqDiff,Nat.reduceAdd,Nat.reduceMul,Nat.reduceSub,Nat.reduceLeDiff,Nat.reduceLT,Int.reduceEq,Int.reduceLT,Int.reduceLE,Int.reduceAdd,Int.reduceSub,Int.reduceMul,Int.reduceNeg,Int.reduceNe,reduceCtorEq,Int.reduceToNat,↓reduceIte]
    rw [if_pos hlt]
  · rw [if_neg hge]
    refine W_loop (fun m fr h' => ∃ p : Nat, p ≤ signsS.data.toList.length ∧ m = signsS.data.toList.length - p ∧ fr = [(175, .itr signsS p)]) 8 ⟨0, by omega, by decide, rfl⟩ ?_
    rintro m fr h' ⟨p, hp, rfl, rfl⟩
    have hl := len_size signsS
    simp only [J_strings_IndexRune_j2, wk,if_true,if_false,forall_const,implies_true,ne_eq,eq_self,Nat.reduceEqDiff,Nat.reduceAdd,Nat.reduceMul,Nat.reduceSub,Nat.reduceLeDiff,Nat.reduceLT,Int.reduceEq,Int.reduceLT,Int.reduceLE,Int.reduceAdd,Int.reduceSub,Int.reduceMul,Int.reduceNeg,Int.reduceNe,reduceCtorEq,Int.reduceToNat,↓reduceIte]
    refine ⟨fun hlt => ?_, fun hge2 => ?_⟩
    · have hpl : p < signsS.data.toList.length := by omega
      have hlo := signs_lo _ (List.getElem_mem hpl)
      rw [dec_lt hpl hlo]
      refine ⟨fun h => ?_, fun _ => ?_⟩
      · exfalso; simp only at h; omega
      · exact ⟨signsS.data.toList.length - (p + 1), by omega, p + 1, by omega, rfl, rfl⟩
    · simp only [J_strings_IndexRune_j1, wk,if_true,if_false,forall_const,implies_true,ne_eq,eq_self,Nat.reduceEqDiff,Nat.reduceAdd,Nat.reduceMul,Nat.reduceSub,Nat.reduceLeDiff,Nat.reduceLT,Int.reduceEq,Int.reduceLT,Int.reduceLE,Int.reduceAdd,Int.reduceSub,Int.reduceMul,Int.reduceNeg,Int.reduceNe,reduceCtorEq,Int.reduceToNat,↓reduceIte]
  · rw [if_neg hge]
    have hv' := hv (by omega)
    have qv := p_validRune r
    rw [show ((decide (0 ≤ r) && decide (r < 55296)) || (decide (57343 < r) && decide (r ≤ 1114111))) = true by
      unfold Utf8.valid at hv'
      simp only [Bool.or_eq_true, Bool.and_eq_true, decide_eq_true_eq] at hv' ⊢
      omega] at qv
    obtain ⟨g1, g2, g3, g4⟩ := enc_hi (by omega) h1 hv'
    obtain ⟨E, hE⟩ : ∃ E, E = Utf8.encode r := ⟨_, rfl⟩
    rw [← hE] at g1 g2 g3 g4
    refine PCalls.use (qv) ?_; simp only [wk,if_true,if_false,forall_const,implies_true,ne_eq,eq_self,Nat.reduceEqDiff,Nat.reduceAdd,Nat.reduceMul,Nat.reduceSub,Nat.reduceLeDiff,Nat.reduceLT,Int.reduceEq,Int.reduceLT,Int.reduceLE,Int.reduceAdd,Int.reduceSub,Int.reduceMul,Int.reduceNeg,Int.reduceNe,reduceCtorEq,Int.reduceToNat,↓reduceIte]
    rw [← hE]
    refine ⟨inR_of (by omega) (by omega), ?_⟩
    refine W_loop (fun m fr h' => fr = [(0, .str signsS), (7, .str E), (8, .int .i64 (E.size - 1)), (9, .int .i64 (E.size - 1))]) 0 rfl ?_
    rintro m fr h' rfl
    have hs8 : signsS.size = 8 := rfl
    have hl := len_size signsS
    have e1 : ((E.size : Int) - 1).toNat = E.size - 1 := by omega
    have e2 : ((E.size : Int) - 1 + 1).toNat = E.size := by omega
    have hlo := signs_lo _ (List.getElem_mem (show E.size - 1 < signsS.data.toList.length by omega))
    have hne : ((byteAt signsS (E.size - 1) : Nat) : Int) ≠ (byteAt E (E.size - 1) : Nat) := by
      rw [byte_at (show E.size - 1 < signsS.data.toList.length by omega)]; omega
    simp only [J_strings_IndexRune_j12, e1, e2, hs8, hne, wk,if_true,if_false,forall_const,implies_true,ne_eq,eq_self,Nat.reduceEqDiff,Nat.reduceAdd,Nat.reduceMul,Nat.reduceSub,Nat.reduceLeDiff,Nat.reduceLT,Int.reduceEq,Int.reduceLT,Int.reduceLE,Int.reduceAdd,Int.reduceSub,Int.reduceMul,Int.reduceNeg,Int.reduceNe,reduceCtorEq,Int.reduceToNat,↓reduceIte]
    have qi := p_sibyte (signsS.extract E.size ((8 : Nat) : Int).toNat) (byteAt E (E.size - 1))
    rw [ibyte_no (by rw [Int.toNat_natCast]; rw [show (byteAt E (E.size - 1)).toUInt8.toNat = byteAt E (E.size - 1) by simp; omega]; exact g3) (fun b hb => by
      refine signs_lo b ?_
      simp only [ByteArray.data_extract, Array.toList_extract, List.extract_eq_take_drop] at hb
      exact List.mem_of_mem_drop (List.mem_of_mem_take hb))] at qi
    refine ⟨fun _ => ⟨⟨by omega, by omega⟩, ⟨by omega, by omega⟩, inR_of (by omega) (by omega), ⟨by omega, by omega, by omega⟩, ⟨by omega, by omega⟩, _, qi, ?_⟩, fun h => absurd (by omega) h⟩
    simp only [wk,if_true,if_false,forall_const,implies_true,ne_eq,eq_self,Nat.reduceEqDiff,Nat.reduceAdd,Nat.reduceMul,Nat.reduceSub,Nat.reduceLeDiff,Nat.reduceLT,Int.reduceEq,Int.reduceLT,Int.reduceLE,Int.reduceAdd,Int.reduceSub,Int.reduceMul,Int.reduceNeg,Int.reduceNe,reduceCtorEq,Int.reduceToNat,↓reduceIte]
/-- is a rune among the signs? -/
theorem p_containsRune (r : Int) (h0 : 0 ≤ r) (h1 : r ≤ 1114111) (hv : 128 ≤ r → Utf8.valid r = true) : PCalls Try.prog 54 [.str signsS, .int .i32 r] (.bool (sigB r.toNat)) := by
  refine pcalls_of (by first | rfl | simp [free, free.frees, frees_str, frees_u8, frees_u16]) (by first | rfl | simp [free, free.frees, frees_str, frees_u8, frees_u16]) (acalls_of mixed J_strings_ContainsRune_ok (Nat.le_of_ble_eq_true rfl) ?_); simp only [J_strings_ContainsRune, wk,if_true,if_false,forall_const,implies_true,ne_eq,eq_self,Nat.reduceEqDiff,Nat.reduceAdd,Nat.reduceMul,Nat.reduceSub,Nat.reduceLeDiff,Nat.reduceLT,Int.reduceEq,Int.reduceLT,Int.reduceLE,Int.reduceAdd,Int.reduceSub,Int.reduceMul,Int.reduceNeg,Int.reduceNe,reduceCtorEq,Int.reduceToNat,↓reduceIte]
  refine PCalls.use (p_indexRune r h0 h1 hv) ?_; simp only [wk,if_true,if_false,forall_const,implies_true,ne_eq,eq_self,Nat.reduceEqDiff,Nat.reduceAdd,Nat.reduceMul,Nat.reduceSub,Nat.reduceLeDiff,Nat.reduceLT,Int.reduceEq,Int.reduceLT,Int.reduceLE,Int.reduceAdd,Int.reduceSub,Int.reduceMul,Int.reduceNeg,Int.reduceNe,reduceCtorEq,Int.reduceToNat,↓reduceIte]
  by_cases hlt : r < 128
  · rw [if_pos hlt]
    have := sign_find r.toNat (by omega)
    rw [this]
  · rw [if_neg hlt]
    have : sigB r.toNat = false := by simp [sigB]; omega
    rw [this]
    rfl
end Go.Proofs.Ytmbijfcjfhdnjaa

/- How a token is written: the program's Word, and the reference's. -/
namespace Go.Proofs.Ytmbijfcjfhdnjaa
set_option linter.unusedSimpArgs false
set_option linter.unusedVariables false
open Go.RowKit Go.Lib

theorem stop_all {q : Int → Bool} {l : List UInt8} : (stopN q l = l.length) ↔ l.all (fun b => q b.toNat) = true := by
  rw [List.all_eq_true]
  constructor
  · intro h b hb
    obtain ⟨i, hi, rfl⟩ := List.mem_iff_getElem.1 hb
    exact stopN_at hi (by omega)
  · intro h
    unfold stopN
    exact tw_len (Nat.le_refl _) (by rw [List.take_length]; exact h) (fun h => by omega)
theorem p_number (s : ByteArray) (hs : s.size ≤ 1000000) : PCalls Try.prog 36 [.str s] (.bool (numW s)) := by
  have hl := len_size s
  have q := p_stop (f := 55) p_digit hi_dig s 0 hs (by omega)
  rw [List.drop_zero] at q
  have hst := stop_all (q := digI) (l := s.data.toList)
  have no : numW s = false → AV.bool false = .bool (numW s) := fun h => by rw [h]
  refine pcalls_of (by first | rfl | simp [free, free.frees, frees_str, frees_u8, frees_u16]) (by first | rfl | simp [free, free.frees, frees_str, frees_u8, frees_u16]) (acalls_of mixed J_token_number_ok (Nat.le_of_ble_eq_true rfl) ?_); simp only [J_token_number, wk,if_true,if_false,forall_const,implies_true,ne_eq,eq_self,Nat.reduceEqDiff,Nat.reduceAdd,Nat.reduceMul,Nat.reduceSub,Nat.reduceLeDiff,Nat.reduceLT,Int.reduceEq,Int.reduceLT,Int.reduceLE,Int.reduceAdd,Int.reduceSub,Int.reduceMul,Int.reduceNeg,Int.reduceNe,reduceCtorEq,Int.reduceToNat,↓reduceIte]
  have fin : (1 ≤ s.size ∧ s.size ≤ 9 ∧ (byteAt s 0 ≠ 48 ∨ s.size = 1)) → ∀ x : Int, x = (0 : Nat) + (stopN digI s.data.toList : Nat) → AV.bool (decide (x = s.size)) = .bool (numW s) := by
    rintro ⟨h1, h2, h3⟩ x rfl
    congr 1
    unfold numW
    rw [Bool.eq_iff_iff]
    simp only [decide_eq_true_eq, Bool.and_eq_true, Bool.or_eq_true]
    rw [← hst]
    omega
  repeat' (first | (refine PCalls.use q ?_; simp only [wk,if_true,if_false,forall_const,implies_true,ne_eq,eq_self,Nat.reduceEqDiff,Nat.reduceAdd,Nat.reduceMul,Nat.reduceSub,Nat.reduceLeDiff,Nat.reduceLT,Int.reduceEq,Int.reduceLT,Int.reduceLE,Int.reduceAdd,Int.reduceSub,Int.reduceMul,Int.reduceNeg,Int.reduceNe,reduceCtorEq,Int.reduceToNat,↓reduceIte]) | (with_reducible refine And.intro ?_ ?_) | intro _)
  all_goals first
    | omega
    | exact fin (by omega) _ rfl
    | (apply no; unfold numW; simp_all; done)
    | (apply no; unfold numW; simp_all; omega)
def atomW (o : Int) (w : ByteArray) : ByteArray :=
  if o = 0 then (if w = ⟨#[68]⟩ then w else ⟨#[]⟩)
  else if mayN w = true then (if o = 1 ∨ o = 2 ∨ o = 4 ∨ o = 5 then preW o ++ w else if o = 3 ∧ keyW w = 0 then w else ⟨#[]⟩) else ⟨#[]⟩
def wordT (k : Int) (w : ByteArray) (o : Int) : ByteArray :=
  if k = 1 then atomW o w
  else if o ≠ 0 then ⟨#[]⟩
  else if k = 8 then (if numW w = true then w else ⟨#[]⟩)
  else if k = 9 then (if sigW w = true then w else ⟨#[]⟩)
  else if w ≠ ⟨#[]⟩ then ⟨#[]⟩
  else if k = 2 then ⟨#[97, 110, 100]⟩
  else if k = 3 then ⟨#[102, 111, 114]⟩
  else if k = 5 then ⟨#[97, 115]⟩
  else if k = 4 then ⟨#[124]⟩
  else if k = 6 then ⟨#[40]⟩
  else if k = 7 then ⟨#[41]⟩
  else ⟨#[]⟩
set_option maxRecDepth 100000 in
set_option maxHeartbeats 4000000 in
theorem p_atomWord (o : Int) (w : ByteArray) (hw : w.size ≤ 1000000) : PCalls Try.prog 35 [.int .i64 o, .str w] (.str (atomW o w)) := by
  have qm := p_amay w (by omega)
  have qk := p_keyword w
  refine pcalls_of (by first | rfl | simp [free, free.frees, frees_str, frees_u8, frees_u16]) (by first | rfl | simp [free, free.frees, frees_str, frees_u8, frees_u16]) (acalls_of mixed J_token_atomWord_ok (Nat.le_of_ble_eq_true rfl) ?_); simp only [J_token_atomWord, wk,if_true,if_false,forall_const,implies_true,ne_eq,eq_self,Nat.reduceEqDiff,Nat.reduceAdd,Nat.reduceMul,Nat.reduceSub,Nat.reduceLeDiff,Nat.reduceLT,Int.reduceEq,Int.reduceLT,Int.reduceLE,Int.reduceAdd,Int.reduceSub,Int.reduceMul,Int.reduceNeg,Int.reduceNe,reduceCtorEq,Int.reduceToNat,↓reduceIte]
  repeat' (first | (refine PCalls.use qm ?_; simp only [wk,if_true,if_false,forall_const,implies_true,ne_eq,eq_self,Nat.reduceEqDiff,Nat.reduceAdd,Nat.reduceMul,Nat.reduceSub,Nat.reduceLeDiff,Nat.reduceLT,Int.reduceEq,Int.reduceLT,Int.reduceLE,Int.reduceAdd,Int.reduceSub,Int.reduceMul,Int.reduceNeg,Int.reduceNe,reduceCtorEq,Int.reduceToNat,↓reduceIte]) | (refine PCalls.use qk ?_; simp only [wk,if_true,if_false,forall_const,implies_true,ne_eq,eq_self,Nat.reduceEqDiff,Nat.reduceAdd,Nat.reduceMul,Nat.reduceSub,Nat.reduceLeDiff,Nat.reduceLT,Int.reduceEq,Int.reduceLT,Int.reduceLE,Int.reduceAdd,Int.reduceSub,Int.reduceMul,Int.reduceNeg,Int.reduceNe,reduceCtorEq,Int.reduceToNat,↓reduceIte]) | (with_reducible refine And.intro ?_ ?_) | intro _)
  all_goals first
    | (simp only [J_token_atomWord_j1, wk,if_true,if_false,forall_const,implies_true,ne_eq,eq_self,Nat.reduceEqDiff,Nat.reduceAdd,Nat.reduceMul,Nat.reduceSub,Nat.reduceLeDiff,Nat.reduceLT,Int.reduceEq,Int.reduceLT,Int.reduceLE,Int.reduceAdd,Int.reduceSub,Int.reduceMul,Int.reduceNeg,Int.reduceNe,reduceCtorEq,Int.reduceToNat,↓reduceIte]; congr 1; unfold atomW; simp_all; done)
    | (congr 1; unfold atomW preW; simp_all; done)
    | exact (show ∀ n : Nat, n ≤ 6 → n + w.size ≤ 9223372036854775807 from fun n h => by omega) _ (Nat.le_of_ble_eq_true rfl)
theorem sigW_one {w : ByteArray} (h : w.size = 1) : sigW w = sigB (byteAt w 0) := by unfold sigW; simp [h]
set_option maxRecDepth 100000 in
set_option maxHeartbeats 4000000 in
theorem p_word (k : Int) (w : ByteArray) (o a : Int) (hw : w.size ≤ 1000000) : PCalls Try.prog 14 [.agg [.int .i64 k, .str w, .int .i64 o, .int .i64 a]] (.str (wordT k w o)) := by
  have qa := p_atomWord o w hw
  have qn := p_number w hw
  refine pcalls_of (by first | rfl | simp [free, free.frees, frees_str, frees_u8, frees_u16]) (by first | rfl | simp [free, free.frees, frees_str, frees_u8, frees_u16]) (acalls_of mixed J_token_Word_ok (Nat.le_of_ble_eq_true rfl) ?_); simp only [J_token_Word, wk,if_true,if_false,forall_const,implies_true,ne_eq,eq_self,Nat.reduceEqDiff,Nat.reduceAdd,Nat.reduceMul,Nat.reduceSub,Nat.reduceLeDiff,Nat.reduceLT,Int.reduceEq,Int.reduceLT,Int.reduceLE,Int.reduceAdd,Int.reduceSub,Int.reduceMul,Int.reduceNeg,Int.reduceNe,reduceCtorEq,Int.reduceToNat,↓reduceIte]
  repeat' (first | (refine PCalls.use qa ?_; simp only [wk,if_true,if_false,forall_const,implies_true,ne_eq,eq_self,Nat.reduceEqDiff,Nat.reduceAdd,Nat.reduceMul,Nat.reduceSub,Nat.reduceLeDiff,Nat.reduceLT,Int.reduceEq,Int.reduceLT,Int.reduceLE,Int.reduceAdd,Int.reduceSub,Int.reduceMul,Int.reduceNeg,Int.reduceNe,reduceCtorEq,Int.reduceToNat,↓reduceIte]) | (refine PCalls.use qn ?_; simp only [wk,if_true,if_false,forall_const,implies_true,ne_eq,eq_self,Nat.reduceEqDiff,Nat.reduceAdd,Nat.reduceMul,Nat.reduceSub,Nat.reduceLeDiff,Nat.reduceLT,Int.reduceEq,Int.reduceLT,Int.reduceLE,Int.reduceAdd,Int.reduceSub,Int.reduceMul,Int.reduceNeg,Int.reduceNe,reduceCtorEq,Int.reduceToNat,↓reduceIte]) | (refine PCalls.use (p_contains1 w (by omega)) ?_; simp only [wk,if_true,if_false,forall_const,implies_true,ne_eq,eq_self,Nat.reduceEqDiff,Nat.reduceAdd,Nat.reduceMul,Nat.reduceSub,Nat.reduceLeDiff,Nat.reduceLT,Int.reduceEq,Int.reduceLT,Int.reduceLE,Int.reduceAdd,Int.reduceSub,Int.reduceMul,Int.reduceNeg,Int.reduceNe,reduceCtorEq,Int.reduceToNat,↓reduceIte]) | (with_reducible refine And.intro ?_ ?_) | intro _)
  all_goals first
    | (congr 1; unfold wordT; simp_all; done)
    | (congr 1; unfold wordT; rw [sigW_one (by omega)]; simp_all; done)
    | (congr 1; unfold wordT sigW; simp_all; done)
    | (have hz : ¬ w.size = 1 := by omega
       congr 1; unfold wordT sigW; simp_all; done)
theorem preW_size (o : Int) : (preW o).size ≤ 6 := by
  unfold preW
  repeat' split
  all_goals decide
end Go.Proofs.Ytmbijfcjfhdnjaa

/- Expressions: how closely signs bind; what waits last. -/
-- fast
-- rows
namespace Go.Proofs.Ytmbijfcjfhdnjaa
set_option linter.unusedSimpArgs false
set_option linter.unusedVariables false
open Go.RowKit Go.Lib

/-- how closely a term binds -/
def bindP (k : Int) : Int := if k = 1 then 5 else bindK k
theorem bindP_ne {k : Int} (h : k ≠ 1) : bindP k = bindK k := by unfold bindP; rw [if_neg h]
set_option maxRecDepth 100000 in
theorem p_bind (k : Int) : PCalls Try.prog 44 [.int .i64 k] (.int .i64 (bindP k)) := by
  refine pcalls_of (by first | rfl | simp [free, free.frees, frees_str, frees_u8, frees_u16]) (by first | rfl | simp [free, free.frees, frees_str, frees_u8, frees_u16]) (acalls_of mixed J_expr_bind_ok (Nat.le_of_ble_eq_true rfl) ?_); simp only [J_expr_bind, wkr,wk,if_true,if_false,forall_const,implies_true,ne_eq,eq_self,Nat.reduceEqDiff,Nat.reduceAdd,Nat.reduceMul,Nat.reduceSub,Nat.reduceLeDiff,Nat.reduceLT,Int.reduceEq,Int.reduceLT,Int.reduceLE,Int.reduceAdd,Int.reduceSub,Int.reduceMul,Int.reduceNeg,Int.reduceNe,reduceCtorEq,Int.reduceToNat,↓reduceIte]
  repeat' refine And.intro (fun h => ?_) (fun h => ?_)
  all_goals (congr 1; simp_all [bindP, bindK])
/-- terms as cells -/
def trC (t : Trm) : List AV := [.int .i64 t.op, .int .i64 t.of, .str t.name]
def trsC (l : List Trm) : List AV := l.flatMap trC
def vTrs (l : List Trm) : AV := .lst .ro l.length (trsC l)
abbrev rob (o : Option Value) (r : Rdr) : Option (Bool × List AV) := some (false, [.lst (.own 45) r.out.length (trsC r.out), .stk 3 o r.w.reverse, .int .i64 r.opn, .bool r.beh])
theorem hset1 {h : Hp} {id : Nat} {y : Option (Bool × List AV)} (ho : h[id]? = some y) (x : Option (Bool × List AV)) : (h.set id x)[id]? = some x := by
  have : id < h.length := (List.getElem?_eq_some_iff.1 ho).1
  rw [List.getElem?_set_self this]
theorem hself1 {h : Hp} {id : Nat} {y : Option (Bool × List AV)} (ho : h[id]? = some y) : h.set id y = h := by
  obtain ⟨h1, h2⟩ := List.getElem?_eq_some_iff.1 ho
  rw [← h2, List.set_getElem_self]
theorem rev_last {w : List Int} : w.reverse.getD (w.length - 1) 0 = w.headD 0 := by
  cases w with
  | nil => rfl
  | cons a w => simp
set_option maxRecDepth 100000 in
theorem a_top_some {h : Hp} {id : Nat} {x : AV} {rest : List AV} {w : List Int} {v : Value} (ho : h[id]? = some (some (false, x :: .stk 3 (some v) w.reverse :: rest))) (hl : w.length ≤ 1000000) : ACalls Try.prog 63 [.ptr id 0] h (fun a h' => a = .int .i64 (w.headD 0) ∧ h' = h) := by
  have hr : w.reverse.length = w.length := List.length_reverse
  refine acalls_of mixed J_expr_reader_top_ok (Nat.le_of_ble_eq_true rfl) ?_; simp only [J_expr_reader_top, wkr,wk,if_true,if_false,forall_const,implies_true,ne_eq,eq_self,Nat.reduceEqDiff,Nat.reduceAdd,Nat.reduceMul,Nat.reduceSub,Nat.reduceLeDiff,Nat.reduceLT,Int.reduceEq,Int.reduceLT,Int.reduceLE,Int.reduceAdd,Int.reduceSub,Int.reduceMul,Int.reduceNeg,Int.reduceNe,reduceCtorEq,Int.reduceToNat,↓reduceIte]
  simp only [wkr,wk,if_true,if_false,forall_const,implies_true,ne_eq,eq_self,Nat.reduceEqDiff,Nat.reduceAdd,Nat.reduceMul,Nat.reduceSub,Nat.reduceLeDiff,Nat.reduceLT,Int.reduceEq,Int.reduceLT,Int.reduceLE,Int.reduceAdd,Int.reduceSub,Int.reduceMul,Int.reduceNeg,Int.reduceNe,reduceCtorEq,Int.reduceToNat,↓reduceIte, ho]
  refine ⟨fun h0 => ?_, fun h0 => ⟨inR_of (by omega) (by omega), ⟨by omega, by omega⟩, by omega, ?_⟩⟩
  · have : w = [] := List.eq_nil_of_length_eq_zero (by omega)
    subst this; rfl
  · congr 1
    rw [hr, show ((w.length : Int) - 1).toNat = w.length - 1 by omega, rev_last]
set_option maxRecDepth 100000 in
theorem a_top {h : Hp} {id : Nat} {x : AV} {rest : List AV} {w : List Int} {o : Option Value} (ho : h[id]? = some (some (false, x :: .stk 3 o w.reverse :: rest))) (hl : w.length ≤ 1000000) : ACalls Try.prog 63 [.ptr id 0] h (fun a h' => a = .int .i64 (w.headD 0) ∧ h' = h) := by
  cases o with
  | some v => exact a_top_some ho hl
  | none =>
    have hr : w.reverse.length = w.length := List.length_reverse
    have hs : ∀ y, (h.set id (some (false, y)))[id]? = some (some (false, y)) := fun y => hset1 ho _
    refine ACalls.unname (off := 1) ho rfl ?_
    refine acalls_of mixed J_expr_reader_top_ok (Nat.le_of_ble_eq_true rfl) ?_; simp only [J_expr_reader_top, wkr,wk,if_true,if_false,forall_const,implies_true,ne_eq,eq_self,Nat.reduceEqDiff,Nat.reduceAdd,Nat.reduceMul,Nat.reduceSub,Nat.reduceLeDiff,Nat.reduceLT,Int.reduceEq,Int.reduceLT,Int.reduceLE,Int.reduceAdd,Int.reduceSub,Int.reduceMul,Int.reduceNeg,Int.reduceNe,reduceCtorEq,Int.reduceToNat,↓reduceIte]
    simp only [wkr,wk,if_true,if_false,forall_const,implies_true,ne_eq,eq_self,Nat.reduceEqDiff,Nat.reduceAdd,Nat.reduceMul,Nat.reduceSub,Nat.reduceLeDiff,Nat.reduceLT,Int.reduceEq,Int.reduceLT,Int.reduceLE,Int.reduceAdd,Int.reduceSub,Int.reduceMul,Int.reduceNeg,Int.reduceNe,reduceCtorEq,Int.reduceToNat,↓reduceIte, ho]
    intro v
    simp only [wkr,wk,if_true,if_false,forall_const,implies_true,ne_eq,eq_self,Nat.reduceEqDiff,Nat.reduceAdd,Nat.reduceMul,Nat.reduceSub,Nat.reduceLeDiff,Nat.reduceLT,Int.reduceEq,Int.reduceLT,Int.reduceLE,Int.reduceAdd,Int.reduceSub,Int.reduceMul,Int.reduceNeg,Int.reduceNe,reduceCtorEq,Int.reduceToNat,↓reduceIte, hs]
    refine ⟨fun h0 => ?_, fun h0 => ⟨inR_of (by omega) (by omega), ⟨by omega, by omega⟩, by omega, ?_⟩⟩
    · have : w = [] := List.eq_nil_of_length_eq_zero (by omega)
      subst this; exact ⟨⟨v, rfl⟩, rfl⟩
    · refine ⟨⟨v, rfl⟩, ?_⟩
      congr 1
      rw [hr, show ((w.length : Int) - 1).toNat = w.length - 1 by omega, rev_last]
theorem sameU_stk {h0 h : Hp} {id : Nat} {x : AV} {rest : List AV} {e : TypeId} {o : Option Value} {l : List Int} (hs : SameU h0 h) (ho : h[id]? = some (some (false, x :: .stk e o l :: rest))) : ∃ x' rest', h0[id]? = some (some (false, x' :: .stk e o l :: rest')) := by
  have h1 := congrArg (fun m : List (Option (Bool × List AV)) => m[id]?) hs
  simp only [List.getElem?_map, ho, Option.map_some, unfO, List.map_cons] at h1
  cases h2 : h0[id]? with
  | none => rw [h2] at h1; cases h1
  | some y =>
    rw [h2] at h1
    cases y with
    | none => simp [unfO] at h1
    | some z =>
      obtain ⟨s, c⟩ := z
      simp only [Option.map_some, unfO, Option.some.injEq, Prod.mk.injEq] at h1
      obtain ⟨rfl, h3⟩ := h1
      cases c with
      | nil => simp at h3
      | cons a c =>
        cases c with
        | nil => simp at h3
        | cons b c =>
          simp only [List.map_cons, List.cons.injEq] at h3
          have hb : b = .stk e o l := by
            have h4 := h3.2.1
            cases b <;> simp only [unf] at h4 <;> first | exact h4 | (split at h4 <;> first | cases h4 | exact h4) | cases h4
          subst hb
          exact ⟨a, c, rfl⟩
theorem a_topr {h : Hp} {id : Nat} {x : AV} {rest : List AV} {w : List Int} {o : Option Value} (ho : h[id]? = some (some (false, x :: .stk 3 o w.reverse :: rest))) (hl : w.length ≤ 1000000) : ∀ h0 : Hp, SameU h0 h → ACalls Try.prog 63 [.ptr id 0] h0 (fun a h' => a = .int .i64 (w.headD 0) ∧ h' = h0) := fun h0 hs => by
  obtain ⟨x', rest', h2⟩ := sameU_stk hs ho
  exact a_top h2 hl
/-- names of what waits are forgotten -/
theorem ACalls.unn {P : Program} {f : FuncId} {args : List AV} {h : Hp} {R : AV → Prop} {id : Nat} {r : Rdr} {y : Option (Bool × List AV)} (hid : h[id]? = some y)
    (hA : ACalls P f args h (fun a h' => R a ∧ ∃ o, h' = h.set id (rob o r))) : ACalls P f args h (fun a h' => R a ∧ h' = h.set id (rob none r)) :=
  ⟨hA.1, fun g w vargs h1 h2 h3 h4 => (hA.2 g w vargs h1 h2 h3 h4).mono fun _ _ ⟨x, a, h', g', q1, q2, q3, q4, q5, q6, q8, o, q7⟩ => by
    have hl := hset1 hid (rob none r)
    refine ⟨x, a, h.set id (rob none r), g', q1, q2, ?_, q4, q5, q6, q8, rfl⟩
    cases o with
    | none => rw [← q7]; exact q3
    | some u =>
      refine Sim.unname (off := 1) (u := u) hl rfl ?_
      rw [List.set_set]
      show Sim P g' (h.set id (rob (some u) r)) _
      rw [← q7]; exact q3⟩
/-- the signs that wait last are laid -/
def layR (m : Int) (r : Rdr) : Rdr := ⟨r.out ++ (popL m r.w).map sgn, popR m r.w, r.opn, r.beh⟩
theorem trsC_sn (l : List Trm) (t : Trm) : trsC (l ++ [t]) = trsC l ++ [.int .i64 t.op, .int .i64 t.of, .str t.name] := by simp [trsC, trC]
theorem trsC_len (l : List Trm) : (trsC l).length = l.length * 3 := by
  induction l with
  | nil => rfl
  | cons x l ih => simp only [trsC, List.flatMap_cons, List.length_append, trC, List.length_cons, List.length_nil] at ih ⊢; omega
set_option maxRecDepth 100000 in
theorem a_lay {h : Hp} {id : Nat} {r : Rdr} {m : Int} {o : Option Value} (ho : h[id]? = some (rob o r)) (hm : 0 < m) (hw : ∀ k ∈ r.w, k = 6 ∨ 0 < bindK k) (hl : r.w.length ≤ 10000) (hl2 : r.out.length ≤ 100000) : ACalls Try.prog 39 [.ptr id 0, .int .i64 m] h (fun a h' => a = .tup [] ∧ h' = h.set id (rob none (layR m r))) := by
  refine ACalls.unn ho ?_
  refine acalls_of mixed J_expr_reader_lay_ok (Nat.le_of_ble_eq_true rfl) ?_; simp only [J_expr_reader_lay, wkr,wk,if_true,if_false,forall_const,implies_true,ne_eq,eq_self,Nat.reduceEqDiff,Nat.reduceAdd,Nat.reduceMul,Nat.reduceSub,Nat.reduceLeDiff,Nat.reduceLT,Int.reduceEq,Int.reduceLT,Int.reduceLE,Int.reduceAdd,Int.reduceSub,Int.reduceMul,Int.reduceNeg,Int.reduceNe,reduceCtorEq,Int.reduceToNat,↓reduceIte]
  refine W_loop (fun n fr h' => ∃ (w2 : List Int) (a : List Int) (o : Option Value), n = w2.length ∧ popL m r.w = a ++ popL m w2 ∧ popR m r.w = popR m w2 ∧ a.length + w2.length = r.w.length ∧ (∀ k ∈ w2, k = 6 ∨ 0 < bindK k) ∧ h' = h.set id (rob o ⟨r.out ++ a.map sgn, w2, r.opn, r.beh⟩) ∧ fr = [(0, .ptr id 0), (1, .int .i64 m)]) r.w.length ⟨r.w, [], o, rfl, rfl, rfl, by simp, hw, by simp [hself1 ho], rfl⟩ ?_
  rintro n fr h' ⟨w2, a, o2, rfl, e1, e2, e3, hw2, rfl, rfl⟩
  have ho2 := hset1 ho (rob o2 ⟨r.out ++ a.map sgn, w2, r.opn, r.beh⟩)
  simp only [J_expr_reader_lay_j1, wkr,wk,if_true,if_false,forall_const,implies_true,ne_eq,eq_self,Nat.reduceEqDiff,Nat.reduceAdd,Nat.reduceMul,Nat.reduceSub,Nat.reduceLeDiff,Nat.reduceLT,Int.reduceEq,Int.reduceLT,Int.reduceLE,Int.reduceAdd,Int.reduceSub,Int.reduceMul,Int.reduceNeg,Int.reduceNe,reduceCtorEq,Int.reduceToNat,↓reduceIte]
  have hws : w2.length ≤ 10000 := by omega
  have hb : bindP (w2.headD 0) = bindK (w2.headD 0) := by
    refine bindP_ne ?_
    cases w2 with
    | nil => decide
    | cons k w2 =>
      have := hw2 k (by simp)
      show k ≠ 1
      rintro rfl
      rcases this with h | h
      · omega
      · rw [bind1] at h; omega
  refine ACalls.use (a_top ho2 (show w2.length ≤ 1000000 by omega)) ?_; rintro _ _ ⟨rfl, rfl⟩; simp only [wkr,wk,if_true,if_false,forall_const,implies_true,ne_eq,eq_self,Nat.reduceEqDiff,Nat.reduceAdd,Nat.reduceMul,Nat.reduceSub,Nat.reduceLeDiff,Nat.reduceLT,Int.reduceEq,Int.reduceLT,Int.reduceLE,Int.reduceAdd,Int.reduceSub,Int.reduceMul,Int.reduceNeg,Int.reduceNe,reduceCtorEq,Int.reduceToNat,↓reduceIte, ho2]
  refine PCalls.use (p_bind (w2.headD 0)) ?_; simp only [wkr,wk,if_true,if_false,forall_const,implies_true,ne_eq,eq_self,Nat.reduceEqDiff,Nat.reduceAdd,Nat.reduceMul,Nat.reduceSub,Nat.reduceLeDiff,Nat.reduceLT,Int.reduceEq,Int.reduceLT,Int.reduceLE,Int.reduceAdd,Int.reduceSub,Int.reduceMul,Int.reduceNeg,Int.reduceNe,reduceCtorEq,Int.reduceToNat,↓reduceIte]
  simp only [hb]
  have hs : ∀ y z, ((h.set id z).set id (some (false, y)))[id]? = some (some (false, y)) := fun y z => hset1 (hset1 ho z) _
  have hs1 : ∀ y, (h.set id (some (false, y)))[id]? = some (some (false, y)) := fun y => hset1 ho _
  refine ⟨fun hge => ?_, fun hlt => ?_⟩
  · simp only [rob] at ho2
    simp only [wkr,wk,if_true,if_false,forall_const,implies_true,ne_eq,eq_self,Nat.reduceEqDiff,Nat.reduceAdd,Nat.reduceMul,Nat.reduceSub,Nat.reduceLeDiff,Nat.reduceLT,Int.reduceEq,Int.reduceLT,Int.reduceLE,Int.reduceAdd,Int.reduceSub,Int.reduceMul,Int.reduceNeg,Int.reduceNe,reduceCtorEq,Int.reduceToNat,↓reduceIte, ho2]
    refine ⟨_, a_topr (hs1 _) (show w2.length ≤ 1000000 by omega), ?_⟩
    have hol : (r.out ++ a.map sgn).length = r.out.length + a.length := by simp
    simp only [wkr,wk,if_true,if_false,forall_const,implies_true,ne_eq,eq_self,Nat.reduceEqDiff,Nat.reduceAdd,Nat.reduceMul,Nat.reduceSub,Nat.reduceLeDiff,Nat.reduceLT,Int.reduceEq,Int.reduceLT,Int.reduceLE,Int.reduceAdd,Int.reduceSub,Int.reduceMul,Int.reduceNeg,Int.reduceNe,reduceCtorEq,Int.reduceToNat,↓reduceIte, hs, hs1]
    refine ⟨⟨by omega, by omega⟩, ?_⟩
    cases w2 with
    | nil => exact absurd hge (by show ¬ m ≤ bindK 0; simp only [bindK]; omega)
    | cons k w3 =>
      have hge : m ≤ bindK k := hge
      have hrl : (k :: w3).reverse.length = w3.length + 1 := by simp
      have hw3 : w3.length + 1 ≤ 10000 := by simpa using hws
      have hrt : (k :: w3).reverse.take w3.length = w3.reverse := by
        have := List.take_left (l₁ := w3.reverse) (l₂ := [k])
        rw [List.length_reverse] at this
        rw [List.reverse_cons]; exact this
      have ht : (((k :: w3).reverse.length : Int) - 1).toNat = w3.length := by omega
      have fin : ∀ v : Value, ∃ m_1, m_1 < (k :: w3).length ∧ ∃ (w2_1 : List Int) (a_1 : List Int) (o : Option Value), m_1 = w2_1.length ∧ popL m r.w = a_1 ++ popL m w2_1 ∧ popR m r.w = popR m w2_1 ∧ a_1.length + w2_1.length = r.w.length ∧ (∀ k ∈ w2_1, k = 6 ∨ 0 < bindK k) ∧ h.set id (some (false, [.lst (.own 45) ((r.out ++ a.map sgn).length + 1) (trsC (r.out ++ a.map sgn) ++ [.int .i64 ((k :: w3).headD 0), .int .i64 0, .str ⟨#[]⟩]), .stk 3 (some v) w3.reverse, .int .i64 r.opn, .bool r.beh])) = h.set id (rob o ⟨r.out ++ a_1.map sgn, w2_1, r.opn, r.beh⟩) := fun v => by
        refine ⟨w3.length, by simp, w3, a ++ [k], some v, rfl, ?_, ?_, ?_, fun q hq => hw2 q (by simp [hq]), ?_⟩
        · rw [e1]; simp [popL, hge]
        · rw [e2]; simp [popR, hge]
        · rw [List.length_cons] at e3; rw [List.length_append, List.length_singleton]; omega
        · rw [List.map_append, ← List.append_assoc, rob]
          simp only [List.map_cons, List.map_nil, trsC_sn, List.length_append, List.length_singleton, List.headD_cons]
          rfl
      cases o2 with
      | none =>
        intro v
        rw [ht, hrt]
        exact ⟨inR_of (by omega) (by omega), ⟨by omega, by omega⟩, by omega, fin _⟩
      | some v =>
        simp only [wkr,wk,if_true,if_false,forall_const,implies_true,ne_eq,eq_self,Nat.reduceEqDiff,Nat.reduceAdd,Nat.reduceMul,Nat.reduceSub,Nat.reduceLeDiff,Nat.reduceLT,Int.reduceEq,Int.reduceLT,Int.reduceLE,Int.reduceAdd,Int.reduceSub,Int.reduceMul,Int.reduceNeg,Int.reduceNe,reduceCtorEq,Int.reduceToNat,↓reduceIte]
        rw [ht, hrt]
        exact ⟨inR_of (by omega) (by omega), ⟨by omega, by omega⟩, by omega, fin _⟩
  · have hp : popL m w2 = [] ∧ popR m w2 = w2 := by
      cases w2 with
      | nil => exact ⟨rfl, rfl⟩
      | cons k w2 =>
        have : ¬ m ≤ bindK k := hlt
        simp [popL, popR, this]
    rw [hp.1, List.append_nil] at e1
    rw [hp.2] at e2
    exact ⟨o2, by unfold layR; rw [e1, e2]⟩
end Go.Proofs.Ytmbijfcjfhdnjaa

/- Expressions: the reader takes a token. -/
-- fast
-- rows
namespace Go.Proofs.Ytmbijfcjfhdnjaa
set_option linter.unusedSimpArgs false
set_option linter.unusedVariables false
open Go.RowKit Go.Lib

theorem frees_trs : ∀ l : List Trm, free.frees (trsC l) = true
  | [] => rfl
  | t :: l => by
    have := frees_trs l
    simp only [trsC, List.flatMap_cons, trC, List.cons_append, List.nil_append, free.frees, free, Bool.true_and] at this ⊢
    exact this
theorem rob_low {n : Nat} {o : Option Value} {r : Rdr} {s : Bool} {l : List AV} (h : rob o r = some (s, l)) : low.lows n l = true := by
  simp only [rob, Option.some.injEq, Prod.mk.injEq] at h
  obtain ⟨_, rfl⟩ := h
  simp [low.lows, low, lows_free (frees_trs r.out)]
theorem trimR {h ex : Hp} {id : Nat} {o : Option Value} {r : Rdr} {a c : Int} (hc : a = c) : ∃ h2 ex', h.set id (rob o r) ++ ex = h2 ++ ex' ∧ h.length ≤ h2.length ∧ low h2.length (.int .i64 a) = true ∧ (∀ (j : Nat) s l, h2[j]? = some (some (s, l)) → (∃ s', h[j]? = some (some (s', l))) ∨ low.lows h2.length l = true) ∧ (.int .i64 a = AV.int .i64 c ∧ ∃ o, h2 = h.set id (rob o r)) := by
  refine ⟨_, ex, rfl, by simp, rfl, fun j s' l' hj => ?_, by rw [hc], o, rfl⟩
  rw [List.getElem?_set] at hj
  split at hj
  · split at hj
    · exact .inr (rob_low (o := o) (r := r) (by simpa using hj))
    · cases hj
  · exact .inl ⟨_, hj⟩
theorem trimR1 {h ex : Hp} {id : Nat} {o : Option Value} {r : Rdr} {a : Int} : ∃ h2 ex', h.set id (rob o r) ++ ex = h2 ++ ex' ∧ h.length ≤ h2.length ∧ low h2.length (.int .i64 a) = true ∧ (∀ (j : Nat) s l, h2[j]? = some (some (s, l)) → (∃ s', h[j]? = some (some (s', l))) ∨ low.lows h2.length l = true) ∧ (∃ o, h2 = h.set id (rob o r)) := by
  obtain ⟨h2, ex', p1, p2, p3, p4, _, p5⟩ := trimR (h := h) (ex := ex) (id := id) (o := o) (r := r) (a := a) (c := a) rfl
  exact ⟨h2, ex', p1, p2, p3, p4, p5⟩
theorem trimR0 {h ex : Hp} {id : Nat} {o : Option Value} {r r' : Rdr} {a c : Int} (ho : h[id]? = some (rob o r)) (hc : c = a ∧ r' = r) : ∃ h2 ex', h ++ ex = h2 ++ ex' ∧ h.length ≤ h2.length ∧ low h2.length (.int .i64 a) = true ∧ (∀ (j : Nat) s l, h2[j]? = some (some (s, l)) → (∃ s', h[j]? = some (some (s', l))) ∨ low.lows h2.length l = true) ∧ (.int .i64 a = AV.int .i64 c ∧ ∃ o, h2 = h.set id (rob o r')) :=
  ⟨h, ex, rfl, Nat.le_refl _, rfl, fun _ s _ hl => .inl ⟨s, hl⟩, by rw [hc.1], o, by rw [hc.2]; exact (hself1 ho).symm⟩
theorem holdE {h : Hp} {id : Nat} {y : Option (Bool × List AV)} (ho : h[id]? = some y) (ex : Hp) : (h ++ ex)[id]? = some y := by
  rw [List.getElem?_append_left (List.getElem?_eq_some_iff.1 ho).1]; exact ho
theorem setlE {h : Hp} {id : Nat} {y : Option (Bool × List AV)} (ho : h[id]? = some y) (ex : Hp) (z : Option (Bool × List AV)) : (h ++ ex).set id z = h.set id z ++ ex :=
  List.set_append_left _ _ (List.getElem?_eq_some_iff.1 ho).1
theorem boxE {h : Hp} {y : Option (Bool × List AV)} : (h ++ [y])[h.length]? = some y := by simp
theorem boxE2 {h : Hp} {id : Nat} {x y z : Option (Bool × List AV)} (ho : h[id]? = some x) : ((h ++ [y]).set id z)[h.length]? = some y := by
  rw [setlE ho, List.getElem?_append_right (by simp), List.length_set, Nat.sub_self]; rfl
theorem rob_eq {o : Option Value} {k : Nat} {l : List AV} {s : List Int} {i : Int} {b : Bool} (r : Rdr) (h1 : k = r.out.length) (h2 : l = trsC r.out) (h3 : s = r.w.reverse) (h4 : i = r.opn) (h5 : b = r.beh) : (some (false, [.lst (.own 45) k l, .stk 3 o s, .int .i64 i, .bool b]) : Option (Bool × List AV)) = rob o r := by
  subst h1; subst h2; subst h3; subst h4; subst h5; rfl
def codeR (r : Rdr) (t : Tok) : Int := match takeR r t with
  | .inl e => e
  | .inr _ => 0
def nextR (r : Rdr) (t : Tok) : Rdr := match takeR r t with
  | .inl _ => r
  | .inr r' => r'
theorem take_inl {r : Rdr} {t : Tok} {e : Int} (h : takeR r t = .inl e) : codeR r t = e ∧ nextR r t = r := by unfold codeR nextR; rw [h]; exact ⟨rfl, rfl⟩
theorem take_inr {r r' : Rdr} {t : Tok} (h : takeR r t = .inr r') : codeR r t = 0 ∧ nextR r t = r' := by unfold codeR nextR; rw [h]; exact ⟨rfl, rfl⟩
set_option maxRecDepth 100000 in
set_option maxHeartbeats 4000000 in
theorem a_part {h : Hp} {id : Nat} {r : Rdr} {o : Option Value} {t : Tok} (ho : h[id]? = some (rob o r)) (hb : r.beh = false) (hl : r.w.length ≤ 10000) (hl2 : r.out.length ≤ 100000) (hl3 : r.opn ≤ 10000) : ACalls Try.prog 62 [.ptr id 0, .agg (tC t)] h (fun a h' => a = .int .i64 (codeR r t) ∧ h' = h.set id (rob none (nextR r t))) := by
  refine ACalls.unn ho ?_
  obtain ⟨out, w, n, b⟩ := r
  simp only at hb hl hl2 hl3
  subst hb
  have ho1 := holdE ho [some (false, tC t)]
  have hs1 : ∀ z, ((h ++ [some (false, tC t)]).set id z)[id]? = some z := fun z => hset1 ho1 z
  have hbx : (h ++ [some (false, tC t)])[h.length]? = some (some (false, tC t)) := boxE
  have hbx2 : ∀ z, ((h ++ [some (false, tC t)]).set id z)[h.length]? = some (some (false, tC t)) := fun z => boxE2 ho
  have hset := setlE ho [some (false, tC t)]
  have hrl : w.reverse.length = w.length := List.length_reverse
  simp only [tC] at ho1 hs1 hbx hbx2 hset ⊢
  refine ACalls.trim (acalls_of mixed J_expr_reader_part_ok (Nat.le_of_ble_eq_true rfl) ?_); simp only [J_expr_reader_part, hbx, wkr,wk,if_true,if_false,forall_const,implies_true,ne_eq,eq_self,Nat.reduceEqDiff,Nat.reduceAdd,Nat.reduceMul,Nat.reduceSub,Nat.reduceLeDiff,Nat.reduceLT,Int.reduceEq,Int.reduceLT,Int.reduceLE,Int.reduceAdd,Int.reduceSub,Int.reduceMul,Int.reduceNeg,Int.reduceNe,reduceCtorEq,Int.reduceToNat,↓reduceIte]
  have hid := (List.getElem?_eq_some_iff.1 ho).1
  have n1 : (id = h.length) = False := by simp; omega
  have n2 : (h.length = id) = False := by simp; omega
  refine ⟨fun k1 => ?_, fun k1 => ?_⟩
  · have hfin : ¬ (w.headD 0 = 5 ∧ t.of ≠ 5) → codeR ⟨out, w, n, false⟩ t = 0 ∧ nextR ⟨out, w, n, false⟩ t = ⟨out ++ [leaf t], w, n, true⟩ := fun hn => take_inr (by
      unfold takeR; rw [if_pos rfl, if_pos k1, if_neg hn])
    refine ACalls.use (a_top ho1 (show w.length ≤ 1000000 by omega)) ?_; rintro _ _ ⟨rfl, rfl⟩; simp only [wkr,wk,if_true,if_false,forall_const,implies_true,ne_eq,eq_self,Nat.reduceEqDiff,Nat.reduceAdd,Nat.reduceMul,Nat.reduceSub,Nat.reduceLeDiff,Nat.reduceLT,Int.reduceEq,Int.reduceLT,Int.reduceLE,Int.reduceAdd,Int.reduceSub,Int.reduceMul,Int.reduceNeg,Int.reduceNe,reduceCtorEq,Int.reduceToNat,↓reduceIte, ho1, hbx, hbx2, hs1, n1, n2]
    refine ⟨fun h5 => ⟨fun h6 => trimR0 ho (take_inl ?_), fun h6 => ?_⟩, fun h5 => ?_⟩
    · unfold takeR; rw [if_pos rfl, if_pos k1, if_pos ⟨h5, h6⟩]
    · obtain ⟨g1, g2⟩ := hfin (fun x => x.2 h6)
      simp only [J_expr_reader_part_j1, wkr,wk,if_true,if_false,forall_const,implies_true,ne_eq,eq_self,Nat.reduceEqDiff,Nat.reduceAdd,Nat.reduceMul,Nat.reduceSub,Nat.reduceLeDiff,Nat.reduceLT,Int.reduceEq,Int.reduceLT,Int.reduceLE,Int.reduceAdd,Int.reduceSub,Int.reduceMul,Int.reduceNeg,Int.reduceNe,reduceCtorEq,Int.reduceToNat,↓reduceIte]
      refine ⟨⟨by omega, by omega⟩, ?_⟩
      rw [hset, rob_eq ⟨out ++ [leaf t], w, n, true⟩ (by simp) (by simp [trsC_sn, leaf]) rfl rfl rfl, g1, g2]
      exact trimR rfl
    · obtain ⟨g1, g2⟩ := hfin (fun x => h5 x.1)
      simp only [J_expr_reader_part_j1, wkr,wk,if_true,if_false,forall_const,implies_true,ne_eq,eq_self,Nat.reduceEqDiff,Nat.reduceAdd,Nat.reduceMul,Nat.reduceSub,Nat.reduceLeDiff,Nat.reduceLT,Int.reduceEq,Int.reduceLT,Int.reduceLE,Int.reduceAdd,Int.reduceSub,Int.reduceMul,Int.reduceNeg,Int.reduceNe,reduceCtorEq,Int.reduceToNat,↓reduceIte]
      refine ⟨⟨by omega, by omega⟩, ?_⟩
      rw [hset, rob_eq ⟨out ++ [leaf t], w, n, true⟩ (by simp) (by simp [trsC_sn, leaf]) rfl rfl rfl, g1, g2]
      exact trimR rfl
  · have no : t.kind ≠ 6 ∨ w.headD 0 = 5 → takeR ⟨out, w, n, false⟩ t = .inl 2 := fun hn => by
      unfold takeR
      rw [if_pos rfl, if_neg k1, if_neg (by rintro ⟨a, b⟩; rcases hn with h | h; exact h a; exact b h)]
    refine ⟨fun k6 => ?_, fun k6 => ?_⟩
    · refine ACalls.use (a_top ho1 (show w.length ≤ 1000000 by omega)) ?_; rintro _ _ ⟨rfl, rfl⟩; simp only [wkr,wk,if_true,if_false,forall_const,implies_true,ne_eq,eq_self,Nat.reduceEqDiff,Nat.reduceAdd,Nat.reduceMul,Nat.reduceSub,Nat.reduceLeDiff,Nat.reduceLT,Int.reduceEq,Int.reduceLT,Int.reduceLE,Int.reduceAdd,Int.reduceSub,Int.reduceMul,Int.reduceNeg,Int.reduceNe,reduceCtorEq,Int.reduceToNat,↓reduceIte, ho1, hbx, hbx2, hs1, n1, n2]
      refine ⟨fun h5 => ⟨fun h1 => trimR0 ho (take_inl ?_), fun h1 => ⟨⟨by omega, by omega⟩, inR_of (by omega) (by omega), ?_⟩⟩, fun h5 => ?_⟩
      · unfold takeR; rw [if_pos rfl, if_neg k1, if_pos ⟨k6, h5⟩, if_pos (by show n = 100; omega)]
      · simp only [J_expr_reader_part_j1, wkr,wk,if_true,if_false,forall_const,implies_true,ne_eq,eq_self,Nat.reduceEqDiff,Nat.reduceAdd,Nat.reduceMul,Nat.reduceSub,Nat.reduceLeDiff,Nat.reduceLT,Int.reduceEq,Int.reduceLT,Int.reduceLE,Int.reduceAdd,Int.reduceSub,Int.reduceMul,Int.reduceNeg,Int.reduceNe,reduceCtorEq,Int.reduceToNat,↓reduceIte]
        obtain ⟨g1, g2⟩ := take_inr (r := ⟨out, w, n, false⟩) (t := t) (r' := ⟨out, 6 :: w, n + 1, false⟩) (by
          unfold takeR; rw [if_pos rfl, if_neg k1, if_pos ⟨k6, h5⟩, if_neg (by show ¬ n = 100; omega)])
        rw [hset, rob_eq ⟨out, 6 :: w, n + 1, false⟩ rfl rfl (by simp) (by simp) rfl, g1, g2]
        exact trimR rfl
      · exact trimR0 ho (take_inl (no (.inr h5)))
    · exact trimR0 ho (take_inl (no (.inl k6)))
set_option maxRecDepth 100000 in
set_option maxHeartbeats 4000000 in
theorem a_take {h : Hp} {id : Nat} {r : Rdr} {o : Option Value} {t : Tok} (ho : h[id]? = some (rob o r)) (hw : rcnt r) (hl : r.w.length ≤ 10000) (hl2 : r.out.length + r.w.length ≤ 10000) (hl3 : r.opn ≤ 10000) : ACalls Try.prog 38 [.ptr id 0, .agg (tC t)] h (fun a h' => a = .int .i64 (codeR r t) ∧ h' = h.set id (rob none (nextR r t))) := by
  refine ACalls.unn ho ?_
  obtain ⟨out, w, n, b⟩ := r
  obtain ⟨kd, nm, tf, ta⟩ := t
  simp only at hl hl2 hl3
  have ho1 := holdE ho [some (false, tC ⟨kd, nm, tf, ta⟩)]
  have hs1 : ∀ z, ((h ++ [some (false, tC ⟨kd, nm, tf, ta⟩)]).set id z)[id]? = some z := fun z => hset1 ho1 z
  have hbx : (h ++ [some (false, tC ⟨kd, nm, tf, ta⟩)])[h.length]? = some (some (false, tC ⟨kd, nm, tf, ta⟩)) := boxE
  have hbx2 : ∀ z, ((h ++ [some (false, tC ⟨kd, nm, tf, ta⟩)]).set id z)[h.length]? = some (some (false, tC ⟨kd, nm, tf, ta⟩)) := fun z => boxE2 ho
  have hset := setlE ho [some (false, tC ⟨kd, nm, tf, ta⟩)]
  have hid := (List.getElem?_eq_some_iff.1 ho).1
  have n1 : (id = h.length) = False := by simp; omega
  have n2 : (h.length = id) = False := by simp; omega
  have hpart : b = false → _ := fun hb => a_part (h := h ++ [some (false, tC ⟨kd, nm, tf, ta⟩)]) (t := ⟨kd, nm, tf, ta⟩) ho1 hb hl (by show out.length ≤ _; omega) hl3
  have hlay : ∀ m : Int, 0 < m → _ := fun m hm => a_lay (h := h ++ [some (false, tC ⟨kd, nm, tf, ta⟩)]) (m := m) ho1 hm hw.2 hl (by show out.length ≤ _; omega)
  have hrc : ∀ m, (popR m w).reverse.length = (popR m w).length := fun m => List.length_reverse
  have hrl : ∀ m, (popR m w).length ≤ w.length := fun m => (List.dropWhile_suffix _).length_le
  simp only [tC] at ho1 hs1 hbx hbx2 hset hpart hlay ⊢
  cases b with
  | false =>
    refine ACalls.trim (acalls_of mixed J_expr_reader_take_ok (Nat.le_of_ble_eq_true rfl) ?_); simp only [J_expr_reader_take, ho1, hbx, wkr,wk,if_true,if_false,forall_const,implies_true,ne_eq,eq_self,Nat.reduceEqDiff,Nat.reduceAdd,Nat.reduceMul,Nat.reduceSub,Nat.reduceLeDiff,Nat.reduceLT,Int.reduceEq,Int.reduceLT,Int.reduceLE,Int.reduceAdd,Int.reduceSub,Int.reduceMul,Int.reduceNeg,Int.reduceNe,reduceCtorEq,Int.reduceToNat,↓reduceIte]
    refine ACalls.use (hpart rfl) ?_; rintro _ _ ⟨rfl, rfl⟩; simp only [wkr,wk,if_true,if_false,forall_const,implies_true,ne_eq,eq_self,Nat.reduceEqDiff,Nat.reduceAdd,Nat.reduceMul,Nat.reduceSub,Nat.reduceLeDiff,Nat.reduceLT,Int.reduceEq,Int.reduceLT,Int.reduceLE,Int.reduceAdd,Int.reduceSub,Int.reduceMul,Int.reduceNeg,Int.reduceNe,reduceCtorEq,Int.reduceToNat,↓reduceIte]
    rw [hset]
    exact trimR1
  | true =>
    by_cases hk : 0 < bindK kd
    · have hk1 := bind_pos hk
      obtain ⟨g1, g2⟩ := take_inr (r := ⟨out, w, n, true⟩) (t := ⟨kd, nm, tf, ta⟩) (r' := ⟨out ++ (popL (bindK kd) w).map sgn, kd :: popR (bindK kd) w, n, false⟩) (by
        unfold takeR; rw [if_neg (by simp), if_pos hk])
      have hla := hlay _ hk
      simp only [layR, rob] at hla
      have qb := p_bind kd
      rw [bindP_ne (bind_ne hk).1] at qb
      have hrl2 := hrl (bindK kd)
      have hrc2 := hrc (bindK kd)
      rw [g1, g2]
      rcases hk1 with rfl | rfl | rfl | rfl
      all_goals
        refine ACalls.trim (acalls_of mixed J_expr_reader_take_ok (Nat.le_of_ble_eq_true rfl) ?_); simp only [J_expr_reader_take, ho1, hbx, wkr,wk,if_true,if_false,forall_const,implies_true,ne_eq,eq_self,Nat.reduceEqDiff,Nat.reduceAdd,Nat.reduceMul,Nat.reduceSub,Nat.reduceLeDiff,Nat.reduceLT,Int.reduceEq,Int.reduceLT,Int.reduceLE,Int.reduceAdd,Int.reduceSub,Int.reduceMul,Int.reduceNeg,Int.reduceNe,reduceCtorEq,Int.reduceToNat,↓reduceIte]
        simp only [J_expr_reader_take_j2, hbx, wkr,wk,if_true,if_false,forall_const,implies_true,ne_eq,eq_self,Nat.reduceEqDiff,Nat.reduceAdd,Nat.reduceMul,Nat.reduceSub,Nat.reduceLeDiff,Nat.reduceLT,Int.reduceEq,Int.reduceLT,Int.reduceLE,Int.reduceAdd,Int.reduceSub,Int.reduceMul,Int.reduceNeg,Int.reduceNe,reduceCtorEq,Int.reduceToNat,↓reduceIte]
        refine PCalls.use (qb) ?_; simp only [wkr,wk,if_true,if_false,forall_const,implies_true,ne_eq,eq_self,Nat.reduceEqDiff,Nat.reduceAdd,Nat.reduceMul,Nat.reduceSub,Nat.reduceLeDiff,Nat.reduceLT,Int.reduceEq,Int.reduceLT,Int.reduceLE,Int.reduceAdd,Int.reduceSub,Int.reduceMul,Int.reduceNeg,Int.reduceNe,reduceCtorEq,Int.reduceToNat,↓reduceIte]
        refine ACalls.use (hla) ?_; rintro _ _ ⟨rfl, rfl⟩; simp only [wkr,wk,if_true,if_false,forall_const,implies_true,ne_eq,eq_self,Nat.reduceEqDiff,Nat.reduceAdd,Nat.reduceMul,Nat.reduceSub,Nat.reduceLeDiff,Nat.reduceLT,Int.reduceEq,Int.reduceLT,Int.reduceLE,Int.reduceAdd,Int.reduceSub,Int.reduceMul,Int.reduceNeg,Int.reduceNe,reduceCtorEq,Int.reduceToNat,↓reduceIte, ho1, hbx, hbx2, hs1, n1, n2]
        simp only [J_expr_reader_take_j1, wkr,wk,if_true,if_false,forall_const,implies_true,ne_eq,eq_self,Nat.reduceEqDiff,Nat.reduceAdd,Nat.reduceMul,Nat.reduceSub,Nat.reduceLeDiff,Nat.reduceLT,Int.reduceEq,Int.reduceLT,Int.reduceLE,Int.reduceAdd,Int.reduceSub,Int.reduceMul,Int.reduceNeg,Int.reduceNe,reduceCtorEq,Int.reduceToNat,↓reduceIte]
        refine ⟨⟨by omega, by omega⟩, ?_⟩
        rw [hset, rob_eq ⟨out ++ (popL _ w).map sgn, _ :: popR _ w, n, false⟩ rfl rfl List.reverse_cons.symm rfl rfl]
        exact trimR1
    · have nb : ∀ k : Int, 0 < bindK k → (kd = k) = False := fun k hk2 => by simp; rintro rfl; exact hk hk2
      have e2 := nb 2 (by decide)
      have e3 := nb 3 (by decide)
      have e4 := nb 4 (by decide)
      have e5 := nb 5 (by decide)
      by_cases k7 : kd = 7
      · subst k7
        by_cases hn : n = 0
        · subst hn
          obtain ⟨g1, g2⟩ := take_inl (r := ⟨out, w, 0, true⟩) (t := ⟨7, nm, tf, ta⟩) (e := 2) (by unfold takeR; rw [if_neg (by simp), if_neg hk, if_pos rfl, if_pos rfl])
          refine ACalls.trim (acalls_of mixed J_expr_reader_take_ok (Nat.le_of_ble_eq_true rfl) ?_); simp only [J_expr_reader_take, ho1, hbx, wkr,wk,if_true,if_false,forall_const,implies_true,ne_eq,eq_self,Nat.reduceEqDiff,Nat.reduceAdd,Nat.reduceMul,Nat.reduceSub,Nat.reduceLeDiff,Nat.reduceLT,Int.reduceEq,Int.reduceLT,Int.reduceLE,Int.reduceAdd,Int.reduceSub,Int.reduceMul,Int.reduceNeg,Int.reduceNe,reduceCtorEq,Int.reduceToNat,↓reduceIte]
          simp only [J_expr_reader_take_j2, ho1, hbx, (show (((0 : Nat) : Int) = 0) = True by simp), wkr,wk,if_true,if_false,forall_const,implies_true,ne_eq,eq_self,Nat.reduceEqDiff,Nat.reduceAdd,Nat.reduceMul,Nat.reduceSub,Nat.reduceLeDiff,Nat.reduceLT,Int.reduceEq,Int.reduceLT,Int.reduceLE,Int.reduceAdd,Int.reduceSub,Int.reduceMul,Int.reduceNeg,Int.reduceNe,reduceCtorEq,Int.reduceToNat,↓reduceIte]
          exact trimR0 ho ⟨g1, g2⟩
        · obtain ⟨g1, g2⟩ := take_inr (r := ⟨out, w, n, true⟩) (t := ⟨7, nm, tf, ta⟩) (r' := ⟨out ++ (popL 1 w).map sgn, (popR 1 w).tail, n - 1, true⟩) (by
            unfold takeR; rw [if_neg (by simp), if_neg hk, if_pos rfl, if_neg hn])
          have hla := hlay 1 (by decide)
          simp only [layR, rob] at hla
          refine ACalls.trim (acalls_of mixed J_expr_reader_take_ok (Nat.le_of_ble_eq_true rfl) ?_); simp only [J_expr_reader_take, ho1, hbx, wkr,wk,if_true,if_false,forall_const,implies_true,ne_eq,eq_self,Nat.reduceEqDiff,Nat.reduceAdd,Nat.reduceMul,Nat.reduceSub,Nat.reduceLeDiff,Nat.reduceLT,Int.reduceEq,Int.reduceLT,Int.reduceLE,Int.reduceAdd,Int.reduceSub,Int.reduceMul,Int.reduceNeg,Int.reduceNe,reduceCtorEq,Int.reduceToNat,↓reduceIte]
          simp only [J_expr_reader_take_j2, ho1, hbx, (show ((n : Int) = 0) = False by simp; omega), wkr,wk,if_true,if_false,forall_const,implies_true,ne_eq,eq_self,Nat.reduceEqDiff,Nat.reduceAdd,Nat.reduceMul,Nat.reduceSub,Nat.reduceLeDiff,Nat.reduceLT,Int.reduceEq,Int.reduceLT,Int.reduceLE,Int.reduceAdd,Int.reduceSub,Int.reduceMul,Int.reduceNeg,Int.reduceNe,reduceCtorEq,Int.reduceToNat,↓reduceIte]
          refine ACalls.use (hla) ?_; rintro _ _ ⟨rfl, rfl⟩; simp only [wkr,wk,if_true,if_false,forall_const,implies_true,ne_eq,eq_self,Nat.reduceEqDiff,Nat.reduceAdd,Nat.reduceMul,Nat.reduceSub,Nat.reduceLeDiff,Nat.reduceLT,Int.reduceEq,Int.reduceLT,Int.reduceLE,Int.reduceAdd,Int.reduceSub,Int.reduceMul,Int.reduceNeg,Int.reduceNe,reduceCtorEq,Int.reduceToNat,↓reduceIte, ho1, hbx, hbx2, hs1, n1, n2]
          intro v
          obtain ⟨R, e1, _⟩ := popR_close (P := w) (by have := hw.1; simp only at this; omega) hw.2
          have hR := hrl 1
          rw [e1] at hR g2
          rw [List.length_cons] at hR
          have q1 : (6 :: R).reverse.length = R.length + 1 := by simp
          have q2 : (((6 :: R).reverse.length : Int) - 1).toNat = R.length := by omega
          have q3 : (6 :: R).reverse.take R.length = R.reverse := by
            have := List.take_left (l₁ := R.reverse) (l₂ := [6])
            rw [List.length_reverse] at this
            rw [List.reverse_cons]; exact this
          rw [e1, q2, q3]
          refine ⟨inR_of (by omega) (by omega), ⟨by omega, by omega⟩, by omega, inR_of (by omega) (by omega), ?_⟩
          simp only [J_expr_reader_take_j1, wkr,wk,if_true,if_false,forall_const,implies_true,ne_eq,eq_self,Nat.reduceEqDiff,Nat.reduceAdd,Nat.reduceMul,Nat.reduceSub,Nat.reduceLeDiff,Nat.reduceLT,Int.reduceEq,Int.reduceLT,Int.reduceLE,Int.reduceAdd,Int.reduceSub,Int.reduceMul,Int.reduceNeg,Int.reduceNe,reduceCtorEq,Int.reduceToNat,↓reduceIte]
          rw [hset, rob_eq ⟨out ++ (popL 1 w).map sgn, R, n - 1, true⟩ rfl rfl rfl (by show (n : Int) - 1 = ((n - 1 : Nat) : Int); omega) rfl, g1, g2]
          exact trimR rfl
      · have e7 : (kd = 7) = False := by simpa using k7
        refine ACalls.trim (acalls_of mixed J_expr_reader_take_ok (Nat.le_of_ble_eq_true rfl) ?_); simp only [J_expr_reader_take, ho1, hbx, e2, e3, e4, e5, wkr,wk,if_true,if_false,forall_const,implies_true,ne_eq,eq_self,Nat.reduceEqDiff,Nat.reduceAdd,Nat.reduceMul,Nat.reduceSub,Nat.reduceLeDiff,Nat.reduceLT,Int.reduceEq,Int.reduceLT,Int.reduceLE,Int.reduceAdd,Int.reduceSub,Int.reduceMul,Int.reduceNeg,Int.reduceNe,reduceCtorEq,Int.reduceToNat,↓reduceIte]
        simp only [J_expr_reader_take_j2, ho1, hbx, e7, wkr,wk,if_true,if_false,forall_const,implies_true,ne_eq,eq_self,Nat.reduceEqDiff,Nat.reduceAdd,Nat.reduceMul,Nat.reduceSub,Nat.reduceLeDiff,Nat.reduceLT,Int.reduceEq,Int.reduceLT,Int.reduceLE,Int.reduceAdd,Int.reduceSub,Int.reduceMul,Int.reduceNeg,Int.reduceNe,reduceCtorEq,Int.reduceToNat,↓reduceIte]
        exact trimR0 ho (take_inl (by unfold takeR; rw [if_neg (by simp), if_neg hk, if_neg k7]))
end Go.Proofs.Ytmbijfcjfhdnjaa

/- Expressions: Read. -/
-- fast
-- rows
namespace Go.Proofs.Ytmbijfcjfhdnjaa
set_option linter.unusedSimpArgs false
set_option linter.unusedVariables false
open Go.RowKit Go.Lib

/-- may a token be written? -/
def wdB (t : Tok) : Bool := !decide (wordT t.kind t.name t.of = ⟨#[]⟩)
def resX (r : List Trm × Nat × Int) : AV := .tup [vTrs r.1, .int .i64 r.2.1, .int .i64 r.2.2]
theorem free_resX (r : List Trm × Nat × Int) : free (resX r) = true := by simp [resX, vTrs, free, free.frees, frees_trs]
theorem rdps_trs : ∀ l : List Trm, rdps (trsC l) = trsC l
  | [] => rdps_nil
  | x :: l => by
    have := rdps_trs l
    simp only [trsC, List.flatMap_cons, trC, List.cons_append, List.nil_append, rdpw] at this ⊢
    rw [this]
theorem take_size {r r' : Rdr} {t : Tok} (h : takeR r t = .inr r') : r'.out.length + r'.w.length ≤ r.out.length + r.w.length + 1 := by
  have key : ∀ m, (popL m r.w).length + (popR m r.w).length = r.w.length := fun m => by
    rw [← List.length_append, popL, popR, List.takeWhile_append_dropWhile]
  unfold takeR at h
  split at h
  · split at h
    · split at h
      · cases h
      · simp only [Sum.inr.injEq] at h; subst h; simp; omega
    · split at h
      · split at h
        · cases h
        · simp only [Sum.inr.injEq] at h; subst h; simp; omega
      · cases h
  · split at h
    · simp only [Sum.inr.injEq] at h; subst h
      have := key (bindK t.kind)
      simp only [List.length_append, List.length_map, List.length_cons]; omega
    · split at h
      · split at h
        · cases h
        · simp only [Sum.inr.injEq] at h; subst h
          have := key 1
          simp only [List.length_append, List.length_map, List.length_tail]; omega
      · cases h
theorem rcnt_le {r : Rdr} (h : rcnt r) : r.opn ≤ r.w.length := by rw [← h.1]; exact List.count_le_length
set_option maxRecDepth 100000 in
set_option maxHeartbeats 4000000 in
theorem p_read (l : List Tok) (hl : l.length ≤ 5000) (hn : ∀ t ∈ l, t.name.size ≤ 1000000) : PCalls Try.prog 19 [vToks l] (resX (readR wdB l)) := by
  refine pcalls_of (by simp [vToks, free, free.frees, frees_toks]) (free_resX _) (ACalls.deep (acalls_of mixed J_expr_Read_ok (Nat.le_of_ble_eq_true rfl) ?_)); simp only [J_expr_Read, vToks, wkr,wk,if_true,if_false,forall_const,implies_true,ne_eq,eq_self,Nat.reduceEqDiff,Nat.reduceAdd,Nat.reduceMul,Nat.reduceSub,Nat.reduceLeDiff,Nat.reduceLT,Int.reduceEq,Int.reduceLT,Int.reduceLE,Int.reduceAdd,Int.reduceSub,Int.reduceMul,Int.reduceNeg,Int.reduceNe,reduceCtorEq,Int.reduceToNat,↓reduceIte]
  refine W_loop (fun m fr h' => ∃ i : Nat, i ≤ l.length ∧ m = l.length - i ∧ (∀ j (hj : j < l.length), j < i → wdB l[j] = true) ∧ fr = [(0, .lst .ro l.length (toksC l)), (11, .lst .ro l.length (toksC l)), (12, .int .i64 l.length), (13, .int .i64 i)]) l.length ⟨0, by omega, by omega, fun j _ h => by omega, rfl⟩ ?_
  rintro m fr h' ⟨i, hi, rfl, hw, rfl⟩
  simp only [J_expr_Read_j4, wkr,wk,if_true,if_false,forall_const,implies_true,ne_eq,eq_self,Nat.reduceEqDiff,Nat.reduceAdd,Nat.reduceMul,Nat.reduceSub,Nat.reduceLeDiff,Nat.reduceLT,Int.reduceEq,Int.reduceLT,Int.reduceLE,Int.reduceAdd,Int.reduceSub,Int.reduceMul,Int.reduceNeg,Int.reduceNe,reduceCtorEq,Int.reduceToNat,↓reduceIte]
  refine ⟨fun hlt => ?_, fun hge => ?_⟩
  · have hil : i < l.length := by omega
    have hd : (toksC l).drop ((i : Int).toNat * 4) = _ := toksC_drop hil
    have qw := p_word l[i].kind l[i].name l[i].of l[i].at_ (hn _ (List.getElem_mem hil))
    refine ⟨⟨by omega, by omega⟩, ?_⟩
    simp only [wkr,wk,if_true,if_false,forall_const,implies_true,ne_eq,eq_self,Nat.reduceEqDiff,Nat.reduceAdd,Nat.reduceMul,Nat.reduceSub,Nat.reduceLeDiff,Nat.reduceLT,Int.reduceEq,Int.reduceLT,Int.reduceLE,Int.reduceAdd,Int.reduceSub,Int.reduceMul,Int.reduceNeg,Int.reduceNe,reduceCtorEq,Int.reduceToNat,↓reduceIte, hd]
    refine PCalls.use (qw) ?_; simp only [wkr,wk,if_true,if_false,forall_const,implies_true,ne_eq,eq_self,Nat.reduceEqDiff,Nat.reduceAdd,Nat.reduceMul,Nat.reduceSub,Nat.reduceLeDiff,Nat.reduceLT,Int.reduceEq,Int.reduceLT,Int.reduceLE,Int.reduceAdd,Int.reduceSub,Int.reduceMul,Int.reduceNeg,Int.reduceNe,reduceCtorEq,Int.reduceToNat,↓reduceIte]
    refine ⟨fun h0 => ?_, fun h0 => ⟨inR_of (by omega) (by omega), l.length - (i + 1), by omega, i + 1, by omega, rfl, fun j hj hji => ?_, rfl⟩⟩
    · have hf : l.findIdx? (fun t => !wdB t) = some i := by
        rw [List.findIdx?_eq_some_iff_getElem]
        refine ⟨hil, by simp [wdB, h0], fun j hj => ?_⟩
        rw [hw j (by omega) hj]; simp
      unfold readR
      rw [hf]
      simp only [rdpw, resX, vTrs]
      rfl
    · rcases Nat.lt_or_ge j i with h1 | h1
      · exact hw j hj h1
      · obtain rfl : j = i := by omega
        simpa [wdB] using h0
  · have hall : ∀ t ∈ l, wdB t = true := fun t ht => by
      obtain ⟨j, hj, rfl⟩ := List.mem_iff_getElem.1 ht
      exact hw j hj (by omega)
    have hr0 := runR_eq l 0 false ⟨[], [], 0, false⟩ (fun _ => by simp)
    rw [readR_acc hall]
    simp only [J_expr_Read_j3, wkr,wk,if_true,if_false,forall_const,implies_true,ne_eq,eq_self,Nat.reduceEqDiff,Nat.reduceAdd,Nat.reduceMul,Nat.reduceSub,Nat.reduceLeDiff,Nat.reduceLT,Int.reduceEq,Int.reduceLT,Int.reduceLE,Int.reduceAdd,Int.reduceSub,Int.reduceMul,Int.reduceNeg,Int.reduceNe,reduceCtorEq,Int.reduceToNat,↓reduceIte]
    obtain ⟨id, hid⟩ : ∃ id, id = h'.length := ⟨_, rfl⟩
    rw [← hid]
    refine W_loop (fun m fr h'' => ∃ (i : Nat) (r : Rdr), i ≤ l.length ∧ m = l.length - i ∧ runR 0 ⟨[], [], 0, false⟩ l = runR i r (l.drop i) ∧ rcnt r ∧ r.out.length + r.w.length ≤ i ∧ h''[id]? = some (rob none r) ∧ fr = [(0, .lst .ro l.length (toksC l)), (7, .ptr id 0), (23, .lst .ro l.length (toksC l)), (24, .int .i64 l.length), (25, .int .i64 i)]) l.length ⟨0, ⟨[], [], 0, false⟩, by omega, by omega, rfl, ⟨rfl, by simp⟩, by simp, by rw [hid]; exact boxE, rfl⟩ ?_
    rintro m fr h'' ⟨i2, r, hi2, rfl, hrun, hrc, hsz, hob, rfl⟩
    simp only [J_expr_Read_j2, wkr,wk,if_true,if_false,forall_const,implies_true,ne_eq,eq_self,Nat.reduceEqDiff,Nat.reduceAdd,Nat.reduceMul,Nat.reduceSub,Nat.reduceLeDiff,Nat.reduceLT,Int.reduceEq,Int.reduceLT,Int.reduceLE,Int.reduceAdd,Int.reduceSub,Int.reduceMul,Int.reduceNeg,Int.reduceNe,reduceCtorEq,Int.reduceToNat,↓reduceIte]
    refine ⟨fun hlt => ?_, fun hge2 => ?_⟩
    · have hil : i2 < l.length := by omega
      have hd : (toksC l).drop ((i2 : Int).toNat * 4) = _ := toksC_drop hil
      refine ⟨⟨by omega, by omega⟩, ?_⟩
      have htk := fun ex => a_take (t := l[i2]) (holdE hob ex) hrc (by omega) (by omega) (by have := rcnt_le hrc; omega)
      simp only [tC] at htk
      rw [List.drop_eq_getElem_cons hil] at hrun
      simp only [runR] at hrun
      simp only [wkr,wk,if_true,if_false,forall_const,implies_true,ne_eq,eq_self,Nat.reduceEqDiff,Nat.reduceAdd,Nat.reduceMul,Nat.reduceSub,Nat.reduceLeDiff,Nat.reduceLT,Int.reduceEq,Int.reduceLT,Int.reduceLE,Int.reduceAdd,Int.reduceSub,Int.reduceMul,Int.reduceNeg,Int.reduceNe,reduceCtorEq,Int.reduceToNat,↓reduceIte, hd]
      refine ACalls.use (htk _) ?_; rintro _ _ ⟨rfl, rfl⟩; simp only [wkr,wk,if_true,if_false,forall_const,implies_true,ne_eq,eq_self,Nat.reduceEqDiff,Nat.reduceAdd,Nat.reduceMul,Nat.reduceSub,Nat.reduceLeDiff,Nat.reduceLT,Int.reduceEq,Int.reduceLT,Int.reduceLE,Int.reduceAdd,Int.reduceSub,Int.reduceMul,Int.reduceNeg,Int.reduceNe,reduceCtorEq,Int.reduceToNat,↓reduceIte]
      cases ht : takeR r l[i2] with
      | inl e =>
        rw [ht] at hrun
        simp only at hrun
        rw [hrun] at hr0
        obtain ⟨g1, g2⟩ := take_inl ht
        rw [g1]
        cases hc : ctlE 100 0 false 0 false l with
        | inr y => rw [hc] at hr0; cases hr0
        | inl y =>
          rw [hc] at hr0
          simp only [Sum.inl.injEq] at hr0
          subst hr0
          obtain ⟨_, _, he⟩ := ctlE_lt _ _ _ _ _ _ _ hc
          refine ⟨fun h0 => ?_, fun h0 => absurd h0 (by omega)⟩
          simp only [rdpw, resX, vTrs]
          rfl
      | inr r' =>
        rw [ht] at hrun
        simp only at hrun
        obtain ⟨g1, g2⟩ := take_inr ht
        rw [g1, g2]
        refine ⟨fun h => absurd rfl h, fun _ => ⟨inR_of (by omega) (by omega), l.length - (i2 + 1), by omega, i2 + 1, r', by omega, rfl, hrun, rcnt_take hrc ht, by have := take_size ht; omega, hset1 (holdE hob _) _, rfl⟩⟩
    · obtain rfl : i2 = l.length := by omega
      rw [List.drop_length] at hrun
      simp only [runR] at hrun
      rw [hrun] at hr0
      cases hc : ctlE 100 0 false 0 false l with
      | inl y => rw [hc] at hr0; cases hr0
      | inr y =>
        obtain ⟨b, n⟩ := y
        rw [hc] at hr0
        simp only [Sum.inr.injEq] at hr0
        obtain ⟨out, w, opn, beh⟩ := r
        simp only [Rdr.mk.injEq] at hr0
        obtain ⟨rfl, rfl, rfl, rfl⟩ := hr0
        have hla := a_lay (m := 1) hob (by decide) hrc.2 (by simp only at hsz ⊢; omega) (by simp only at hsz ⊢; omega)
        have hob2 := hset1 hob (rob none (layR 1 ⟨(srun l ([], [])).1, (srun l ([], [])).2, opn, beh⟩))
        simp only [rob, layR] at hla hob hob2
        have hrd : (srun l ([], [])).1 ++ (popL 1 (srun l ([], [])).2).map sgn = readD l := rfl
        rw [hrd] at hla hob2
        simp only [J_expr_Read_j1, hob, wkr,wk,if_true,if_false,forall_const,implies_true,ne_eq,eq_self,Nat.reduceEqDiff,Nat.reduceAdd,Nat.reduceMul,Nat.reduceSub,Nat.reduceLeDiff,Nat.reduceLT,Int.reduceEq,Int.reduceLT,Int.reduceLE,Int.reduceAdd,Int.reduceSub,Int.reduceMul,Int.reduceNeg,Int.reduceNe,reduceCtorEq,Int.reduceToNat,↓reduceIte]
        refine ⟨fun hb => ⟨fun h0 => ?_, fun h0 => ?_⟩, fun hb => ?_⟩
        · rw [if_pos (.inr (by omega))]
          simp only [rdpw, resX, vTrs]
          rfl
        · rw [if_neg (by rw [hb]; simp; omega)]
          refine ACalls.use (hla) ?_; rintro _ _ ⟨rfl, rfl⟩; simp only [wkr,wk,if_true,if_false,forall_const,implies_true,ne_eq,eq_self,Nat.reduceEqDiff,Nat.reduceAdd,Nat.reduceMul,Nat.reduceSub,Nat.reduceLeDiff,Nat.reduceLT,Int.reduceEq,Int.reduceLT,Int.reduceLE,Int.reduceAdd,Int.reduceSub,Int.reduceMul,Int.reduceNeg,Int.reduceNe,reduceCtorEq,Int.reduceToNat,↓reduceIte, hob2]
          refine ⟨fun h2 => ?_, fun h2 => ?_⟩
          · rw [if_pos (by omega)]
            simp only [rdpw, resX, vTrs]
            rfl
          · rw [if_neg (by omega)]
            simp only [rdpw, resX, vTrs, rdps_trs]
            rfl
        · rw [if_pos (.inl hb)]
          simp only [rdpw, resX, vTrs]
          rfl
end Go.Proofs.Ytmbijfcjfhdnjaa

/- Expressions: the document's Read. -/
-- fast
-- rows
namespace Go.Proofs.Ytmbijfcjfhdnjaa
set_option linter.unusedSimpArgs false
set_option linter.unusedVariables false
open Go.RowKit Go.Lib

theorem eqTrue {p : Prop} (h : p) : p = True := eq_true h
theorem eqFalse {p : Prop} (h : ¬ p) : p = False := eq_false h
end Go.Proofs.Ytmbijfcjfhdnjaa

/- Expressions: the document's terms, and its Read. -/
-- fast
-- rows
namespace Go.Proofs.Ytmbijfcjfhdnjaa
set_option linter.unusedSimpArgs false
set_option linter.unusedVariables false
open Go.RowKit Go.Lib

theorem srun_size : ∀ (l : List Tok) (s : List Trm × List Int), (srun l s).1.length + (srun l s).2.length ≤ s.1.length + s.2.length + l.length
  | [], s => by simp [srun]
  | t :: l, s => by
    have ih := srun_size l (sstep s t)
    have key : ∀ m, (popL m s.2).length + (popR m s.2).length = s.2.length := fun m => by
      rw [← List.length_append, popL, popR, List.takeWhile_append_dropWhile]
    have h1 : (sstep s t).1.length + (sstep s t).2.length ≤ s.1.length + s.2.length + 1 := by
      unfold sstep
      split
      · simp; omega
      · split
        · simp; omega
        · split
          · have := key 1
            simp only [List.length_append, List.length_map, List.length_tail]; omega
          · have := key (bindK t.kind)
            simp only [List.length_append, List.length_map, List.length_cons]; omega
    show (srun l (sstep s t)).1.length + (srun l (sstep s t)).2.length ≤ _
    rw [List.length_cons]; omega
theorem readD_size (l : List Tok) : (readD l).length ≤ l.length := by
  have h1 := srun_size l ([], [])
  have h2 : (popL 1 (srun l ([], [])).2).length ≤ (srun l ([], [])).2.length := (List.takeWhile_prefix _).length_le
  unfold readD
  simp only [List.length_append, List.length_map, List.length_nil] at h1 ⊢
  omega
theorem trsC_app (a b : List Trm) : trsC (a ++ b) = trsC a ++ trsC b := by simp [trsC]
end Go.Proofs.Ytmbijfcjfhdnjaa

/- The program's name and sign. -/
namespace Go.Proofs.Ytmbijfcjfhdnjaa
set_option linter.unusedSimpArgs false
set_option linter.unusedVariables false
open Go.RowKit Go.Lib

def colonL (l : List UInt8) : Bool := match l with
  | [] => false
  | b :: _ => b.toNat == 58
/-- a name's token, as the program tells it -/
def pnameL (l : List UInt8) : Sig :=
  if aheW (ba (l.take (stopN innI l))) ≠ 0 ∧ colonL (l.drop (stopN innI l)) = true then
    (1, ba ((l.drop (stopN innI l + 1)).take (stopN innI (l.drop (stopN innI l + 1)))), aheW (ba (l.take (stopN innI l))), stopN innI l + 1 + stopN innI (l.drop (stopN innI l + 1)))
  else if keyW (ba (l.take (stopN innI l))) ≠ 0 then (keyW (ba (l.take (stopN innI l))), ba [], 0, stopN innI l)
  else (1, ba (l.take (stopN innI l)), 3, stopN innI l)
def sigV (x : Sig) (a : Nat) : AV := .tup [.agg [.int .i64 x.1, .str x.2.1, .int .i64 x.2.2.1, .int .i64 0], .int .i64 (a + x.2.2.2 : Nat)]
set_option maxRecDepth 100000 in
set_option maxHeartbeats 4000000 in
theorem p_pname (s : ByteArray) (a : Nat) (hs : s.size ≤ 1000000) (ha : a < s.size) :
    PCalls Try.prog 57 [.str s, .int .i64 a] (sigV (pnameL (s.data.toList.drop a)) a) := by
  have hl := len_size s
  obtain ⟨L, hL⟩ : ∃ L, L = s.data.toList.drop a := ⟨_, rfl⟩
  have hLl : L.length = s.size - a := by rw [hL, List.length_drop]; omega
  have hle := stopN_le innI L
  have q1 := p_stop (f := 76) p_inName hi_inn s a hs (by omega)
  rw [← hL] at q1 ⊢
  obtain ⟨m, hm⟩ : ∃ m, m = stopN innI L := ⟨_, rfl⟩
  rw [← hm] at q1 hle
  rw [show ((a : Int) + (m : Nat)) = ((a + m : Nat) : Int) by omega] at q1
  refine pcalls_of (by first | rfl | simp [free, free.frees, frees_str, frees_u8, frees_u16]) (by first | rfl | simp [free, free.frees, frees_str, frees_u8, frees_u16]) (acalls_of mixed J_token_name_ok (Nat.le_of_ble_eq_true rfl) ?_); simp only [J_token_name, wk,if_true,if_false,forall_const,implies_true,ne_eq,eq_self,Nat.reduceEqDiff,Nat.reduceAdd,Nat.reduceMul,Nat.reduceSub,Nat.reduceLeDiff,Nat.reduceLT,Int.reduceEq,Int.reduceLT,Int.reduceLE,Int.reduceAdd,Int.reduceSub,Int.reduceMul,Int.reduceNeg,Int.reduceNe,reduceCtorEq,Int.reduceToNat,↓reduceIte]
  refine PCalls.use (q1) ?_; simp only [wk,if_true,if_false,forall_const,implies_true,ne_eq,eq_self,Nat.reduceEqDiff,Nat.reduceAdd,Nat.reduceMul,Nat.reduceSub,Nat.reduceLeDiff,Nat.reduceLT,Int.reduceEq,Int.reduceLT,Int.reduceLE,Int.reduceAdd,Int.reduceSub,Int.reduceMul,Int.reduceNeg,Int.reduceNe,reduceCtorEq,Int.reduceToNat,↓reduceIte]
  have hw : s.extract a (a + m) = ba (L.take m) := by rw [ext_ba, ← hL]
  simp only [Int.toNat_natCast, hw, wk,if_true,if_false,forall_const,implies_true,ne_eq,eq_self,Nat.reduceEqDiff,Nat.reduceAdd,Nat.reduceMul,Nat.reduceSub,Nat.reduceLeDiff,Nat.reduceLT,Int.reduceEq,Int.reduceLT,Int.reduceLE,Int.reduceAdd,Int.reduceSub,Int.reduceMul,Int.reduceNeg,Int.reduceNe,reduceCtorEq,Int.reduceToNat,↓reduceIte]
  refine ⟨⟨by omega, by omega, by omega⟩, ?_⟩
  refine PCalls.use (p_ahead (ba (L.take m))) ?_; simp only [wk,if_true,if_false,forall_const,implies_true,ne_eq,eq_self,Nat.reduceEqDiff,Nat.reduceAdd,Nat.reduceMul,Nat.reduceSub,Nat.reduceLeDiff,Nat.reduceLT,Int.reduceEq,Int.reduceLT,Int.reduceLE,Int.reduceAdd,Int.reduceSub,Int.reduceMul,Int.reduceNeg,Int.reduceNe,reduceCtorEq,Int.reduceToNat,↓reduceIte]
  have hcol : colonL (L.drop m) = true ↔ (a + m < s.size ∧ byteAt s (a + m) = 58) := by
    rcases Nat.lt_or_ge (a + m) s.size with h | h
    · have hml : m < L.length := by omega
      rw [List.drop_eq_getElem_cons hml]
      have e : L[m] = s.data.toList[a + m] := by simp only [hL, List.getElem_drop]
      rw [byte_at (show a + m < s.data.toList.length by omega), ← e]
      simp [colonL, h]
    · rw [List.drop_of_length_le (by omega)]
      simp [colonL]; omega
  have hd2 : s.data.toList.drop (a + m + 1) = L.drop (m + 1) := by rw [hL, List.drop_drop, Nat.add_assoc]
  have e1 : ((a : Int) + (m : Nat)) = ((a + m : Nat) : Int) := by omega
  have yes : (aheW (ba (L.take m)) ≠ 0 ∧ colonL (L.drop m) = true) → pnameL L = (1, ba ((L.drop (m + 1)).take (stopN innI (L.drop (m + 1)))), aheW (ba (L.take m)), m + 1 + stopN innI (L.drop (m + 1))) := fun h => by
    unfold pnameL; rw [← hm, if_pos h]
  have no : ¬ (aheW (ba (L.take m)) ≠ 0 ∧ colonL (L.drop m) = true) → pnameL L = if keyW (ba (L.take m)) ≠ 0 then (keyW (ba (L.take m)), ba [], 0, m) else (1, ba (L.take m), 3, m) := fun h => by
    unfold pnameL; rw [← hm, if_neg h]
  have qk := p_keyword (ba (L.take m))
  refine ⟨fun h1 => ⟨fun h2 => ⟨⟨by omega, by omega⟩, fun h3 => ⟨inR_of (by omega) (by omega), ?_⟩, fun h3 => ?_⟩, fun h2 => ?_⟩, fun h1 => ?_⟩
  · rw [Int.toNat_natCast] at h3
    have q2 := p_stop (f := 76) p_inName hi_inn s (a + m + 1) hs (by omega)
    rw [hd2] at q2
    have y := yes ⟨h1, hcol.2 ⟨by omega, by omega⟩⟩
    obtain ⟨m2, hm2⟩ : ∃ m2, m2 = stopN innI (L.drop (m + 1)) := ⟨_, rfl⟩
    rw [← hm2] at q2 y
    have hle2 : m2 ≤ (L.drop (m + 1)).length := by rw [hm2]; exact stopN_le _ _
    rw [List.length_drop] at hle2
    rw [show ((a + m : Nat) : Int) + 1 = ((a + m + 1 : Nat) : Int) by omega]
    rw [show ((a + m + 1 : Nat) : Int) + (m2 : Nat) = ((a + m + 1 + m2 : Nat) : Int) by omega] at q2
    refine PCalls.use (q2) ?_; simp only [wk,if_true,if_false,forall_const,implies_true,ne_eq,eq_self,Nat.reduceEqDiff,Nat.reduceAdd,Nat.reduceMul,Nat.reduceSub,Nat.reduceLeDiff,Nat.reduceLT,Int.reduceEq,Int.reduceLT,Int.reduceLE,Int.reduceAdd,Int.reduceSub,Int.reduceMul,Int.reduceNeg,Int.reduceNe,reduceCtorEq,Int.reduceToNat,↓reduceIte]
    refine ⟨⟨by omega, by omega, by omega⟩, ?_⟩
    rw [y]
    have hw2 : s.extract (a + m + 1) (a + m + 1 + m2) = ba ((L.drop (m + 1)).take m2) := by rw [ext_ba, hd2]
    rw [Int.toNat_natCast, Int.toNat_natCast, hw2]
    rw [show (a + m + 1 + m2 : Nat) = a + (m + 1 + m2) by omega]
    exact ⟨Nat.le_refl _, rfl⟩
  all_goals (refine PCalls.use qk ?_; simp only [wk,if_true,if_false,forall_const,implies_true,ne_eq,eq_self,Nat.reduceEqDiff,Nat.reduceAdd,Nat.reduceMul,Nat.reduceSub,Nat.reduceLeDiff,Nat.reduceLT,Int.reduceEq,Int.reduceLT,Int.reduceLE,Int.reduceAdd,Int.reduceSub,Int.reduceMul,Int.reduceNeg,Int.reduceNe,reduceCtorEq,Int.reduceToNat,↓reduceIte])
  all_goals (
    rw [no (by
      first
        | (intro hh; exact h3 (by have := (hcol.1 hh.2).2; rw [Int.toNat_natCast]; omega))
        | (intro hh; exact h2 (by have := (hcol.1 hh.2).1; omega))
        | (intro hh; exact hh.1 h1))]
    refine ⟨fun hk => ?_, fun hk => ?_⟩
    · rw [if_pos hk]; exact ⟨Nat.le_refl _, rfl⟩
    · rw [if_neg (fun h => h hk)]; exact ⟨Nat.le_refl _, rfl⟩)
end Go.Proofs.Ytmbijfcjfhdnjaa

/- The program's sign is the token at a place: plain laws. -/
namespace Go.Proofs.Ytmbijfcjfhdnjaa
set_option linter.unusedSimpArgs false
set_option linter.unusedVariables false
open Go.RowKit Go.Lib

theorem dec_val (s : ByteArray) (p : Nat) : (Utf8.decode s p).1 ≤ 1114111 ∧ (128 ≤ (Utf8.decode s p).1 → Utf8.valid ((Utf8.decode s p).1 : Nat) = true) := by
  have e : Utf8.runeError ≤ 1114111 ∧ (128 ≤ Utf8.runeError → Utf8.valid (Utf8.runeError : Nat) = true) := by decide
  have hb : ∀ k, (s.get! k).toNat < 256 := fun k => (s.get! k).toNat_lt
  simp only [Utf8.decode]
  split
  · exact ⟨by simp only; omega, fun h => by simp only at h; omega⟩
  · split
    · next c =>
      split
      · have := hb (p + 0)
        refine ⟨by simp only; omega, fun _ => ?_⟩
        unfold Utf8.valid
        simp only [Bool.or_eq_true, Bool.and_eq_true, decide_eq_true_eq]
        left; omega
      · exact e
    · split
      · split
        · next c =>
          simp only [Bool.and_eq_true, decide_eq_true_eq] at c
          refine ⟨?_, fun _ => c.2⟩
          have := c.2
          unfold Utf8.valid at this
          simp only [Bool.or_eq_true, Bool.and_eq_true, decide_eq_true_eq] at this
          simp only; omega
        · exact e
      · split
        · split
          · next c =>
            simp only [Bool.and_eq_true, decide_eq_true_eq] at c
            refine ⟨?_, fun _ => c.2⟩
            have := c.2
            unfold Utf8.valid at this
            simp only [Bool.or_eq_true, Bool.and_eq_true, decide_eq_true_eq] at this
            simp only; omega
          · exact e
        · exact e
/-- a text of names' bytes, and a colon behind it -/
theorem colon_iff {p L : List UInt8} (hp : ∀ b ∈ p, innI b.toNat = true) : L.take (p.length + 1) = p ++ [58] ↔ (L.take (stopN innI L) = p ∧ colonL (L.drop (stopN innI L)) = true) := by
  constructor
  · intro h
    have e : L = p ++ 58 :: L.drop (p.length + 1) := by
      have := (List.take_append_drop (p.length + 1) L).symm
      rw [h] at this
      simpa using this
    have hs : stopN innI L = p.length := by
      rw [e]
      unfold stopN
      refine tw_len (by simp) (fun b hb => ?_) (fun h => ?_)
      · rw [List.take_left] at hb; exact hp b hb
      · rw [List.getElem_append_right (Nat.le_refl _)]; simp; decide
    rw [hs, e]
    simp [colonL]
  · rintro ⟨h1, h2⟩
    have e := (List.take_append_drop (stopN innI L) L).symm
    rw [h1] at e
    obtain ⟨r, hr⟩ : ∃ r, L.drop (stopN innI L) = 58 :: r := by
      cases hd : L.drop (stopN innI L) with
      | nil => rw [hd] at h2; cases h2
      | cons c r =>
        rw [hd] at h2
        have : c = 58 := by
          apply UInt8.toNat_inj.1; simpa [colonL] using h2
        exact ⟨r, by rw [this]⟩
    rw [hr] at e
    rw [e]; simp [List.take_append]
    exact List.take_of_length_le (by omega)
theorem beg_key {L : List UInt8} {k : Int} (p : List UInt8) (hk : preW k = ba (p ++ [58])) (hp : ∀ b ∈ p, innI b.toNat = true) : begL (preW k) L = true ↔ (ba (L.take (stopN innI L)) = ba p ∧ colonL (L.drop (stopN innI L)) = true) := by
  unfold begL
  rw [hk, decide_eq_true_eq, ba_list, ba_len2, List.length_append, List.length_singleton, colon_iff hp, ba_inj]
theorem kind_name (L : List UInt8) : kindL L = if aheW (ba (L.take (stopN innI L))) ≠ 0 ∧ colonL (L.drop (stopN innI L)) = true then aheW (ba (L.take (stopN innI L))) else 0 := by
  have b1 := beg_key (L := L) (k := 1) [107, 101, 121] rfl (by decide)
  have b2 := beg_key (L := L) (k := 2) [99, 104, 97, 110] rfl (by decide)
  have b4 := beg_key (L := L) (k := 4) [103, 114, 111, 117, 112] rfl (by decide)
  have b5 := beg_key (L := L) (k := 5) [114, 111, 108, 101] rfl (by decide)
  unfold kindL aheW
  simp only [b1, b2, b4, b5]
  by_cases hc : colonL (L.drop (stopN innI L)) = true
  · simp only [hc, and_true]
    show _ = _
    simp only [ba, List.toArray]
    by_cases h1 : ba (L.take (stopN innI L)) = ⟨#[107, 101, 121]⟩
    · simp_all [ba]
    · by_cases h2 : ba (L.take (stopN innI L)) = ⟨#[99, 104, 97, 110]⟩
      · simp_all [ba]
      · by_cases h4 : ba (L.take (stopN innI L)) = ⟨#[103, 114, 111, 117, 112]⟩
        · simp_all [ba]
        · by_cases h5 : ba (L.take (stopN innI L)) = ⟨#[114, 111, 108, 101]⟩
          · simp_all [ba]
          · simp_all [ba]
  · simp [hc]
/-- a kind stands ahead: it is one of four; its text is as long as the name and the colon -/
theorem ahe_len (w : ByteArray) (h : aheW w ≠ 0) : aheW w ∈ kinds ∧ (preW (aheW w)).size = w.size + 1 := by
  unfold aheW at h ⊢
  split
  · next e => rw [e]; decide
  · split
    · next e => rw [e]; decide
    · split
      · next e => rw [e]; decide
      · split
        · next e => rw [e]; decide
        · next h1 h2 h3 h4 => simp [h1, h2, h3, h4] at h
theorem may_stop (L : List UInt8) : mayN (ba (L.take (stopN innI L))) = true ↔ (lttI (L.headD 0).toNat = true ∧ stopN innI L ≤ 24) := by
  have hle := stopN_le innI L
  unfold mayN mayL
  rw [ba_list]
  simp only [Bool.and_eq_true, decide_eq_true_eq, List.length_take]
  cases L with
  | nil => simp [stopN, lttI]
  | cons b r =>
    by_cases hb : innI b.toNat = true
    · have h1 : 1 ≤ stopN innI (b :: r) := by rw [stopN_cons hb]; omega
      obtain ⟨m, hm⟩ : ∃ m, stopN innI (b :: r) = m + 1 := ⟨stopN innI (b :: r) - 1, by omega⟩
      have hall : ((b :: r).take (stopN innI (b :: r))).all (fun b => innI b.toNat) = true := by
        rw [List.all_eq_true]
        intro c hc
        obtain ⟨i, hi, rfl⟩ := List.mem_iff_getElem.1 hc
        rw [List.length_take] at hi
        rw [List.getElem_take]
        exact stopN_at (by omega) (by omega)
      rw [hall, hm]
      simp only [List.take_succ_cons, List.headD_cons]
      rw [hm] at hle
      constructor
      · rintro ⟨h1, h2, h3, h4⟩; exact ⟨h3, by omega⟩
      · rintro ⟨h1, h2⟩; exact ⟨by omega, by omega, h1, trivial⟩
    · have hz := stopN_zero (q := innI) (r := r) (b := b) (by simpa using hb)
      have hl : lttI b.toNat = false := by
        simp only [innI, Bool.or_eq_true, not_or] at hb
        simpa using hb.1.1.1
      rw [hz]; simp [hl]
theorem kind_nl {b : UInt8} {r : List UInt8} (h : lttI b.toNat = false) : kindL (b :: r) = 0 := by
  rw [kind_name, if_neg]
  rintro ⟨h1, -⟩
  apply h1
  have e : ∀ (c : UInt8) (p : List UInt8), lttI c.toNat = true → ba ((b :: r).take (stopN innI (b :: r))) ≠ ba (c :: p) := fun c p hc h2 => by
    rw [ba_inj] at h2
    have h3 : b = c := by
      cases hm : stopN innI (b :: r) with
      | zero => rw [hm] at h2; simp at h2
      | succ m => rw [hm, List.take_succ_cons] at h2; exact (List.cons.inj h2).1
    rw [h3] at h; rw [h] at hc; cases hc
  have k1 : ¬ ba ((b :: r).take (stopN innI (b :: r))) = ⟨#[107, 101, 121]⟩ := e 107 [101, 121] (by decide)
  have k2 : ¬ ba ((b :: r).take (stopN innI (b :: r))) = ⟨#[99, 104, 97, 110]⟩ := e 99 [104, 97, 110] (by decide)
  have k4 : ¬ ba ((b :: r).take (stopN innI (b :: r))) = ⟨#[103, 114, 111, 117, 112]⟩ := e 103 [114, 111, 117, 112] (by decide)
  have k5 : ¬ ba ((b :: r).take (stopN innI (b :: r))) = ⟨#[114, 111, 108, 101]⟩ := e 114 [111, 108, 101] (by decide)
  unfold aheW
  rw [if_neg k1, if_neg k2, if_neg k4, if_neg k5]
theorem sign_nl {b : UInt8} {r : List UInt8} (h : lttI b.toNat = false) : signL (b :: r) = plainL (b :: r) := by
  unfold signL; rw [if_pos (kind_nl h)]
/-- what is said of a word -/
def goodT (x : Sig) (l : List UInt8) : Bool := decide (wordT x.1 x.2.1 x.2.2.1 ≠ ⟨#[]⟩) && fineL (l.drop x.2.2.2)
theorem ba_app_ne {o : Int} {w : ByteArray} (h : o ∈ kinds) : preW o ++ w ≠ ⟨#[]⟩ := by
  intro e
  have := congrArg ByteArray.size e
  rw [ByteArray.size_append] at this
  have h2 := (pre_ok h).1
  have h3 : (⟨#[]⟩ : ByteArray).size = 0 := rfl
  omega
theorem atomW_kind {o : Int} {w : ByteArray} (h : o ∈ kinds) : atomW o w ≠ ⟨#[]⟩ ↔ mayN w = true := by
  have h2 : o = 1 ∨ o = 2 ∨ o = 4 ∨ o = 5 := by simpa [kinds] using h
  have h0 := kinds_nz h
  unfold atomW
  rw [if_neg h0]
  by_cases hm : mayN w = true
  · rw [if_pos hm, if_pos h2]; exact ⟨fun _ => hm, fun _ => ba_app_ne h⟩
  · rw [if_neg hm]; exact ⟨fun h => absurd rfl h, fun h => absurd h hm⟩
theorem name_some (L : List UInt8) : nameL L = if lttI (L.headD 0).toNat = true ∧ stopN innI L ≤ 24 ∧ fineL (L.drop (stopN innI L)) = true then some (stopN innI L) else none := by
  cases L with
  | nil => rfl
  | cons b r => rfl
/-- where a letter stands -/
theorem sign_letter {b : UInt8} {r : List UInt8} (h : lttI b.toNat = true) : signL (b :: r) = if goodT (pnameL (b :: r)) (b :: r) = true then some (pnameL (b :: r)) else none := by
  obtain ⟨L, hL⟩ : ∃ L, L = b :: r := ⟨_, rfl⟩
  have hhd : lttI (L.headD 0).toNat = true := by rw [hL]; exact h
  have hin : innI b.toNat = true := by simp [innI, h]
  have h1 : 1 ≤ stopN innI L := by rw [hL, stopN_cons hin]; omega
  have hle := stopN_le innI L
  have hpl : plainL L = match nameL L with
      | none => none
      | some n => if keyW (ba (L.take n)) = 0 then some (1, ba (L.take n), 3, n) else some (keyW (ba (L.take n)), ba [], 0, n) := by
    rw [hL]; simp only [plainL]; rw [if_pos h]; try rfl
  rw [← hL]
  have hwl : (ba (L.take (stopN innI L))).size = stopN innI L := by rw [ba_len2, List.length_take]; omega
  unfold signL
  rw [kind_name]
  by_cases hc : aheW (ba (L.take (stopN innI L))) ≠ 0 ∧ colonL (L.drop (stopN innI L)) = true
  · obtain ⟨a1, a2⟩ := ahe_len _ hc.1
    rw [if_pos hc, if_neg hc.1]
    have hp : pnameL L = (1, ba ((L.drop (stopN innI L + 1)).take (stopN innI (L.drop (stopN innI L + 1)))), aheW (ba (L.take (stopN innI L))), stopN innI L + 1 + stopN innI (L.drop (stopN innI L + 1))) := by unfold pnameL; rw [if_pos hc]
    rw [hp]
    obtain ⟨k, hk⟩ : ∃ k, k = aheW (ba (L.take (stopN innI L))) := ⟨_, rfl⟩
    rw [← hk] at a1 a2 ⊢
    rw [hwl] at a2
    rw [a2]
    obtain ⟨M, hM⟩ : ∃ M, M = L.drop (stopN innI L + 1) := ⟨_, rfl⟩
    rw [← hM]
    unfold atomL goodT
    rw [name_some]
    have hat := atomW_kind (w := ba (M.take (stopN innI M))) a1
    rw [may_stop] at hat
    have hdr : L.drop (stopN innI L + 1 + stopN innI M) = M.drop (stopN innI M) := by rw [hM, List.drop_drop]
    simp only [hdr]
    have hw1 : wordT 1 (ba (M.take (stopN innI M))) k = atomW k (ba (M.take (stopN innI M))) := by unfold wordT; rw [if_pos rfl]
    rw [hw1]
    by_cases hg : lttI (M.headD 0).toNat = true ∧ stopN innI M ≤ 24 ∧ fineL (M.drop (stopN innI M)) = true
    · have h3 := hat.2 ⟨hg.1, hg.2.1⟩
      rw [if_pos hg]
      simp [h3, hg.2.2]
    · rw [if_neg hg]
      rw [if_neg]
      simp only [Bool.and_eq_true, decide_eq_true_eq]
      rintro ⟨g1, g2⟩
      have := hat.1 g1
      exact hg ⟨this.1, this.2, g2⟩
  · rw [if_neg hc, if_pos rfl, hpl]
    have hp : pnameL L = if keyW (ba (L.take (stopN innI L))) ≠ 0 then (keyW (ba (L.take (stopN innI L))), ba [], 0, stopN innI L) else (1, ba (L.take (stopN innI L)), 3, stopN innI L) := by unfold pnameL; rw [if_neg hc]
    rw [hp, name_some]
    by_cases hk : keyW (ba (L.take (stopN innI L))) = 0
    · rw [if_neg (show ¬ keyW (ba (L.take (stopN innI L))) ≠ 0 from fun h => h hk)]
      have hw : wordT 1 (ba (L.take (stopN innI L))) 3 ≠ ⟨#[]⟩ ↔ mayN (ba (L.take (stopN innI L))) = true := by
        unfold wordT atomW
        rw [if_pos rfl, if_neg (by decide)]
        by_cases hm : mayN (ba (L.take (stopN innI L))) = true
        · rw [if_pos hm, if_neg (by decide), if_pos ⟨rfl, hk⟩]
          refine ⟨fun _ => hm, fun _ e => ?_⟩
          rw [e] at hwl
          have h3 : (⟨#[]⟩ : ByteArray).size = 0 := rfl
          omega
        · rw [if_neg hm]; exact ⟨fun h => absurd rfl h, fun h => absurd h hm⟩
      rw [may_stop] at hw
      unfold goodT
      by_cases hg : lttI (L.headD 0).toNat = true ∧ stopN innI L ≤ 24 ∧ fineL (L.drop (stopN innI L)) = true
      · have h3 := hw.2 ⟨hg.1, hg.2.1⟩
        rw [if_pos hg]
        simp [h3, hg.2.2, hk]
      · rw [if_neg hg, if_neg]
        simp only [Bool.and_eq_true, decide_eq_true_eq]
        rintro ⟨g1, g2⟩
        have := hw.1 g1
        exact hg ⟨this.1, this.2, g2⟩
    · rw [if_pos (show keyW (ba (L.take (stopN innI L))) ≠ 0 from hk)]
      have hm24 : stopN innI L ≤ 24 := by
        unfold keyW at hk
        rw [← hwl]
        by_cases e1 : ba (L.take (stopN innI L)) = ⟨#[97, 110, 100]⟩
        · rw [e1]; decide
        · rw [if_neg e1] at hk
          by_cases e2 : ba (L.take (stopN innI L)) = ⟨#[102, 111, 114]⟩
          · rw [e2]; decide
          · rw [if_neg e2] at hk
            by_cases e3 : ba (L.take (stopN innI L)) = ⟨#[97, 115]⟩
            · rw [e3]; decide
            · rw [if_neg e3] at hk; exact absurd rfl hk
      have hw : wordT (keyW (ba (L.take (stopN innI L)))) (ba []) 0 ≠ ⟨#[]⟩ := by
        unfold keyW at hk ⊢
        split
        · decide
        · split
          · decide
          · split
            · decide
            · next e1 e2 e3 => rw [if_neg e1, if_neg e2, if_neg e3] at hk; exact absurd rfl hk
      unfold goodT
      by_cases hg : fineL (L.drop (stopN innI L)) = true
      · rw [if_pos ⟨hhd, hm24, hg⟩]
        simp [hw, hg, hk]
      · rw [if_neg (fun h => hg h.2.2), if_neg]
        simp only [Bool.and_eq_true, decide_eq_true_eq]
        exact fun h => hg h.2
end Go.Proofs.Ytmbijfcjfhdnjaa

/- The program's sign. -/
namespace Go.Proofs.Ytmbijfcjfhdnjaa
set_option linter.unusedSimpArgs false
set_option linter.unusedVariables false
open Go.RowKit Go.Lib

/-- the program's sign: token and place behind; nothing: zero -/
def psV (l : List UInt8) (a : Nat) : AV := match signL l with
  | some (k, w, o, n) => .tup [.agg [.int .i64 k, .str w, .int .i64 o, .int .i64 0], .int .i64 (a + n : Nat)]
  | none => .tup [.agg [.int .i64 0, .str ⟨#[]⟩, .int .i64 0, .int .i64 0], .int .i64 0]
theorem free_psV (l : List UInt8) (a : Nat) : free (psV l a) = true := by unfold psV; split <;> rfl
theorem sig_124 {b : UInt8} {r : List UInt8} (h : b.toNat = 124) : signL (b :: r) = some (4, ba [], 0, 1) := by
  have hl : lttI b.toNat = false := by rw [h]; rfl
  rw [sign_nl hl]; simp only [plainL]
  rw [if_neg (by simp [hl]), if_neg (by omega), if_pos h]
theorem sig_40 {b : UInt8} {r : List UInt8} (h : b.toNat = 40) : signL (b :: r) = some (6, ba [], 0, 1) := by
  have hl : lttI b.toNat = false := by rw [h]; rfl
  rw [sign_nl hl]; simp only [plainL]
  rw [if_neg (by simp [hl]), if_neg (by omega), if_neg (by omega), if_pos h]
theorem sig_41 {b : UInt8} {r : List UInt8} (h : b.toNat = 41) : signL (b :: r) = some (7, ba [], 0, 1) := by
  have hl : lttI b.toNat = false := by rw [h]; rfl
  rw [sign_nl hl]; simp only [plainL]
  rw [if_neg (by simp [hl]), if_neg (by omega), if_neg (by omega), if_neg (by omega), if_pos h]
theorem sig_sign {b : UInt8} {r : List UInt8} (h : sigB b.toNat = true) : signL (b :: r) = some (9, ba [b], 0, 1) := by
  have h2 : b.toNat = 61 ∨ b.toNat = 44 ∨ b.toNat = 59 ∨ b.toNat = 60 ∨ b.toNat = 62 ∨ b.toNat = 33 ∨ b.toNat = 63 ∨ b.toNat = 42 := by
    simpa [sigB, or_assoc] using h
  have hl : lttI b.toNat = false := by simp [lttI]; omega
  have hd : digI b.toNat = false := by simp [digI]; omega
  rw [sign_nl hl]; simp only [plainL]
  rw [if_neg (by simp [hl]), if_neg (by omega), if_neg (by omega), if_neg (by omega), if_neg (by omega), if_neg (by simp [hd]), if_pos h]
theorem good_d (r : List UInt8) {b : UInt8} : goodT (1, ⟨#[68]⟩, 0, 1) (b :: r) = fineL r := by
  have : wordT 1 ⟨#[68]⟩ 0 ≠ ⟨#[]⟩ := by decide
  unfold goodT
  simp [this]
theorem sig_d {b : UInt8} {r : List UInt8} (h : b.toNat = 68) : signL (b :: r) = if goodT (1, ⟨#[68]⟩, 0, 1) (b :: r) = true then some (1, ⟨#[68]⟩, 0, 1) else none := by
  have hl : lttI b.toNat = false := by rw [h]; rfl
  rw [sign_nl hl, good_d]; simp only [plainL]
  rw [if_neg (by simp [hl]), if_pos h]; rfl
theorem sig_dig {b : UInt8} {r : List UInt8} (h : digI b.toNat = true) : signL (b :: r) = if goodT (8, ba ((b :: r).take (stopN digI (b :: r))), 0, stopN digI (b :: r)) (b :: r) = true then some (8, ba ((b :: r).take (stopN digI (b :: r))), 0, stopN digI (b :: r)) else none := by
  have h2 : 48 ≤ b.toNat ∧ b.toNat ≤ 57 := by simp [digI] at h; omega
  have hl : lttI b.toNat = false := by simp [lttI]; omega
  obtain ⟨L, hL⟩ : ∃ L, L = b :: r := ⟨_, rfl⟩
  have hpl : plainL L = if numW (ba (L.take (stopN digI L))) = true ∧ fineL (L.drop (stopN digI L)) = true then some (8, ba (L.take (stopN digI L)), 0, stopN digI L) else none := by
    rw [hL]; simp only [plainL]
    rw [if_neg (by simp [hl]), if_neg (by omega), if_neg (by omega), if_neg (by omega), if_neg (by omega), if_pos h]
  rw [sign_nl hl, ← hL, hpl]
  have hg : goodT (8, ba (L.take (stopN digI L)), 0, stopN digI L) L = true ↔ numW (ba (L.take (stopN digI L))) = true ∧ fineL (L.drop (stopN digI L)) = true := by
    have hw : wordT 8 (ba (L.take (stopN digI L))) 0 = if numW (ba (L.take (stopN digI L))) = true then ba (L.take (stopN digI L)) else ⟨#[]⟩ := by
      unfold wordT; rw [if_neg (by decide), if_neg (by decide), if_pos rfl]
    unfold goodT
    simp only [Bool.and_eq_true, decide_eq_true_eq]
    rw [hw]
    by_cases hn : numW (ba (L.take (stopN digI L))) = true
    · rw [if_pos hn]
      have : ba (L.take (stopN digI L)) ≠ ⟨#[]⟩ := by
        intro e; rw [e] at hn; revert hn; decide
      simp [hn, this]
    · rw [if_neg hn]; simp [hn]
  simp only [hg]
theorem sig_else {b : UInt8} {r : List UInt8} (h1 : b.toNat ≠ 124) (h2 : b.toNat ≠ 40) (h3 : b.toNat ≠ 41) (h4 : sigB b.toNat = false) (h5 : b.toNat ≠ 68) (h6 : digI b.toNat = false) (h7 : lttI b.toNat = false) : signL (b :: r) = if goodT (0, ⟨#[]⟩, 0, 1) (b :: r) = true then some (0, ⟨#[]⟩, 0, 1) else none := by
  have hg : goodT (0, ⟨#[]⟩, 0, 1) (b :: r) = false := by
    have : ¬ wordT 0 ⟨#[]⟩ 0 ≠ ⟨#[]⟩ := by decide
    unfold goodT
    rw [decide_eq_false this]; rfl
  rw [hg, sign_nl h7]; simp only [plainL]
  rw [if_neg (by simp [h7]), if_neg h5, if_neg h1, if_neg h2, if_neg h3, if_neg (by simp [h6]), if_neg (by simp [h4])]; rfl
theorem pname_le (l : List UInt8) : (pnameL l).2.1.size ≤ l.length ∧ (pnameL l).2.2.2 ≤ l.length := by
  have h1 := stopN_le innI l
  have h2 := stopN_le innI (l.drop (stopN innI l + 1))
  rw [List.length_drop] at h2
  unfold pnameL
  split
  · next h =>
    have h3 : stopN innI l < l.length := by
      rcases Nat.lt_or_ge (stopN innI l) l.length with h3 | h3
      · exact h3
      · rw [List.drop_of_length_le h3] at h; exact absurd h.2 (by simp [colonL])
    simp only [ba_len2, List.length_take, List.length_drop]
    omega
  · split <;> simp [ba_len2] <;> omega
set_option maxRecDepth 100000 in
set_option maxHeartbeats 4000000 in
theorem p_psign (s : ByteArray) (a : Nat) (v : Int) (hs : s.size ≤ 1000000) (ha : a < s.size) (hv : v = (Utf8.decode s a).1) :
    PCalls Try.prog 34 [.str s, .int .i64 a, .int .i32 v] (psV (s.data.toList.drop a) a) := by
  have hl := len_size s
  have hal : a < s.data.toList.length := by omega
  have hd : s.data.toList.drop a = s.data.toList[a] :: s.data.toList.drop (a + 1) := List.drop_eq_getElem_cons hal
  obtain ⟨b, hb⟩ : ∃ b, b = s.data.toList[a] := ⟨_, rfl⟩
  obtain ⟨r, hr⟩ : ∃ r, r = s.data.toList.drop (a + 1) := ⟨_, rfl⟩
  have hdv := dec_val s a
  have hlo : b.toNat < 128 → v = b.toNat := fun h => by rw [hv, dec_lt hal (by rw [← hb]; exact h), hb]
  have hhi : ¬ b.toNat < 128 → 128 ≤ v := fun h => by have := (dec_ge hal (by rw [← hb]; exact h)).1; rw [hv]; omega
  have qc := p_containsRune v (by omega) (by omega) (fun h => by rw [hv]; exact hdv.2 (by omega))
  have qd := p_digit v
  have ql := p_letter v
  have qs := p_stop (f := 55) p_digit hi_dig s a hs (by omega)
  have qn := p_pname s a hs ha
  rw [← hb, ← hr] at hd
  obtain ⟨L, hL⟩ : ∃ L, L = b :: r := ⟨_, rfl⟩
  rw [← hL] at hd
  have hLl : L.length = s.size - a := by rw [← hd, List.length_drop]; omega
  rw [hd] at qs qn ⊢
  have hch : ∀ q : Int → Bool, (∀ r, 128 ≤ r → q r = q 128) → q v = q b.toNat := fun q hi => by
    by_cases h : b.toNat < 128
    · rw [hlo h]
    · rw [hi v (hhi h), hi b.toNat (by omega)]
  rw [hch _ hi_dig] at qd
  rw [hch _ hi_ltt] at ql
  refine pcalls_of rfl (free_psV _ _) (acalls_of mixed J_token_sign_ok (Nat.le_of_ble_eq_true rfl) ?_); simp only [J_token_sign, wk,if_true,if_false,forall_const,implies_true,ne_eq,eq_self,Nat.reduceEqDiff,Nat.reduceAdd,Nat.reduceMul,Nat.reduceSub,Nat.reduceLeDiff,Nat.reduceLT,Int.reduceEq,Int.reduceLT,Int.reduceLE,Int.reduceAdd,Int.reduceSub,Int.reduceMul,Int.reduceNeg,Int.reduceNe,reduceCtorEq,Int.reduceToNat,↓reduceIte]
  refine ⟨inR_of (by omega) (by omega), ?_⟩
  have lo : ∀ n : Nat, n < 128 → v = n → b.toNat = n := fun n hn e => by
    by_cases h : b.toNat < 128
    · have := hlo h; omega
    · have := hhi h; omega
  refine ⟨fun e => ?_, fun e1 => ⟨fun e => ?_, fun e2 => ⟨fun e => ?_, fun e3 => ?_⟩⟩⟩
  · unfold psV; rw [hL, sig_124 (lo 124 (by omega) e)]; exact ⟨Nat.le_refl _, rfl⟩
  · unfold psV; rw [hL, sig_40 (lo 40 (by omega) e)]; exact ⟨Nat.le_refl _, rfl⟩
  · unfold psV; rw [hL, sig_41 (lo 41 (by omega) e)]; exact ⟨Nat.le_refl _, rfl⟩
  refine PCalls.use (qc) ?_; simp only [wk,if_true,if_false,forall_const,implies_true,ne_eq,eq_self,Nat.reduceEqDiff,Nat.reduceAdd,Nat.reduceMul,Nat.reduceSub,Nat.reduceLeDiff,Nat.reduceLT,Int.reduceEq,Int.reduceLT,Int.reduceLE,Int.reduceAdd,Int.reduceSub,Int.reduceMul,Int.reduceNeg,Int.reduceNe,reduceCtorEq,Int.reduceToNat,↓reduceIte]
  have hfree : ∀ n : Nat, a + n ≤ s.size → PCalls Try.prog 32 [.str s, .int .i64 (a + n : Nat), .fn 58 []] (.int .i64 ((a + n : Nat) + stopN freI (L.drop n))) := fun n hn => by
    have := p_stop (f := 58) p_free hi_fre s (a + n) hs hn
    rw [← List.drop_drop, hd] at this
    exact this
  have hfin : ∀ n : Nat, a + n ≤ s.size → ((stopN freI (L.drop n) = 0 ∧ a + n < s.size) ↔ fineL (L.drop n) = false) := fun n hn => by
    rcases Nat.lt_or_ge (a + n) s.size with h | h
    · have hnl : n < L.length := by omega
      rw [List.drop_eq_getElem_cons hnl]
      show _ ↔ freI (L[n]).toNat = false
      by_cases hf : freI (L[n]).toNat = true
      · rw [stopN_cons hf, hf]; simp
      · have hf2 : freI (L[n]).toNat = false := by simpa using hf
        rw [stopN_zero hf2]; simp [hf2, h]
    · rw [List.drop_of_length_le (by omega)]
      constructor
      · rintro ⟨-, h2⟩; omega
      · intro h2; cases h2
  have one : ∀ n : Nat, ((a : Int) + (n : Nat)) = ((a + n : Nat) : Int) := fun n => by omega
  have one1 : ((a : Int) + 1) = ((a + 1 : Nat) : Int) := by omega
  -- the four ways on
  have bad : ∀ k w o n, (signL L = if goodT (k, w, o, n) L = true then some (k, w, o, n) else none) → goodT (k, w, o, n) L = false → psV L a = .tup [.agg [.int .i64 0, .str ⟨#[]⟩, .int .i64 0, .int .i64 0], .int .i64 0] := fun k w o n h1 h2 => by
    unfold psV; rw [h1, h2]; rfl
  have good : ∀ k w o n, (signL L = if goodT (k, w, o, n) L = true then some (k, w, o, n) else none) → goodT (k, w, o, n) L = true → psV L a = .tup [.agg [.int .i64 k, .str w, .int .i64 o, .int .i64 0], .int .i64 (a + n : Nat)] := fun k w o n h1 h2 => by
    unfold psV; rw [h1, h2]; rfl
  refine ⟨fun e => ?_, fun e4 => ⟨fun e => ?_, fun e5 => ?_⟩⟩
  · have hb2 : sigB b.toNat = true ∧ v = b.toNat := by
      by_cases h : b.toNat < 128
      · rw [hlo h] at e; exact ⟨by simpa using e, hlo h⟩
      · have := hhi h
        simp [sigB] at e; omega
    have henc : Utf8.encode v = ba [b] := by
      have : b.toNat < 128 := by have := hb2.1; simp [sigB] at this; omega
      rw [hb2.2]
      unfold Utf8.encode Utf8.valid
      have e1 : (decide ((0 : Int) ≤ (b.toNat : Int)) && decide ((b.toNat : Int) < 55296)) = true := by simp; omega
      simp only [e1, Bool.true_or, if_true, Int.toNat_natCast, this]
      simp [ba]
    unfold psV; rw [hL, sig_sign hb2.1, henc]; exact ⟨Nat.le_refl _, rfl⟩
  · have hsig := sig_d (r := r) (lo 68 (by omega) e)
    rw [← hL] at hsig
    have qw := p_word 1 ⟨#[68]⟩ 0 0 (by decide)
    rw [one1]
    have qf := hfree (1) (by omega)
    have hf := hfin (1) (by omega)
    have hgd := good _ _ _ _ hsig
    have hbd := bad _ _ _ _ hsig
    simp only [goodT] at hgd hbd
    simp only [J_token_sign_j1, wk,if_true,if_false,forall_const,implies_true,ne_eq,eq_self,Nat.reduceEqDiff,Nat.reduceAdd,Nat.reduceMul,Nat.reduceSub,Nat.reduceLeDiff,Nat.reduceLT,Int.reduceEq,Int.reduceLT,Int.reduceLE,Int.reduceAdd,Int.reduceSub,Int.reduceMul,Int.reduceNeg,Int.reduceNe,reduceCtorEq,Int.reduceToNat,↓reduceIte]
    refine PCalls.use qw ?_; simp only [wk,if_true,if_false,forall_const,implies_true,ne_eq,eq_self,Nat.reduceEqDiff,Nat.reduceAdd,Nat.reduceMul,Nat.reduceSub,Nat.reduceLeDiff,Nat.reduceLT,Int.reduceEq,Int.reduceLT,Int.reduceLE,Int.reduceAdd,Int.reduceSub,Int.reduceMul,Int.reduceNeg,Int.reduceNe,reduceCtorEq,Int.reduceToNat,↓reduceIte]
    refine ⟨fun hne => ?_, fun he => ?_⟩
    · have hne2 := decide_eq_true hne
      simp only [hne2, Bool.true_and] at hgd hbd
      refine PCalls.use qf ?_; simp only [wk,if_true,if_false,forall_const,implies_true,ne_eq,eq_self,Nat.reduceEqDiff,Nat.reduceAdd,Nat.reduceMul,Nat.reduceSub,Nat.reduceLeDiff,Nat.reduceLT,Int.reduceEq,Int.reduceLT,Int.reduceLE,Int.reduceAdd,Int.reduceSub,Int.reduceMul,Int.reduceNeg,Int.reduceNe,reduceCtorEq,Int.reduceToNat,↓reduceIte]
      refine ⟨fun h1 => ⟨fun h2 => ?_, fun h2 => ?_⟩, fun h1 => ?_⟩
      · rw [hbd (hf.1 ⟨by omega, by omega⟩)]; exact ⟨Nat.le_refl _, rfl⟩
      · rw [hgd (by cases hx : fineL _ with | true => rfl | false => (exfalso; have := hf.2 hx; omega))]; exact ⟨Nat.le_refl _, rfl⟩
      · rw [hgd (by cases hx : fineL _ with | true => rfl | false => (exfalso; have := hf.2 hx; omega))]; exact ⟨Nat.le_refl _, rfl⟩
    · rw [hbd (by rw [he]; simp)]; exact ⟨Nat.le_refl _, rfl⟩
  · refine PCalls.use (qd) ?_; simp only [wk,if_true,if_false,forall_const,implies_true,ne_eq,eq_self,Nat.reduceEqDiff,Nat.reduceAdd,Nat.reduceMul,Nat.reduceSub,Nat.reduceLeDiff,Nat.reduceLT,Int.reduceEq,Int.reduceLT,Int.reduceLE,Int.reduceAdd,Int.reduceSub,Int.reduceMul,Int.reduceNeg,Int.reduceNe,reduceCtorEq,Int.reduceToNat,↓reduceIte]
    refine ⟨fun e => ?_, fun e6 => ?_⟩
    · have hsig := sig_dig (r := r) e
      rw [← hL] at hsig
      have hle := stopN_le digI L
      obtain ⟨n, hn⟩ : ∃ n, n = stopN digI L := ⟨_, rfl⟩
      rw [← hn] at qs hsig hle
      rw [one n] at qs
      refine PCalls.use (qs) ?_; simp only [wk,if_true,if_false,forall_const,implies_true,ne_eq,eq_self,Nat.reduceEqDiff,Nat.reduceAdd,Nat.reduceMul,Nat.reduceSub,Nat.reduceLeDiff,Nat.reduceLT,Int.reduceEq,Int.reduceLT,Int.reduceLE,Int.reduceAdd,Int.reduceSub,Int.reduceMul,Int.reduceNeg,Int.reduceNe,reduceCtorEq,Int.reduceToNat,↓reduceIte]
      have hw : s.extract a (a + n) = ba (L.take n) := by rw [ext_ba, hd]
      refine ⟨⟨by omega, by omega, by omega⟩, ?_⟩
      rw [Int.toNat_natCast, Int.toNat_natCast, hw]
      have qw := p_word 8 (ba (L.take n)) 0 0 (by rw [ba_len2, List.length_take]; omega)
      have qf := hfree (n) (by omega)
      have hf := hfin (n) (by omega)
      have hgd := good _ _ _ _ hsig
      have hbd := bad _ _ _ _ hsig
      simp only [goodT] at hgd hbd
      simp only [J_token_sign_j1, wk,if_true,if_false,forall_const,implies_true,ne_eq,eq_self,Nat.reduceEqDiff,Nat.reduceAdd,Nat.reduceMul,Nat.reduceSub,Nat.reduceLeDiff,Nat.reduceLT,Int.reduceEq,Int.reduceLT,Int.reduceLE,Int.reduceAdd,Int.reduceSub,Int.reduceMul,Int.reduceNeg,Int.reduceNe,reduceCtorEq,Int.reduceToNat,↓reduceIte]
      refine PCalls.use qw ?_; simp only [wk,if_true,if_false,forall_const,implies_true,ne_eq,eq_self,Nat.reduceEqDiff,Nat.reduceAdd,Nat.reduceMul,Nat.reduceSub,Nat.reduceLeDiff,Nat.reduceLT,Int.reduceEq,Int.reduceLT,Int.reduceLE,Int.reduceAdd,Int.reduceSub,Int.reduceMul,Int.reduceNeg,Int.reduceNe,reduceCtorEq,Int.reduceToNat,↓reduceIte]
      refine ⟨fun hne => ?_, fun he => ?_⟩
      · have hne2 := decide_eq_true hne
        simp only [hne2, Bool.true_and] at hgd hbd
        refine PCalls.use qf ?_; simp only [wk,if_true,if_false,forall_const,implies_true,ne_eq,eq_self,Nat.reduceEqDiff,Nat.reduceAdd,Nat.reduceMul,Nat.reduceSub,Nat.reduceLeDiff,Nat.reduceLT,Int.reduceEq,Int.reduceLT,Int.reduceLE,Int.reduceAdd,Int.reduceSub,Int.reduceMul,Int.reduceNeg,Int.reduceNe,reduceCtorEq,Int.reduceToNat,↓reduceIte]
        refine ⟨fun h1 => ⟨fun h2 => ?_, fun h2 => ?_⟩, fun h1 => ?_⟩
        · rw [hbd (hf.1 ⟨by omega, by omega⟩)]; exact ⟨Nat.le_refl _, rfl⟩
        · rw [hgd (by cases hx : fineL _ with | true => rfl | false => (exfalso; have := hf.2 hx; omega))]; exact ⟨Nat.le_refl _, rfl⟩
        · rw [hgd (by cases hx : fineL _ with | true => rfl | false => (exfalso; have := hf.2 hx; omega))]; exact ⟨Nat.le_refl _, rfl⟩
      · rw [hbd (by rw [he]; simp)]; exact ⟨Nat.le_refl _, rfl⟩
    · refine PCalls.use (ql) ?_; simp only [wk,if_true,if_false,forall_const,implies_true,ne_eq,eq_self,Nat.reduceEqDiff,Nat.reduceAdd,Nat.reduceMul,Nat.reduceSub,Nat.reduceLeDiff,Nat.reduceLT,Int.reduceEq,Int.reduceLT,Int.reduceLE,Int.reduceAdd,Int.reduceSub,Int.reduceMul,Int.reduceNeg,Int.reduceNe,reduceCtorEq,Int.reduceToNat,↓reduceIte]
      refine ⟨fun e => ?_, fun e7 => ?_⟩
      · have hsig := sign_letter (r := r) e
        rw [← hL] at hsig
        have hple := pname_le L
        obtain ⟨k, w, o, n, hpn⟩ : ∃ k w o n, pnameL L = (k, w, o, n) := ⟨_, _, _, _, rfl⟩
        rw [hpn] at hsig qn hple
        simp only at hple
        have qw := p_word k w o 0 (by omega)
        simp only [sigV] at qn
        refine PCalls.use (qn) ?_; simp only [wk,if_true,if_false,forall_const,implies_true,ne_eq,eq_self,Nat.reduceEqDiff,Nat.reduceAdd,Nat.reduceMul,Nat.reduceSub,Nat.reduceLeDiff,Nat.reduceLT,Int.reduceEq,Int.reduceLT,Int.reduceLE,Int.reduceAdd,Int.reduceSub,Int.reduceMul,Int.reduceNeg,Int.reduceNe,reduceCtorEq,Int.reduceToNat,↓reduceIte]
        have qf := hfree (n) (by omega)
        have hf := hfin (n) (by omega)
        have hgd := good _ _ _ _ hsig
        have hbd := bad _ _ _ _ hsig
        simp only [goodT] at hgd hbd
        simp only [J_token_sign_j1, wk,if_true,if_false,forall_const,implies_true,ne_eq,eq_self,Nat.reduceEqDiff,Nat.reduceAdd,Nat.reduceMul,Nat.reduceSub,Nat.reduceLeDiff,Nat.reduceLT,Int.reduceEq,Int.reduceLT,Int.reduceLE,Int.reduceAdd,Int.reduceSub,Int.reduceMul,Int.reduceNeg,Int.reduceNe,reduceCtorEq,Int.reduceToNat,↓reduceIte]
        refine PCalls.use qw ?_; simp only [wk,if_true,if_false,forall_const,implies_true,ne_eq,eq_self,Nat.reduceEqDiff,Nat.reduceAdd,Nat.reduceMul,Nat.reduceSub,Nat.reduceLeDiff,Nat.reduceLT,Int.reduceEq,Int.reduceLT,Int.reduceLE,Int.reduceAdd,Int.reduceSub,Int.reduceMul,Int.reduceNeg,Int.reduceNe,reduceCtorEq,Int.reduceToNat,↓reduceIte]
        refine ⟨fun hne => ?_, fun he => ?_⟩
        · have hne2 := decide_eq_true hne
          simp only [hne2, Bool.true_and] at hgd hbd
          refine PCalls.use qf ?_; simp only [wk,if_true,if_false,forall_const,implies_true,ne_eq,eq_self,Nat.reduceEqDiff,Nat.reduceAdd,Nat.reduceMul,Nat.reduceSub,Nat.reduceLeDiff,Nat.reduceLT,Int.reduceEq,Int.reduceLT,Int.reduceLE,Int.reduceAdd,Int.reduceSub,Int.reduceMul,Int.reduceNeg,Int.reduceNe,reduceCtorEq,Int.reduceToNat,↓reduceIte]
          refine ⟨fun h1 => ⟨fun h2 => ?_, fun h2 => ?_⟩, fun h1 => ?_⟩
          · rw [hbd (hf.1 ⟨by omega, by omega⟩)]; exact ⟨Nat.le_refl _, rfl⟩
          · rw [hgd (by cases hx : fineL _ with | true => rfl | false => (exfalso; have := hf.2 hx; omega))]; exact ⟨Nat.le_refl _, rfl⟩
          · rw [hgd (by cases hx : fineL _ with | true => rfl | false => (exfalso; have := hf.2 hx; omega))]; exact ⟨Nat.le_refl _, rfl⟩
        · rw [hbd (by rw [he]; simp)]; exact ⟨Nat.le_refl _, rfl⟩
      · have hsig := sig_else (b := b) (r := r) (by intro h; apply e1; have := hlo (by omega); omega) (by intro h; apply e2; have := hlo (by omega); omega) (by intro h; apply e3; have := hlo (by omega); omega) (by
          by_cases h : b.toNat < 128
          · rw [hlo h] at e4; simpa using e4
          · simp [sigB]; omega) (by intro h; apply e5; have := hlo (by omega); omega) (by simpa using e6) (by simpa using e7)
        rw [← hL] at hsig
        have qw := p_word 0 ⟨#[]⟩ 0 0 (by decide)
        rw [one1]
        have qf := hfree (1) (by omega)
        have hf := hfin (1) (by omega)
        have hgd := good _ _ _ _ hsig
        have hbd := bad _ _ _ _ hsig
        simp only [goodT] at hgd hbd
        simp only [J_token_sign_j1, wk,if_true,if_false,forall_const,implies_true,ne_eq,eq_self,Nat.reduceEqDiff,Nat.reduceAdd,Nat.reduceMul,Nat.reduceSub,Nat.reduceLeDiff,Nat.reduceLT,Int.reduceEq,Int.reduceLT,Int.reduceLE,Int.reduceAdd,Int.reduceSub,Int.reduceMul,Int.reduceNeg,Int.reduceNe,reduceCtorEq,Int.reduceToNat,↓reduceIte]
        refine PCalls.use qw ?_; simp only [wk,if_true,if_false,forall_const,implies_true,ne_eq,eq_self,Nat.reduceEqDiff,Nat.reduceAdd,Nat.reduceMul,Nat.reduceSub,Nat.reduceLeDiff,Nat.reduceLT,Int.reduceEq,Int.reduceLT,Int.reduceLE,Int.reduceAdd,Int.reduceSub,Int.reduceMul,Int.reduceNeg,Int.reduceNe,reduceCtorEq,Int.reduceToNat,↓reduceIte]
        refine ⟨fun hne => ?_, fun he => ?_⟩
        · have hne2 := decide_eq_true hne
          simp only [hne2, Bool.true_and] at hgd hbd
          refine PCalls.use qf ?_; simp only [wk,if_true,if_false,forall_const,implies_true,ne_eq,eq_self,Nat.reduceEqDiff,Nat.reduceAdd,Nat.reduceMul,Nat.reduceSub,Nat.reduceLeDiff,Nat.reduceLT,Int.reduceEq,Int.reduceLT,Int.reduceLE,Int.reduceAdd,Int.reduceSub,Int.reduceMul,Int.reduceNeg,Int.reduceNe,reduceCtorEq,Int.reduceToNat,↓reduceIte]
          refine ⟨fun h1 => ⟨fun h2 => ?_, fun h2 => ?_⟩, fun h1 => ?_⟩
          · rw [hbd (hf.1 ⟨by omega, by omega⟩)]; exact ⟨Nat.le_refl _, rfl⟩
          · rw [hgd (by cases hx : fineL _ with | true => rfl | false => (exfalso; have := hf.2 hx; omega))]; exact ⟨Nat.le_refl _, rfl⟩
          · rw [hgd (by cases hx : fineL _ with | true => rfl | false => (exfalso; have := hf.2 hx; omega))]; exact ⟨Nat.le_refl _, rfl⟩
        · rw [hbd (by rw [he]; simp)]; exact ⟨Nat.le_refl _, rfl⟩
end Go.Proofs.Ytmbijfcjfhdnjaa

/- The program's All. -/
namespace Go.Proofs.Ytmbijfcjfhdnjaa
set_option linter.unusedSimpArgs false
set_option linter.unusedVariables false
open Go.RowKit Go.Lib

/-- no rune stretches over a place -/
def noJ (s : ByteArray) (e : Nat) : Prop := ∀ p, p < e → p + (Utf8.decode s p).2 ≤ e
theorem noJ_atB {s : ByteArray} {e : Nat} (he : e ≤ s.size) (h : atB s e) : noJ s e := fun p hp => step_le h hp he
theorem noJ_size (s : ByteArray) : noJ s s.size := fun p hp => (step_one hp).2
theorem noJ_low {s : ByteArray} {e : Nat} (he : e < s.data.toList.length) (h : (s.data.toList[e]).toNat < 128) : noJ s e := fun p hp => by
  have hpl : p < s.data.toList.length := by omega
  by_cases h1 : (s.data.toList[p]).toNat < 128
  · rw [dec_lt hpl h1]; show p + 1 ≤ e; omega
  · obtain ⟨d1, d2, d3, d4⟩ := dec_ge hpl h1
    rcases Nat.lt_or_ge e (p + (Utf8.decode s p).2) with h2 | h2
    · have := d4 e he hp h2; omega
    · exact h2
theorem noJ_note {s : ByteArray} {i : Nat} (hi : i ≤ s.size) : i + stopN notI (s.data.toList.drop i) ≤ s.size ∧ noJ s (i + stopN notI (s.data.toList.drop i)) := by
  have hl := len_size s
  have hle := stopN_le notI (s.data.toList.drop i)
  have hll : (s.data.toList.drop i).length = s.data.toList.length - i := List.length_drop
  refine ⟨by omega, ?_⟩
  rcases Nat.lt_or_ge (stopN notI (s.data.toList.drop i)) (s.data.toList.drop i).length with h | h
  · have h2 := stopN_end h
    rw [List.getElem_drop] at h2
    refine noJ_low (by omega) ?_
    simp only [notI, decide_eq_false_iff_not, Decidable.not_not] at h2
    omega
  · have : i + stopN notI (s.data.toList.drop i) = s.size := by omega
    rw [this]; exact noJ_size s
theorem signL_kind {l : List UInt8} {k : Int} {w : ByteArray} {o : Int} {n : Nat} (h : signL l = some (k, w, o, n)) : k ≠ 0 := by
  unfold signL at h
  split at h
  · unfold plainL at h
    repeat' split at h
    all_goals first
      | (cases h; done)
      | (simp only [Option.some.injEq, Prod.mk.injEq] at h; obtain ⟨rfl, _⟩ := h; first | decide | assumption)
  · unfold atomL at h
    split at h
    · cases h
    · simp only [Option.some.injEq, Prod.mk.injEq] at h; obtain ⟨rfl, _⟩ := h; decide
set_option maxRecDepth 100000 in
set_option maxHeartbeats 4000000 in
theorem p_pall (s : ByteArray) (hs : s.size ≤ 1000000) : PCalls Try.prog 13 [.str s] (resV (allT s)) := by
  have hl := len_size s
  refine pcalls_of rfl (free_resV _) (ACalls.deep (acalls_of mixed J_token_All_ok (Nat.le_of_ble_eq_true rfl) ?_)); simp only [J_token_All, wk,if_true,if_false,forall_const,implies_true,ne_eq,eq_self,Nat.reduceEqDiff,Nat.reduceAdd,Nat.reduceMul,Nat.reduceSub,Nat.reduceLeDiff,Nat.reduceLT,Int.reduceEq,Int.reduceLT,Int.reduceLE,Int.reduceAdd,Int.reduceSub,Int.reduceMul,Int.reduceNeg,Int.reduceNe,reduceCtorEq,Int.reduceToNat,↓reduceIte]
  unfold allT
  refine ⟨fun hbig => ?_, fun hbig => ?_⟩
  · rw [if_pos (by omega)]
    simp only [rdpw, resV, vToks, toksC]
    rfl
  rw [if_neg (by omega)]
  refine W_loop (fun m fr h' => ∃ (p e : Nat) (acc : List Tok), p ≤ s.size ∧ e ≤ s.size ∧ m = s.size - p ∧ acc.length ≤ 1000 ∧ noJ s e ∧ scan s.data.toList 0 [] = scan (s.data.toList.drop (max p e)) (max p e) acc ∧ fr = [(0, .str s), (5, .lst (.own 28) acc.length (toksC acc)), (6, .int .i64 e), (15, .itr s p)]) s.size ⟨0, 0, [], by omega, by omega, by omega, by simp, fun p hp => by omega, rfl, rfl⟩ ?_
  rintro m fr h' ⟨p, e, acc, hp, he, rfl, hacc, hj, hscan, rfl⟩
  simp only [J_token_All_j2, wk,if_true,if_false,forall_const,implies_true,ne_eq,eq_self,Nat.reduceEqDiff,Nat.reduceAdd,Nat.reduceMul,Nat.reduceSub,Nat.reduceLeDiff,Nat.reduceLT,Int.reduceEq,Int.reduceLT,Int.reduceLE,Int.reduceAdd,Int.reduceSub,Int.reduceMul,Int.reduceNeg,Int.reduceNe,reduceCtorEq,Int.reduceToNat,↓reduceIte]
  refine ⟨fun hlt => ?_, fun hge => ?_⟩
  · have hpl : p < s.size := by omega
    have hal : p < s.data.toList.length := by omega
    have hd : s.data.toList.drop p = s.data.toList[p] :: s.data.toList.drop (p + 1) := List.drop_eq_getElem_cons hal
    obtain ⟨b, hb⟩ : ∃ b, b = s.data.toList[p] := ⟨_, rfl⟩
    rw [← hb] at hd
    have hone := step_one hpl
    have hlo : b.toNat < 128 → Utf8.decode s p = (b.toNat, 1) := fun h => by rw [dec_lt hal (by rw [← hb]; exact h), hb]
    have hhi : ¬ b.toNat < 128 → 128 ≤ (Utf8.decode s p).1 := fun h => (dec_ge hal (by rw [← hb]; exact h)).1
    have q := p_psign s p (Utf8.decode s p).1 hs hpl rfl
    rw [hd] at q
    obtain ⟨v, hv⟩ : ∃ v, v = (Utf8.decode s p).1 := ⟨_, rfl⟩
    obtain ⟨d, hdd⟩ : ∃ d, d = (Utf8.decode s p).2 := ⟨_, rfl⟩
    rw [← hv] at q hhi
    rw [← hdd] at hone
    simp only [← hv, ← hdd]
    have ch : ∀ n : Nat, n < 128 → ((v : Int) = n ↔ b.toNat = n) := fun n hn => by
      by_cases h : b.toNat < 128
      · have := congrArg Prod.fst (hlo h); simp only at this; omega
      · have := hhi h; omega
    have c32 := ch 32 (by omega)
    have c9 := ch 9 (by omega)
    have c10 := ch 10 (by omega)
    have c35 := ch 35 (by omega)
    have d1 : b.toNat < 128 → d = 1 := fun h => by have := congrArg Prod.snd (hlo h); simp only at this; omega
    -- on with the same tokens
    have on : ∀ e' : Nat, e' ≤ s.size → noJ s e' → scan s.data.toList 0 [] = scan (s.data.toList.drop (max (p + d) e')) (max (p + d) e') acc → ∃ m, m < s.size - p ∧ ∃ (p' e'' : Nat) (acc' : List Tok), p' ≤ s.size ∧ e'' ≤ s.size ∧ m = s.size - p' ∧ acc'.length ≤ 1000 ∧ noJ s e'' ∧ scan s.data.toList 0 [] = scan (s.data.toList.drop (max p' e'')) (max p' e'') acc' ∧ [(0, AV.str s), (5, .lst (.own 28) acc.length (toksC acc)), (6, .int .i64 e'), (15, .itr s (p + d))] = [(0, .str s), (5, .lst (.own 28) acc'.length (toksC acc')), (6, .int .i64 e''), (15, .itr s p')] := fun e' h1 h2 h3 =>
      ⟨s.size - (p + d), by omega, p + d, e', acc, by omega, h1, rfl, hacc, h2, h3, rfl⟩
    have far : p < e → scan s.data.toList 0 [] = scan (s.data.toList.drop (max (p + d) e)) (max (p + d) e) acc := fun h => by
      have := hj p h
      rw [← hdd] at this
      rw [hscan, show max (p + d) e = max p e by omega]
    have hsc : ¬ p < e → scan s.data.toList 0 [] = if blankB b = true then scan (s.data.toList.drop (p + 1)) (p + 1) acc
        else if b.toNat = 35 then scan (s.data.toList.drop (p + stopN notI (s.data.toList.drop p))) (p + stopN notI (s.data.toList.drop p)) acc
        else match signL (s.data.toList.drop p) with
          | none => ([], p, 2)
          | some (k, w, o, n) => if acc.length = 1000 then ([], p, 3) else scan (s.data.toList.drop (p + n)) (p + n) (acc ++ [⟨k, w, o, p⟩]) := fun h => by
      rw [hscan, show max p e = p by omega]
      rw [hd, scan_cons, ← hd]
      simp only [List.drop_drop]
      try rfl
    have blank : ¬ p < e → blankB b = true → scan s.data.toList 0 [] = scan (s.data.toList.drop (max (p + d) e)) (max (p + d) e) acc := fun h h2 => by
      have : d = 1 := d1 (by simp [blankB] at h2; omega)
      rw [hsc h, if_pos h2, show max (p + d) e = p + 1 by omega]
    have hblank : ∀ n : Nat, n = 32 ∨ n = 9 ∨ n = 10 → b.toNat = n → blankB b = true := fun n h h2 => by
      rw [← h2] at h
      rcases h with h | h | h <;> simp [blankB, h]
    refine ⟨fun nlt => ⟨fun n32 => ⟨fun n9 => ⟨fun ev => ?_, fun n10 => ⟨fun ev => ?_, fun n35 => ?_⟩⟩, fun ev => ?_⟩, fun ev => ?_⟩, fun hpe => ?_⟩
    · exact on e he hj (blank (by omega) (hblank 10 (by omega) (c10.1 ev)))
    · have h35 := c35.1 ev
      obtain ⟨k1, k2⟩ := noJ_note (s := s) (i := p) hp
      have q2 := p_stop (f := 33) p_not hi_not s p hs hp
      have h1 : 1 ≤ stopN notI (s.data.toList.drop p) := by rw [hd]; exact note_one h35
      obtain ⟨n, hn⟩ : ∃ n, n = stopN notI (s.data.toList.drop p) := ⟨_, rfl⟩
      rw [← hn] at k1 k2 q2 h1
      rw [show ((p : Int) + (n : Nat)) = ((p + n : Nat) : Int) by omega] at q2
      have hd1 := d1 (by omega)
      refine PCalls.use q2 ?_; simp only [wk,if_true,if_false,forall_const,implies_true,ne_eq,eq_self,Nat.reduceEqDiff,Nat.reduceAdd,Nat.reduceMul,Nat.reduceSub,Nat.reduceLeDiff,Nat.reduceLT,Int.reduceEq,Int.reduceLT,Int.reduceLE,Int.reduceAdd,Int.reduceSub,Int.reduceMul,Int.reduceNeg,Int.reduceNe,reduceCtorEq,Int.reduceToNat,↓reduceIte]
      refine on (p + n) k1 k2 ?_
      rw [hsc (by omega), if_neg (by simp [blankB, h35]), if_pos h35, ← hn, show max (p + d) (p + n) = p + n by omega]
    · have hsc2 := hsc (by omega)
      rw [if_neg (by simp [blankB]; omega), if_neg (by omega)] at hsc2
      unfold psV at q
      rw [hd] at hsc2
      cases hsg : signL (b :: s.data.toList.drop (p + 1)) with
      | none =>
        rw [hsg] at q hsc2
        refine PCalls.use (q) ?_; simp only [wk,if_true,if_false,forall_const,implies_true,ne_eq,eq_self,Nat.reduceEqDiff,Nat.reduceAdd,Nat.reduceMul,Nat.reduceSub,Nat.reduceLeDiff,Nat.reduceLT,Int.reduceEq,Int.reduceLT,Int.reduceLE,Int.reduceAdd,Int.reduceSub,Int.reduceMul,Int.reduceNeg,Int.reduceNe,reduceCtorEq,Int.reduceToNat,↓reduceIte]
        simp only [hsc2, resV, vToks, toksC, rdpw]
        rfl
      | some x =>
        obtain ⟨k, w, o, n⟩ := x
        rw [hsg] at q hsc2
        have hk := signL_kind hsg
        have hasc := signL_ascii hsg
        have hn1 := hasc.1
        rw [← hd] at hasc
        obtain ⟨k1, k2⟩ := ascii_at (by omega) hasc
        refine PCalls.use (q) ?_; simp only [wk,if_true,if_false,forall_const,implies_true,ne_eq,eq_self,Nat.reduceEqDiff,Nat.reduceAdd,Nat.reduceMul,Nat.reduceSub,Nat.reduceLeDiff,Nat.reduceLT,Int.reduceEq,Int.reduceLT,Int.reduceLE,Int.reduceAdd,Int.reduceSub,Int.reduceMul,Int.reduceNeg,Int.reduceNe,reduceCtorEq,Int.reduceToNat,↓reduceIte]
        have hjn := noJ_atB k1 k2
        have hdn := hjn p (by omega)
        rw [← hdd] at hdn
        refine ⟨fun h => absurd h hk, fun _ => ⟨fun h => ?_, fun h => ?_⟩⟩
        · simp only [hsc2, show acc.length = 1000 by omega, if_true, resV, vToks, toksC, rdpw]
          rfl
        · refine ⟨⟨by omega, by omega⟩, s.size - (p + d), by omega, p + d, p + n, acc ++ [⟨k, w, o, p⟩], by omega, k1, rfl, by simp; omega, hjn, ?_, ?_⟩
          · rw [hsc2]
            simp only
            rw [if_neg (by omega), show max (p + d) (p + n) = p + n by omega]
          · simp [toksC_sn]
    · exact on e he hj (blank (by omega) (hblank 9 (by omega) (c9.1 ev)))
    · exact on e he hj (blank (by omega) (hblank 32 (by omega) (c32.1 ev)))
    · exact on e he hj (far (by omega))
  · have hn : scan s.data.toList 0 [] = (acc, 0, 0) := by
      rw [hscan, List.drop_of_length_le (by omega)]
      rfl
    simp only [J_token_All_j1, hn, resV, vToks, rdpw, rdps_toks, wk,if_true,if_false,forall_const,implies_true,ne_eq,eq_self,Nat.reduceEqDiff,Nat.reduceAdd,Nat.reduceMul,Nat.reduceSub,Nat.reduceLeDiff,Nat.reduceLT,Int.reduceEq,Int.reduceLT,Int.reduceLE,Int.reduceAdd,Int.reduceSub,Int.reduceMul,Int.reduceNeg,Int.reduceNe,reduceCtorEq,Int.reduceToNat,↓reduceIte]
    rfl
end Go.Proofs.Ytmbijfcjfhdnjaa

/- A call that leaves all objects alone may be handed objects: for the call they stay as they are. What it tells is then known but for its lists. -/
namespace Go.Proofs.Ytmbijfcjfhdnjaa
set_option linter.unusedSimpArgs false
set_option linter.unusedVariables false
open Go.RowKit Go.Lib

mutual
/-- without what lists and places hold -/
def fgt : AV → AV
  | .lst _ _ _ => .opq
  | .fp _ => .opq
  | .fn _ _ => .opq
  | .ptr _ _ => .opq
  | .hs _ _ => .opq
  | .itr _ _ => .opq
  | .stk _ _ _ => .opq
  | .agg l => .agg (fgts l)
  | .tup l => .tup (fgts l)
  | a => a
def fgts : List AV → List AV
  | [] => []
  | a :: l => fgt a :: fgts l
end
theorem plain_fgt (a : AV) : plain (fgt a) = true := by
  cases a <;> simp [fgt, plain]
theorem plains_fgt : ∀ l : List AV, plains (fgts l)
  | [] => by intro a ha; simp [fgts] at ha
  | a :: l => by
    intro b hb
    simp only [fgts, List.mem_cons] at hb
    rcases hb with rfl | hb
    · exact plain_fgt a
    · exact plains_fgt l b hb
mutual
theorem Rep.fgt {g g' : Gh} : ∀ {v : Value} {a : AV}, Rep g v a → Rep g' v (fgt a)
  | _, _, .bool b => by simp only [Go.Proofs.Ytmbijfcjfhdnjaa.fgt]; exact .bool b
  | _, _, .int k n => by simp only [Go.Proofs.Ytmbijfcjfhdnjaa.fgt]; exact .int k n
  | _, _, .str s => by simp only [Go.Proofs.Ytmbijfcjfhdnjaa.fgt]; exact .str s
  | _, _, .nilp => by simp only [Go.Proofs.Ytmbijfcjfhdnjaa.fgt]; exact .nilp
  | _, _, .ptr id off b h => by simp only [Go.Proofs.Ytmbijfcjfhdnjaa.fgt]; exact .opq _ rfl (fun h => by cases h)
  | _, _, .fp b off vs l h hp hl => by simp only [Go.Proofs.Ytmbijfcjfhdnjaa.fgt]; exact .opq _ rfl (fun h => by cases h)
  | _, _, .lst b off n c f vs l h hp h1 h2 hl => by simp only [Go.Proofs.Ytmbijfcjfhdnjaa.fgt]; exact .opq _ rfl (fun h => by cases h)
  | _, _, .lst0 a c f h => by simp only [Go.Proofs.Ytmbijfcjfhdnjaa.fgt]; exact .opq _ rfl (fun h => by cases h)
  | _, _, .hs id b n c h h1 => by simp only [Go.Proofs.Ytmbijfcjfhdnjaa.fgt]; exact .opq _ rfl (fun h => by cases h)
  | _, _, .agg vs l h hp hl => by simp only [Go.Proofs.Ytmbijfcjfhdnjaa.fgt]; exact .agg vs _ h (plains_fgt l) (RepL.fgt hl)
  | _, _, .tup vs l hp hl => by simp only [Go.Proofs.Ytmbijfcjfhdnjaa.fgt]; exact .tup vs _ (plains_fgt l) (RepL.fgt hl)
  | _, _, .fn f vs l hp hl => by simp only [Go.Proofs.Ytmbijfcjfhdnjaa.fgt]; exact .opq _ rfl (fun h => by cases h)
  | _, _, .nilf => by simp only [Go.Proofs.Ytmbijfcjfhdnjaa.fgt]; exact .nilf
  | _, _, .opq v h h' => by simp only [Go.Proofs.Ytmbijfcjfhdnjaa.fgt]; exact .opq v h h'
  | _, _, .itr b s p => by simp only [Go.Proofs.Ytmbijfcjfhdnjaa.fgt]; exact .opq _ rfl (fun h => by cases h)
  | _, _, .stk a c e o l h1 h2 h3 => by simp only [Go.Proofs.Ytmbijfcjfhdnjaa.fgt]; exact .opq _ rfl (fun h => by cases h)
  | _, _, .raw a m c h1 h2 => by simp only [Go.Proofs.Ytmbijfcjfhdnjaa.fgt]; exact .raw a m c h1 h2
  | _, _, .rawp b i m c => by simp only [Go.Proofs.Ytmbijfcjfhdnjaa.fgt]; exact .rawp b i m c
theorem RepL.fgt {g g' : Gh} : ∀ {vs : List Value} {l : List AV}, RepL g vs l → RepL g' vs (fgts l)
  | _, _, .nil => by simp only [fgts]; exact .nil
  | _, _, .cons h hr => by simp only [fgts]; exact .cons (Rep.fgt h) (RepL.fgt hr)
end
/-- all objects are another's, and stay as they are -/
noncomputable def Gh.still (g : Gh) (h : Hp) (w : World) : Gh := { g.bare with C := (g.ice h w).C }
open Classical in
section
variable {P : Program} {g : Gh} {h : Hp} {w : World}
theorem Sim.still (hs : Sim P g h w) : Sim P (g.still h w) [] w := by
  have hb := hs.bare
  refine ⟨fun b o u hu => ?_, (fun id s l hl => by simp at hl), hb.inj, hb.dom, hb.flt, hb.olt, hb.hole⟩
  simp only [Gh.still, Gh.ice] at hu
  split at hu
  · next u' hu' => simp only [Option.some.injEq] at hu; subst hu; exact hs.prot b o _ hu'
  · split at hu
    · simp only [Option.filter_eq_some_iff] at hu; exact hu
    · cases hu
end
end Go.Proofs.Ytmbijfcjfhdnjaa
