/- Texts of one proof, laid together: FnE Al Ke Kf Ec Ed Ee Ef. -/
import Derived.Test.YtmbijfcjfhdnjaaProg
import Derived.Test.YtmbijfcjfhdnjaaMQ9
import Derived.Test.YtmbijfcjfhdnjaaMQ10
import Derived.Test.YtmbijfcjfhdnjaaMQ11

namespace Go.Proofs.Ytmbijfcjfhdnjaa
open Go.RowKit
def J_law05_ExprParses : AFn :=
 ⟨39, [.t 2], .seq (.ops [⟨some 2, none, .mv (.c (.bool false)), none⟩])
 (.keep [0] (.seq (.seq (.ops [⟨some 9, none, .call (.f 15) [], none⟩,
 ⟨some 10, none, .not (.t 9), none⟩])
 (.keep [0, 10] (.cond (.t 10)
 (.seq (.ops [⟨some 2, none, .mv (.c (.bool false)), none⟩])
 (.ret))
 (.skip))))
 (.keep [0] (.seq (.seq (.ops [⟨some 11, none, .mv (.t 0), none⟩,
 ⟨some 12, none, .lens (.t 11), none⟩,
 ⟨some 13, none, .bin .gtr (.t 12) (.c (.int .i64 4096)), none⟩])
 (.keep [0, 13] (.cond (.t 13)
 (.seq (.ops [⟨some 2, none, .mv (.c (.bool true)), none⟩])
 (.ret))
 (.skip))))
 (.keep [0] (.seq (.ops [⟨some 15, none, .mv (.t 0), none⟩,
 ⟨some 16, none, .call (.f 16) [(.t 15)], none⟩,
 ⟨some 14, none, .mv (.t 16), none⟩,
 ⟨some 17, none, .ext 0 (.t 14), none⟩,
 ⟨some 18, none, .ext 1 (.t 14), none⟩,
 ⟨some 19, none, .ext 2 (.t 14), none⟩,
 ⟨some 3, none, .mv (.t 17), none⟩,
 ⟨some 4, none, .mv (.t 18), none⟩,
 ⟨some 5, none, .mv (.t 19), none⟩])
 (.keep [0, 3, 4, 5] (.seq (.ops [⟨some 21, none, .mv (.t 0), none⟩,
 ⟨some 22, none, .call (.f 17) [(.t 21)], none⟩,
 ⟨some 20, none, .mv (.t 22), none⟩,
 ⟨some 23, none, .ext 0 (.t 20), none⟩,
 ⟨some 24, none, .ext 1 (.t 20), none⟩,
 ⟨some 25, none, .ext 2 (.t 20), none⟩,
 ⟨some 6, none, .mv (.t 23), none⟩,
 ⟨some 7, none, .mv (.t 24), none⟩,
 ⟨some 8, none, .mv (.t 25), none⟩])
 (.keep [3, 4, 5, 6, 7, 8] (.seq (.ops [⟨some 26, none, .mv (.t 3), none⟩,
 ⟨some 27, none, .mv (.t 6), none⟩,
 ⟨some 28, none, .call (.f 18) [(.t 26), (.t 27)], none⟩,
 ⟨some 29, none, .mv (.t 28), none⟩,
 ⟨some 30, (some (29, true)), .mv (.t 4), none⟩,
 ⟨some 31, (some (29, true)), .mv (.t 7), none⟩,
 ⟨some 32, (some (29, true)), .bin .eql (.t 30) (.t 31), none⟩,
 ⟨some 33, none, .pick (.t 29) (.t 32) (.c (.bool false)), none⟩,
 ⟨some 34, none, .mv (.t 33), none⟩,
 ⟨some 35, (some (34, true)), .mv (.t 5), none⟩,
 ⟨some 36, (some (34, true)), .mv (.t 8), none⟩,
 ⟨some 37, (some (34, true)), .bin .eql (.t 35) (.t 36), none⟩,
 ⟨some 38, none, .pick (.t 34) (.t 37) (.c (.bool false)), none⟩,
 ⟨some 2, none, .mv (.t 38), none⟩])
 (.ret)))))))))))⟩
theorem J_law05_ExprParses_ok : chkFn Try.prog 5 J_law05_ExprParses = true := by kernel_rfl
def J_law05_ExprReads_j1 : ACode :=
 .keep [5, 6, 7, 8, 9, 10] (.seq (.ops [⟨some 60, none, .mv (.t 5), none⟩,
 ⟨some 61, none, .mv (.t 8), none⟩,
 ⟨some 62, none, .call (.f 18) [(.t 60), (.t 61)], none⟩,
 ⟨some 63, none, .mv (.t 62), none⟩,
 ⟨some 64, (some (63, true)), .mv (.t 6), none⟩,
 ⟨some 65, (some (63, true)), .mv (.t 9), none⟩,
 ⟨some 66, (some (63, true)), .bin .eql (.t 64) (.t 65), none⟩,
 ⟨some 67, none, .pick (.t 63) (.t 66) (.c (.bool false)), none⟩,
 ⟨some 68, none, .mv (.t 67), none⟩,
 ⟨some 69, (some (68, true)), .mv (.t 7), none⟩,
 ⟨some 70, (some (68, true)), .mv (.t 10), none⟩,
 ⟨some 71, (some (68, true)), .bin .eql (.t 69) (.t 70), none⟩,
 ⟨some 72, none, .pick (.t 68) (.t 71) (.c (.bool false)), none⟩,
 ⟨some 2, none, .mv (.t 72), none⟩])
 (.ret))
def J_law05_ExprReads_j2 : ACode :=
 .seq (.ops [⟨some 48, none, .bin .lss (.t 47) (.t 46), none⟩])
 (.keep [0, 4, 5, 6, 7, 8, 9, 10, 46, 47, 48] (.seq (.cond (.t 48)
 (.skip)
 (.exit 2))
 (.keep [0, 4, 5, 6, 7, 8, 9, 10, 46, 47] (.seq (.block 3 (.seq (.ops [⟨some 49, none, .mv (.t 47), none⟩,
 ⟨some 11, none, .mv (.t 49), none⟩])
 (.keep [0, 4, 5, 6, 7, 8, 9, 10, 11, 46, 47] (.seq (.draw [0, 4, 5, 6, 7, 8, 9, 10, 46, 47, 58] [⟨some 50, none, .mv (.t 4), none⟩,
 ⟨some 51, none, .mv (.t 11), none⟩,
 ⟨some 52, none, .idxa 4 (.t 50) (.t 51), none⟩,
 ⟨some 53, none, .load (some 4) (.t 52), none⟩,
 ⟨some 54, none, .mv (.t 0), none⟩,
 ⟨some 55, none, .mv (.t 11), none⟩,
 ⟨some 56, none, .idxa 4 (.t 54) (.t 55), none⟩,
 ⟨some 57, none, .load (some 4) (.t 56), none⟩,
 ⟨some 58, none, .ex (.aeq true [0, 1, 0, 0]) [(.t 53), (.t 57)], none⟩])
 (.keep [0, 4, 5, 6, 7, 8, 9, 10, 46, 47, 58] (.cond (.t 58)
 (.seq (.ops [⟨some 2, none, .mv (.c (.bool false)), none⟩])
 (.ret))
 (.skip)))))))
 (.keep [0, 4, 5, 6, 7, 8, 9, 10, 46, 47] (.ops [⟨some 59, none, .bin .add (.t 47) (.c (.int .i64 1)), none⟩,
 ⟨some 47, none, .mv (.t 59), none⟩]))))))
def J_law05_ExprReads_j3 : ACode :=
 .keep [0] (.seq (.ops [⟨some 30, none, .bsl 28 4 0 [] [], none⟩,
 ⟨some 31, none, .mv (.t 0), none⟩,
 ⟨some 32, none, .appo 28 4 40 30 (.t 31), none⟩,
 ⟨some 4, none, .mvo 32, none⟩])
 (.keep [0, 4] (.seq (.ops [⟨some 34, none, .mv (.t 4), none⟩,
 ⟨some 35, none, .call (.f 19) [(.t 34)], none⟩,
 ⟨some 33, none, .mv (.t 35), none⟩,
 ⟨some 36, none, .ext 0 (.t 33), none⟩,
 ⟨some 37, none, .ext 1 (.t 33), none⟩,
 ⟨some 38, none, .ext 2 (.t 33), none⟩,
 ⟨some 5, none, .mv (.t 36), none⟩,
 ⟨some 6, none, .mv (.t 37), none⟩,
 ⟨some 7, none, .mv (.t 38), none⟩])
 (.keep [0, 4, 5, 6, 7] (.seq (.ops [⟨some 40, none, .mv (.t 0), none⟩,
 ⟨some 41, none, .call (.f 20) [(.t 40)], none⟩,
 ⟨some 39, none, .mv (.t 41), none⟩,
 ⟨some 42, none, .ext 0 (.t 39), none⟩,
 ⟨some 43, none, .ext 1 (.t 39), none⟩,
 ⟨some 44, none, .ext 2 (.t 39), none⟩,
 ⟨some 8, none, .mv (.t 42), none⟩,
 ⟨some 9, none, .mv (.t 43), none⟩,
 ⟨some 10, none, .mv (.t 44), none⟩])
 (.keep [0, 4, 5, 6, 7, 8, 9, 10] (.seq (.seq (.ops [⟨some 45, none, .mv (.t 0), none⟩,
 ⟨some 46, none, .lenl (.t 45), none⟩,
 ⟨some 47, none, .mv (.c (.int .i64 0)), none⟩])
 (.keep [0, 4, 5, 6, 7, 8, 9, 10, 46, 47] (.block 2 (.loop [0, 4, 5, 6, 7, 8, 9, 10, 46, 47] (J_law05_ExprReads_j2)))))
 (J_law05_ExprReads_j1))))))))
def J_law05_ExprReads_j4 : ACode :=
 .seq (.ops [⟨some 20, none, .bin .lss (.t 19) (.t 18), none⟩])
 (.keep [0, 18, 19, 20] (.seq (.cond (.t 20)
 (.skip)
 (.exit 0))
 (.keep [0, 18, 19] (.seq (.block 1 (.seq (.ops [⟨some 21, none, .mv (.t 19), none⟩,
 ⟨some 3, none, .mv (.t 21), none⟩])
 (.keep [0, 3, 18, 19] (.seq (.ops [⟨some 22, none, .mv (.t 0), none⟩,
 ⟨some 23, none, .mv (.t 3), none⟩,
 ⟨some 24, none, .idxa 4 (.t 22) (.t 23), none⟩,
 ⟨some 25, none, .fld 1 (.t 24), none⟩,
 ⟨some 26, none, .load none (.t 25), none⟩,
 ⟨some 27, none, .lens (.t 26), none⟩,
 ⟨some 28, none, .bin .gtr (.t 27) (.c (.int .i64 100)), none⟩])
 (.keep [0, 18, 19, 28] (.cond (.t 28)
 (.seq (.ops [⟨some 2, none, .mv (.c (.bool true)), none⟩])
 (.ret))
 (.skip)))))))
 (.keep [0, 18, 19] (.ops [⟨some 29, none, .bin .add (.t 19) (.c (.int .i64 1)), none⟩,
 ⟨some 19, none, .mv (.t 29), none⟩]))))))
def J_law05_ExprReads : AFn :=
 ⟨73, [.t 2], .seq (.ops [⟨some 2, none, .mv (.c (.bool false)), none⟩])
 (.keep [0] (.seq (.seq (.ops [⟨some 12, none, .call (.f 15) [], none⟩,
 ⟨some 13, none, .not (.t 12), none⟩])
 (.keep [0, 13] (.cond (.t 13)
 (.seq (.ops [⟨some 2, none, .mv (.c (.bool false)), none⟩])
 (.ret))
 (.skip))))
 (.keep [0] (.seq (.seq (.ops [⟨some 14, none, .mv (.t 0), none⟩,
 ⟨some 15, none, .lenl (.t 14), none⟩,
 ⟨some 16, none, .bin .gtr (.t 15) (.c (.int .i64 500)), none⟩])
 (.keep [0, 16] (.cond (.t 16)
 (.seq (.ops [⟨some 2, none, .mv (.c (.bool true)), none⟩])
 (.ret))
 (.skip))))
 (.keep [0] (.seq (.seq (.ops [⟨some 17, none, .mv (.t 0), none⟩,
 ⟨some 18, none, .lenl (.t 17), none⟩,
 ⟨some 19, none, .mv (.c (.int .i64 0)), none⟩])
 (.keep [0, 18, 19] (.block 0 (.loop [0, 18, 19] (J_law05_ExprReads_j4)))))
 (J_law05_ExprReads_j3)))))))⟩
theorem J_law05_ExprReads_ok : chkFn Try.prog 6 J_law05_ExprReads = true := by kernel_rfl
def J_law05_ExprWrites : AFn :=
 ⟨52, [.t 2], .seq (.ops [⟨some 2, none, .mv (.c (.bool false)), none⟩])
 (.keep [0] (.seq (.seq (.ops [⟨some 8, none, .call (.f 15) [], none⟩,
 ⟨some 9, none, .not (.t 8), none⟩])
 (.keep [0, 9] (.cond (.t 9)
 (.seq (.ops [⟨some 2, none, .mv (.c (.bool false)), none⟩])
 (.ret))
 (.skip))))
 (.keep [0] (.seq (.seq (.ops [⟨some 10, none, .mv (.t 0), none⟩,
 ⟨some 11, none, .call (.f 21) [(.t 10)], none⟩])
 (.keep [0, 11] (.cond (.t 11)
 (.seq (.ops [⟨some 2, none, .mv (.c (.bool true)), none⟩])
 (.ret))
 (.skip))))
 (.keep [0] (.seq (.ops [⟨some 12, none, .bsl 45 3 0 [] [], none⟩,
 ⟨some 13, none, .mv (.t 0), none⟩,
 ⟨some 14, none, .appo 45 3 32 12 (.t 13), none⟩,
 ⟨some 3, none, .mvo 14, none⟩])
 (.keep [0, 3] (.seq (.ops [⟨some 16, none, .mv (.t 3), none⟩,
 ⟨some 17, none, .call (.f 22) [(.t 16)], none⟩,
 ⟨some 15, none, .mv (.t 17), none⟩,
 ⟨some 18, none, .ext 0 (.t 15), none⟩,
 ⟨some 19, none, .ext 1 (.t 15), none⟩,
 ⟨some 4, none, .mv (.t 18), none⟩,
 ⟨some 5, none, .mv (.t 19), none⟩])
 (.keep [0, 3, 4, 5] (.seq (.ops [⟨some 21, none, .mv (.t 0), none⟩,
 ⟨some 22, none, .call (.f 23) [(.t 21)], none⟩,
 ⟨some 20, none, .mv (.t 22), none⟩,
 ⟨some 23, none, .ext 0 (.t 20), none⟩,
 ⟨some 24, none, .ext 1 (.t 20), none⟩,
 ⟨some 6, none, .mv (.t 23), none⟩,
 ⟨some 7, none, .mv (.t 24), none⟩])
 (.keep [0, 3, 4, 5, 6, 7] (.seq (.ops [⟨some 25, none, .mv (.t 4), none⟩,
 ⟨some 26, none, .mv (.t 6), none⟩,
 ⟨some 27, none, .bin .eql (.t 25) (.t 26), none⟩,
 ⟨some 28, none, .mv (.t 27), none⟩,
 ⟨some 29, (some (28, true)), .mv (.t 5), none⟩,
 ⟨some 30, (some (28, true)), .mv (.t 7), none⟩,
 ⟨some 31, (some (28, true)), .bin .eql (.t 29) (.t 30), none⟩,
 ⟨some 32, none, .pick (.t 28) (.t 31) (.c (.bool false)), none⟩,
 ⟨some 33, none, .mv (.t 32), none⟩,
 ⟨some 34, (some (33, true)), .mv (.t 3), none⟩,
 ⟨some 35, (some (33, true)), .call (.f 24) [(.t 34)], none⟩,
 ⟨some 36, (some (33, true)), .mv (.t 0), none⟩,
 ⟨some 37, (some (33, true)), .call (.f 25) [(.t 36)], none⟩,
 ⟨some 38, (some (33, true)), .bbin false (.t 35) (.t 37), none⟩,
 ⟨some 39, none, .pick (.t 33) (.t 38) (.c (.bool false)), none⟩,
 ⟨some 40, none, .mv (.t 39), none⟩,
 ⟨some 41, (some (40, true)), .mv (.t 3), none⟩,
 ⟨some 42, (some (40, true)), .call (.f 26) [(.t 41)], none⟩,
 ⟨some 43, (some (40, true)), .mv (.t 0), none⟩,
 ⟨some 44, (some (40, true)), .call (.f 27) [(.t 43)], none⟩,
 ⟨some 45, (some (40, true)), .bin .eql (.t 42) (.t 44), none⟩,
 ⟨some 46, none, .pick (.t 40) (.t 45) (.c (.bool false)), none⟩,
 ⟨some 47, none, .mv (.t 46), none⟩,
 ⟨some 48, (some (47, true)), .mv (.t 3), none⟩,
 ⟨some 49, (some (47, true)), .mv (.t 0), none⟩,
 ⟨some 50, (some (47, true)), .call (.f 18) [(.t 48), (.t 49)], none⟩,
 ⟨some 51, none, .pick (.t 47) (.t 50) (.c (.bool false)), none⟩,
 ⟨some 2, none, .mv (.t 51), none⟩])
 (.ret)))))))))))))⟩
theorem J_law05_ExprWrites_ok : chkFn Try.prog 7 J_law05_ExprWrites = true := by kernel_rfl
def J_law05_ExprBack_j1 : ACode :=
 .keep [1] (.seq (.ops [⟨some 62, none, .mv (.t 1), none⟩,
 ⟨some 63, none, .call (.f 16) [(.t 62)], none⟩,
 ⟨some 61, none, .mv (.t 63), none⟩,
 ⟨some 64, none, .ext 0 (.t 61), none⟩,
 ⟨some 65, none, .ext 1 (.t 61), none⟩,
 ⟨some 66, none, .ext 2 (.t 61), none⟩,
 ⟨some 10, none, .mv (.t 64), none⟩,
 ⟨some 11, none, .mv (.t 65), none⟩,
 ⟨some 12, none, .mv (.t 66), none⟩])
 (.keep [1, 10, 12] (.seq (.seq (.ops [⟨some 67, none, .mv (.t 12), none⟩,
 ⟨some 68, none, .bin .neq (.t 67) (.c (.int .i64 0)), none⟩])
 (.keep [1, 10, 68] (.cond (.t 68)
 (.seq (.ops [⟨some 69, none, .mv (.t 10), none⟩,
 ⟨some 70, none, .lenl (.t 69), none⟩,
 ⟨some 71, none, .bin .eql (.t 70) (.c (.int .i64 0)), none⟩,
 ⟨some 4, none, .mv (.t 71), none⟩])
 (.ret))
 (.skip))))
 (.keep [1, 10] (.seq (.ops [⟨some 73, none, .mv (.t 10), none⟩,
 ⟨some 74, none, .call (.f 22) [(.t 73)], none⟩,
 ⟨some 72, none, .mv (.t 74), none⟩,
 ⟨some 75, none, .ext 0 (.t 72), none⟩,
 ⟨some 76, none, .ext 1 (.t 72), none⟩,
 ⟨some 13, none, .mv (.t 75), none⟩,
 ⟨some 14, none, .mv (.t 76), none⟩])
 (.keep [1, 10, 13, 14] (.seq (.seq (.ops [⟨some 77, none, .mv (.t 14), none⟩,
 ⟨some 78, none, .bin .neq (.t 77) (.c (.int .i64 0)), none⟩,
 ⟨some 79, none, .mv (.t 78), none⟩,
 ⟨some 80, (some (79, false)), .mv (.t 10), none⟩,
 ⟨some 81, (some (79, false)), .call (.f 24) [(.t 80)], none⟩,
 ⟨some 82, (some (79, false)), .not (.t 81), none⟩,
 ⟨some 83, none, .pick (.t 79) (.c (.bool true)) (.t 82), none⟩])
 (.keep [1, 10, 13, 83] (.cond (.t 83)
 (.seq (.ops [⟨some 4, none, .mv (.c (.bool false)), none⟩])
 (.ret))
 (.skip))))
 (.keep [1, 10, 13] (.seq (.seq (.ops [⟨some 84, none, .mv (.t 13), none⟩,
 ⟨some 85, none, .lens (.t 84), none⟩,
 ⟨some 86, none, .bin .gtr (.t 85) (.c (.int .i64 4000)), none⟩])
 (.keep [1, 10, 13, 86] (.cond (.t 86)
 (.seq (.ops [⟨some 87, none, .mv (.t 1), none⟩,
 ⟨some 88, none, .lens (.t 87), none⟩,
 ⟨some 89, none, .bin .gtr (.t 88) (.c (.int .i64 900)), none⟩,
 ⟨some 4, none, .mv (.t 89), none⟩])
 (.ret))
 (.skip))))
 (.keep [10, 13] (.seq (.ops [⟨some 91, none, .mv (.t 13), none⟩,
 ⟨some 92, none, .call (.f 16) [(.t 91)], none⟩,
 ⟨some 90, none, .mv (.t 92), none⟩,
 ⟨some 93, none, .ext 0 (.t 90), none⟩,
 ⟨some 94, none, .ext 1 (.t 90), none⟩,
 ⟨some 95, none, .ext 2 (.t 90), none⟩,
 ⟨some 15, none, .mv (.t 93), none⟩,
 ⟨some 16, none, .mv (.t 94), none⟩,
 ⟨some 17, none, .mv (.t 95), none⟩])
 (.keep [10, 15, 17] (.seq (.ops [⟨some 96, none, .mv (.t 17), none⟩,
 ⟨some 97, none, .bin .eql (.t 96) (.c (.int .i64 0)), none⟩,
 ⟨some 98, none, .mv (.t 97), none⟩,
 ⟨some 99, (some (98, true)), .mv (.t 10), none⟩,
 ⟨some 100, (some (98, true)), .mv (.t 15), none⟩,
 ⟨some 101, (some (98, true)), .call (.f 18) [(.t 99), (.t 100)], none⟩,
 ⟨some 102, none, .pick (.t 98) (.t 101) (.c (.bool false)), none⟩,
 ⟨some 4, none, .mv (.t 102), none⟩])
 (.ret))))))))))))))
def J_law05_ExprBack : AFn :=
 ⟨103, [.t 4], .seq (.ops [⟨some 4, none, .mv (.c (.bool false)), none⟩])
 (.keep [0, 1] (.seq (.seq (.ops [⟨some 18, none, .call (.f 15) [], none⟩,
 ⟨some 19, none, .not (.t 18), none⟩])
 (.keep [0, 1, 19] (.cond (.t 19)
 (.seq (.ops [⟨some 4, none, .mv (.c (.bool false)), none⟩])
 (.ret))
 (.skip))))
 (.keep [0, 1] (.seq (.seq (.ops [⟨some 20, none, .mv (.t 0), none⟩,
 ⟨some 21, none, .call (.f 21) [(.t 20)], none⟩,
 ⟨some 22, none, .mv (.t 21), none⟩,
 ⟨some 23, (some (22, false)), .mv (.t 1), none⟩,
 ⟨some 24, (some (22, false)), .lens (.t 23), none⟩,
 ⟨some 25, (some (22, false)), .bin .gtr (.t 24) (.c (.int .i64 4096)), none⟩,
 ⟨some 26, none, .pick (.t 22) (.c (.bool true)) (.t 25), none⟩])
 (.keep [0, 1, 26] (.cond (.t 26)
 (.seq (.ops [⟨some 4, none, .mv (.c (.bool true)), none⟩])
 (.ret))
 (.skip))))
 (.keep [0, 1] (.seq (.seq (.ops [⟨some 28, none, .mv (.t 0), none⟩,
 ⟨some 29, none, .call (.f 22) [(.t 28)], none⟩,
 ⟨some 27, none, .mv (.t 29), none⟩,
 ⟨some 30, none, .ext 0 (.t 27), none⟩,
 ⟨some 31, none, .ext 1 (.t 27), none⟩,
 ⟨some 5, none, .mv (.t 30), none⟩,
 ⟨some 6, none, .mv (.t 31), none⟩])
 (.keep [0, 1, 5, 6] (.seq (.ops [⟨some 32, none, .mv (.t 6), none⟩,
 ⟨some 33, none, .bin .eql (.t 32) (.c (.int .i64 0)), none⟩,
 ⟨some 34, none, .mv (.t 33), none⟩,
 ⟨some 35, (some (34, true)), .mv (.t 5), none⟩,
 ⟨some 36, (some (34, true)), .lens (.t 35), none⟩,
 ⟨some 37, (some (34, true)), .bin .leq (.t 36) (.c (.int .i64 4000)), none⟩,
 ⟨some 38, none, .pick (.t 34) (.t 37) (.c (.bool false)), none⟩])
 (.keep [0, 1, 5, 38] (.cond (.t 38)
 (.seq (.ops [⟨some 40, none, .mv (.t 5), none⟩,
 ⟨some 41, none, .call (.f 16) [(.t 40)], none⟩,
 ⟨some 39, none, .mv (.t 41), none⟩,
 ⟨some 42, none, .ext 0 (.t 39), none⟩,
 ⟨some 43, none, .ext 1 (.t 39), none⟩,
 ⟨some 44, none, .ext 2 (.t 39), none⟩,
 ⟨some 7, none, .mv (.t 42), none⟩,
 ⟨some 8, none, .mv (.t 43), none⟩,
 ⟨some 9, none, .mv (.t 44), none⟩])
 (.keep [0, 1, 5, 7, 8, 9] (.seq (.seq (.ops [⟨some 45, none, .mv (.t 9), none⟩,
 ⟨some 46, none, .bin .eql (.t 45) (.c (.int .i64 3)), none⟩])
 (.keep [0, 1, 5, 7, 8, 9, 46] (.cond (.t 46)
 (.seq (.ops [⟨some 47, none, .mv (.t 5), none⟩,
 ⟨some 48, none, .call (.f 28) [(.t 47)], none⟩,
 ⟨some 4, none, .mv (.t 48), none⟩])
 (.ret))
 (.skip))))
 (.keep [0, 1, 7, 8, 9] (.seq (.ops [⟨some 49, none, .mv (.t 9), none⟩,
 ⟨some 50, none, .bin .neq (.t 49) (.c (.int .i64 0)), none⟩,
 ⟨some 51, none, .mv (.t 50), none⟩,
 ⟨some 52, (some (51, false)), .mv (.t 8), none⟩,
 ⟨some 53, (some (51, false)), .bin .neq (.t 52) (.c (.int .i64 0)), none⟩,
 ⟨some 54, none, .pick (.t 51) (.c (.bool true)) (.t 53), none⟩,
 ⟨some 55, none, .mv (.t 54), none⟩,
 ⟨some 56, (some (55, false)), .mv (.t 0), none⟩,
 ⟨some 57, (some (55, false)), .mv (.t 7), none⟩,
 ⟨some 58, (some (55, false)), .call (.f 18) [(.t 56), (.t 57)], none⟩,
 ⟨some 59, (some (55, false)), .not (.t 58), none⟩,
 ⟨some 60, none, .pick (.t 55) (.c (.bool true)) (.t 59), none⟩])
 (.keep [1, 60] (.cond (.t 60)
 (.seq (.ops [⟨some 4, none, .mv (.c (.bool false)), none⟩])
 (.ret))
 (.skip))))))))
 (.skip))))))
 (J_law05_ExprBack_j1)))))))⟩
theorem J_law05_ExprBack_ok : chkFn Try.prog 8 J_law05_ExprBack = true := by kernel_rfl
def J_law05_ExprFew_j1 : ACode :=
 .keep [] (.seq (.ops [⟨some 2, none, .mv (.c (.bool true)), none⟩])
 (.ret))
def J_law05_ExprFew_j2 : ACode :=
 .seq (.ops [⟨some 158, none, .bin .lss (.t 157) (.t 156), none⟩])
 (.keep [14, 15, 156, 157, 158] (.seq (.cond (.t 158)
 (.skip)
 (.exit 4))
 (.keep [14, 15, 156, 157] (.seq (.block 5 (.seq (.ops [⟨some 159, none, .mv (.t 157), none⟩,
 ⟨some 20, none, .mv (.t 159), none⟩])
 (.keep [14, 15, 20, 156, 157] (.seq (.draw [14, 15, 156, 157, 168] [⟨some 160, none, .mv (.t 14), none⟩,
 ⟨some 161, none, .mv (.t 20), none⟩,
 ⟨some 162, none, .idxa 1 (.t 160) (.t 161), none⟩,
 ⟨some 163, none, .load none (.t 162), none⟩,
 ⟨some 164, none, .mv (.t 15), none⟩,
 ⟨some 165, none, .mv (.t 20), none⟩,
 ⟨some 166, none, .idxa 1 (.t 164) (.t 165), none⟩,
 ⟨some 167, none, .load none (.t 166), none⟩,
 ⟨some 168, none, .bin .neq (.t 163) (.t 167), none⟩])
 (.keep [14, 15, 156, 157, 168] (.cond (.t 168)
 (.seq (.ops [⟨some 2, none, .mv (.c (.bool false)), none⟩])
 (.ret))
 (.skip)))))))
 (.keep [14, 15, 156, 157] (.ops [⟨some 169, none, .bin .add (.t 157) (.c (.int .i64 1)), none⟩,
 ⟨some 157, none, .mv (.t 169), none⟩]))))))
def J_law05_ExprFew_j3 : ACode :=
 .keep [3, 14, 15, 16, 17] (.seq (.seq (.ops [⟨some 138, none, .mv (.t 17), none⟩,
 ⟨some 139, none, .mv (.t 16), none⟩,
 ⟨some 140, none, .bin .gtr (.t 138) (.t 139), none⟩,
 ⟨some 141, none, .mv (.t 140), none⟩,
 ⟨some 142, (some (141, false)), .mv (.t 14), none⟩,
 ⟨some 143, (some (141, false)), .lenl (.t 142), none⟩,
 ⟨some 144, (some (141, false)), .mv (.t 15), none⟩,
 ⟨some 145, (some (141, false)), .lenl (.t 144), none⟩,
 ⟨some 146, (some (141, false)), .bin .neq (.t 143) (.t 145), none⟩,
 ⟨some 147, none, .pick (.t 141) (.c (.bool true)) (.t 146), none⟩,
 ⟨some 148, none, .mv (.t 147), none⟩,
 ⟨some 149, (some (148, false)), .mv (.t 14), none⟩,
 ⟨some 150, (some (148, false)), .lenl (.t 149), none⟩,
 ⟨some 151, (some (148, false)), .mv (.t 3), none⟩,
 ⟨some 152, (some (148, false)), .lenl (.t 151), none⟩,
 ⟨some 153, (some (148, false)), .bin .neq (.t 150) (.t 152), none⟩,
 ⟨some 154, none, .pick (.t 148) (.c (.bool true)) (.t 153), none⟩])
 (.keep [14, 15, 154] (.cond (.t 154)
 (.seq (.ops [⟨some 2, none, .mv (.c (.bool false)), none⟩])
 (.ret))
 (.skip))))
 (.keep [14, 15] (.seq (.seq (.ops [⟨some 155, none, .mv (.t 14), none⟩,
 ⟨some 156, none, .lenl (.t 155), none⟩,
 ⟨some 157, none, .mv (.c (.int .i64 0)), none⟩])
 (.keep [14, 15, 156, 157] (.block 4 (.loop [14, 15, 156, 157] (J_law05_ExprFew_j2)))))
 (J_law05_ExprFew_j1))))
def J_law05_ExprFew_j4 : ACode :=
 .keep [3, 11, 14, 15, 16, 17, 103, 104] (.ops [⟨some 137, none, .bin .add (.t 104) (.c (.int .i64 1)), none⟩,
 ⟨some 104, none, .mv (.t 137), none⟩])
def J_law05_ExprFew_j5 : ACode :=
 .keep [3, 11, 14, 15, 16, 17, 19, 103, 104] (.seq (.ops [⟨some 115, none, .mv (.t 11), none⟩,
 ⟨some 116, none, .mv (.t 19), none⟩,
 ⟨some 117, none, .idxa 4 (.t 115) (.t 116), none⟩,
 ⟨some 118, none, .fld 0 (.t 117), none⟩,
 ⟨some 119, none, .load none (.t 118), none⟩,
 ⟨some 120, none, .bin .neq (.t 119) (.c (.int .i64 6)), none⟩,
 ⟨some 121, none, .mv (.t 120), none⟩,
 ⟨some 122, (some (121, true)), .mv (.t 11), none⟩,
 ⟨some 123, (some (121, true)), .mv (.t 19), none⟩,
 ⟨some 124, (some (121, true)), .idxa 4 (.t 122) (.t 123), none⟩,
 ⟨some 125, (some (121, true)), .fld 0 (.t 124), none⟩,
 ⟨some 126, (some (121, true)), .load none (.t 125), none⟩,
 ⟨some 127, (some (121, true)), .bin .neq (.t 126) (.c (.int .i64 7)), none⟩,
 ⟨some 128, none, .pick (.t 121) (.t 127) (.c (.bool false)), none⟩])
 (.keep [3, 11, 14, 15, 16, 17, 19, 103, 104, 128] (.cond (.t 128)
 (.ops [⟨some 129, none, .mvo 15, none⟩,
 ⟨some 130, none, .mv (.t 11), none⟩,
 ⟨some 131, none, .mv (.t 19), none⟩,
 ⟨some 132, none, .idxa 4 (.t 130) (.t 131), none⟩,
 ⟨some 133, none, .load (some 4) (.t 132), none⟩,
 ⟨some 134, none, .call (.f 30) [(.t 133)], none⟩,
 ⟨some 135, none, .bsl 9 1 1 [(.str ⟨#[]⟩)] [(0, 1, (.t 134))], none⟩,
 ⟨some 136, none, .appo 9 1 16 129 (.t 135), none⟩,
 ⟨some 15, none, .mvo 136, none⟩])
 (.skip))))
def J_law05_ExprFew_j6 : ACode :=
 .seq (.ops [⟨some 105, none, .bin .lss (.t 104) (.t 103), none⟩])
 (.keep [3, 11, 14, 15, 16, 17, 103, 104, 105] (.seq (.cond (.t 105)
 (.skip)
 (.exit 2))
 (.keep [3, 11, 14, 15, 16, 17, 103, 104] (.seq (.block 3 (.seq (.ops [⟨some 106, none, .mv (.t 104), none⟩,
 ⟨some 19, none, .mv (.t 106), none⟩])
 (.keep [3, 11, 14, 15, 16, 17, 19, 103, 104] (.seq (.seq (.ops [⟨some 107, none, .mv (.t 11), none⟩,
 ⟨some 108, none, .mv (.t 19), none⟩,
 ⟨some 109, none, .idxa 4 (.t 107) (.t 108), none⟩,
 ⟨some 110, none, .fld 0 (.t 109), none⟩,
 ⟨some 111, none, .load none (.t 110), none⟩,
 ⟨some 112, none, .bin .eql (.t 111) (.c (.int .i64 6)), none⟩])
 (.keep [3, 11, 14, 15, 16, 17, 19, 103, 104, 112] (.cond (.t 112)
 (.ops [⟨some 113, none, .mv (.t 17), none⟩,
 ⟨some 114, none, .bin .add (.t 113) (.c (.int .i64 1)), none⟩,
 ⟨some 17, none, .mv (.t 114), none⟩])
 (.skip))))
 (J_law05_ExprFew_j5)))))
 (J_law05_ExprFew_j4)))))
def J_law05_ExprFew_j7 : ACode :=
 .keep [3, 11, 14, 15, 16, 17] (.seq (.seq (.ops [⟨some 102, none, .mv (.t 11), none⟩,
 ⟨some 103, none, .lenl (.t 102), none⟩,
 ⟨some 104, none, .mv (.c (.int .i64 0)), none⟩])
 (.keep [3, 11, 14, 15, 16, 17, 103, 104] (.block 2 (.loop [3, 11, 14, 15, 16, 17, 103, 104] (J_law05_ExprFew_j6)))))
 (J_law05_ExprFew_j3))
def J_law05_ExprFew_j8 : ACode :=
 .keep [3, 6, 11, 14, 15, 16, 17, 67, 68] (.ops [⟨some 101, none, .bin .add (.t 68) (.c (.int .i64 1)), none⟩,
 ⟨some 68, none, .mv (.t 101), none⟩])
def J_law05_ExprFew_j9 : ACode :=
 .keep [3, 6, 11, 14, 15, 16, 17, 18, 67, 68] (.seq (.ops [⟨some 79, none, .mv (.t 6), none⟩,
 ⟨some 80, none, .mv (.t 18), none⟩,
 ⟨some 81, none, .idxa 4 (.t 79) (.t 80), none⟩,
 ⟨some 82, none, .fld 0 (.t 81), none⟩,
 ⟨some 83, none, .load none (.t 82), none⟩,
 ⟨some 84, none, .bin .neq (.t 83) (.c (.int .i64 6)), none⟩,
 ⟨some 85, none, .mv (.t 84), none⟩,
 ⟨some 86, (some (85, true)), .mv (.t 6), none⟩,
 ⟨some 87, (some (85, true)), .mv (.t 18), none⟩,
 ⟨some 88, (some (85, true)), .idxa 4 (.t 86) (.t 87), none⟩,
 ⟨some 89, (some (85, true)), .fld 0 (.t 88), none⟩,
 ⟨some 90, (some (85, true)), .load none (.t 89), none⟩,
 ⟨some 91, (some (85, true)), .bin .neq (.t 90) (.c (.int .i64 7)), none⟩,
 ⟨some 92, none, .pick (.t 85) (.t 91) (.c (.bool false)), none⟩])
 (.keep [3, 6, 11, 14, 15, 16, 17, 18, 67, 68, 92] (.cond (.t 92)
 (.ops [⟨some 93, none, .mvo 14, none⟩,
 ⟨some 94, none, .mv (.t 6), none⟩,
 ⟨some 95, none, .mv (.t 18), none⟩,
 ⟨some 96, none, .idxa 4 (.t 94) (.t 95), none⟩,
 ⟨some 97, none, .load (some 4) (.t 96), none⟩,
 ⟨some 98, none, .call (.f 30) [(.t 97)], none⟩,
 ⟨some 99, none, .bsl 9 1 1 [(.str ⟨#[]⟩)] [(0, 1, (.t 98))], none⟩,
 ⟨some 100, none, .appo 9 1 16 93 (.t 99), none⟩,
 ⟨some 14, none, .mvo 100, none⟩])
 (.skip))))
def J_law05_ExprFew_j10 : ACode :=
 .seq (.ops [⟨some 69, none, .bin .lss (.t 68) (.t 67), none⟩])
 (.keep [3, 6, 11, 14, 15, 16, 17, 67, 68, 69] (.seq (.cond (.t 69)
 (.skip)
 (.exit 0))
 (.keep [3, 6, 11, 14, 15, 16, 17, 67, 68] (.seq (.block 1 (.seq (.ops [⟨some 70, none, .mv (.t 68), none⟩,
 ⟨some 18, none, .mv (.t 70), none⟩])
 (.keep [3, 6, 11, 14, 15, 16, 17, 18, 67, 68] (.seq (.seq (.ops [⟨some 71, none, .mv (.t 6), none⟩,
 ⟨some 72, none, .mv (.t 18), none⟩,
 ⟨some 73, none, .idxa 4 (.t 71) (.t 72), none⟩,
 ⟨some 74, none, .fld 0 (.t 73), none⟩,
 ⟨some 75, none, .load none (.t 74), none⟩,
 ⟨some 76, none, .bin .eql (.t 75) (.c (.int .i64 6)), none⟩])
 (.keep [3, 6, 11, 14, 15, 16, 17, 18, 67, 68, 76] (.cond (.t 76)
 (.ops [⟨some 77, none, .mv (.t 16), none⟩,
 ⟨some 78, none, .bin .add (.t 77) (.c (.int .i64 1)), none⟩,
 ⟨some 16, none, .mv (.t 78), none⟩])
 (.skip))))
 (J_law05_ExprFew_j9)))))
 (J_law05_ExprFew_j8)))))
def J_law05_ExprFew : AFn :=
 ⟨170, [.t 2], .seq (.ops [⟨some 2, none, .mv (.c (.bool false)), none⟩])
 (.keep [0] (.seq (.seq (.ops [⟨some 21, none, .call (.f 15) [], none⟩,
 ⟨some 22, none, .not (.t 21), none⟩])
 (.keep [0, 22] (.cond (.t 22)
 (.seq (.ops [⟨some 2, none, .mv (.c (.bool false)), none⟩])
 (.ret))
 (.skip))))
 (.keep [0] (.seq (.seq (.ops [⟨some 23, none, .mv (.t 0), none⟩,
 ⟨some 24, none, .lens (.t 23), none⟩,
 ⟨some 25, none, .bin .gtr (.t 24) (.c (.int .i64 4000)), none⟩])
 (.keep [0, 25] (.cond (.t 25)
 (.seq (.ops [⟨some 2, none, .mv (.c (.bool true)), none⟩])
 (.ret))
 (.skip))))
 (.keep [0] (.seq (.ops [⟨some 27, none, .mv (.t 0), none⟩,
 ⟨some 28, none, .call (.f 16) [(.t 27)], none⟩,
 ⟨some 26, none, .mv (.t 28), none⟩,
 ⟨some 29, none, .ext 0 (.t 26), none⟩,
 ⟨some 30, none, .ext 1 (.t 26), none⟩,
 ⟨some 31, none, .ext 2 (.t 26), none⟩,
 ⟨some 3, none, .mv (.t 29), none⟩,
 ⟨some 4, none, .mv (.t 30), none⟩,
 ⟨some 5, none, .mv (.t 31), none⟩])
 (.keep [0, 3, 5] (.seq (.seq (.ops [⟨some 32, none, .mv (.t 5), none⟩,
 ⟨some 33, none, .bin .neq (.t 32) (.c (.int .i64 0)), none⟩])
 (.keep [0, 3, 33] (.cond (.t 33)
 (.seq (.ops [⟨some 2, none, .mv (.c (.bool true)), none⟩])
 (.ret))
 (.skip))))
 (.keep [0, 3] (.seq (.ops [⟨some 35, none, .mv (.t 0), none⟩,
 ⟨some 36, none, .call (.f 29) [(.t 35)], none⟩,
 ⟨some 34, none, .mv (.t 36), none⟩,
 ⟨some 37, none, .ext 0 (.t 34), none⟩,
 ⟨some 38, none, .ext 1 (.t 34), none⟩,
 ⟨some 39, none, .ext 2 (.t 34), none⟩,
 ⟨some 6, none, .mv (.t 37), none⟩,
 ⟨some 7, none, .mv (.t 38), none⟩,
 ⟨some 8, none, .mv (.t 39), none⟩])
 (.keep [3, 6] (.seq (.ops [⟨some 41, none, .mv (.t 3), none⟩,
 ⟨some 42, none, .call (.f 22) [(.t 41)], none⟩,
 ⟨some 40, none, .mv (.t 42), none⟩,
 ⟨some 43, none, .ext 0 (.t 40), none⟩,
 ⟨some 44, none, .ext 1 (.t 40), none⟩,
 ⟨some 9, none, .mv (.t 43), none⟩,
 ⟨some 10, none, .mv (.t 44), none⟩])
 (.keep [3, 6, 9, 10] (.seq (.seq (.ops [⟨some 45, none, .mv (.t 10), none⟩,
 ⟨some 46, none, .bin .neq (.t 45) (.c (.int .i64 0)), none⟩,
 ⟨some 47, none, .mv (.t 46), none⟩,
 ⟨some 48, (some (47, false)), .mv (.t 9), none⟩,
 ⟨some 49, (some (47, false)), .lens (.t 48), none⟩,
 ⟨some 50, (some (47, false)), .bin .gtr (.t 49) (.c (.int .i64 4000)), none⟩,
 ⟨some 51, none, .pick (.t 47) (.c (.bool true)) (.t 50), none⟩])
 (.keep [3, 6, 9, 10, 51] (.cond (.t 51)
 (.seq (.ops [⟨some 52, none, .mv (.t 10), none⟩,
 ⟨some 53, none, .bin .eql (.t 52) (.c (.int .i64 0)), none⟩,
 ⟨some 2, none, .mv (.t 53), none⟩])
 (.ret))
 (.skip))))
 (.keep [3, 6, 9] (.seq (.ops [⟨some 55, none, .mv (.t 9), none⟩,
 ⟨some 56, none, .call (.f 29) [(.t 55)], none⟩,
 ⟨some 54, none, .mv (.t 56), none⟩,
 ⟨some 57, none, .ext 0 (.t 54), none⟩,
 ⟨some 58, none, .ext 1 (.t 54), none⟩,
 ⟨some 59, none, .ext 2 (.t 54), none⟩,
 ⟨some 11, none, .mv (.t 57), none⟩,
 ⟨some 12, none, .mv (.t 58), none⟩,
 ⟨some 13, none, .mv (.t 59), none⟩])
 (.keep [3, 6, 11, 13] (.seq (.seq (.ops [⟨some 60, none, .mv (.t 13), none⟩,
 ⟨some 61, none, .bin .neq (.t 60) (.c (.int .i64 0)), none⟩])
 (.keep [3, 6, 11, 13, 61] (.cond (.t 61)
 (.seq (.ops [⟨some 62, none, .mv (.t 13), none⟩,
 ⟨some 63, none, .bin .eql (.t 62) (.c (.int .i64 3)), none⟩,
 ⟨some 2, none, .mv (.t 63), none⟩])
 (.ret))
 (.skip))))
 (.keep [3, 6, 11] (.seq (.ops [⟨some 64, none, .bsl 9 1 0 [] [], none⟩,
 ⟨some 65, none, .bsl 9 1 0 [] [], none⟩,
 ⟨some 14, none, .mvo 64, none⟩,
 ⟨some 15, none, .mvo 65, none⟩])
 (.keep [3, 6, 11, 14, 15] (.seq (.ops [⟨some 16, none, .mv (.c (.int .i64 0)), none⟩,
 ⟨some 17, none, .mv (.c (.int .i64 0)), none⟩])
 (.keep [3, 6, 11, 14, 15, 16, 17] (.seq (.seq (.ops [⟨some 66, none, .mv (.t 6), none⟩,
 ⟨some 67, none, .lenl (.t 66), none⟩,
 ⟨some 68, none, .mv (.c (.int .i64 0)), none⟩])
 (.keep [3, 6, 11, 14, 15, 16, 17, 67, 68] (.block 0 (.loop [3, 6, 11, 14, 15, 16, 17, 67, 68] (J_law05_ExprFew_j10)))))
 (J_law05_ExprFew_j7)))))))))))))))))))))))))⟩
theorem J_law05_ExprFew_ok : chkFn Try.prog 9 J_law05_ExprFew = true := by kernel_rfl
def J_law05_ExprJoins : AFn :=
 ⟨90, [.t 6], .seq (.ops [⟨some 6, none, .mv (.c (.bool false)), none⟩])
 (.keep [0, 1, 2] (.seq (.seq (.ops [⟨some 10, none, .call (.f 15) [], none⟩,
 ⟨some 11, none, .not (.t 10), none⟩])
 (.keep [0, 1, 2, 11] (.cond (.t 11)
 (.seq (.ops [⟨some 6, none, .mv (.c (.bool false)), none⟩])
 (.ret))
 (.skip))))
 (.keep [0, 1, 2] (.seq (.seq (.ops [⟨some 12, none, .mv (.t 0), none⟩,
 ⟨some 13, none, .call (.f 21) [(.t 12)], none⟩,
 ⟨some 14, none, .mv (.t 13), none⟩,
 ⟨some 15, (some (14, false)), .mv (.t 1), none⟩,
 ⟨some 16, (some (14, false)), .call (.f 21) [(.t 15)], none⟩,
 ⟨some 17, none, .pick (.t 14) (.c (.bool true)) (.t 16), none⟩,
 ⟨some 18, none, .mv (.t 17), none⟩,
 ⟨some 19, (some (18, false)), .mv (.t 0), none⟩,
 ⟨some 20, (some (18, false)), .call (.f 24) [(.t 19)], none⟩,
 ⟨some 21, (some (18, false)), .not (.t 20), none⟩,
 ⟨some 22, none, .pick (.t 18) (.c (.bool true)) (.t 21), none⟩,
 ⟨some 23, none, .mv (.t 22), none⟩,
 ⟨some 24, (some (23, false)), .mv (.t 1), none⟩,
 ⟨some 25, (some (23, false)), .call (.f 24) [(.t 24)], none⟩,
 ⟨some 26, (some (23, false)), .not (.t 25), none⟩,
 ⟨some 27, none, .pick (.t 23) (.c (.bool true)) (.t 26), none⟩,
 ⟨some 28, none, .mv (.t 27), none⟩,
 ⟨some 29, (some (28, false)), .mv (.t 0), none⟩,
 ⟨some 30, (some (28, false)), .lenl (.t 29), none⟩,
 ⟨some 31, (some (28, false)), .mv (.t 1), none⟩,
 ⟨some 32, (some (28, false)), .lenl (.t 31), none⟩,
 ⟨some 33, (some (28, false)), .bin .add (.t 30) (.t 32), none⟩,
 ⟨some 34, (some (28, false)), .bin .geq (.t 33) (.c (.int .i64 200)), none⟩,
 ⟨some 35, none, .pick (.t 28) (.c (.bool true)) (.t 34), none⟩])
 (.keep [0, 1, 2, 35] (.cond (.t 35)
 (.seq (.ops [⟨some 6, none, .mv (.c (.bool true)), none⟩])
 (.ret))
 (.skip))))
 (.keep [0, 1, 2] (.seq (.ops [⟨some 36, none, .bsl 3 1 4 [(.int .i64 0), (.int .i64 0), (.int .i64 0), (.int .i64 0)] [(0, 1, (.c (.int .i64 2))), (1, 1, (.c (.int .i64 3))), (2, 1, (.c (.int .i64 4))), (3, 1, (.c (.int .i64 5)))], none⟩,
 ⟨some 37, none, .mv (.t 2), none⟩,
 ⟨some 38, none, .bin .rem (.t 37) (.c (.int .u8 4)), none⟩,
 ⟨some 39, none, .idxa 1 (.t 36) (.t 38), none⟩,
 ⟨some 40, none, .load none (.t 39), none⟩,
 ⟨some 7, none, .mv (.t 40), none⟩])
 (.keep [0, 1, 7] (.seq (.ops [⟨some 41, none, .bsl 45 3 0 [] [], none⟩,
 ⟨some 42, none, .mv (.t 0), none⟩,
 ⟨some 43, none, .appo 45 3 32 41 (.t 42), none⟩,
 ⟨some 44, none, .mv (.t 1), none⟩,
 ⟨some 45, none, .appo 45 3 32 43 (.t 44), none⟩,
 ⟨some 8, none, .mvo 45, none⟩])
 (.keep [0, 1, 7, 8] (.seq (.seq (.ops [⟨some 46, none, .mv (.t 8), none⟩,
 ⟨some 47, none, .call (.f 24) [(.t 46)], none⟩])
 (.keep [0, 1, 7, 8, 47] (.cond (.t 47)
 (.seq (.ops [⟨some 6, none, .mv (.c (.bool false)), none⟩])
 (.ret))
 (.skip))))
 (.keep [0, 1, 7, 8] (.seq (.ops [⟨some 48, none, .mvo 8, none⟩,
 ⟨some 49, none, .mv (.t 7), none⟩,
 ⟨some 50, none, .build [(.int .i64 0), (.int .i64 0), (.str ⟨#[]⟩)] [(0, 1, (.t 49))], none⟩,
 ⟨some 51, none, .bsl 45 3 1 [(.int .i64 0), (.int .i64 0), (.str ⟨#[]⟩)] [(0, 3, (.t 50))], none⟩,
 ⟨some 52, none, .appo 45 3 32 48 (.t 51), none⟩,
 ⟨some 8, none, .mvo 52, none⟩])
 (.keep [0, 1, 7, 8] (.seq (.ops [⟨some 53, none, .mv (.t 1), none⟩,
 ⟨some 54, none, .lenl (.t 53), none⟩,
 ⟨some 55, none, .bin .eql (.t 54) (.c (.int .i64 1)), none⟩,
 ⟨some 56, none, .mv (.t 55), none⟩,
 ⟨some 57, (some (56, true)), .mv (.t 1), none⟩,
 ⟨some 58, (some (56, true)), .idxa 3 (.t 57) (.c (.int .i64 0)), none⟩,
 ⟨some 59, (some (56, true)), .fld 1 (.t 58), none⟩,
 ⟨some 60, (some (56, true)), .load none (.t 59), none⟩,
 ⟨some 61, (some (56, true)), .bin .eql (.t 60) (.c (.int .i64 5)), none⟩,
 ⟨some 62, none, .pick (.t 56) (.t 61) (.c (.bool false)), none⟩,
 ⟨some 9, none, .mv (.t 62), none⟩])
 (.keep [0, 1, 7, 8, 9] (.seq (.seq (.ops [⟨some 63, none, .mv (.t 7), none⟩,
 ⟨some 64, none, .bin .eql (.t 63) (.c (.int .i64 5)), none⟩,
 ⟨some 65, none, .mv (.t 64), none⟩,
 ⟨some 66, (some (65, true)), .mv (.t 9), none⟩,
 ⟨some 67, (some (65, true)), .not (.t 66), none⟩,
 ⟨some 68, none, .pick (.t 65) (.t 67) (.c (.bool false)), none⟩])
 (.keep [0, 1, 8, 68] (.cond (.t 68)
 (.seq (.ops [⟨some 69, none, .mv (.t 8), none⟩,
 ⟨some 70, none, .call (.f 24) [(.t 69)], none⟩,
 ⟨some 71, none, .not (.t 70), none⟩,
 ⟨some 72, none, .mv (.t 71), none⟩,
 ⟨some 73, (some (72, true)), .mv (.t 8), none⟩,
 ⟨some 74, (some (72, true)), .call (.f 26) [(.t 73)], none⟩,
 ⟨some 75, (some (72, true)), .bin .eql (.t 74) (.c (.int .i64 0)), none⟩,
 ⟨some 76, none, .pick (.t 72) (.t 75) (.c (.bool false)), none⟩,
 ⟨some 6, none, .mv (.t 76), none⟩])
 (.ret))
 (.skip))))
 (.keep [0, 1, 8] (.seq (.ops [⟨some 77, none, .mv (.t 8), none⟩,
 ⟨some 78, none, .call (.f 24) [(.t 77)], none⟩,
 ⟨some 79, none, .mv (.t 78), none⟩,
 ⟨some 80, (some (79, true)), .mv (.t 8), none⟩,
 ⟨some 81, (some (79, true)), .call (.f 26) [(.t 80)], none⟩,
 ⟨some 82, (some (79, true)), .mv (.t 0), none⟩,
 ⟨some 83, (some (79, true)), .call (.f 26) [(.t 82)], none⟩,
 ⟨some 84, (some (79, true)), .mv (.t 1), none⟩,
 ⟨some 85, (some (79, true)), .call (.f 26) [(.t 84)], none⟩,
 ⟨some 86, (some (79, true)), .mx (.t 83) (.t 85), none⟩,
 ⟨some 87, (some (79, true)), .bin .add (.c (.int .i64 1)) (.t 86), none⟩,
 ⟨some 88, (some (79, true)), .bin .eql (.t 81) (.t 87), none⟩,
 ⟨some 89, none, .pick (.t 79) (.t 88) (.c (.bool false)), none⟩,
 ⟨some 6, none, .mv (.t 89), none⟩])
 (.ret)))))))))))))))))))⟩
theorem J_law05_ExprJoins_ok : chkFn Try.prog 10 J_law05_ExprJoins = true := by kernel_rfl
def J_law05_ExprOpen : AFn :=
 ⟨89, [.t 2], .seq (.ops [⟨some 2, none, .mv (.c (.bool false)), none⟩])
 (.keep [0] (.seq (.seq (.ops [⟨some 15, none, .call (.f 15) [], none⟩,
 ⟨some 16, none, .not (.t 15), none⟩])
 (.keep [0, 16] (.cond (.t 16)
 (.seq (.ops [⟨some 2, none, .mv (.c (.bool false)), none⟩])
 (.ret))
 (.skip))))
 (.keep [0] (.seq (.seq (.ops [⟨some 17, none, .mv (.t 0), none⟩,
 ⟨some 18, none, .lens (.t 17), none⟩,
 ⟨some 19, none, .bin .gtr (.t 18) (.c (.int .i64 3000)), none⟩])
 (.keep [0, 19] (.cond (.t 19)
 (.seq (.ops [⟨some 2, none, .mv (.c (.bool true)), none⟩])
 (.ret))
 (.skip))))
 (.keep [0] (.seq (.ops [⟨some 21, none, .mv (.t 0), none⟩,
 ⟨some 22, none, .call (.f 16) [(.t 21)], none⟩,
 ⟨some 20, none, .mv (.t 22), none⟩,
 ⟨some 23, none, .ext 0 (.t 20), none⟩,
 ⟨some 24, none, .ext 1 (.t 20), none⟩,
 ⟨some 25, none, .ext 2 (.t 20), none⟩,
 ⟨some 3, none, .mv (.t 23), none⟩,
 ⟨some 4, none, .mv (.t 24), none⟩,
 ⟨some 5, none, .mv (.t 25), none⟩])
 (.keep [0, 3, 5] (.seq (.seq (.ops [⟨some 26, none, .mv (.t 5), none⟩,
 ⟨some 27, none, .bin .neq (.t 26) (.c (.int .i64 0)), none⟩])
 (.keep [0, 3, 27] (.cond (.t 27)
 (.seq (.ops [⟨some 2, none, .mv (.c (.bool true)), none⟩])
 (.ret))
 (.skip))))
 (.keep [0, 3] (.seq (.ops [⟨some 29, none, .mv (.t 0), none⟩,
 ⟨some 30, none, .bin .add (.c (.str ⟨#[40]⟩)) (.t 29), none⟩,
 ⟨some 31, none, .bin .add (.t 30) (.c (.str ⟨#[10, 41]⟩)), none⟩,
 ⟨some 32, none, .call (.f 16) [(.t 31)], none⟩,
 ⟨some 28, none, .mv (.t 32), none⟩,
 ⟨some 33, none, .ext 0 (.t 28), none⟩,
 ⟨some 34, none, .ext 1 (.t 28), none⟩,
 ⟨some 35, none, .ext 2 (.t 28), none⟩,
 ⟨some 6, none, .mv (.t 33), none⟩,
 ⟨some 7, none, .mv (.t 34), none⟩,
 ⟨some 8, none, .mv (.t 35), none⟩])
 (.keep [0, 3, 6, 8] (.seq (.ops [⟨some 37, none, .mv (.t 0), none⟩,
 ⟨some 38, none, .bin .add (.t 37) (.c (.str ⟨#[10, 41]⟩)), none⟩,
 ⟨some 39, none, .call (.f 16) [(.t 38)], none⟩,
 ⟨some 36, none, .mv (.t 39), none⟩,
 ⟨some 40, none, .ext 0 (.t 36), none⟩,
 ⟨some 41, none, .ext 1 (.t 36), none⟩,
 ⟨some 42, none, .ext 2 (.t 36), none⟩,
 ⟨some 9, none, .mv (.t 40), none⟩,
 ⟨some 10, none, .mv (.t 41), none⟩,
 ⟨some 11, none, .mv (.t 42), none⟩])
 (.keep [0, 3, 6, 8, 10, 11] (.seq (.ops [⟨some 44, none, .mv (.t 0), none⟩,
 ⟨some 45, none, .bin .add (.c (.str ⟨#[40]⟩)) (.t 44), none⟩,
 ⟨some 46, none, .call (.f 16) [(.t 45)], none⟩,
 ⟨some 43, none, .mv (.t 46), none⟩,
 ⟨some 47, none, .ext 0 (.t 43), none⟩,
 ⟨some 48, none, .ext 1 (.t 43), none⟩,
 ⟨some 49, none, .ext 2 (.t 43), none⟩,
 ⟨some 12, none, .mv (.t 47), none⟩,
 ⟨some 13, none, .mv (.t 48), none⟩,
 ⟨some 14, none, .mv (.t 49), none⟩])
 (.keep [0, 3, 6, 8, 10, 11, 13, 14] (.seq (.seq (.ops [⟨some 50, none, .mv (.t 8), none⟩,
 ⟨some 51, none, .bin .eql (.t 50) (.c (.int .i64 3)), none⟩,
 ⟨some 52, none, .mv (.t 51), none⟩,
 ⟨some 53, (some (52, false)), .mv (.t 11), none⟩,
 ⟨some 54, (some (52, false)), .bin .eql (.t 53) (.c (.int .i64 3)), none⟩,
 ⟨some 55, none, .pick (.t 52) (.c (.bool true)) (.t 54), none⟩,
 ⟨some 56, none, .mv (.t 55), none⟩,
 ⟨some 57, (some (56, false)), .mv (.t 14), none⟩,
 ⟨some 58, (some (56, false)), .bin .eql (.t 57) (.c (.int .i64 3)), none⟩,
 ⟨some 59, none, .pick (.t 56) (.c (.bool true)) (.t 58), none⟩])
 (.keep [0, 3, 6, 8, 10, 11, 13, 14, 59] (.cond (.t 59)
 (.seq (.ops [⟨some 2, none, .mv (.c (.bool true)), none⟩])
 (.ret))
 (.skip))))
 (.keep [0, 3, 6, 8, 10, 11, 13, 14] (.seq (.ops [⟨some 60, none, .mv (.t 8), none⟩,
 ⟨some 61, none, .bin .eql (.t 60) (.c (.int .i64 0)), none⟩,
 ⟨some 62, none, .mv (.t 61), none⟩,
 ⟨some 63, (some (62, true)), .mv (.t 3), none⟩,
 ⟨some 64, (some (62, true)), .mv (.t 6), none⟩,
 ⟨some 65, (some (62, true)), .call (.f 18) [(.t 63), (.t 64)], none⟩,
 ⟨some 66, none, .pick (.t 62) (.t 65) (.c (.bool false)), none⟩,
 ⟨some 67, none, .mv (.t 66), none⟩,
 ⟨some 68, (some (67, true)), .mv (.t 11), none⟩,
 ⟨some 69, (some (67, true)), .bin .eql (.t 68) (.c (.int .i64 2)), none⟩,
 ⟨some 70, none, .pick (.t 67) (.t 69) (.c (.bool false)), none⟩,
 ⟨some 71, none, .mv (.t 70), none⟩,
 ⟨some 72, (some (71, true)), .mv (.t 10), none⟩,
 ⟨some 73, (some (71, true)), .mv (.t 0), none⟩,
 ⟨some 74, (some (71, true)), .lens (.t 73), none⟩,
 ⟨some 75, (some (71, true)), .bin .add (.t 74) (.c (.int .i64 1)), none⟩,
 ⟨some 76, (some (71, true)), .bin .eql (.t 72) (.t 75), none⟩,
 ⟨some 77, none, .pick (.t 71) (.t 76) (.c (.bool false)), none⟩,
 ⟨some 78, none, .mv (.t 77), none⟩,
 ⟨some 79, (some (78, true)), .mv (.t 14), none⟩,
 ⟨some 80, (some (78, true)), .bin .eql (.t 79) (.c (.int .i64 2)), none⟩,
 ⟨some 81, none, .pick (.t 78) (.t 80) (.c (.bool false)), none⟩,
 ⟨some 82, none, .mv (.t 81), none⟩,
 ⟨some 83, (some (82, true)), .mv (.t 13), none⟩,
 ⟨some 84, (some (82, true)), .mv (.t 0), none⟩,
 ⟨some 85, (some (82, true)), .lens (.t 84), none⟩,
 ⟨some 86, (some (82, true)), .bin .add (.t 85) (.c (.int .i64 1)), none⟩,
 ⟨some 87, (some (82, true)), .bin .eql (.t 83) (.t 86), none⟩,
 ⟨some 88, none, .pick (.t 82) (.t 87) (.c (.bool false)), none⟩,
 ⟨some 2, none, .mv (.t 88), none⟩])
 (.ret)))))))))))))))))))⟩
theorem J_law05_ExprOpen_ok : chkFn Try.prog 11 J_law05_ExprOpen = true := by kernel_rfl
def J_law05_awake : AFn :=
 ⟨97, [.t 0], .seq (.ops [⟨some 0, none, .mv (.c (.bool false)), none⟩])
 (.keep [] (.seq (.ops [⟨some 15, none, .call (.f 16) [(.c (.str ⟨#[97, 32, 97, 110, 100, 32, 98, 124, 99, 32, 97, 115, 32, 114, 111, 108, 101, 58, 114]⟩))], none⟩,
 ⟨some 14, none, .mv (.t 15), none⟩,
 ⟨some 16, none, .ext 0 (.t 14), none⟩,
 ⟨some 17, none, .ext 1 (.t 14), none⟩,
 ⟨some 18, none, .ext 2 (.t 14), none⟩,
 ⟨some 1, none, .mv (.t 16), none⟩,
 ⟨some 2, none, .mv (.t 17), none⟩,
 ⟨some 3, none, .mv (.t 18), none⟩])
 (.keep [1, 2, 3] (.seq (.ops [⟨some 20, none, .mv (.t 1), none⟩,
 ⟨some 21, none, .call (.f 22) [(.t 20)], none⟩,
 ⟨some 19, none, .mv (.t 21), none⟩,
 ⟨some 22, none, .ext 0 (.t 19), none⟩,
 ⟨some 23, none, .ext 1 (.t 19), none⟩,
 ⟨some 4, none, .mv (.t 22), none⟩,
 ⟨some 5, none, .mv (.t 23), none⟩])
 (.keep [1, 2, 3, 4, 5] (.seq (.ops [⟨some 25, none, .call (.f 16) [(.c (.str ⟨#[97, 32, 97, 110, 100, 32, 97, 110, 100]⟩))], none⟩,
 ⟨some 24, none, .mv (.t 25), none⟩,
 ⟨some 26, none, .ext 0 (.t 24), none⟩,
 ⟨some 27, none, .ext 1 (.t 24), none⟩,
 ⟨some 28, none, .ext 2 (.t 24), none⟩,
 ⟨some 6, none, .mv (.t 26), none⟩,
 ⟨some 7, none, .mv (.t 27), none⟩,
 ⟨some 8, none, .mv (.t 28), none⟩])
 (.keep [1, 2, 3, 4, 5, 7, 8] (.seq (.ops [⟨some 30, none, .call (.f 16) [(.c (.str ⟨#[97, 32, 102, 111, 114, 32, 40, 98, 32, 102, 111, 114, 32, 99, 41]⟩))], none⟩,
 ⟨some 29, none, .mv (.t 30), none⟩,
 ⟨some 31, none, .ext 0 (.t 29), none⟩,
 ⟨some 32, none, .ext 1 (.t 29), none⟩,
 ⟨some 33, none, .ext 2 (.t 29), none⟩,
 ⟨some 9, none, .mv (.t 31), none⟩,
 ⟨some 10, none, .mv (.t 32), none⟩,
 ⟨some 11, none, .mv (.t 33), none⟩])
 (.keep [1, 2, 3, 4, 5, 7, 8, 9] (.seq (.ops [⟨some 35, none, .mv (.t 9), none⟩,
 ⟨some 36, none, .call (.f 22) [(.t 35)], none⟩,
 ⟨some 34, none, .mv (.t 36), none⟩,
 ⟨some 37, none, .ext 0 (.t 34), none⟩,
 ⟨some 38, none, .ext 1 (.t 34), none⟩,
 ⟨some 12, none, .mv (.t 37), none⟩,
 ⟨some 13, none, .mv (.t 38), none⟩])
 (.keep [1, 2, 3, 4, 5, 7, 8, 12] (.seq (.ops [⟨some 39, none, .mv (.t 1), none⟩,
 ⟨some 40, none, .lenl (.t 39), none⟩,
 ⟨some 41, none, .bin .eql (.t 40) (.c (.int .i64 7)), none⟩,
 ⟨some 42, none, .mv (.t 41), none⟩,
 ⟨some 43, (some (42, true)), .mv (.t 1), none⟩,
 ⟨some 44, (some (42, true)), .idxa 3 (.t 43) (.c (.int .i64 4)), none⟩,
 ⟨some 45, (some (42, true)), .fld 0 (.t 44), none⟩,
 ⟨some 46, (some (42, true)), .load none (.t 45), none⟩,
 ⟨some 47, (some (42, true)), .bin .eql (.t 46) (.c (.int .i64 5)), none⟩,
 ⟨some 48, none, .pick (.t 42) (.t 47) (.c (.bool false)), none⟩,
 ⟨some 49, none, .mv (.t 48), none⟩,
 ⟨some 50, (some (49, true)), .mv (.t 1), none⟩,
 ⟨some 51, (some (49, true)), .idxa 3 (.t 50) (.c (.int .i64 6)), none⟩,
 ⟨some 52, (some (49, true)), .fld 0 (.t 51), none⟩,
 ⟨some 53, (some (49, true)), .load none (.t 52), none⟩,
 ⟨some 54, (some (49, true)), .bin .eql (.t 53) (.c (.int .i64 2)), none⟩,
 ⟨some 55, none, .pick (.t 49) (.t 54) (.c (.bool false)), none⟩,
 ⟨some 56, none, .mv (.t 55), none⟩,
 ⟨some 57, (some (56, true)), .mv (.t 2), none⟩,
 ⟨some 58, (some (56, true)), .bin .eql (.t 57) (.c (.int .i64 0)), none⟩,
 ⟨some 59, none, .pick (.t 56) (.t 58) (.c (.bool false)), none⟩,
 ⟨some 60, none, .mv (.t 59), none⟩,
 ⟨some 61, (some (60, true)), .mv (.t 3), none⟩,
 ⟨some 62, (some (60, true)), .bin .eql (.t 61) (.c (.int .i64 0)), none⟩,
 ⟨some 63, none, .pick (.t 60) (.t 62) (.c (.bool false)), none⟩,
 ⟨some 64, none, .mv (.t 63), none⟩,
 ⟨some 65, (some (64, true)), .mv (.t 4), none⟩,
 ⟨some 66, (some (64, true)), .bin .eql (.t 65) (.c (.str ⟨#[97, 32, 97, 110, 100, 32, 98, 32, 124, 32, 99, 32, 97, 115, 32, 114, 111, 108, 101, 58, 114]⟩)), none⟩,
 ⟨some 67, none, .pick (.t 64) (.t 66) (.c (.bool false)), none⟩,
 ⟨some 68, none, .mv (.t 67), none⟩,
 ⟨some 69, (some (68, true)), .mv (.t 5), none⟩,
 ⟨some 70, (some (68, true)), .bin .eql (.t 69) (.c (.int .i64 0)), none⟩,
 ⟨some 71, none, .pick (.t 68) (.t 70) (.c (.bool false)), none⟩,
 ⟨some 72, none, .mv (.t 71), none⟩,
 ⟨some 73, (some (72, true)), .mv (.t 7), none⟩,
 ⟨some 74, (some (72, true)), .bin .eql (.t 73) (.c (.int .i64 6)), none⟩,
 ⟨some 75, none, .pick (.t 72) (.t 74) (.c (.bool false)), none⟩,
 ⟨some 76, none, .mv (.t 75), none⟩,
 ⟨some 77, (some (76, true)), .mv (.t 8), none⟩,
 ⟨some 78, (some (76, true)), .bin .eql (.t 77) (.c (.int .i64 2)), none⟩,
 ⟨some 79, none, .pick (.t 76) (.t 78) (.c (.bool false)), none⟩,
 ⟨some 80, none, .mv (.t 79), none⟩,
 ⟨some 81, (some (80, true)), .mv (.t 12), none⟩,
 ⟨some 82, (some (80, true)), .bin .eql (.t 81) (.c (.str ⟨#[97, 32, 102, 111, 114, 32, 40, 32, 98, 32, 102, 111, 114, 32, 99, 32, 41]⟩)), none⟩,
 ⟨some 83, none, .pick (.t 80) (.t 82) (.c (.bool false)), none⟩,
 ⟨some 84, none, .mv (.t 83), none⟩,
 ⟨some 85, (some (84, true)), .mv (.t 1), none⟩,
 ⟨some 86, (some (84, true)), .call (.f 24) [(.t 85)], none⟩,
 ⟨some 87, none, .pick (.t 84) (.t 86) (.c (.bool false)), none⟩,
 ⟨some 88, none, .mv (.t 87), none⟩,
 ⟨some 89, (some (88, true)), .call (.f 24) [(.c (.lst .clip 0 []))], none⟩,
 ⟨some 90, (some (88, true)), .not (.t 89), none⟩,
 ⟨some 91, none, .pick (.t 88) (.t 90) (.c (.bool false)), none⟩,
 ⟨some 92, none, .mv (.t 91), none⟩,
 ⟨some 93, (some (92, true)), .mv (.t 1), none⟩,
 ⟨some 94, (some (92, true)), .call (.f 26) [(.t 93)], none⟩,
 ⟨some 95, (some (92, true)), .bin .eql (.t 94) (.c (.int .i64 4)), none⟩,
 ⟨some 96, none, .pick (.t 92) (.t 95) (.c (.bool false)), none⟩,
 ⟨some 0, none, .mv (.t 96), none⟩])
 (.ret)))))))))))))⟩
theorem J_law05_awake_ok : chkFn Try.prog 15 J_law05_awake = true := by kernel_rfl
def J_expr_Parse : AFn :=
 ⟨45, [.t 2, .t 3, .t 4], .seq (.ops [⟨some 2, none, .mv (.c (.lst .clip 0 [])), none⟩,
 ⟨some 3, none, .mv (.c (.int .i64 0)), none⟩,
 ⟨some 4, none, .mv (.c (.int .i64 0)), none⟩])
 (.keep [0] (.seq (.ops [⟨some 11, none, .mv (.t 0), none⟩,
 ⟨some 12, none, .call (.f 13) [(.t 11)], none⟩,
 ⟨some 10, none, .mv (.t 12), none⟩,
 ⟨some 13, none, .ext 0 (.t 10), none⟩,
 ⟨some 14, none, .ext 1 (.t 10), none⟩,
 ⟨some 15, none, .ext 2 (.t 10), none⟩,
 ⟨some 5, none, .mv (.t 13), none⟩,
 ⟨some 6, none, .mv (.t 14), none⟩,
 ⟨some 7, none, .mv (.t 15), none⟩])
 (.keep [0, 5, 6, 7] (.seq (.seq (.ops [⟨some 16, none, .mv (.t 7), none⟩,
 ⟨some 17, none, .bin .neq (.t 16) (.c (.int .i64 0)), none⟩])
 (.keep [0, 5, 6, 7, 17] (.cond (.t 17)
 (.seq (.ops [⟨some 18, none, .mv (.t 6), none⟩,
 ⟨some 19, none, .mv (.t 7), none⟩,
 ⟨some 2, none, .mv (.c (.lst .clip 0 [])), none⟩,
 ⟨some 3, none, .mv (.t 18), none⟩,
 ⟨some 4, none, .mv (.t 19), none⟩])
 (.ret))
 (.skip))))
 (.keep [0, 5] (.seq (.ops [⟨some 21, none, .mv (.t 5), none⟩,
 ⟨some 22, none, .call (.f 19) [(.t 21)], none⟩,
 ⟨some 20, none, .mv (.t 22), none⟩,
 ⟨some 23, none, .ext 0 (.t 20), none⟩,
 ⟨some 24, none, .ext 1 (.t 20), none⟩,
 ⟨some 25, none, .ext 2 (.t 20), none⟩,
 ⟨some 8, none, .mv (.t 23), none⟩,
 ⟨some 9, none, .mv (.t 24), none⟩,
 ⟨some 7, none, .mv (.t 25), none⟩])
 (.keep [0, 5, 7, 8, 9] (.seq (.seq (.ops [⟨some 26, none, .mv (.t 7), none⟩,
 ⟨some 27, none, .bin .eql (.t 26) (.c (.int .i64 0)), none⟩])
 (.keep [0, 5, 7, 8, 9, 27] (.cond (.t 27)
 (.seq (.ops [⟨some 28, none, .mv (.t 8), none⟩,
 ⟨some 2, none, .mv (.t 28), none⟩,
 ⟨some 3, none, .mv (.c (.int .i64 0)), none⟩,
 ⟨some 4, none, .mv (.c (.int .i64 0)), none⟩])
 (.ret))
 (.skip))))
 (.keep [0, 5, 7, 9] (.seq (.seq (.ops [⟨some 29, none, .mv (.t 9), none⟩,
 ⟨some 30, none, .mv (.t 5), none⟩,
 ⟨some 31, none, .lenl (.t 30), none⟩,
 ⟨some 32, none, .bin .lss (.t 29) (.t 31), none⟩])
 (.keep [0, 5, 7, 9, 32] (.cond (.t 32)
 (.seq (.draw [2, 3, 4] [⟨some 33, none, .mv (.t 5), none⟩,
 ⟨some 34, none, .mv (.t 9), none⟩,
 ⟨some 35, none, .idxa 4 (.t 33) (.t 34), none⟩,
 ⟨some 36, none, .fld 3 (.t 35), none⟩,
 ⟨some 37, none, .load none (.t 36), none⟩,
 ⟨some 38, none, .mv (.t 7), none⟩,
 ⟨some 2, none, .mv (.c (.lst .clip 0 [])), none⟩,
 ⟨some 3, none, .mv (.t 37), none⟩,
 ⟨some 4, none, .mv (.t 38), none⟩])
 (.ret))
 (.skip))))
 (.keep [0, 7] (.seq (.seq (.ops [⟨some 39, none, .mv (.t 7), none⟩,
 ⟨some 40, none, .bin .eql (.t 39) (.c (.int .i64 3)), none⟩])
 (.keep [0, 7, 40] (.cond (.t 40)
 (.seq (.ops [⟨some 41, none, .mv (.t 7), none⟩,
 ⟨some 2, none, .mv (.c (.lst .clip 0 [])), none⟩,
 ⟨some 3, none, .mv (.c (.int .i64 0)), none⟩,
 ⟨some 4, none, .mv (.t 41), none⟩])
 (.ret))
 (.skip))))
 (.keep [0, 7] (.seq (.ops [⟨some 42, none, .mv (.t 0), none⟩,
 ⟨some 43, none, .lens (.t 42), none⟩,
 ⟨some 44, none, .mv (.t 7), none⟩,
 ⟨some 2, none, .mv (.c (.lst .clip 0 [])), none⟩,
 ⟨some 3, none, .mv (.t 43), none⟩,
 ⟨some 4, none, .mv (.t 44), none⟩])
 (.ret)))))))))))))))⟩
theorem J_expr_Parse_ok : chkFn Try.prog 16 J_expr_Parse = true := by kernel_rfl
def J_ref05_Parse : AFn :=
 ⟨47, [.t 2, .t 3, .t 4], .seq (.ops [⟨some 2, none, .mv (.c (.lst .clip 0 [])), none⟩,
 ⟨some 3, none, .mv (.c (.int .i64 0)), none⟩,
 ⟨some 4, none, .mv (.c (.int .i64 0)), none⟩])
 (.keep [0] (.seq (.ops [⟨some 12, none, .mv (.t 0), none⟩,
 ⟨some 13, none, .call (.f 29) [(.t 12)], none⟩,
 ⟨some 11, none, .mv (.t 13), none⟩,
 ⟨some 14, none, .ext 0 (.t 11), none⟩,
 ⟨some 15, none, .ext 1 (.t 11), none⟩,
 ⟨some 16, none, .ext 2 (.t 11), none⟩,
 ⟨some 5, none, .mv (.t 14), none⟩,
 ⟨some 6, none, .mv (.t 15), none⟩,
 ⟨some 7, none, .mv (.t 16), none⟩])
 (.keep [0, 5, 6, 7] (.seq (.seq (.ops [⟨some 17, none, .mv (.t 7), none⟩,
 ⟨some 18, none, .bin .neq (.t 17) (.c (.int .i64 0)), none⟩])
 (.keep [0, 5, 6, 7, 18] (.cond (.t 18)
 (.seq (.ops [⟨some 19, none, .mv (.t 6), none⟩,
 ⟨some 20, none, .mv (.t 7), none⟩,
 ⟨some 2, none, .mv (.c (.lst .clip 0 [])), none⟩,
 ⟨some 3, none, .mv (.t 19), none⟩,
 ⟨some 4, none, .mv (.t 20), none⟩])
 (.ret))
 (.skip))))
 (.keep [0, 5] (.seq (.ops [⟨some 22, none, .mv (.t 5), none⟩,
 ⟨some 23, none, .call (.f 20) [(.t 22)], none⟩,
 ⟨some 21, none, .mv (.t 23), none⟩,
 ⟨some 24, none, .ext 0 (.t 21), none⟩,
 ⟨some 25, none, .ext 1 (.t 21), none⟩,
 ⟨some 26, none, .ext 2 (.t 21), none⟩,
 ⟨some 8, none, .mv (.t 24), none⟩,
 ⟨some 9, none, .mv (.t 25), none⟩,
 ⟨some 10, none, .mv (.t 26), none⟩])
 (.keep [0, 5, 8, 9, 10] (.seq (.seq (.ops [⟨some 27, none, .mv (.t 10), none⟩,
 ⟨some 28, none, .bin .eql (.t 27) (.c (.int .i64 0)), none⟩])
 (.keep [0, 5, 8, 9, 10, 28] (.cond (.t 28)
 (.seq (.ops [⟨some 29, none, .mv (.t 8), none⟩,
 ⟨some 30, none, .mv (.t 10), none⟩,
 ⟨some 2, none, .mv (.t 29), none⟩,
 ⟨some 3, none, .mv (.c (.int .i64 0)), none⟩,
 ⟨some 4, none, .mv (.t 30), none⟩])
 (.ret))
 (.skip))))
 (.keep [0, 5, 9, 10] (.seq (.seq (.ops [⟨some 31, none, .mv (.t 9), none⟩,
 ⟨some 32, none, .mv (.t 5), none⟩,
 ⟨some 33, none, .lenl (.t 32), none⟩,
 ⟨some 34, none, .bin .lss (.t 31) (.t 33), none⟩])
 (.keep [0, 5, 9, 10, 34] (.cond (.t 34)
 (.seq (.draw [2, 3, 4] [⟨some 35, none, .mv (.t 5), none⟩,
 ⟨some 36, none, .mv (.t 9), none⟩,
 ⟨some 37, none, .idxa 4 (.t 35) (.t 36), none⟩,
 ⟨some 38, none, .fld 3 (.t 37), none⟩,
 ⟨some 39, none, .load none (.t 38), none⟩,
 ⟨some 40, none, .mv (.t 10), none⟩,
 ⟨some 2, none, .mv (.c (.lst .clip 0 [])), none⟩,
 ⟨some 3, none, .mv (.t 39), none⟩,
 ⟨some 4, none, .mv (.t 40), none⟩])
 (.ret))
 (.skip))))
 (.keep [0, 10] (.seq (.seq (.ops [⟨some 41, none, .mv (.t 10), none⟩,
 ⟨some 42, none, .bin .eql (.t 41) (.c (.int .i64 3)), none⟩])
 (.keep [0, 10, 42] (.cond (.t 42)
 (.seq (.ops [⟨some 43, none, .mv (.t 10), none⟩,
 ⟨some 2, none, .mv (.c (.lst .clip 0 [])), none⟩,
 ⟨some 3, none, .mv (.c (.int .i64 0)), none⟩,
 ⟨some 4, none, .mv (.t 43), none⟩])
 (.ret))
 (.skip))))
 (.keep [0, 10] (.seq (.ops [⟨some 44, none, .mv (.t 0), none⟩,
 ⟨some 45, none, .lens (.t 44), none⟩,
 ⟨some 46, none, .mv (.t 10), none⟩,
 ⟨some 2, none, .mv (.c (.lst .clip 0 [])), none⟩,
 ⟨some 3, none, .mv (.t 45), none⟩,
 ⟨some 4, none, .mv (.t 46), none⟩])
 (.ret)))))))))))))))⟩
theorem J_ref05_Parse_ok : chkFn Try.prog 17 J_ref05_Parse = true := by kernel_rfl
def J_law05_same_j1 : ACode :=
 .keep [] (.seq (.ops [⟨some 4, none, .mv (.c (.bool true)), none⟩])
 (.ret))
def J_law05_same_j2 : ACode :=
 .seq (.ops [⟨some 14, none, .bin .lss (.t 13) (.t 12), none⟩])
 (.keep [0, 1, 12, 13, 14] (.seq (.cond (.t 14)
 (.skip)
 (.exit 0))
 (.keep [0, 1, 12, 13] (.seq (.block 1 (.seq (.ops [⟨some 15, none, .mv (.t 13), none⟩,
 ⟨some 5, none, .mv (.t 15), none⟩])
 (.keep [0, 1, 5, 12, 13] (.seq (.draw [0, 1, 12, 13, 24] [⟨some 16, none, .mv (.t 0), none⟩,
 ⟨some 17, none, .mv (.t 5), none⟩,
 ⟨some 18, none, .idxa 3 (.t 16) (.t 17), none⟩,
 ⟨some 19, none, .load (some 3) (.t 18), none⟩,
 ⟨some 20, none, .mv (.t 1), none⟩,
 ⟨some 21, none, .mv (.t 5), none⟩,
 ⟨some 22, none, .idxa 3 (.t 20) (.t 21), none⟩,
 ⟨some 23, none, .load (some 3) (.t 22), none⟩,
 ⟨some 24, none, .ex (.aeq true [0, 0, 1]) [(.t 19), (.t 23)], none⟩])
 (.keep [0, 1, 12, 13, 24] (.cond (.t 24)
 (.seq (.ops [⟨some 4, none, .mv (.c (.bool false)), none⟩])
 (.ret))
 (.skip)))))))
 (.keep [0, 1, 12, 13] (.ops [⟨some 25, none, .bin .add (.t 13) (.c (.int .i64 1)), none⟩,
 ⟨some 13, none, .mv (.t 25), none⟩]))))))
def J_law05_same : AFn :=
 ⟨26, [.t 4], .seq (.ops [⟨some 4, none, .mv (.c (.bool false)), none⟩])
 (.keep [0, 1] (.seq (.seq (.ops [⟨some 6, none, .mv (.t 0), none⟩,
 ⟨some 7, none, .lenl (.t 6), none⟩,
 ⟨some 8, none, .mv (.t 1), none⟩,
 ⟨some 9, none, .lenl (.t 8), none⟩,
 ⟨some 10, none, .bin .neq (.t 7) (.t 9), none⟩])
 (.keep [0, 1, 10] (.cond (.t 10)
 (.seq (.ops [⟨some 4, none, .mv (.c (.bool false)), none⟩])
 (.ret))
 (.skip))))
 (.keep [0, 1] (.seq (.seq (.ops [⟨some 11, none, .mv (.t 0), none⟩,
 ⟨some 12, none, .lenl (.t 11), none⟩,
 ⟨some 13, none, .mv (.c (.int .i64 0)), none⟩])
 (.keep [0, 1, 12, 13] (.block 0 (.loop [0, 1, 12, 13] (J_law05_same_j2)))))
 (J_law05_same_j1)))))⟩
theorem J_law05_same_ok : chkFn Try.prog 18 J_law05_same = true := by kernel_rfl
def J_expr_Read_j1 : ACode :=
 .keep [0, 7] (.seq (.seq (.ops [⟨some 37, none, .fld 3 (.t 7), none⟩,
 ⟨some 38, none, .load none (.t 37), none⟩,
 ⟨some 39, none, .not (.t 38), none⟩,
 ⟨some 40, none, .mv (.t 39), none⟩,
 ⟨some 41, (some (40, false)), .fld 2 (.t 7), none⟩,
 ⟨some 42, (some (40, false)), .load none (.t 41), none⟩,
 ⟨some 43, (some (40, false)), .bin .gtr (.t 42) (.c (.int .i64 0)), none⟩,
 ⟨some 44, none, .pick (.t 40) (.c (.bool true)) (.t 43), none⟩])
 (.keep [0, 7, 44] (.cond (.t 44)
 (.seq (.ops [⟨some 45, none, .mv (.t 0), none⟩,
 ⟨some 46, none, .lenl (.t 45), none⟩,
 ⟨some 2, none, .mv (.c (.lst .clip 0 [])), none⟩,
 ⟨some 3, none, .mv (.t 46), none⟩,
 ⟨some 4, none, .mv (.c (.int .i64 2)), none⟩])
 (.ret))
 (.skip))))
 (.keep [0, 7] (.seq (.ops [⟨some 47, none, .call (.f 39) [(.t 7), (.c (.int .i64 1))], none⟩])
 (.keep [0, 7] (.seq (.seq (.ops [⟨some 48, none, .fld 0 (.t 7), none⟩,
 ⟨some 49, none, .load none (.t 48), none⟩,
 ⟨some 50, none, .lenl (.t 49), none⟩,
 ⟨some 51, none, .bin .gtr (.t 50) (.c (.int .i64 200)), none⟩])
 (.keep [0, 7, 51] (.cond (.t 51)
 (.seq (.ops [⟨some 52, none, .mv (.t 0), none⟩,
 ⟨some 53, none, .lenl (.t 52), none⟩,
 ⟨some 2, none, .mv (.c (.lst .clip 0 [])), none⟩,
 ⟨some 3, none, .mv (.t 53), none⟩,
 ⟨some 4, none, .mv (.c (.int .i64 3)), none⟩])
 (.ret))
 (.skip))))
 (.keep [7] (.seq (.ops [⟨some 54, none, .fld 0 (.t 7), none⟩,
 ⟨some 55, none, .load none (.t 54), none⟩,
 ⟨some 2, none, .mv (.t 55), none⟩,
 ⟨some 3, none, .mv (.c (.int .i64 0)), none⟩,
 ⟨some 4, none, .mv (.c (.int .i64 0)), none⟩])
 (.ret))))))))
def J_expr_Read_j2 : ACode :=
 .seq (.ops [⟨some 26, none, .bin .lss (.t 25) (.t 24), none⟩])
 (.keep [0, 7, 23, 24, 25, 26] (.seq (.cond (.t 26)
 (.skip)
 (.exit 2))
 (.keep [0, 7, 23, 24, 25] (.seq (.block 3 (.seq (.ops [⟨some 27, none, .mv (.t 25), none⟩,
 ⟨some 28, none, .idxa 4 (.t 23) (.t 25), none⟩,
 ⟨some 29, none, .load (some 4) (.t 28), none⟩,
 ⟨some 9, none, .new [(.int .i64 0), (.str ⟨#[]⟩), (.int .i64 0), (.int .i64 0)] [], none⟩,
 ⟨some 8, none, .mv (.t 27), none⟩,
 ⟨none, none, .stores 4 (.t 9) (.t 29), none⟩])
 (.keep [0, 7, 8, 9, 23, 24, 25] (.seq (.ops [⟨some 30, none, .load (some 4) (.t 9), none⟩,
 ⟨some 31, none, .call (.f 38) [(.t 7), (.t 30)], none⟩,
 ⟨some 10, none, .mv (.t 31), none⟩])
 (.keep [0, 7, 8, 10, 23, 24, 25] (.seq (.ops [⟨some 32, none, .mv (.t 10), none⟩,
 ⟨some 33, none, .bin .neq (.t 32) (.c (.int .i64 0)), none⟩])
 (.keep [0, 7, 8, 10, 23, 24, 25, 33] (.cond (.t 33)
 (.seq (.ops [⟨some 34, none, .mv (.t 8), none⟩,
 ⟨some 35, none, .mv (.t 10), none⟩,
 ⟨some 2, none, .mv (.c (.lst .clip 0 [])), none⟩,
 ⟨some 3, none, .mv (.t 34), none⟩,
 ⟨some 4, none, .mv (.t 35), none⟩])
 (.ret))
 (.skip)))))))))
 (.keep [0, 7, 23, 24, 25] (.ops [⟨some 36, none, .bin .add (.t 25) (.c (.int .i64 1)), none⟩,
 ⟨some 25, none, .mv (.t 36), none⟩]))))))
def J_expr_Read_j3 : ACode :=
 .keep [0] (.seq (.ops [⟨some 7, none, .k (.new [(.lst .clip 0 []), (.lst .clip 0 []), (.int .i64 0), (.bool false)] [(0, 45, 3)] [(1, 3)]), none⟩])
 (.keep [0, 7] (.seq (.seq (.ops [⟨some 23, none, .mv (.t 0), none⟩,
 ⟨some 24, none, .lenl (.t 23), none⟩,
 ⟨some 25, none, .mv (.c (.int .i64 0)), none⟩])
 (.keep [0, 7, 23, 24, 25] (.block 2 (.loop [0, 7, 23, 24, 25] (J_expr_Read_j2)))))
 (J_expr_Read_j1))))
def J_expr_Read_j4 : ACode :=
 .seq (.ops [⟨some 14, none, .bin .lss (.t 13) (.t 12), none⟩])
 (.keep [0, 11, 12, 13, 14] (.seq (.cond (.t 14)
 (.skip)
 (.exit 0))
 (.keep [0, 11, 12, 13] (.seq (.block 1 (.seq (.ops [⟨some 15, none, .mv (.t 13), none⟩,
 ⟨some 16, none, .idxa 4 (.t 11) (.t 13), none⟩,
 ⟨some 17, none, .load (some 4) (.t 16), none⟩,
 ⟨some 6, none, .new [(.int .i64 0), (.str ⟨#[]⟩), (.int .i64 0), (.int .i64 0)] [], none⟩,
 ⟨some 5, none, .mv (.t 15), none⟩,
 ⟨none, none, .stores 4 (.t 6) (.t 17), none⟩])
 (.keep [0, 5, 6, 11, 12, 13] (.seq (.ops [⟨some 18, none, .load (some 4) (.t 6), none⟩,
 ⟨some 19, none, .call (.f 14) [(.t 18)], none⟩,
 ⟨some 20, none, .bin .eql (.t 19) (.c (.str ⟨#[]⟩)), none⟩])
 (.keep [0, 5, 11, 12, 13, 20] (.cond (.t 20)
 (.seq (.ops [⟨some 21, none, .mv (.t 5), none⟩,
 ⟨some 2, none, .mv (.c (.lst .clip 0 [])), none⟩,
 ⟨some 3, none, .mv (.t 21), none⟩,
 ⟨some 4, none, .mv (.c (.int .i64 2)), none⟩])
 (.ret))
 (.skip)))))))
 (.keep [0, 11, 12, 13] (.ops [⟨some 22, none, .bin .add (.t 13) (.c (.int .i64 1)), none⟩,
 ⟨some 13, none, .mv (.t 22), none⟩]))))))
def J_expr_Read : AFn :=
 ⟨56, [.t 2, .t 3, .t 4], .seq (.ops [⟨some 2, none, .mv (.c (.lst .clip 0 [])), none⟩,
 ⟨some 3, none, .mv (.c (.int .i64 0)), none⟩,
 ⟨some 4, none, .mv (.c (.int .i64 0)), none⟩])
 (.keep [0] (.seq (.seq (.ops [⟨some 11, none, .mv (.t 0), none⟩,
 ⟨some 12, none, .lenl (.t 11), none⟩,
 ⟨some 13, none, .mv (.c (.int .i64 0)), none⟩])
 (.keep [0, 11, 12, 13] (.block 0 (.loop [0, 11, 12, 13] (J_expr_Read_j4)))))
 (J_expr_Read_j3)))⟩
theorem J_expr_Read_ok : chkFn Try.prog 19 J_expr_Read = true := by kernel_rfl
def J_ref05_Read : AFn :=
 ⟨25, [.t 2, .t 3, .t 4], .seq (.ops [⟨some 2, none, .mv (.c (.lst .clip 0 [])), none⟩,
 ⟨some 3, none, .mv (.c (.int .i64 0)), none⟩,
 ⟨some 4, none, .mv (.c (.int .i64 0)), none⟩])
 (.keep [0] (.seq (.ops [⟨some 9, none, .mv (.t 0), none⟩,
 ⟨some 10, none, .call (.f 40) [(.t 9)], none⟩,
 ⟨some 8, none, .mv (.t 10), none⟩,
 ⟨some 11, none, .ext 0 (.t 8), none⟩,
 ⟨some 12, none, .ext 1 (.t 8), none⟩,
 ⟨some 5, none, .mv (.t 11), none⟩,
 ⟨some 6, none, .mv (.t 12), none⟩])
 (.keep [0, 5, 6] (.seq (.seq (.ops [⟨some 13, none, .mv (.t 6), none⟩,
 ⟨some 14, none, .bin .neq (.t 13) (.c (.int .i64 0)), none⟩])
 (.keep [0, 5, 6, 14] (.cond (.t 14)
 (.seq (.ops [⟨some 15, none, .mv (.t 5), none⟩,
 ⟨some 16, none, .mv (.t 6), none⟩,
 ⟨some 2, none, .mv (.c (.lst .clip 0 [])), none⟩,
 ⟨some 3, none, .mv (.t 15), none⟩,
 ⟨some 4, none, .mv (.t 16), none⟩])
 (.ret))
 (.skip))))
 (.keep [0] (.seq (.ops [⟨some 17, none, .mv (.t 0), none⟩,
 ⟨some 18, none, .call (.f 41) [(.t 17)], none⟩,
 ⟨some 7, none, .mv (.t 18), none⟩])
 (.keep [0, 7] (.seq (.seq (.ops [⟨some 19, none, .mv (.t 7), none⟩,
 ⟨some 20, none, .lenl (.t 19), none⟩,
 ⟨some 21, none, .bin .gtr (.t 20) (.c (.int .i64 200)), none⟩])
 (.keep [0, 7, 21] (.cond (.t 21)
 (.seq (.ops [⟨some 22, none, .mv (.t 0), none⟩,
 ⟨some 23, none, .lenl (.t 22), none⟩,
 ⟨some 2, none, .mv (.c (.lst .clip 0 [])), none⟩,
 ⟨some 3, none, .mv (.t 23), none⟩,
 ⟨some 4, none, .mv (.c (.int .i64 3)), none⟩])
 (.ret))
 (.skip))))
 (.keep [7] (.seq (.ops [⟨some 24, none, .mv (.t 7), none⟩,
 ⟨some 2, none, .mv (.t 24), none⟩,
 ⟨some 3, none, .mv (.c (.int .i64 0)), none⟩,
 ⟨some 4, none, .mv (.c (.int .i64 0)), none⟩])
 (.ret)))))))))))⟩
theorem J_ref05_Read_ok : chkFn Try.prog 20 J_ref05_Read = true := by kernel_rfl
def J_law05_large_j1 : ACode :=
 .keep [] (.seq (.ops [⟨some 2, none, .mv (.c (.bool false)), none⟩])
 (.ret))
def J_law05_large_j2 : ACode :=
 .seq (.ops [⟨some 10, none, .bin .lss (.t 9) (.t 8), none⟩])
 (.keep [0, 8, 9, 10] (.seq (.cond (.t 10)
 (.skip)
 (.exit 0))
 (.keep [0, 8, 9] (.seq (.block 1 (.seq (.ops [⟨some 11, none, .mv (.t 9), none⟩,
 ⟨some 3, none, .mv (.t 11), none⟩])
 (.keep [0, 3, 8, 9] (.seq (.ops [⟨some 12, none, .mv (.t 0), none⟩,
 ⟨some 13, none, .mv (.t 3), none⟩,
 ⟨some 14, none, .idxa 3 (.t 12) (.t 13), none⟩,
 ⟨some 15, none, .fld 2 (.t 14), none⟩,
 ⟨some 16, none, .load none (.t 15), none⟩,
 ⟨some 17, none, .lens (.t 16), none⟩,
 ⟨some 18, none, .bin .gtr (.t 17) (.c (.int .i64 100)), none⟩])
 (.keep [0, 8, 9, 18] (.cond (.t 18)
 (.seq (.ops [⟨some 2, none, .mv (.c (.bool true)), none⟩])
 (.ret))
 (.skip)))))))
 (.keep [0, 8, 9] (.ops [⟨some 19, none, .bin .add (.t 9) (.c (.int .i64 1)), none⟩,
 ⟨some 9, none, .mv (.t 19), none⟩]))))))
def J_law05_large : AFn :=
 ⟨20, [.t 2], .seq (.ops [⟨some 2, none, .mv (.c (.bool false)), none⟩])
 (.keep [0] (.seq (.seq (.ops [⟨some 4, none, .mv (.t 0), none⟩,
 ⟨some 5, none, .lenl (.t 4), none⟩,
 ⟨some 6, none, .bin .gtr (.t 5) (.c (.int .i64 300)), none⟩])
 (.keep [0, 6] (.cond (.t 6)
 (.seq (.ops [⟨some 2, none, .mv (.c (.bool true)), none⟩])
 (.ret))
 (.skip))))
 (.keep [0] (.seq (.seq (.ops [⟨some 7, none, .mv (.t 0), none⟩,
 ⟨some 8, none, .lenl (.t 7), none⟩,
 ⟨some 9, none, .mv (.c (.int .i64 0)), none⟩])
 (.keep [0, 8, 9] (.block 0 (.loop [0, 8, 9] (J_law05_large_j2)))))
 (J_law05_large_j1)))))⟩
theorem J_law05_large_ok : chkFn Try.prog 21 J_law05_large = true := by kernel_rfl
def J_expr_Text : AFn :=
 ⟨23, [.t 2, .t 3], .seq (.ops [⟨some 1, none, .box (.t 0) [], none⟩,
 ⟨some 2, none, .mv (.c (.str ⟨#[]⟩)), none⟩,
 ⟨some 3, none, .mv (.c (.int .i64 0)), none⟩])
 (.keep [1] (.seq (.ops [⟨some 9, none, .load none (.t 1), none⟩,
 ⟨some 10, none, .call (.f 42) [(.t 9)], none⟩,
 ⟨some 8, none, .mv (.t 10), none⟩,
 ⟨some 11, none, .ext 0 (.t 8), none⟩,
 ⟨some 12, none, .ext 1 (.t 8), none⟩,
 ⟨some 4, none, .new [(.lst .clip 0 [])] [], none⟩,
 ⟨none, none, .store 1 (.t 4) (.t 11), none⟩,
 ⟨some 5, none, .mv (.t 12), none⟩])
 (.keep [1, 4, 5] (.seq (.seq (.ops [⟨some 13, none, .mv (.t 5), none⟩,
 ⟨some 14, none, .not (.t 13), none⟩])
 (.keep [1, 4, 14] (.cond (.t 14)
 (.seq (.ops [⟨some 2, none, .mv (.c (.str ⟨#[]⟩)), none⟩,
 ⟨some 3, none, .mv (.c (.int .i64 2)), none⟩])
 (.ret))
 (.skip))))
 (.keep [1, 4] (.seq (.ops [⟨some 6, none, .new [(.lst .clip 0 [])] [(0, 9, 1)], none⟩])
 (.keep [1, 4, 6] (.seq (.ops [⟨some 7, none, .new [.nilf] [], none⟩])
 (.keep [1, 4, 6, 7] (.seq (.ops [⟨some 15, none, .mkfn 43 [(.t 1), (.t 6), (.t 7), (.t 4)], none⟩,
 ⟨none, none, .store 1 (.t 7) (.t 15), none⟩])
 (.keep [1, 6, 7] (.seq (.ops [⟨some 16, none, .load none (.t 7), none⟩,
 ⟨some 17, none, .load none (.t 1), none⟩,
 ⟨some 18, none, .lenl (.t 17), none⟩,
 ⟨some 19, none, .bin .sub (.t 18) (.c (.int .i64 1)), none⟩,
 ⟨some 20, none, .call (.t 16) [(.t 19), (.c (.int .i64 0))], none⟩])
 (.keep [6] (.seq (.ops [⟨some 21, none, .load none (.t 6), none⟩,
 ⟨some 22, none, .call (.f 46) [(.t 21), (.c (.str ⟨#[32]⟩))], none⟩,
 ⟨some 2, none, .mv (.t 22), none⟩,
 ⟨some 3, none, .mv (.c (.int .i64 0)), none⟩])
 (.ret)))))))))))))))⟩
theorem J_expr_Text_ok : chkFn Try.prog 22 J_expr_Text = true := by kernel_rfl
def J_ref05_Text : AFn :=
 ⟨15, [.t 2, .t 3], .seq (.ops [⟨some 2, none, .mv (.c (.str ⟨#[]⟩)), none⟩,
 ⟨some 3, none, .mv (.c (.int .i64 0)), none⟩])
 (.keep [0] (.seq (.ops [⟨some 7, none, .mv (.t 0), none⟩,
 ⟨some 8, none, .call (.f 47) [(.t 7)], none⟩,
 ⟨some 6, none, .mv (.t 8), none⟩,
 ⟨some 9, none, .ext 0 (.t 6), none⟩,
 ⟨some 10, none, .ext 1 (.t 6), none⟩,
 ⟨some 4, none, .new [(.int .i64 0), (.str ⟨#[]⟩), (.int .i64 0), (.int .i64 0)] [], none⟩,
 ⟨none, none, .stores 4 (.t 4) (.t 9), none⟩,
 ⟨some 5, none, .mv (.t 10), none⟩])
 (.keep [4, 5] (.seq (.seq (.ops [⟨some 11, none, .mv (.t 5), none⟩,
 ⟨some 12, none, .not (.t 11), none⟩])
 (.keep [4, 12] (.cond (.t 12)
 (.seq (.ops [⟨some 2, none, .mv (.c (.str ⟨#[]⟩)), none⟩,
 ⟨some 3, none, .mv (.c (.int .i64 2)), none⟩])
 (.ret))
 (.skip))))
 (.keep [4] (.seq (.ops [⟨some 13, none, .fld 1 (.t 4), none⟩,
 ⟨some 14, none, .load none (.t 13), none⟩,
 ⟨some 2, none, .mv (.t 14), none⟩,
 ⟨some 3, none, .mv (.c (.int .i64 0)), none⟩])
 (.ret)))))))⟩
theorem J_ref05_Text_ok : chkFn Try.prog 23 J_ref05_Text = true := by kernel_rfl
def J_expr_May : AFn :=
 ⟨11, [.t 2], .seq (.ops [⟨some 2, none, .mv (.c (.bool false)), none⟩])
 (.keep [0] (.seq (.ops [⟨some 6, none, .mv (.t 0), none⟩,
 ⟨some 7, none, .call (.f 42) [(.t 6)], none⟩,
 ⟨some 5, none, .mv (.t 7), none⟩,
 ⟨some 8, none, .ext 0 (.t 5), none⟩,
 ⟨some 9, none, .ext 1 (.t 5), none⟩,
 ⟨some 3, none, .mv (.t 8), none⟩,
 ⟨some 4, none, .mv (.t 9), none⟩])
 (.keep [4] (.seq (.ops [⟨some 10, none, .mv (.t 4), none⟩,
 ⟨some 2, none, .mv (.t 10), none⟩])
 (.ret)))))⟩
theorem J_expr_May_ok : chkFn Try.prog 24 J_expr_May = true := by kernel_rfl
def J_ref05_May : AFn :=
 ⟨11, [.t 2], .seq (.ops [⟨some 2, none, .mv (.c (.bool false)), none⟩])
 (.keep [0] (.seq (.ops [⟨some 6, none, .mv (.t 0), none⟩,
 ⟨some 7, none, .call (.f 47) [(.t 6)], none⟩,
 ⟨some 5, none, .mv (.t 7), none⟩,
 ⟨some 8, none, .ext 0 (.t 5), none⟩,
 ⟨some 9, none, .ext 1 (.t 5), none⟩,
 ⟨some 3, none, .new [(.int .i64 0), (.str ⟨#[]⟩), (.int .i64 0), (.int .i64 0)] [], none⟩,
 ⟨none, none, .stores 4 (.t 3) (.t 8), none⟩,
 ⟨some 4, none, .mv (.t 9), none⟩])
 (.keep [4] (.seq (.ops [⟨some 10, none, .mv (.t 4), none⟩,
 ⟨some 2, none, .mv (.t 10), none⟩])
 (.ret)))))⟩
theorem J_ref05_May_ok : chkFn Try.prog 25 J_ref05_May = true := by kernel_rfl
def J_expr_Deep : AFn :=
 ⟨19, [.t 2], .seq (.ops [⟨some 2, none, .mv (.c (.int .i64 0)), none⟩])
 (.keep [0] (.seq (.ops [⟨some 6, none, .mv (.t 0), none⟩,
 ⟨some 7, none, .call (.f 42) [(.t 6)], none⟩,
 ⟨some 5, none, .mv (.t 7), none⟩,
 ⟨some 8, none, .ext 0 (.t 5), none⟩,
 ⟨some 9, none, .ext 1 (.t 5), none⟩,
 ⟨some 3, none, .mv (.t 8), none⟩,
 ⟨some 4, none, .mv (.t 9), none⟩])
 (.keep [0, 3, 4] (.seq (.seq (.ops [⟨some 10, none, .mv (.t 4), none⟩,
 ⟨some 11, none, .not (.t 10), none⟩])
 (.keep [0, 3, 11] (.cond (.t 11)
 (.seq (.ops [⟨some 2, none, .mv (.c (.int .i64 0)), none⟩])
 (.ret))
 (.skip))))
 (.keep [0, 3] (.seq (.ops [⟨some 12, none, .mv (.t 3), none⟩,
 ⟨some 13, none, .mv (.t 0), none⟩,
 ⟨some 14, none, .lenl (.t 13), none⟩,
 ⟨some 15, none, .bin .sub (.t 14) (.c (.int .i64 1)), none⟩,
 ⟨some 16, none, .idxa 3 (.t 12) (.t 15), none⟩,
 ⟨some 17, none, .fld 2 (.t 16), none⟩,
 ⟨some 18, none, .load none (.t 17), none⟩,
 ⟨some 2, none, .mv (.t 18), none⟩])
 (.ret)))))))⟩
theorem J_expr_Deep_ok : chkFn Try.prog 26 J_expr_Deep = true := by kernel_rfl
def J_ref05_Deep : AFn :=
 ⟨14, [.t 2], .seq (.ops [⟨some 2, none, .mv (.c (.int .i64 0)), none⟩])
 (.keep [0] (.seq (.ops [⟨some 6, none, .mv (.t 0), none⟩,
 ⟨some 7, none, .call (.f 47) [(.t 6)], none⟩,
 ⟨some 5, none, .mv (.t 7), none⟩,
 ⟨some 8, none, .ext 0 (.t 5), none⟩,
 ⟨some 9, none, .ext 1 (.t 5), none⟩,
 ⟨some 3, none, .new [(.int .i64 0), (.str ⟨#[]⟩), (.int .i64 0), (.int .i64 0)] [], none⟩,
 ⟨none, none, .stores 4 (.t 3) (.t 8), none⟩,
 ⟨some 4, none, .mv (.t 9), none⟩])
 (.keep [3, 4] (.seq (.seq (.ops [⟨some 10, none, .mv (.t 4), none⟩,
 ⟨some 11, none, .not (.t 10), none⟩])
 (.keep [3, 11] (.cond (.t 11)
 (.seq (.ops [⟨some 2, none, .mv (.c (.int .i64 0)), none⟩])
 (.ret))
 (.skip))))
 (.keep [3] (.seq (.ops [⟨some 12, none, .fld 3 (.t 3), none⟩,
 ⟨some 13, none, .load none (.t 12), none⟩,
 ⟨some 2, none, .mv (.t 13), none⟩])
 (.ret)))))))⟩
theorem J_ref05_Deep_ok : chkFn Try.prog 27 J_ref05_Deep = true := by kernel_rfl
def J_law05_deepRight_j1 : ACode :=
 .keep [4] (.seq (.ops [⟨some 32, none, .mv (.t 4), none⟩,
 ⟨some 33, none, .bin .gtr (.t 32) (.c (.int .i64 1000)), none⟩,
 ⟨some 2, none, .mv (.t 33), none⟩])
 (.ret))
def J_law05_deepRight_j2 : ACode :=
 .keep [0, 3, 4, 5] (.seq (.ops [⟨some 30, none, .mv (.t 3), none⟩,
 ⟨some 31, none, .bin .gtr (.t 30) (.c (.int .i64 100)), none⟩])
 (.keep [0, 3, 4, 5, 31] (.cond (.t 31)
 (.seq (.ops [⟨some 2, none, .mv (.c (.bool true)), none⟩])
 (.ret))
 (.skip))))
def J_law05_deepRight_j3 : ACode :=
 .keep [0, 3, 4, 5] (.seq (.seq (.ops [⟨some 24, none, .mv (.t 0), none⟩,
 ⟨some 25, none, .mv (.t 5), none⟩,
 ⟨some 26, none, .idxs (.t 24) (.t 25), none⟩,
 ⟨some 27, none, .bin .eql (.t 26) (.c (.int .u8 32)), none⟩])
 (.keep [0, 3, 4, 5, 27] (.cond (.t 27)
 (.ops [⟨some 28, none, .mv (.t 4), none⟩,
 ⟨some 29, none, .bin .add (.t 28) (.c (.int .i64 1)), none⟩,
 ⟨some 4, none, .mv (.t 29), none⟩])
 (.skip))))
 (J_law05_deepRight_j2))
def J_law05_deepRight_j4 : ACode :=
 .keep [0, 3, 4, 5] (.seq (.seq (.ops [⟨some 18, none, .mv (.t 0), none⟩,
 ⟨some 19, none, .mv (.t 5), none⟩,
 ⟨some 20, none, .idxs (.t 18) (.t 19), none⟩,
 ⟨some 21, none, .bin .eql (.t 20) (.c (.int .u8 41)), none⟩])
 (.keep [0, 3, 4, 5, 21] (.cond (.t 21)
 (.ops [⟨some 22, none, .mv (.t 3), none⟩,
 ⟨some 23, none, .bin .sub (.t 22) (.c (.int .i64 1)), none⟩,
 ⟨some 3, none, .mv (.t 23), none⟩])
 (.skip))))
 (J_law05_deepRight_j3))
def J_law05_deepRight_j5 : ACode :=
 .seq (.seq (.ops [⟨some 6, none, .mv (.t 5), none⟩,
 ⟨some 7, none, .mv (.t 0), none⟩,
 ⟨some 8, none, .lens (.t 7), none⟩,
 ⟨some 9, none, .bin .lss (.t 6) (.t 8), none⟩])
 (.keep [0, 3, 4, 5, 9] (.cond (.t 9)
 (.skip)
 (.exit 0))))
 (.keep [0, 3, 4, 5] (.seq (.block 1 (.seq (.seq (.ops [⟨some 12, none, .mv (.t 0), none⟩,
 ⟨some 13, none, .mv (.t 5), none⟩,
 ⟨some 14, none, .idxs (.t 12) (.t 13), none⟩,
 ⟨some 15, none, .bin .eql (.t 14) (.c (.int .u8 40)), none⟩])
 (.keep [0, 3, 4, 5, 15] (.cond (.t 15)
 (.ops [⟨some 16, none, .mv (.t 3), none⟩,
 ⟨some 17, none, .bin .add (.t 16) (.c (.int .i64 1)), none⟩,
 ⟨some 3, none, .mv (.t 17), none⟩])
 (.skip))))
 (J_law05_deepRight_j4)))
 (.keep [0, 3, 4, 5] (.ops [⟨some 10, none, .mv (.t 5), none⟩,
 ⟨some 11, none, .bin .add (.t 10) (.c (.int .i64 1)), none⟩,
 ⟨some 5, none, .mv (.t 11), none⟩]))))
def J_law05_deepRight : AFn :=
 ⟨34, [.t 2], .seq (.ops [⟨some 2, none, .mv (.c (.bool false)), none⟩])
 (.keep [0] (.seq (.ops [⟨some 3, none, .mv (.c (.int .i64 0)), none⟩,
 ⟨some 4, none, .mv (.c (.int .i64 1)), none⟩])
 (.keep [0, 3, 4] (.seq (.seq (.ops [⟨some 5, none, .mv (.c (.int .i64 0)), none⟩])
 (.keep [0, 3, 4, 5] (.block 0 (.loop [0, 3, 4, 5] (J_law05_deepRight_j5)))))
 (J_law05_deepRight_j1)))))⟩
theorem J_law05_deepRight_ok : chkFn Try.prog 28 J_law05_deepRight = true := by kernel_rfl
def J_expr_reader_take_j1 : ACode :=
 .keep [] (.seq (.ops [⟨some 4, none, .mv (.c (.int .i64 0)), none⟩])
 (.ret))
def J_expr_reader_take_j2 : ACode :=
 .keep [0, 3, 14, 15] (.cond (.t 15)
 (.seq (.ops [⟨some 20, none, .mv (.t 0), none⟩,
 ⟨some 21, none, .fld 0 (.t 3), none⟩,
 ⟨some 22, none, .load none (.t 21), none⟩,
 ⟨some 23, none, .call (.f 44) [(.t 22)], none⟩,
 ⟨some 24, none, .call (.f 39) [(.t 20), (.t 23)], none⟩])
 (.keep [0, 3] (.seq (.draw [0] [⟨some 25, none, .mv (.t 0), none⟩,
 ⟨some 26, none, .mv (.t 0), none⟩,
 ⟨some 27, none, .nilck (.t 26), none⟩,
 ⟨some 28, none, .fld 1 (.t 27), none⟩,
 ⟨some 29, none, .k (.ld (.t 28)), (some (.s 0, [3]))⟩,
 ⟨some 30, none, .fld 0 (.t 3), none⟩,
 ⟨some 31, none, .load none (.t 30), (some (.s 3, [0]))⟩,
 ⟨some 32, none, .bsl 3 1 1 [(.int .i64 0)] [(0, 1, (.t 31))], none⟩,
 ⟨some 33, none, .k (.ap 3 8 29 (.t 32)), none⟩,
 ⟨some 34, none, .nilck (.t 25), none⟩,
 ⟨some 35, none, .fld 1 (.t 34), none⟩,
 ⟨none, none, .k (.st (.t 35) 33), none⟩])
 (.keep [0] (.ops [⟨some 36, none, .mv (.t 0), none⟩,
 ⟨some 37, none, .nilck (.t 36), none⟩,
 ⟨some 38, none, .fld 3 (.t 37), none⟩,
 ⟨none, none, .store 1 (.t 38) (.c (.bool false)), none⟩])))))
 (.seq (.ops [⟨some 40, none, .bin .eql (.t 14) (.c (.int .i64 7)), none⟩,
 ⟨some 39, none, .mv (.t 40), none⟩])
 (.keep [0, 39] (.cond (.t 39)
 (.seq (.seq (.ops [⟨some 41, none, .mv (.t 0), none⟩,
 ⟨some 42, none, .nilck (.t 41), none⟩,
 ⟨some 43, none, .fld 2 (.t 42), none⟩,
 ⟨some 44, none, .load none (.t 43), none⟩,
 ⟨some 45, none, .bin .eql (.t 44) (.c (.int .i64 0)), none⟩])
 (.keep [0, 45] (.cond (.t 45)
 (.seq (.ops [⟨some 4, none, .mv (.c (.int .i64 2)), none⟩])
 (.ret))
 (.skip))))
 (.keep [0] (.seq (.ops [⟨some 46, none, .mv (.t 0), none⟩,
 ⟨some 47, none, .call (.f 39) [(.t 46), (.c (.int .i64 1))], none⟩])
 (.keep [0] (.seq (.nmo 0 1 (.draw [0] [⟨some 48, none, .mv (.t 0), none⟩,
 ⟨some 49, none, .mv (.t 0), none⟩,
 ⟨some 50, none, .nilck (.t 49), none⟩,
 ⟨some 51, none, .fld 1 (.t 50), none⟩,
 ⟨some 52, none, .load none (.t 51), none⟩,
 ⟨some 53, none, .mv (.t 0), none⟩,
 ⟨some 54, none, .nilck (.t 53), none⟩,
 ⟨some 55, none, .fld 1 (.t 54), none⟩,
 ⟨some 56, none, .load none (.t 55), none⟩,
 ⟨some 57, none, .k (.len (.t 56)), none⟩,
 ⟨some 58, none, .bin .sub (.t 57) (.c (.int .i64 1)), none⟩,
 ⟨some 59, none, .k (.sl (.t 52) (.t 58)), none⟩,
 ⟨some 60, none, .nilck (.t 48), none⟩,
 ⟨some 61, none, .fld 1 (.t 60), none⟩,
 ⟨none, none, .k (.pop (.t 61) (.t 59)), none⟩]))
 (.keep [0] (.ops [⟨some 62, none, .mv (.t 0), none⟩,
 ⟨some 63, none, .nilck (.t 62), none⟩,
 ⟨some 64, none, .fld 2 (.t 63), none⟩,
 ⟨some 65, none, .load none (.t 64), none⟩,
 ⟨some 66, none, .bin .sub (.t 65) (.c (.int .i64 1)), none⟩,
 ⟨some 67, none, .nilck (.t 62), none⟩,
 ⟨some 68, none, .fld 2 (.t 67), none⟩,
 ⟨none, none, .store 1 (.t 68) (.t 66), none⟩])))))))
 (.seq (.ops [⟨some 4, none, .mv (.c (.int .i64 2)), none⟩])
 (.ret))))))
def J_expr_reader_take : AFn :=
 ⟨69, [.t 4], .seq (.ops [⟨some 3, none, .box (.t 1) [], none⟩,
 ⟨some 4, none, .mv (.c (.int .i64 0)), none⟩])
 (.keep [0, 3] (.seq (.seq (.ops [⟨some 5, none, .mv (.t 0), none⟩,
 ⟨some 6, none, .nilck (.t 5), none⟩,
 ⟨some 7, none, .fld 3 (.t 6), none⟩,
 ⟨some 8, none, .load none (.t 7), none⟩,
 ⟨some 9, none, .not (.t 8), none⟩])
 (.keep [0, 3, 9] (.cond (.t 9)
 (.seq (.ops [⟨some 10, none, .mv (.t 0), none⟩,
 ⟨some 11, none, .load (some 4) (.t 3), none⟩,
 ⟨some 12, none, .call (.f 62) [(.t 10), (.t 11)], none⟩,
 ⟨some 4, none, .mv (.t 12), none⟩])
 (.ret))
 (.skip))))
 (.keep [0, 3] (.seq (.seq (.ops [⟨some 13, none, .fld 0 (.t 3), none⟩,
 ⟨some 14, none, .load none (.t 13), none⟩])
 (.keep [0, 3, 14] (.block 0 (.seq (.seq (.ops [⟨some 16, none, .bin .eql (.t 14) (.c (.int .i64 2)), none⟩,
 ⟨some 15, none, .mv (.t 16), none⟩])
 (.keep [0, 3, 14, 15] (.cond (.t 15)
 (.skip)
 (.seq (.ops [⟨some 17, none, .bin .eql (.t 14) (.c (.int .i64 3)), none⟩,
 ⟨some 15, none, .mv (.t 17), none⟩])
 (.keep [0, 3, 14, 15] (.cond (.t 15)
 (.skip)
 (.seq (.ops [⟨some 18, none, .bin .eql (.t 14) (.c (.int .i64 4)), none⟩,
 ⟨some 15, none, .mv (.t 18), none⟩])
 (.keep [0, 3, 14, 15] (.cond (.t 15)
 (.skip)
 (.ops [⟨some 19, none, .bin .eql (.t 14) (.c (.int .i64 5)), none⟩,
 ⟨some 15, none, .mv (.t 19), none⟩]))))))))))
 (J_expr_reader_take_j2)))))
 (J_expr_reader_take_j1)))))⟩
theorem J_expr_reader_take_ok : chkFn Try.prog 38 J_expr_reader_take = true := by kernel_rfl
def J_expr_reader_lay_j1 : ACode :=
 .seq (.seq (.ops [⟨some 4, none, .mv (.t 0), none⟩,
 ⟨some 5, none, .call (.f 63) [(.t 4)], none⟩,
 ⟨some 6, none, .call (.f 44) [(.t 5)], none⟩,
 ⟨some 7, none, .mv (.t 1), none⟩,
 ⟨some 8, none, .bin .geq (.t 6) (.t 7), none⟩])
 (.keep [0, 1, 8] (.cond (.t 8)
 (.skip)
 (.exit 0))))
 (.keep [0, 1] (.block 1 (.seq (.draw [0, 1] [⟨some 9, none, .mv (.t 0), none⟩,
 ⟨some 10, none, .mv (.t 0), none⟩,
 ⟨some 11, none, .nilck (.t 10), none⟩,
 ⟨some 12, none, .fld 0 (.t 11), none⟩,
 ⟨some 13, none, .loado (.t 12), none⟩,
 ⟨some 14, none, .mv (.t 0), none⟩,
 ⟨some 15, none, .callr (.f 63) [(.t 14)], none⟩,
 ⟨some 16, none, .build [(.int .i64 0), (.int .i64 0), (.str ⟨#[]⟩)] [(0, 1, (.t 15))], none⟩,
 ⟨some 17, none, .bsl 45 3 1 [(.int .i64 0), (.int .i64 0), (.str ⟨#[]⟩)] [(0, 3, (.t 16))], none⟩,
 ⟨some 18, none, .appo 45 3 32 13 (.t 17), none⟩,
 ⟨some 19, none, .nilck (.t 9), none⟩,
 ⟨some 20, none, .fld 0 (.t 19), none⟩,
 ⟨none, none, .storeo (.t 20) 18, none⟩])
 (.keep [0, 1] (.nmo 0 1 (.draw [0, 1] [⟨some 21, none, .mv (.t 0), none⟩,
 ⟨some 22, none, .mv (.t 0), none⟩,
 ⟨some 23, none, .nilck (.t 22), none⟩,
 ⟨some 24, none, .fld 1 (.t 23), none⟩,
 ⟨some 25, none, .load none (.t 24), none⟩,
 ⟨some 26, none, .mv (.t 0), none⟩,
 ⟨some 27, none, .nilck (.t 26), none⟩,
 ⟨some 28, none, .fld 1 (.t 27), none⟩,
 ⟨some 29, none, .load none (.t 28), none⟩,
 ⟨some 30, none, .k (.len (.t 29)), none⟩,
 ⟨some 31, none, .bin .sub (.t 30) (.c (.int .i64 1)), none⟩,
 ⟨some 32, none, .k (.sl (.t 25) (.t 31)), none⟩,
 ⟨some 33, none, .nilck (.t 21), none⟩,
 ⟨some 34, none, .fld 1 (.t 33), none⟩,
 ⟨none, none, .k (.pop (.t 34) (.t 32)), none⟩]))))))
def J_expr_reader_lay : AFn :=
 ⟨35, [], .block 0 (.loop [0, 1] (J_expr_reader_lay_j1))⟩
theorem J_expr_reader_lay_ok : chkFn Try.prog 39 J_expr_reader_lay = true := by kernel_rfl
def J_ref05_check_j1 : ACode :=
 .keep [0, 5, 6] (.seq (.seq (.ops [⟨some 100, none, .mv (.t 5), none⟩,
 ⟨some 101, none, .not (.t 100), none⟩,
 ⟨some 102, none, .mv (.t 101), none⟩,
 ⟨some 103, (some (102, false)), .mv (.t 6), none⟩,
 ⟨some 104, (some (102, false)), .bin .gtr (.t 103) (.c (.int .i64 0)), none⟩,
 ⟨some 105, none, .pick (.t 102) (.c (.bool true)) (.t 104), none⟩])
 (.keep [0, 105] (.cond (.t 105)
 (.seq (.ops [⟨some 106, none, .mv (.t 0), none⟩,
 ⟨some 107, none, .lenl (.t 106), none⟩,
 ⟨some 2, none, .mv (.t 107), none⟩,
 ⟨some 3, none, .mv (.c (.int .i64 2)), none⟩])
 (.ret))
 (.skip))))
 (.keep [] (.seq (.ops [⟨some 2, none, .mv (.c (.int .i64 0)), none⟩,
 ⟨some 3, none, .mv (.c (.int .i64 0)), none⟩])
 (.ret))))
def J_ref05_check_j2 : ACode :=
 .keep [0, 5, 6, 7] (.ops [⟨some 27, none, .mv (.t 7), none⟩,
 ⟨some 28, none, .bin .add (.t 27) (.c (.int .i64 1)), none⟩,
 ⟨some 7, none, .mv (.t 28), none⟩])
def J_ref05_check_j3 : ACode :=
 .seq (.seq (.ops [⟨some 23, none, .mv (.t 7), none⟩,
 ⟨some 24, none, .mv (.t 0), none⟩,
 ⟨some 25, none, .lenl (.t 24), none⟩,
 ⟨some 26, none, .bin .lss (.t 23) (.t 25), none⟩])
 (.keep [0, 5, 6, 7, 26] (.cond (.t 26)
 (.skip)
 (.exit 2))))
 (.keep [0, 5, 6, 7] (.seq (.block 3 (.seq (.ops [⟨some 29, none, .mv (.t 0), none⟩,
 ⟨some 30, none, .mv (.t 7), none⟩,
 ⟨some 31, none, .idxa 4 (.t 29) (.t 30), none⟩,
 ⟨some 32, none, .load (some 4) (.t 31), none⟩,
 ⟨some 8, none, .new [(.int .i64 0), (.str ⟨#[]⟩), (.int .i64 0), (.int .i64 0)] [], none⟩,
 ⟨none, none, .stores 4 (.t 8) (.t 32), none⟩])
 (.keep [0, 5, 6, 7, 8] (.seq (.ops [⟨some 33, none, .mv (.t 7), none⟩,
 ⟨some 34, none, .bin .gtr (.t 33) (.c (.int .i64 0)), none⟩,
 ⟨some 35, none, .mv (.t 34), none⟩,
 ⟨some 36, (some (35, true)), .mv (.t 0), none⟩,
 ⟨some 37, (some (35, true)), .mv (.t 7), none⟩,
 ⟨some 38, (some (35, true)), .bin .sub (.t 37) (.c (.int .i64 1)), none⟩,
 ⟨some 39, (some (35, true)), .idxa 4 (.t 36) (.t 38), none⟩,
 ⟨some 40, (some (35, true)), .fld 0 (.t 39), none⟩,
 ⟨some 41, (some (35, true)), .load none (.t 40), none⟩,
 ⟨some 42, (some (35, true)), .bin .eql (.t 41) (.c (.int .i64 5)), none⟩,
 ⟨some 43, none, .pick (.t 35) (.t 42) (.c (.bool false)), none⟩,
 ⟨some 9, none, .mv (.t 43), none⟩])
 (.keep [0, 5, 6, 7, 8, 9] (.block 4 (.seq (.ops [⟨some 46, none, .mv (.t 5), none⟩,
 ⟨some 47, none, .not (.t 46), none⟩,
 ⟨some 48, none, .mv (.t 47), none⟩,
 ⟨some 49, (some (48, true)), .fld 0 (.t 8), none⟩,
 ⟨some 50, (some (48, true)), .load none (.t 49), none⟩,
 ⟨some 51, (some (48, true)), .bin .eql (.t 50) (.c (.int .i64 1)), none⟩,
 ⟨some 52, none, .pick (.t 48) (.t 51) (.c (.bool false)), none⟩,
 ⟨some 53, none, .mv (.t 52), none⟩,
 ⟨some 54, (some (53, true)), .mv (.t 9), none⟩,
 ⟨some 55, (some (53, true)), .not (.t 54), none⟩,
 ⟨some 56, (some (53, true)), .mv (.t 55), none⟩,
 ⟨some 57, (some (56, false)), .fld 2 (.t 8), none⟩,
 ⟨some 58, (some (56, false)), .load none (.t 57), none⟩,
 ⟨some 59, (some (56, false)), .bin .eql (.t 58) (.c (.int .i64 5)), none⟩,
 ⟨some 60, (some (53, true)), .pick (.t 56) (.c (.bool true)) (.t 59), none⟩,
 ⟨some 61, none, .pick (.t 53) (.t 60) (.c (.bool false)), none⟩,
 ⟨some 45, none, .mv (.t 61), none⟩])
 (.keep [0, 5, 6, 7, 8, 9, 45] (.cond (.t 45)
 (.ops [⟨some 5, none, .mv (.c (.bool true)), none⟩])
 (.seq (.ops [⟨some 63, none, .mv (.t 5), none⟩,
 ⟨some 64, none, .not (.t 63), none⟩,
 ⟨some 65, none, .mv (.t 64), none⟩,
 ⟨some 66, (some (65, true)), .fld 0 (.t 8), none⟩,
 ⟨some 67, (some (65, true)), .load none (.t 66), none⟩,
 ⟨some 68, (some (65, true)), .bin .eql (.t 67) (.c (.int .i64 6)), none⟩,
 ⟨some 69, none, .pick (.t 65) (.t 68) (.c (.bool false)), none⟩,
 ⟨some 70, none, .mv (.t 69), none⟩,
 ⟨some 71, (some (70, true)), .mv (.t 9), none⟩,
 ⟨some 72, (some (70, true)), .not (.t 71), none⟩,
 ⟨some 73, none, .pick (.t 70) (.t 72) (.c (.bool false)), none⟩,
 ⟨some 62, none, .mv (.t 73), none⟩])
 (.keep [0, 5, 6, 7, 8, 62] (.cond (.t 62)
 (.seq (.seq (.ops [⟨some 74, none, .mv (.t 6), none⟩,
 ⟨some 75, none, .bin .eql (.t 74) (.c (.int .i64 100)), none⟩])
 (.keep [0, 5, 6, 7, 75] (.cond (.t 75)
 (.seq (.ops [⟨some 76, none, .mv (.t 7), none⟩,
 ⟨some 2, none, .mv (.t 76), none⟩,
 ⟨some 3, none, .mv (.c (.int .i64 3)), none⟩])
 (.ret))
 (.skip))))
 (.keep [0, 5, 6, 7] (.ops [⟨some 77, none, .mv (.t 6), none⟩,
 ⟨some 78, none, .bin .add (.t 77) (.c (.int .i64 1)), none⟩,
 ⟨some 6, none, .mv (.t 78), none⟩])))
 (.seq (.ops [⟨some 80, none, .mv (.t 5), none⟩,
 ⟨some 81, none, .mv (.t 80), none⟩,
 ⟨some 82, (some (81, true)), .fld 0 (.t 8), none⟩,
 ⟨some 83, (some (81, true)), .load none (.t 82), none⟩,
 ⟨some 84, (some (81, true)), .bin .eql (.t 83) (.c (.int .i64 7)), none⟩,
 ⟨some 85, none, .pick (.t 81) (.t 84) (.c (.bool false)), none⟩,
 ⟨some 86, none, .mv (.t 85), none⟩,
 ⟨some 87, (some (86, true)), .mv (.t 6), none⟩,
 ⟨some 88, (some (86, true)), .bin .gtr (.t 87) (.c (.int .i64 0)), none⟩,
 ⟨some 89, none, .pick (.t 86) (.t 88) (.c (.bool false)), none⟩,
 ⟨some 79, none, .mv (.t 89), none⟩])
 (.keep [0, 5, 6, 7, 8, 79] (.cond (.t 79)
 (.ops [⟨some 90, none, .mv (.t 6), none⟩,
 ⟨some 91, none, .bin .sub (.t 90) (.c (.int .i64 1)), none⟩,
 ⟨some 6, none, .mv (.t 91), none⟩])
 (.seq (.ops [⟨some 93, none, .mv (.t 5), none⟩,
 ⟨some 94, none, .mv (.t 93), none⟩,
 ⟨some 95, (some (94, true)), .fld 0 (.t 8), none⟩,
 ⟨some 96, (some (94, true)), .load none (.t 95), none⟩,
 ⟨some 97, (some (94, true)), .call (.f 64) [(.t 96)], none⟩,
 ⟨some 98, (some (94, true)), .bin .gtr (.t 97) (.c (.int .i64 0)), none⟩,
 ⟨some 99, none, .pick (.t 94) (.t 98) (.c (.bool false)), none⟩,
 ⟨some 92, none, .mv (.t 99), none⟩])
 (.keep [0, 6, 7, 92] (.cond (.t 92)
 (.ops [⟨some 5, none, .mv (.c (.bool false)), none⟩])
 (.seq (.ops [⟨some 44, none, .mv (.t 7), none⟩,
 ⟨some 2, none, .mv (.t 44), none⟩,
 ⟨some 3, none, .mv (.c (.int .i64 2)), none⟩])
 (.ret))))))))))))))))))))
 (J_ref05_check_j2)))
def J_ref05_check_j4 : ACode :=
 .keep [0] (.seq (.ops [⟨some 5, none, .mv (.c (.bool false)), none⟩])
 (.keep [0, 5] (.seq (.ops [⟨some 6, none, .mv (.c (.int .i64 0)), none⟩])
 (.keep [0, 5, 6] (.seq (.seq (.ops [⟨some 7, none, .mv (.c (.int .i64 0)), none⟩])
 (.keep [0, 5, 6, 7] (.block 2 (.loop [0, 5, 6, 7] (J_ref05_check_j3)))))
 (J_ref05_check_j1))))))
def J_ref05_check_j5 : ACode :=
 .seq (.seq (.ops [⟨some 10, none, .mv (.t 4), none⟩,
 ⟨some 11, none, .mv (.t 0), none⟩,
 ⟨some 12, none, .lenl (.t 11), none⟩,
 ⟨some 13, none, .bin .lss (.t 10) (.t 12), none⟩])
 (.keep [0, 4, 13] (.cond (.t 13)
 (.skip)
 (.exit 0))))
 (.keep [0, 4] (.seq (.block 1 (.seq (.ops [⟨some 16, none, .mv (.t 0), none⟩,
 ⟨some 17, none, .mv (.t 4), none⟩,
 ⟨some 18, none, .idxa 4 (.t 16) (.t 17), none⟩,
 ⟨some 19, none, .load (some 4) (.t 18), none⟩,
 ⟨some 20, none, .call (.f 30) [(.t 19)], none⟩,
 ⟨some 21, none, .bin .eql (.t 20) (.c (.str ⟨#[]⟩)), none⟩])
 (.keep [0, 4, 21] (.cond (.t 21)
 (.seq (.ops [⟨some 22, none, .mv (.t 4), none⟩,
 ⟨some 2, none, .mv (.t 22), none⟩,
 ⟨some 3, none, .mv (.c (.int .i64 2)), none⟩])
 (.ret))
 (.skip)))))
 (.keep [0, 4] (.ops [⟨some 14, none, .mv (.t 4), none⟩,
 ⟨some 15, none, .bin .add (.t 14) (.c (.int .i64 1)), none⟩,
 ⟨some 4, none, .mv (.t 15), none⟩]))))
def J_ref05_check : AFn :=
 ⟨108, [.t 2, .t 3], .seq (.ops [⟨some 2, none, .mv (.c (.int .i64 0)), none⟩,
 ⟨some 3, none, .mv (.c (.int .i64 0)), none⟩])
 (.keep [0] (.seq (.seq (.ops [⟨some 4, none, .mv (.c (.int .i64 0)), none⟩])
 (.keep [0, 4] (.block 0 (.loop [0, 4] (J_ref05_check_j5)))))
 (J_ref05_check_j4)))⟩
theorem J_ref05_check_ok : chkFn Try.prog 40 J_ref05_check = true := by kernel_rfl
def J_ref05_terms_j1 : ACode :=
 .keep [0, 3] (.seq (.seq (.ops [⟨some 63, none, .mv (.t 3), none⟩,
 ⟨some 64, none, .bin .lss (.t 63) (.c (.int .i64 0)), none⟩])
 (.keep [0, 3, 64] (.cond (.t 64)
 (.seq (.ops [⟨some 65, none, .mv (.t 0), none⟩,
 ⟨some 66, none, .mv (.t 0), none⟩,
 ⟨some 67, none, .lenl (.t 66), none⟩,
 ⟨some 68, none, .bin .sub (.t 67) (.c (.int .i64 1)), none⟩,
 ⟨some 69, none, .slcl 4 (.t 65) (some (.c (.int .i64 1))) (some (.t 68)) none, none⟩,
 ⟨some 70, none, .call (.f 41) [(.t 69)], none⟩,
 ⟨some 2, none, .mv (.t 70), none⟩])
 (.ret))
 (.skip))))
 (.keep [0, 3] (.seq (.ops [⟨some 71, none, .bsl 45 3 0 [] [], none⟩,
 ⟨some 72, none, .mv (.t 0), none⟩,
 ⟨some 73, none, .mv (.t 3), none⟩,
 ⟨some 74, none, .slcl 4 (.t 72) none (some (.t 73)) none, none⟩,
 ⟨some 75, none, .call (.f 41) [(.t 74)], none⟩,
 ⟨some 76, none, .appo 45 3 32 71 (.t 75), none⟩,
 ⟨some 8, none, .mvo 76, none⟩])
 (.keep [0, 3, 8] (.seq (.ops [⟨some 77, none, .mvo 8, none⟩,
 ⟨some 78, none, .mv (.t 0), none⟩,
 ⟨some 79, none, .mv (.t 3), none⟩,
 ⟨some 80, none, .bin .add (.t 79) (.c (.int .i64 1)), none⟩,
 ⟨some 81, none, .slcl 4 (.t 78) (some (.t 80)) none none, none⟩,
 ⟨some 82, none, .call (.f 41) [(.t 81)], none⟩,
 ⟨some 83, none, .appo 45 3 32 77 (.t 82), none⟩,
 ⟨some 8, none, .mvo 83, none⟩])
 (.keep [0, 3, 8] (.seq (.ops [⟨some 84, none, .mvo 8, none⟩,
 ⟨some 85, none, .mv (.t 0), none⟩,
 ⟨some 86, none, .mv (.t 3), none⟩,
 ⟨some 87, none, .idxa 4 (.t 85) (.t 86), none⟩,
 ⟨some 88, none, .fld 0 (.t 87), none⟩,
 ⟨some 89, none, .load none (.t 88), none⟩,
 ⟨some 90, none, .build [(.int .i64 0), (.int .i64 0), (.str ⟨#[]⟩)] [(0, 1, (.t 89))], none⟩,
 ⟨some 91, none, .bsl 45 3 1 [(.int .i64 0), (.int .i64 0), (.str ⟨#[]⟩)] [(0, 3, (.t 90))], none⟩,
 ⟨some 92, none, .appo 45 3 32 84 (.t 91), none⟩,
 ⟨some 2, none, .mvo 92, none⟩])
 (.ret))))))))
def J_ref05_terms_j2 : ACode :=
 .keep [0, 3, 4, 5, 6] (.ops [⟨some 26, none, .mv (.t 6), none⟩,
 ⟨some 27, none, .bin .add (.t 26) (.c (.int .i64 1)), none⟩,
 ⟨some 6, none, .mv (.t 27), none⟩])
def J_ref05_terms_j3 : ACode :=
 .keep [0, 3, 4, 5, 6] (.seq (.ops [⟨some 44, none, .mv (.t 0), none⟩,
 ⟨some 45, none, .mv (.t 6), none⟩,
 ⟨some 46, none, .idxa 4 (.t 44) (.t 45), none⟩,
 ⟨some 47, none, .fld 0 (.t 46), none⟩,
 ⟨some 48, none, .load none (.t 47), none⟩,
 ⟨some 49, none, .call (.f 64) [(.t 48)], none⟩,
 ⟨some 7, none, .mv (.t 49), none⟩])
 (.keep [0, 3, 4, 5, 6, 7] (.seq (.ops [⟨some 50, none, .mv (.t 5), none⟩,
 ⟨some 51, none, .bin .eql (.t 50) (.c (.int .i64 0)), none⟩,
 ⟨some 52, none, .mv (.t 51), none⟩,
 ⟨some 53, (some (52, true)), .mv (.t 7), none⟩,
 ⟨some 54, (some (52, true)), .bin .gtr (.t 53) (.c (.int .i64 0)), none⟩,
 ⟨some 55, none, .pick (.t 52) (.t 54) (.c (.bool false)), none⟩,
 ⟨some 56, none, .mv (.t 55), none⟩,
 ⟨some 57, (some (56, true)), .mv (.t 7), none⟩,
 ⟨some 58, (some (56, true)), .mv (.t 4), none⟩,
 ⟨some 59, (some (56, true)), .bin .leq (.t 57) (.t 58), none⟩,
 ⟨some 60, none, .pick (.t 56) (.t 59) (.c (.bool false)), none⟩])
 (.keep [0, 3, 4, 5, 6, 7, 60] (.cond (.t 60)
 (.seq (.ops [⟨some 61, none, .mv (.t 7), none⟩,
 ⟨some 4, none, .mv (.t 61), none⟩])
 (.keep [0, 4, 5, 6] (.ops [⟨some 62, none, .mv (.t 6), none⟩,
 ⟨some 3, none, .mv (.t 62), none⟩])))
 (.skip))))))
def J_ref05_terms_j4 : ACode :=
 .keep [0, 3, 4, 5, 6] (.seq (.seq (.ops [⟨some 36, none, .mv (.t 0), none⟩,
 ⟨some 37, none, .mv (.t 6), none⟩,
 ⟨some 38, none, .idxa 4 (.t 36) (.t 37), none⟩,
 ⟨some 39, none, .fld 0 (.t 38), none⟩,
 ⟨some 40, none, .load none (.t 39), none⟩,
 ⟨some 41, none, .bin .eql (.t 40) (.c (.int .i64 7)), none⟩])
 (.keep [0, 3, 4, 5, 6, 41] (.cond (.t 41)
 (.ops [⟨some 42, none, .mv (.t 5), none⟩,
 ⟨some 43, none, .bin .sub (.t 42) (.c (.int .i64 1)), none⟩,
 ⟨some 5, none, .mv (.t 43), none⟩])
 (.skip))))
 (J_ref05_terms_j3))
def J_ref05_terms_j5 : ACode :=
 .seq (.seq (.ops [⟨some 22, none, .mv (.t 6), none⟩,
 ⟨some 23, none, .mv (.t 0), none⟩,
 ⟨some 24, none, .lenl (.t 23), none⟩,
 ⟨some 25, none, .bin .lss (.t 22) (.t 24), none⟩])
 (.keep [0, 3, 4, 5, 6, 25] (.cond (.t 25)
 (.skip)
 (.exit 0))))
 (.keep [0, 3, 4, 5, 6] (.seq (.block 1 (.seq (.seq (.ops [⟨some 28, none, .mv (.t 0), none⟩,
 ⟨some 29, none, .mv (.t 6), none⟩,
 ⟨some 30, none, .idxa 4 (.t 28) (.t 29), none⟩,
 ⟨some 31, none, .fld 0 (.t 30), none⟩,
 ⟨some 32, none, .load none (.t 31), none⟩,
 ⟨some 33, none, .bin .eql (.t 32) (.c (.int .i64 6)), none⟩])
 (.keep [0, 3, 4, 5, 6, 33] (.cond (.t 33)
 (.ops [⟨some 34, none, .mv (.t 5), none⟩,
 ⟨some 35, none, .bin .add (.t 34) (.c (.int .i64 1)), none⟩,
 ⟨some 5, none, .mv (.t 35), none⟩])
 (.skip))))
 (J_ref05_terms_j4)))
 (J_ref05_terms_j2)))
def J_ref05_terms : AFn :=
 ⟨93, [.t 2], .seq (.ops [⟨some 2, none, .mv (.c (.lst .clip 0 [])), none⟩])
 (.keep [0] (.seq (.seq (.ops [⟨some 9, none, .mv (.t 0), none⟩,
 ⟨some 10, none, .lenl (.t 9), none⟩,
 ⟨some 11, none, .bin .eql (.t 10) (.c (.int .i64 1)), none⟩])
 (.keep [0, 11] (.cond (.t 11)
 (.seq (.draw [2] [⟨some 12, none, .mv (.t 0), none⟩,
 ⟨some 13, none, .idxa 4 (.t 12) (.c (.int .i64 0)), none⟩,
 ⟨some 14, none, .fld 2 (.t 13), none⟩,
 ⟨some 15, none, .load none (.t 14), none⟩,
 ⟨some 16, none, .mv (.t 0), none⟩,
 ⟨some 17, none, .idxa 4 (.t 16) (.c (.int .i64 0)), none⟩,
 ⟨some 18, none, .fld 1 (.t 17), none⟩,
 ⟨some 19, none, .load none (.t 18), none⟩,
 ⟨some 20, none, .build [(.int .i64 0), (.int .i64 0), (.str ⟨#[]⟩)] [(0, 1, (.c (.int .i64 1))), (1, 1, (.t 15)), (2, 1, (.t 19))], none⟩,
 ⟨some 21, none, .bsl 45 3 1 [(.int .i64 0), (.int .i64 0), (.str ⟨#[]⟩)] [(0, 3, (.t 20))], none⟩,
 ⟨some 2, none, .mvo 21, none⟩])
 (.ret))
 (.skip))))
 (.keep [0] (.seq (.ops [⟨some 3, none, .mv (.c (.int .i64 (-1))), none⟩])
 (.keep [0, 3] (.seq (.ops [⟨some 4, none, .mv (.c (.int .i64 9)), none⟩])
 (.keep [0, 3, 4] (.seq (.ops [⟨some 5, none, .mv (.c (.int .i64 0)), none⟩])
 (.keep [0, 3, 4, 5] (.seq (.seq (.ops [⟨some 6, none, .mv (.c (.int .i64 0)), none⟩])
 (.keep [0, 3, 4, 5, 6] (.block 0 (.loop [0, 3, 4, 5, 6] (J_ref05_terms_j5)))))
 (J_ref05_terms_j1)))))))))))⟩
theorem J_ref05_terms_ok : chkFn Try.prog 41 J_ref05_terms = true := by kernel_rfl
def J_expr_parts_j1 : ACode :=
 .keep [4, 5] (.seq (.nms 5 (.ops [⟨some 118, none, .mv (.t 4), none⟩,
 ⟨some 119, none, .mv (.t 5), none⟩,
 ⟨some 120, none, .k (.len (.t 119)), none⟩,
 ⟨some 121, none, .bin .eql (.t 120) (.c (.int .i64 1)), none⟩,
 ⟨some 2, none, .mv (.t 118), none⟩,
 ⟨some 3, none, .mv (.t 121), none⟩]))
 (.ret))
def J_expr_parts_j2 : ACode :=
 .keep [0, 4, 5, 22, 23, 24] (.ops [⟨some 117, none, .bin .add (.t 24) (.c (.int .i64 1)), none⟩,
 ⟨some 24, none, .mv (.t 117), none⟩])
def J_expr_parts_j3 : ACode :=
 .seq (.ops [⟨some 25, none, .bin .lss (.t 24) (.t 23), none⟩])
 (.keep [0, 4, 5, 22, 23, 24, 25] (.seq (.cond (.t 25)
 (.skip)
 (.exit 0))
 (.keep [0, 4, 5, 22, 23, 24] (.seq (.block 1 (.seq (.ops [⟨some 26, none, .mv (.t 24), none⟩,
 ⟨some 27, none, .idxa 3 (.t 22) (.t 24), none⟩,
 ⟨some 28, none, .load (some 3) (.t 27), none⟩,
 ⟨some 7, none, .new [(.int .i64 0), (.int .i64 0), (.str ⟨#[]⟩)] [], none⟩,
 ⟨some 6, none, .mv (.t 26), none⟩,
 ⟨none, none, .stores 3 (.t 7) (.t 28), none⟩])
 (.keep [0, 4, 5, 6, 7, 22, 23, 24] (.seq (.seq (.ops [⟨some 29, none, .fld 0 (.t 7), none⟩,
 ⟨some 30, none, .load none (.t 29), none⟩,
 ⟨some 31, none, .bin .eql (.t 30) (.c (.int .i64 1)), none⟩])
 (.keep [0, 4, 5, 6, 7, 22, 23, 24, 31] (.cond (.t 31)
 (.seq (.seq (.ops [⟨some 32, none, .load (some 3) (.t 7), none⟩,
 ⟨some 33, none, .call (.f 45) [(.t 32)], none⟩,
 ⟨some 34, none, .bin .eql (.t 33) (.c (.str ⟨#[]⟩)), none⟩])
 (.keep [0, 4, 5, 6, 22, 23, 24, 34] (.cond (.t 34)
 (.seq (.ops [⟨some 2, none, .mv (.c (.lst .clip 0 [])), none⟩,
 ⟨some 3, none, .mv (.c (.bool false)), none⟩])
 (.ret))
 (.skip))))
 (.keep [0, 4, 5, 6, 22, 23, 24] (.seq (.ops [⟨some 35, none, .mv (.t 4), none⟩,
 ⟨some 36, none, .mv (.t 6), none⟩,
 ⟨some 37, none, .idxa 3 (.t 35) (.t 36), none⟩,
 ⟨some 38, none, .fld 2 (.t 37), none⟩,
 ⟨none, none, .store 1 (.t 38) (.c (.int .i64 1)), none⟩])
 (.keep [0, 4, 5, 6, 22, 23, 24] (.seq (.ops [⟨some 39, none, .k (.mv 5), none⟩,
 ⟨some 40, none, .mv (.t 6), none⟩,
 ⟨some 41, none, .bsl 3 1 1 [(.int .i64 0)] [(0, 1, (.t 40))], none⟩,
 ⟨some 42, none, .k (.ap 3 8 39 (.t 41)), none⟩,
 ⟨some 5, none, .k (.mv 42), none⟩])
 (.exit 1))))))
 (.skip))))
 (.keep [0, 4, 5, 6, 7, 22, 23, 24] (.seq (.nms 5 (.ops [⟨some 43, none, .mv (.t 5), none⟩,
 ⟨some 44, none, .k (.len (.t 43)), none⟩,
 ⟨some 8, none, .mv (.t 44), none⟩]))
 (.keep [0, 4, 5, 6, 7, 8, 22, 23, 24] (.seq (.seq (.ops [⟨some 45, none, .fld 0 (.t 7), none⟩,
 ⟨some 46, none, .load none (.t 45), none⟩,
 ⟨some 47, none, .call (.f 44) [(.t 46)], none⟩,
 ⟨some 48, none, .bin .eql (.t 47) (.c (.int .i64 0)), none⟩,
 ⟨some 49, none, .mv (.t 48), none⟩,
 ⟨some 50, (some (49, false)), .fld 1 (.t 7), none⟩,
 ⟨some 51, (some (49, false)), .load none (.t 50), none⟩,
 ⟨some 52, (some (49, false)), .bin .neq (.t 51) (.c (.int .i64 0)), none⟩,
 ⟨some 53, none, .pick (.t 49) (.c (.bool true)) (.t 52), none⟩,
 ⟨some 54, none, .mv (.t 53), none⟩,
 ⟨some 55, (some (54, false)), .fld 2 (.t 7), none⟩,
 ⟨some 56, (some (54, false)), .load none (.t 55), none⟩,
 ⟨some 57, (some (54, false)), .bin .neq (.t 56) (.c (.str ⟨#[]⟩)), none⟩,
 ⟨some 58, none, .pick (.t 54) (.c (.bool true)) (.t 57), none⟩,
 ⟨some 59, none, .mv (.t 58), none⟩,
 ⟨some 60, (some (59, false)), .mv (.t 8), none⟩,
 ⟨some 61, (some (59, false)), .bin .lss (.t 60) (.c (.int .i64 2)), none⟩,
 ⟨some 62, none, .pick (.t 59) (.c (.bool true)) (.t 61), none⟩])
 (.keep [0, 4, 5, 6, 7, 8, 22, 23, 24, 62] (.cond (.t 62)
 (.seq (.ops [⟨some 2, none, .mv (.c (.lst .clip 0 [])), none⟩,
 ⟨some 3, none, .mv (.c (.bool false)), none⟩])
 (.ret))
 (.skip))))
 (.keep [0, 4, 5, 6, 7, 8, 22, 23, 24] (.seq (.nms 5 (.draw [0, 4, 5, 6, 7, 8, 9, 10, 22, 23, 24] [⟨some 63, none, .mv (.t 5), none⟩,
 ⟨some 64, none, .mv (.t 8), none⟩,
 ⟨some 65, none, .bin .sub (.t 64) (.c (.int .i64 2)), none⟩,
 ⟨some 66, none, .k (.ix (.t 63) (.t 65)), none⟩,
 ⟨some 67, none, .k (.pk 5 (.t 66)), none⟩,
 ⟨some 68, none, .mv (.t 5), none⟩,
 ⟨some 69, none, .mv (.t 8), none⟩,
 ⟨some 70, none, .bin .sub (.t 69) (.c (.int .i64 1)), none⟩,
 ⟨some 71, none, .k (.ix (.t 68) (.t 70)), none⟩,
 ⟨some 72, none, .k (.pk 5 (.t 71)), none⟩,
 ⟨some 9, none, .mv (.t 67), none⟩,
 ⟨some 10, none, .mv (.t 72), none⟩]))
 (.keep [0, 4, 5, 6, 7, 8, 9, 10, 22, 23, 24] (.seq (.seq (.ops [⟨some 73, none, .fld 0 (.t 7), none⟩,
 ⟨some 74, none, .load none (.t 73), none⟩,
 ⟨some 75, none, .bin .eql (.t 74) (.c (.int .i64 5)), none⟩,
 ⟨some 76, none, .mv (.t 75), none⟩,
 ⟨some 77, (some (76, true)), .mv (.t 0), none⟩,
 ⟨some 78, (some (76, true)), .mv (.t 10), none⟩,
 ⟨some 79, (some (76, true)), .idxa 3 (.t 77) (.t 78), none⟩,
 ⟨some 80, (some (76, true)), .fld 0 (.t 79), none⟩,
 ⟨some 81, (some (76, true)), .load none (.t 80), none⟩,
 ⟨some 82, (some (76, true)), .bin .neq (.t 81) (.c (.int .i64 1)), none⟩,
 ⟨some 83, (some (76, true)), .mv (.t 82), none⟩,
 ⟨some 84, (some (83, false)), .mv (.t 0), none⟩,
 ⟨some 85, (some (83, false)), .mv (.t 10), none⟩,
 ⟨some 86, (some (83, false)), .idxa 3 (.t 84) (.t 85), none⟩,
 ⟨some 87, (some (83, false)), .fld 1 (.t 86), none⟩,
 ⟨some 88, (some (83, false)), .load none (.t 87), none⟩,
 ⟨some 89, (some (83, false)), .bin .neq (.t 88) (.c (.int .i64 5)), none⟩,
 ⟨some 90, (some (76, true)), .pick (.t 83) (.c (.bool true)) (.t 89), none⟩,
 ⟨some 91, none, .pick (.t 76) (.t 90) (.c (.bool false)), none⟩])
 (.keep [0, 4, 5, 6, 8, 9, 10, 22, 23, 24, 91] (.cond (.t 91)
 (.seq (.ops [⟨some 2, none, .mv (.c (.lst .clip 0 [])), none⟩,
 ⟨some 3, none, .mv (.c (.bool false)), none⟩])
 (.ret))
 (.skip))))
 (.keep [0, 4, 5, 6, 8, 9, 10, 22, 23, 24] (.seq (.draw [0, 4, 5, 6, 8, 22, 23, 24] [⟨some 92, none, .mv (.t 4), none⟩,
 ⟨some 93, none, .mv (.t 6), none⟩,
 ⟨some 94, none, .mv (.t 9), none⟩,
 ⟨some 95, none, .mv (.t 10), none⟩,
 ⟨some 96, none, .mv (.t 4), none⟩,
 ⟨some 97, none, .mv (.t 9), none⟩,
 ⟨some 98, none, .idxa 3 (.t 96) (.t 97), none⟩,
 ⟨some 99, none, .fld 2 (.t 98), none⟩,
 ⟨some 100, none, .load none (.t 99), none⟩,
 ⟨some 101, none, .mv (.t 4), none⟩,
 ⟨some 102, none, .mv (.t 10), none⟩,
 ⟨some 103, none, .idxa 3 (.t 101) (.t 102), none⟩,
 ⟨some 104, none, .fld 2 (.t 103), none⟩,
 ⟨some 105, none, .load none (.t 104), none⟩,
 ⟨some 106, none, .mx (.t 100) (.t 105), none⟩,
 ⟨some 107, none, .bin .add (.c (.int .i64 1)) (.t 106), none⟩,
 ⟨some 108, none, .build [(.int .i64 0), (.int .i64 0), (.int .i64 0)] [(0, 1, (.t 94)), (1, 1, (.t 95)), (2, 1, (.t 107))], none⟩,
 ⟨some 109, none, .idxa 3 (.t 92) (.t 93), none⟩,
 ⟨none, none, .store 3 (.t 109) (.t 108), none⟩])
 (.keep [0, 4, 5, 6, 8, 22, 23, 24] (.ops [⟨some 110, none, .k (.mv 5), none⟩,
 ⟨some 111, none, .mv (.t 8), none⟩,
 ⟨some 112, none, .bin .sub (.t 111) (.c (.int .i64 2)), none⟩,
 ⟨some 113, none, .k (.cut 110 (.t 112)), none⟩,
 ⟨some 114, none, .mv (.t 6), none⟩,
 ⟨some 115, none, .bsl 3 1 1 [(.int .i64 0)] [(0, 1, (.t 114))], none⟩,
 ⟨some 116, none, .k (.ap 3 8 113 (.t 115)), none⟩,
 ⟨some 5, none, .k (.mv 116), none⟩]))))))))))))))))
 (J_expr_parts_j2)))))
def J_expr_parts : AFn :=
 ⟨122, [.t 2, .t 3], .seq (.ops [⟨some 2, none, .mv (.c (.lst .clip 0 [])), none⟩,
 ⟨some 3, none, .mv (.c (.bool false)), none⟩])
 (.keep [0] (.seq (.seq (.ops [⟨some 11, none, .mv (.t 0), none⟩,
 ⟨some 12, none, .lenl (.t 11), none⟩,
 ⟨some 13, none, .bin .lss (.t 12) (.c (.int .i64 1)), none⟩,
 ⟨some 14, none, .mv (.t 13), none⟩,
 ⟨some 15, (some (14, false)), .mv (.t 0), none⟩,
 ⟨some 16, (some (14, false)), .lenl (.t 15), none⟩,
 ⟨some 17, (some (14, false)), .bin .gtr (.t 16) (.c (.int .i64 200)), none⟩,
 ⟨some 18, none, .pick (.t 14) (.c (.bool true)) (.t 17), none⟩])
 (.keep [0, 18] (.cond (.t 18)
 (.seq (.ops [⟨some 2, none, .mv (.c (.lst .clip 0 [])), none⟩,
 ⟨some 3, none, .mv (.c (.bool false)), none⟩])
 (.ret))
 (.skip))))
 (.keep [0] (.seq (.ops [⟨some 19, none, .mv (.t 0), none⟩,
 ⟨some 20, none, .lenl (.t 19), none⟩,
 ⟨some 21, none, .mkn 68 3 24 [(.int .i64 0), (.int .i64 0), (.int .i64 0)] (.t 20), none⟩,
 ⟨some 4, none, .mv (.t 21), none⟩])
 (.keep [0, 4] (.seq (.ops [⟨some 5, none, .k (.mk 3 (.c (.lst .clip 0 []))), none⟩])
 (.keep [0, 4, 5] (.seq (.seq (.ops [⟨some 22, none, .mv (.t 0), none⟩,
 ⟨some 23, none, .lenl (.t 22), none⟩,
 ⟨some 24, none, .mv (.c (.int .i64 0)), none⟩])
 (.keep [0, 4, 5, 22, 23, 24] (.block 0 (.loop [0, 4, 5, 22, 23, 24] (J_expr_parts_j3)))))
 (J_expr_parts_j1)))))))))⟩
theorem J_expr_parts_ok : chkFn Try.prog 42 J_expr_parts = true := by kernel_rfl
def J_expr_Text_1_j1 : ACode :=
 .keep [1, 3, 8] (.seq (.ops [⟨some 60, none, .mv (.t 8), none⟩,
 ⟨some 61, none, .mv (.t 1), none⟩,
 ⟨some 62, none, .bin .lss (.t 60) (.t 61), none⟩])
 (.keep [3, 62] (.cond (.t 62)
 (.ops [⟨some 63, none, .loado (.t 3), none⟩,
 ⟨some 64, none, .bsl 9 1 1 [(.str ⟨#[]⟩)] [(0, 1, (.c (.str ⟨#[41]⟩)))], none⟩,
 ⟨some 65, none, .appo 9 1 16 63 (.t 64), none⟩,
 ⟨none, none, .storeo (.t 3) 65, none⟩])
 (.skip))))
def J_expr_Text_1_j2 : ACode :=
 .keep [0, 1, 2, 3, 4, 5, 8] (.seq (.seq (.ops [⟨some 21, none, .load none (.t 2), none⟩,
 ⟨some 22, none, .mv (.t 0), none⟩,
 ⟨some 23, none, .idxa 3 (.t 21) (.t 22), none⟩,
 ⟨some 24, none, .fld 0 (.t 23), none⟩,
 ⟨some 25, none, .load none (.t 24), none⟩,
 ⟨some 26, none, .bin .eql (.t 25) (.c (.int .i64 1)), none⟩])
 (.keep [0, 1, 2, 3, 4, 5, 8, 26] (.cond (.t 26)
 (.draw [1, 3, 8] [⟨some 27, none, .loado (.t 3), (some (.s 3, [2]))⟩,
 ⟨some 28, none, .load none (.t 2), (some (.s 2, [3]))⟩,
 ⟨some 29, none, .mv (.t 0), none⟩,
 ⟨some 30, none, .idxa 3 (.t 28) (.t 29), none⟩,
 ⟨some 31, none, .lds (some 3) (.t 30), none⟩,
 ⟨some 32, none, .call (.f 45) [(.t 31)], none⟩,
 ⟨some 33, none, .bsl 9 1 1 [(.str ⟨#[]⟩)] [(0, 1, (.t 32))], none⟩,
 ⟨some 34, none, .appo 9 1 16 27 (.t 33), none⟩,
 ⟨none, none, .storeo (.t 3) 34, none⟩])
 (.seq (.draw [0, 1, 2, 3, 4, 5, 8] [⟨some 35, none, .load none (.t 4), none⟩,
 ⟨some 36, none, .load none (.t 5), none⟩,
 ⟨some 37, none, .mv (.t 0), none⟩,
 ⟨some 38, none, .idxa 3 (.t 36) (.t 37), none⟩,
 ⟨some 39, none, .fld 0 (.t 38), none⟩,
 ⟨some 40, none, .load none (.t 39), none⟩,
 ⟨some 41, none, .mv (.t 8), none⟩,
 ⟨some 42, none, .calli (.t 35) [(.t 40), (.t 41)], none⟩])
 (.keep [0, 1, 2, 3, 4, 5, 8] (.seq (.draw [0, 1, 3, 4, 5, 8] [⟨some 43, none, .loado (.t 3), (some (.s 3, [2]))⟩,
 ⟨some 44, none, .load none (.t 2), (some (.s 2, [3]))⟩,
 ⟨some 45, none, .mv (.t 0), none⟩,
 ⟨some 46, none, .idxa 3 (.t 44) (.t 45), none⟩,
 ⟨some 47, none, .lds (some 3) (.t 46), none⟩,
 ⟨some 48, none, .call (.f 45) [(.t 47)], none⟩,
 ⟨some 49, none, .bsl 9 1 1 [(.str ⟨#[]⟩)] [(0, 1, (.t 48))], none⟩,
 ⟨some 50, none, .appo 9 1 16 43 (.t 49), none⟩,
 ⟨none, none, .storeo (.t 3) 50, none⟩])
 (.keep [0, 1, 3, 4, 5, 8] (.draw [1, 3, 8] [⟨some 51, none, .load none (.t 4), none⟩,
 ⟨some 52, none, .load none (.t 5), none⟩,
 ⟨some 53, none, .mv (.t 0), none⟩,
 ⟨some 54, none, .idxa 3 (.t 52) (.t 53), none⟩,
 ⟨some 55, none, .fld 1 (.t 54), none⟩,
 ⟨some 56, none, .load none (.t 55), none⟩,
 ⟨some 57, none, .mv (.t 8), none⟩,
 ⟨some 58, none, .bin .add (.t 57) (.c (.int .i64 1)), none⟩,
 ⟨some 59, none, .calli (.t 51) [(.t 56), (.t 58)], none⟩]))))))))
 (J_expr_Text_1_j1))
def J_expr_Text_1 : AFn :=
 ⟨66, [], .seq (.ops [⟨some 9, none, .load none (.t 2), none⟩,
 ⟨some 10, none, .mv (.t 0), none⟩,
 ⟨some 11, none, .idxa 3 (.t 9) (.t 10), none⟩,
 ⟨some 12, none, .fld 0 (.t 11), none⟩,
 ⟨some 13, none, .load none (.t 12), none⟩,
 ⟨some 14, none, .call (.f 44) [(.t 13)], none⟩,
 ⟨some 8, none, .mv (.t 14), none⟩])
 (.keep [0, 1, 2, 3, 4, 5, 8] (.seq (.seq (.ops [⟨some 15, none, .mv (.t 8), none⟩,
 ⟨some 16, none, .mv (.t 1), none⟩,
 ⟨some 17, none, .bin .lss (.t 15) (.t 16), none⟩])
 (.keep [0, 1, 2, 3, 4, 5, 8, 17] (.cond (.t 17)
 (.ops [⟨some 18, none, .loado (.t 3), none⟩,
 ⟨some 19, none, .bsl 9 1 1 [(.str ⟨#[]⟩)] [(0, 1, (.c (.str ⟨#[40]⟩)))], none⟩,
 ⟨some 20, none, .appo 9 1 16 18 (.t 19), none⟩,
 ⟨none, none, .storeo (.t 3) 20, none⟩])
 (.skip))))
 (J_expr_Text_1_j2)))⟩
theorem J_expr_Text_1_ok : chkFn Try.prog 43 J_expr_Text_1 = true := by kernel_rfl
def J_expr_bind : AFn :=
 ⟨14, [.t 2], .seq (.ops [⟨some 2, none, .mv (.c (.int .i64 0)), none⟩])
 (.keep [0] (.seq (.seq (.ops [⟨some 3, none, .mv (.t 0), none⟩])
 (.keep [3] (.block 0 (.seq (.ops [⟨some 5, none, .bin .eql (.t 3) (.c (.int .i64 2)), none⟩,
 ⟨some 4, none, .mv (.t 5), none⟩])
 (.keep [3, 4] (.cond (.t 4)
 (.seq (.ops [⟨some 2, none, .mv (.c (.int .i64 1)), none⟩])
 (.ret))
 (.seq (.ops [⟨some 7, none, .bin .eql (.t 3) (.c (.int .i64 3)), none⟩,
 ⟨some 6, none, .mv (.t 7), none⟩])
 (.keep [3, 6] (.cond (.t 6)
 (.seq (.ops [⟨some 2, none, .mv (.c (.int .i64 2)), none⟩])
 (.ret))
 (.seq (.ops [⟨some 9, none, .bin .eql (.t 3) (.c (.int .i64 4)), none⟩,
 ⟨some 8, none, .mv (.t 9), none⟩])
 (.keep [3, 8] (.cond (.t 8)
 (.seq (.ops [⟨some 2, none, .mv (.c (.int .i64 3)), none⟩])
 (.ret))
 (.seq (.ops [⟨some 11, none, .bin .eql (.t 3) (.c (.int .i64 5)), none⟩,
 ⟨some 10, none, .mv (.t 11), none⟩])
 (.keep [3, 10] (.cond (.t 10)
 (.seq (.ops [⟨some 2, none, .mv (.c (.int .i64 4)), none⟩])
 (.ret))
 (.seq (.ops [⟨some 13, none, .bin .eql (.t 3) (.c (.int .i64 1)), none⟩,
 ⟨some 12, none, .mv (.t 13), none⟩])
 (.keep [12] (.cond (.t 12)
 (.seq (.ops [⟨some 2, none, .mv (.c (.int .i64 5)), none⟩])
 (.ret))
 (.skip)))))))))))))))))))
 (.keep [] (.seq (.ops [⟨some 2, none, .mv (.c (.int .i64 0)), none⟩])
 (.ret)))))⟩
theorem J_expr_bind_ok : chkFn Try.prog 44 J_expr_bind = true := by kernel_rfl
def J_expr_written : AFn :=
 ⟨11, [.t 2], .seq (.ops [⟨some 1, none, .box (.t 0) [], none⟩,
 ⟨some 2, none, .mv (.c (.str ⟨#[]⟩)), none⟩])
 (.keep [1] (.seq (.ops [⟨some 3, none, .fld 0 (.t 1), none⟩,
 ⟨some 4, none, .load none (.t 3), none⟩,
 ⟨some 5, none, .fld 1 (.t 1), none⟩,
 ⟨some 6, none, .load none (.t 5), none⟩,
 ⟨some 7, none, .fld 2 (.t 1), none⟩,
 ⟨some 8, none, .load none (.t 7), none⟩,
 ⟨some 9, none, .build [(.int .i64 0), (.str ⟨#[]⟩), (.int .i64 0), (.int .i64 0)] [(0, 1, (.t 4)), (2, 1, (.t 6)), (1, 1, (.t 8))], none⟩,
 ⟨some 10, none, .call (.f 14) [(.t 9)], none⟩,
 ⟨some 2, none, .mv (.t 10), none⟩])
 (.ret)))⟩
theorem J_expr_written_ok : chkFn Try.prog 45 J_expr_written = true := by kernel_rfl
def J_ref05_whole : AFn :=
 ⟨22, [.c 2 (some 4), .t 3], .seq (.ops [⟨some 2, none, .new [(.int .i64 0), (.str ⟨#[]⟩), (.int .i64 0), (.int .i64 0)] [], none⟩,
 ⟨some 3, none, .mv (.c (.bool false)), none⟩])
 (.keep [0, 2] (.seq (.seq (.ops [⟨some 6, none, .mv (.t 0), none⟩,
 ⟨some 7, none, .lenl (.t 6), none⟩,
 ⟨some 8, none, .bin .gtr (.t 7) (.c (.int .i64 200)), none⟩])
 (.keep [0, 2, 8] (.cond (.t 8)
 (.seq (.ops [⟨some 9, none, .build [(.int .i64 0), (.str ⟨#[]⟩), (.int .i64 0), (.int .i64 0)] [], none⟩,
 ⟨none, none, .store 4 (.t 2) (.t 9), none⟩,
 ⟨some 3, none, .mv (.c (.bool false)), none⟩])
 (.ret))
 (.skip))))
 (.keep [0, 2] (.seq (.ops [⟨some 11, none, .mv (.t 0), none⟩,
 ⟨some 12, none, .call (.f 68) [(.t 11)], none⟩,
 ⟨some 10, none, .mv (.t 12), none⟩,
 ⟨some 13, none, .ext 0 (.t 10), none⟩,
 ⟨some 14, none, .ext 1 (.t 10), none⟩,
 ⟨some 4, none, .new [(.int .i64 0), (.str ⟨#[]⟩), (.int .i64 0), (.int .i64 0)] [], none⟩,
 ⟨none, none, .stores 4 (.t 4) (.t 13), none⟩,
 ⟨some 5, none, .mv (.t 14), none⟩])
 (.keep [2, 4, 5] (.seq (.draw [2, 3] [⟨some 15, none, .lds (some 4) (.t 4), none⟩,
 ⟨some 16, none, .mv (.t 5), none⟩,
 ⟨some 17, none, .mv (.t 16), none⟩,
 ⟨some 18, (some (17, true)), .fld 0 (.t 4), none⟩,
 ⟨some 19, (some (17, true)), .lds none (.t 18), none⟩,
 ⟨some 20, (some (17, true)), .bin .eql (.t 19) (.c (.int .i64 0)), none⟩,
 ⟨some 21, none, .pick (.t 17) (.t 20) (.c (.bool false)), none⟩,
 ⟨none, none, .store 4 (.t 2) (.t 15), none⟩,
 ⟨some 3, none, .mv (.t 21), none⟩])
 (.ret)))))))⟩
theorem J_ref05_whole_ok : chkFn Try.prog 47 J_ref05_whole = true := by kernel_rfl
def J_expr_reader_part_j1 : ACode :=
 .keep [] (.seq (.ops [⟨some 4, none, .mv (.c (.int .i64 0)), none⟩])
 (.ret))
def J_expr_reader_part : AFn :=
 ⟨64, [.t 4], .seq (.ops [⟨some 3, none, .box (.t 1) [], none⟩,
 ⟨some 4, none, .mv (.c (.int .i64 0)), none⟩])
 (.keep [0, 3] (.seq (.block 0 (.seq (.ops [⟨some 6, none, .fld 0 (.t 3), none⟩,
 ⟨some 7, none, .load none (.t 6), none⟩,
 ⟨some 8, none, .bin .eql (.t 7) (.c (.int .i64 1)), none⟩,
 ⟨some 5, none, .mv (.t 8), none⟩])
 (.keep [0, 3, 5] (.cond (.t 5)
 (.seq (.seq (.ops [⟨some 9, none, .mv (.t 0), none⟩,
 ⟨some 10, none, .call (.f 63) [(.t 9)], none⟩,
 ⟨some 11, none, .bin .eql (.t 10) (.c (.int .i64 5)), none⟩,
 ⟨some 12, none, .mv (.t 11), none⟩,
 ⟨some 13, (some (12, true)), .fld 2 (.t 3), none⟩,
 ⟨some 14, (some (12, true)), .load none (.t 13), none⟩,
 ⟨some 15, (some (12, true)), .bin .neq (.t 14) (.c (.int .i64 5)), none⟩,
 ⟨some 16, none, .pick (.t 12) (.t 15) (.c (.bool false)), none⟩])
 (.keep [0, 3, 16] (.cond (.t 16)
 (.seq (.ops [⟨some 4, none, .mv (.c (.int .i64 2)), none⟩])
 (.ret))
 (.skip))))
 (.keep [0, 3] (.seq (.draw [0] [⟨some 17, none, .mv (.t 0), none⟩,
 ⟨some 18, none, .mv (.t 0), none⟩,
 ⟨some 19, none, .nilck (.t 18), none⟩,
 ⟨some 20, none, .fld 0 (.t 19), none⟩,
 ⟨some 21, none, .loado (.t 20), (some (.s 0, [3]))⟩,
 ⟨some 22, none, .fld 2 (.t 3), none⟩,
 ⟨some 23, none, .load none (.t 22), (some (.s 3, [0]))⟩,
 ⟨some 24, none, .fld 1 (.t 3), none⟩,
 ⟨some 25, none, .load none (.t 24), (some (.s 3, [0]))⟩,
 ⟨some 26, none, .build [(.int .i64 0), (.int .i64 0), (.str ⟨#[]⟩)] [(0, 1, (.c (.int .i64 1))), (1, 1, (.t 23)), (2, 1, (.t 25))], none⟩,
 ⟨some 27, none, .bsl 45 3 1 [(.int .i64 0), (.int .i64 0), (.str ⟨#[]⟩)] [(0, 3, (.t 26))], none⟩,
 ⟨some 28, none, .appo 45 3 32 21 (.t 27), none⟩,
 ⟨some 29, none, .nilck (.t 17), none⟩,
 ⟨some 30, none, .fld 0 (.t 29), none⟩,
 ⟨none, none, .storeo (.t 30) 28, none⟩])
 (.keep [0] (.ops [⟨some 31, none, .mv (.t 0), none⟩,
 ⟨some 32, none, .nilck (.t 31), none⟩,
 ⟨some 33, none, .fld 3 (.t 32), none⟩,
 ⟨none, none, .store 1 (.t 33) (.c (.bool true)), none⟩])))))
 (.seq (.ops [⟨some 35, none, .fld 0 (.t 3), none⟩,
 ⟨some 36, none, .load none (.t 35), none⟩,
 ⟨some 37, none, .bin .eql (.t 36) (.c (.int .i64 6)), none⟩,
 ⟨some 38, none, .mv (.t 37), none⟩,
 ⟨some 39, (some (38, true)), .mv (.t 0), none⟩,
 ⟨some 40, (some (38, true)), .call (.f 63) [(.t 39)], none⟩,
 ⟨some 41, (some (38, true)), .bin .neq (.t 40) (.c (.int .i64 5)), none⟩,
 ⟨some 42, none, .pick (.t 38) (.t 41) (.c (.bool false)), none⟩,
 ⟨some 34, none, .mv (.t 42), none⟩])
 (.keep [0, 34] (.cond (.t 34)
 (.seq (.seq (.ops [⟨some 43, none, .mv (.t 0), none⟩,
 ⟨some 44, none, .nilck (.t 43), none⟩,
 ⟨some 45, none, .fld 2 (.t 44), none⟩,
 ⟨some 46, none, .load none (.t 45), none⟩,
 ⟨some 47, none, .bin .eql (.t 46) (.c (.int .i64 100)), none⟩])
 (.keep [0, 47] (.cond (.t 47)
 (.seq (.ops [⟨some 4, none, .mv (.c (.int .i64 3)), none⟩])
 (.ret))
 (.skip))))
 (.keep [0] (.seq (.ops [⟨some 48, none, .mv (.t 0), none⟩,
 ⟨some 49, none, .mv (.t 0), none⟩,
 ⟨some 50, none, .nilck (.t 49), none⟩,
 ⟨some 51, none, .fld 1 (.t 50), none⟩,
 ⟨some 52, none, .k (.ld (.t 51)), none⟩,
 ⟨some 53, none, .bsl 3 1 1 [(.int .i64 0)] [(0, 1, (.c (.int .i64 6)))], none⟩,
 ⟨some 54, none, .k (.ap 3 8 52 (.t 53)), none⟩,
 ⟨some 55, none, .nilck (.t 48), none⟩,
 ⟨some 56, none, .fld 1 (.t 55), none⟩,
 ⟨none, none, .k (.st (.t 56) 54), none⟩])
 (.keep [0] (.ops [⟨some 57, none, .mv (.t 0), none⟩,
 ⟨some 58, none, .nilck (.t 57), none⟩,
 ⟨some 59, none, .fld 2 (.t 58), none⟩,
 ⟨some 60, none, .load none (.t 59), none⟩,
 ⟨some 61, none, .bin .add (.t 60) (.c (.int .i64 1)), none⟩,
 ⟨some 62, none, .nilck (.t 57), none⟩,
 ⟨some 63, none, .fld 2 (.t 62), none⟩,
 ⟨none, none, .store 1 (.t 63) (.t 61), none⟩])))))
 (.seq (.ops [⟨some 4, none, .mv (.c (.int .i64 2)), none⟩])
 (.ret)))))))))
 (J_expr_reader_part_j1)))⟩
theorem J_expr_reader_part_ok : chkFn Try.prog 62 J_expr_reader_part = true := by kernel_rfl
def J_expr_reader_top : AFn :=
 ⟨21, [.t 2], .seq (.ops [⟨some 2, none, .mv (.c (.int .i64 0)), none⟩])
 (.keep [0] (.seq (.seq (.nmo 0 1 (.ops [⟨some 3, none, .mv (.t 0), none⟩,
 ⟨some 4, none, .nilck (.t 3), none⟩,
 ⟨some 5, none, .fld 1 (.t 4), none⟩,
 ⟨some 6, none, .load none (.t 5), none⟩,
 ⟨some 7, none, .k (.len (.t 6)), none⟩,
 ⟨some 8, none, .bin .eql (.t 7) (.c (.int .i64 0)), none⟩]))
 (.keep [0, 8] (.cond (.t 8)
 (.seq (.ops [⟨some 2, none, .mv (.c (.int .i64 0)), none⟩])
 (.ret))
 (.skip))))
 (.keep [0] (.seq (.nmo 0 1 (.draw [2] [⟨some 9, none, .mv (.t 0), none⟩,
 ⟨some 10, none, .nilck (.t 9), none⟩,
 ⟨some 11, none, .fld 1 (.t 10), none⟩,
 ⟨some 12, none, .load none (.t 11), none⟩,
 ⟨some 13, none, .mv (.t 0), none⟩,
 ⟨some 14, none, .nilck (.t 13), none⟩,
 ⟨some 15, none, .fld 1 (.t 14), none⟩,
 ⟨some 16, none, .load none (.t 15), none⟩,
 ⟨some 17, none, .k (.len (.t 16)), none⟩,
 ⟨some 18, none, .bin .sub (.t 17) (.c (.int .i64 1)), none⟩,
 ⟨some 19, none, .k (.ix (.t 12) (.t 18)), none⟩,
 ⟨some 20, none, .k (.po (.t 11) (.t 19)), none⟩,
 ⟨some 2, none, .mv (.t 20), none⟩]))
 (.ret)))))⟩
theorem J_expr_reader_top_ok : chkFn Try.prog 63 J_expr_reader_top = true := by kernel_rfl
def J_ref05_Binds : AFn :=
 ⟨12, [.t 2], .seq (.ops [⟨some 2, none, .mv (.c (.int .i64 0)), none⟩])
 (.keep [0] (.seq (.seq (.ops [⟨some 3, none, .mv (.t 0), none⟩])
 (.keep [3] (.block 0 (.seq (.ops [⟨some 5, none, .bin .eql (.t 3) (.c (.int .i64 2)), none⟩,
 ⟨some 4, none, .mv (.t 5), none⟩])
 (.keep [3, 4] (.cond (.t 4)
 (.seq (.ops [⟨some 2, none, .mv (.c (.int .i64 1)), none⟩])
 (.ret))
 (.seq (.ops [⟨some 7, none, .bin .eql (.t 3) (.c (.int .i64 3)), none⟩,
 ⟨some 6, none, .mv (.t 7), none⟩])
 (.keep [3, 6] (.cond (.t 6)
 (.seq (.ops [⟨some 2, none, .mv (.c (.int .i64 2)), none⟩])
 (.ret))
 (.seq (.ops [⟨some 9, none, .bin .eql (.t 3) (.c (.int .i64 4)), none⟩,
 ⟨some 8, none, .mv (.t 9), none⟩])
 (.keep [3, 8] (.cond (.t 8)
 (.seq (.ops [⟨some 2, none, .mv (.c (.int .i64 3)), none⟩])
 (.ret))
 (.seq (.ops [⟨some 11, none, .bin .eql (.t 3) (.c (.int .i64 5)), none⟩,
 ⟨some 10, none, .mv (.t 11), none⟩])
 (.keep [10] (.cond (.t 10)
 (.seq (.ops [⟨some 2, none, .mv (.c (.int .i64 4)), none⟩])
 (.ret))
 (.skip))))))))))))))))
 (.keep [] (.seq (.ops [⟨some 2, none, .mv (.c (.int .i64 0)), none⟩])
 (.ret)))))⟩
theorem J_ref05_Binds_ok : chkFn Try.prog 64 J_ref05_Binds = true := by kernel_rfl
def J_ref05_Last_j1 : ACode :=
 .keep [2, 6, 7, 10, 12, 13, 14] (.seq (.ops [⟨some 125, none, .fld 0 (.t 10), none⟩,
 ⟨some 126, none, .load none (.t 125), none⟩,
 ⟨some 127, none, .mv (.t 12), none⟩,
 ⟨some 128, none, .bin .add (.t 127) (.c (.str ⟨#[32]⟩)), none⟩,
 ⟨some 129, none, .mv (.t 6), none⟩,
 ⟨some 130, none, .bin .add (.t 128) (.t 129), none⟩,
 ⟨some 131, none, .bin .add (.t 130) (.c (.str ⟨#[32]⟩)), none⟩,
 ⟨some 132, none, .mv (.t 13), none⟩,
 ⟨some 133, none, .bin .add (.t 131) (.t 132), none⟩,
 ⟨some 134, none, .mv (.t 7), none⟩,
 ⟨some 135, none, .mv (.t 14), none⟩,
 ⟨some 136, none, .bin .add (.t 135) (.c (.int .i64 1)), none⟩,
 ⟨some 137, none, .build [(.int .i64 0), (.str ⟨#[]⟩), (.int .i64 0), (.int .i64 0)] [(0, 1, (.t 126)), (1, 1, (.t 133)), (2, 1, (.t 134)), (3, 1, (.t 136))], none⟩,
 ⟨none, none, .store 4 (.t 2) (.t 137), none⟩,
 ⟨some 3, none, .mv (.c (.bool true)), none⟩])
 (.ret))
def J_ref05_Last_j2 : ACode :=
 .keep [2, 6, 7, 8, 10, 12, 13] (.seq (.ops [⟨some 117, none, .fld 3 (.t 10), none⟩,
 ⟨some 118, none, .load none (.t 117), none⟩,
 ⟨some 14, none, .mv (.t 118), none⟩])
 (.keep [2, 6, 7, 8, 10, 12, 13, 14] (.seq (.seq (.ops [⟨some 119, none, .fld 3 (.t 8), none⟩,
 ⟨some 120, none, .load none (.t 119), none⟩,
 ⟨some 121, none, .mv (.t 14), none⟩,
 ⟨some 122, none, .bin .gtr (.t 120) (.t 121), none⟩])
 (.keep [2, 6, 7, 8, 10, 12, 13, 14, 122] (.cond (.t 122)
 (.ops [⟨some 123, none, .fld 3 (.t 8), none⟩,
 ⟨some 124, none, .load none (.t 123), none⟩,
 ⟨some 14, none, .mv (.t 124), none⟩])
 (.skip))))
 (J_ref05_Last_j1))))
def J_ref05_Last_j3 : ACode :=
 .keep [2, 6, 7, 8, 10, 12] (.seq (.ops [⟨some 108, none, .fld 1 (.t 8), none⟩,
 ⟨some 109, none, .load none (.t 108), none⟩,
 ⟨some 13, none, .mv (.t 109), none⟩])
 (.keep [2, 6, 7, 8, 10, 12, 13] (.seq (.seq (.ops [⟨some 110, none, .fld 2 (.t 8), none⟩,
 ⟨some 111, none, .load none (.t 110), none⟩,
 ⟨some 112, none, .mv (.t 7), none⟩,
 ⟨some 113, none, .bin .leq (.t 111) (.t 112), none⟩])
 (.keep [2, 6, 7, 8, 10, 12, 13, 113] (.cond (.t 113)
 (.ops [⟨some 114, none, .mv (.t 13), none⟩,
 ⟨some 115, none, .bin .add (.c (.str ⟨#[40, 32]⟩)) (.t 114), none⟩,
 ⟨some 116, none, .bin .add (.t 115) (.c (.str ⟨#[32, 41]⟩)), none⟩,
 ⟨some 13, none, .mv (.t 116), none⟩])
 (.skip))))
 (J_ref05_Last_j2))))
def J_ref05_Last : AFn :=
 ⟨138, [.c 2 (some 4), .t 3], .seq (.ops [⟨some 2, none, .new [(.int .i64 0), (.str ⟨#[]⟩), (.int .i64 0), (.int .i64 0)] [], none⟩,
 ⟨some 3, none, .mv (.c (.bool false)), none⟩])
 (.keep [0, 2] (.seq (.ops [⟨some 15, none, .build [(.int .i64 0), (.str ⟨#[]⟩), (.int .i64 0), (.int .i64 0)] [], none⟩,
 ⟨some 4, none, .new [(.int .i64 0), (.str ⟨#[]⟩), (.int .i64 0), (.int .i64 0)] [], none⟩,
 ⟨none, none, .stores 4 (.t 4) (.t 15), none⟩])
 (.keep [0, 2, 4] (.seq (.seq (.ops [⟨some 16, none, .mv (.t 0), none⟩,
 ⟨some 17, none, .lenl (.t 16), none⟩,
 ⟨some 18, none, .bin .eql (.t 17) (.c (.int .i64 0)), none⟩])
 (.keep [0, 2, 4, 18] (.cond (.t 18)
 (.seq (.ops [⟨some 19, none, .load (some 4) (.t 4), none⟩,
 ⟨none, none, .store 4 (.t 2) (.t 19), none⟩,
 ⟨some 3, none, .mv (.c (.bool false)), none⟩])
 (.ret))
 (.skip))))
 (.keep [0, 2, 4] (.seq (.ops [⟨some 20, none, .mv (.t 0), none⟩,
 ⟨some 21, none, .mv (.t 0), none⟩,
 ⟨some 22, none, .lenl (.t 21), none⟩,
 ⟨some 23, none, .bin .sub (.t 22) (.c (.int .i64 1)), none⟩,
 ⟨some 24, none, .idxa 3 (.t 20) (.t 23), none⟩,
 ⟨some 25, none, .load (some 3) (.t 24), none⟩,
 ⟨some 5, none, .new [(.int .i64 0), (.int .i64 0), (.str ⟨#[]⟩)] [], none⟩,
 ⟨none, none, .stores 3 (.t 5) (.t 25), none⟩])
 (.keep [0, 2, 4, 5] (.seq (.ops [⟨some 26, none, .fld 0 (.t 5), none⟩,
 ⟨some 27, none, .load none (.t 26), none⟩,
 ⟨some 28, none, .fld 2 (.t 5), none⟩,
 ⟨some 29, none, .load none (.t 28), none⟩,
 ⟨some 30, none, .fld 1 (.t 5), none⟩,
 ⟨some 31, none, .load none (.t 30), none⟩,
 ⟨some 32, none, .build [(.int .i64 0), (.str ⟨#[]⟩), (.int .i64 0), (.int .i64 0)] [(0, 1, (.t 27)), (1, 1, (.t 29)), (2, 1, (.t 31))], none⟩,
 ⟨some 33, none, .call (.f 30) [(.t 32)], none⟩,
 ⟨some 6, none, .mv (.t 33), none⟩])
 (.keep [0, 2, 4, 5, 6] (.seq (.seq (.ops [⟨some 34, none, .mv (.t 6), none⟩,
 ⟨some 35, none, .bin .eql (.t 34) (.c (.str ⟨#[]⟩)), none⟩])
 (.keep [0, 2, 4, 5, 6, 35] (.cond (.t 35)
 (.seq (.ops [⟨some 36, none, .load (some 4) (.t 4), none⟩,
 ⟨none, none, .store 4 (.t 2) (.t 36), none⟩,
 ⟨some 3, none, .mv (.c (.bool false)), none⟩])
 (.ret))
 (.skip))))
 (.keep [0, 2, 4, 5, 6] (.seq (.seq (.ops [⟨some 37, none, .fld 0 (.t 5), none⟩,
 ⟨some 38, none, .load none (.t 37), none⟩,
 ⟨some 39, none, .bin .eql (.t 38) (.c (.int .i64 1)), none⟩])
 (.keep [0, 2, 4, 5, 6, 39] (.cond (.t 39)
 (.seq (.ops [⟨some 40, none, .mv (.t 0), none⟩,
 ⟨some 41, none, .lenl (.t 40), none⟩,
 ⟨some 42, none, .bin .sub (.t 41) (.c (.int .i64 1)), none⟩,
 ⟨some 43, none, .mv (.t 6), none⟩,
 ⟨some 44, none, .build [(.int .i64 0), (.str ⟨#[]⟩), (.int .i64 0), (.int .i64 0)] [(0, 1, (.t 42)), (1, 1, (.t 43)), (2, 1, (.c (.int .i64 5))), (3, 1, (.c (.int .i64 1)))], none⟩,
 ⟨none, none, .store 4 (.t 2) (.t 44), none⟩,
 ⟨some 3, none, .mv (.c (.bool true)), none⟩])
 (.ret))
 (.skip))))
 (.keep [0, 2, 4, 5, 6] (.seq (.ops [⟨some 45, none, .fld 0 (.t 5), none⟩,
 ⟨some 46, none, .load none (.t 45), none⟩,
 ⟨some 47, none, .call (.f 64) [(.t 46)], none⟩,
 ⟨some 7, none, .mv (.t 47), none⟩])
 (.keep [0, 2, 4, 5, 6, 7] (.seq (.seq (.ops [⟨some 48, none, .mv (.t 7), none⟩,
 ⟨some 49, none, .bin .eql (.t 48) (.c (.int .i64 0)), none⟩])
 (.keep [0, 2, 4, 5, 6, 7, 49] (.cond (.t 49)
 (.seq (.ops [⟨some 50, none, .load (some 4) (.t 4), none⟩,
 ⟨none, none, .store 4 (.t 2) (.t 50), none⟩,
 ⟨some 3, none, .mv (.c (.bool false)), none⟩])
 (.ret))
 (.skip))))
 (.keep [0, 2, 4, 5, 6, 7] (.seq (.ops [⟨some 52, none, .mv (.t 0), none⟩,
 ⟨some 53, none, .mv (.t 0), none⟩,
 ⟨some 54, none, .lenl (.t 53), none⟩,
 ⟨some 55, none, .bin .sub (.t 54) (.c (.int .i64 1)), none⟩,
 ⟨some 56, none, .slcl 3 (.t 52) none (some (.t 55)) none, none⟩,
 ⟨some 57, none, .call (.f 68) [(.t 56)], none⟩,
 ⟨some 51, none, .mv (.t 57), none⟩,
 ⟨some 58, none, .ext 0 (.t 51), none⟩,
 ⟨some 59, none, .ext 1 (.t 51), none⟩,
 ⟨some 8, none, .new [(.int .i64 0), (.str ⟨#[]⟩), (.int .i64 0), (.int .i64 0)] [], none⟩,
 ⟨none, none, .stores 4 (.t 8) (.t 58), none⟩,
 ⟨some 9, none, .mv (.t 59), none⟩])
 (.keep [0, 2, 4, 5, 6, 7, 8, 9] (.seq (.seq (.ops [⟨some 60, none, .mv (.t 9), none⟩,
 ⟨some 61, none, .not (.t 60), none⟩,
 ⟨some 62, none, .mv (.t 61), none⟩,
 ⟨some 63, (some (62, false)), .fld 0 (.t 5), none⟩,
 ⟨some 64, (some (62, false)), .load none (.t 63), none⟩,
 ⟨some 65, (some (62, false)), .bin .eql (.t 64) (.c (.int .i64 5)), none⟩,
 ⟨some 66, (some (62, false)), .mv (.t 65), none⟩,
 ⟨some 67, (some (66, true)), .mv (.t 0), none⟩,
 ⟨some 68, (some (66, true)), .mv (.t 0), none⟩,
 ⟨some 69, (some (66, true)), .lenl (.t 68), none⟩,
 ⟨some 70, (some (66, true)), .bin .sub (.t 69) (.c (.int .i64 2)), none⟩,
 ⟨some 71, (some (66, true)), .idxa 3 (.t 67) (.t 70), none⟩,
 ⟨some 72, (some (66, true)), .fld 0 (.t 71), none⟩,
 ⟨some 73, (some (66, true)), .load none (.t 72), none⟩,
 ⟨some 74, (some (66, true)), .bin .neq (.t 73) (.c (.int .i64 1)), none⟩,
 ⟨some 75, (some (66, true)), .mv (.t 74), none⟩,
 ⟨some 76, (some (75, false)), .mv (.t 0), none⟩,
 ⟨some 77, (some (75, false)), .mv (.t 0), none⟩,
 ⟨some 78, (some (75, false)), .lenl (.t 77), none⟩,
 ⟨some 79, (some (75, false)), .bin .sub (.t 78) (.c (.int .i64 2)), none⟩,
 ⟨some 80, (some (75, false)), .idxa 3 (.t 76) (.t 79), none⟩,
 ⟨some 81, (some (75, false)), .fld 1 (.t 80), none⟩,
 ⟨some 82, (some (75, false)), .load none (.t 81), none⟩,
 ⟨some 83, (some (75, false)), .bin .neq (.t 82) (.c (.int .i64 5)), none⟩,
 ⟨some 84, (some (66, true)), .pick (.t 75) (.c (.bool true)) (.t 83), none⟩,
 ⟨some 85, (some (62, false)), .pick (.t 66) (.t 84) (.c (.bool false)), none⟩,
 ⟨some 86, none, .pick (.t 62) (.c (.bool true)) (.t 85), none⟩])
 (.keep [0, 2, 4, 6, 7, 8, 86] (.cond (.t 86)
 (.seq (.ops [⟨some 87, none, .load (some 4) (.t 4), none⟩,
 ⟨none, none, .store 4 (.t 2) (.t 87), none⟩,
 ⟨some 3, none, .mv (.c (.bool false)), none⟩])
 (.ret))
 (.skip))))
 (.keep [0, 2, 4, 6, 7, 8] (.seq (.ops [⟨some 89, none, .mv (.t 0), none⟩,
 ⟨some 90, none, .fld 0 (.t 8), none⟩,
 ⟨some 91, none, .load none (.t 90), none⟩,
 ⟨some 92, none, .slcl 3 (.t 89) none (some (.t 91)) none, none⟩,
 ⟨some 93, none, .call (.f 68) [(.t 92)], none⟩,
 ⟨some 88, none, .mv (.t 93), none⟩,
 ⟨some 94, none, .ext 0 (.t 88), none⟩,
 ⟨some 95, none, .ext 1 (.t 88), none⟩,
 ⟨some 10, none, .new [(.int .i64 0), (.str ⟨#[]⟩), (.int .i64 0), (.int .i64 0)] [], none⟩,
 ⟨none, none, .stores 4 (.t 10) (.t 94), none⟩,
 ⟨some 11, none, .mv (.t 95), none⟩])
 (.keep [2, 4, 6, 7, 8, 10, 11] (.seq (.seq (.ops [⟨some 96, none, .mv (.t 11), none⟩,
 ⟨some 97, none, .not (.t 96), none⟩])
 (.keep [2, 4, 6, 7, 8, 10, 97] (.cond (.t 97)
 (.seq (.ops [⟨some 98, none, .load (some 4) (.t 4), none⟩,
 ⟨none, none, .store 4 (.t 2) (.t 98), none⟩,
 ⟨some 3, none, .mv (.c (.bool false)), none⟩])
 (.ret))
 (.skip))))
 (.keep [2, 6, 7, 8, 10] (.seq (.ops [⟨some 99, none, .fld 1 (.t 10), none⟩,
 ⟨some 100, none, .load none (.t 99), none⟩,
 ⟨some 12, none, .mv (.t 100), none⟩])
 (.keep [2, 6, 7, 8, 10, 12] (.seq (.seq (.ops [⟨some 101, none, .fld 2 (.t 10), none⟩,
 ⟨some 102, none, .load none (.t 101), none⟩,
 ⟨some 103, none, .mv (.t 7), none⟩,
 ⟨some 104, none, .bin .lss (.t 102) (.t 103), none⟩])
 (.keep [2, 6, 7, 8, 10, 12, 104] (.cond (.t 104)
 (.ops [⟨some 105, none, .mv (.t 12), none⟩,
 ⟨some 106, none, .bin .add (.c (.str ⟨#[40, 32]⟩)) (.t 105), none⟩,
 ⟨some 107, none, .bin .add (.t 106) (.c (.str ⟨#[32, 41]⟩)), none⟩,
 ⟨some 12, none, .mv (.t 107), none⟩])
 (.skip))))
 (J_ref05_Last_j3)))))))))))))))))))))))))))))⟩
theorem J_ref05_Last_ok : chkFn Try.prog 68 J_ref05_Last = true := by kernel_rfl
end Go.Proofs.Ytmbijfcjfhdnjaa

/- The abstract layer: laws of the walk for rows that grow and shrink, and for calls that only look. -/
namespace Go.Proofs.Ytmbijfcjfhdnjaa
set_option linter.unusedSimpArgs false
set_option linter.unusedVariables false
open Go.RowKit Go.Lib

theorem wop_k (P : Program) (d : Option Nat) (o : KOp) (fr : Fr) (h : Hp) (K : Fr → Hp → Prop) : wop P d (.k o) fr h K = (kF o fr h (fun a h' => K (put d a (ktk o fr)) h')) := id rfl
theorem eff_k (P : Program) (o : KOp) (fr : Fr) (h : Hp) (R : AV → Hp → Prop) : eff P (.k o) fr h R = (kF o fr h R) := id rfl
theorem tk_k (o : KOp) (fr : Fr) : tk (.k o) fr = (ktk o fr) := id rfl
theorem effF_kld (P : Program) (b : FB) (x : Opd) (fr : Fr) (h : Hp) (R : AV → Hp → Prop) : effF P b (.k (.ld x)) fr h R = (sameId (ev fr x) (fbId b fr h) ∧ kF (.ld x) fr h R) := id rfl
theorem wop_callr (P : Program) (d : Option Nat) (f : Opd) (args : List Opd) (fr : Fr) (h : Hp) (K : Fr → Hp → Prop) : wop P d (.callr f args) fr h K = (match ev fr f, evs fr args with
    | some (.fn f' caps), some l => ACalls P f' (l ++ caps) h (kcall d fr K)
    | _, _ => False) := id rfl
theorem eff_callr (P : Program) (f : Opd) (args : List Opd) (fr : Fr) (h : Hp) (R : AV → Hp → Prop) : eff P (.callr f args) fr h R = (match ev fr f, evs fr args with
    | some (.fn f' caps), some l => ∃ v, (∀ h0 : Hp, SameU h0 h → ACalls P f' (l ++ caps) h0 (fun a h' => a = v ∧ h' = h0)) ∧ R v h
    | _, _ => False) := id rfl
theorem tk_callr (f : Opd) (args : List Opd) (fr : Fr) : tk (.callr f args) fr = (fr) := id rfl
theorem kF_mk (e : Nat) (x : Opd) (fr : Fr) (h : Hp) (R : AV → Hp → Prop) : kF (.mk e x) fr h R = (match ev fr x with
    | some (.lst .clip 0 []) => R (.stk e none []) h
    | _ => False) := id rfl
theorem kF_mv (k : Nat) (fr : Fr) (h : Hp) (R : AV → Hp → Prop) : kF (.mv k) fr h R = (match lk fr k with
    | some (.stk e o l) => R (.stk e o l) h
    | _ => False) := id rfl
theorem kF_ld (x : Opd) (fr : Fr) (h : Hp) (R : AV → Hp → Prop) : kF (.ld x) fr h R = (match ev fr x with
    | some (.ptr id off) => (match h[id]? with
      | some (some (false, c)) => (match c[off]? with
        | some (.stk e o l) => R (.stk e o l) (h.set id (some (false, c.set off .opq)))
        | _ => False)
      | _ => False)
    | _ => False) := id rfl
theorem kF_st (a : Opd) (k : Nat) (fr : Fr) (h : Hp) (R : AV → Hp → Prop) : kF (.st a k) fr h R = (match ev fr a, lk fr k with
    | some (.ptr id off), some (.stk e o l) => (match h[id]? with
      | some (some (false, c)) => off < c.length ∧ R .nilp (h.set id (some (false, c.set off (.stk e o l))))
      | _ => False)
    | _, _ => False) := id rfl
theorem kF_ap (e b k : Nat) (y : Opd) (fr : Fr) (h : Hp) (R : AV → Hp → Prop) : kF (.ap e b k y) fr h R = (match lk fr k, ev fr y with
    | some (.stk e' _ l), some (.lst _ 1 [.int .i64 x]) => (e' = e ∧ l.length + 1 ≤ 9223372036854775807 ∧ (l.length + 1) * b ≤ 140737488355328) ∧ R (.stk e none (l ++ [x])) h
    | _, _ => False) := id rfl
theorem kF_cut (k : Nat) (j : Opd) (fr : Fr) (h : Hp) (R : AV → Hp → Prop) : kF (.cut k j) fr h R = (match lk fr k, ev fr j with
    | some (.stk e _ l), some (.int _ m) => (0 ≤ m ∧ m ≤ l.length) ∧ R (.stk e none (l.take m.toNat)) h
    | _, _ => False) := id rfl
theorem kF_pop (a x : Opd) (fr : Fr) (h : Hp) (R : AV → Hp → Prop) : kF (.pop a x) fr h R = (match ev fr a, ev fr x with
    | some (.ptr id off), some (.raw v n) => (match h[id]? with
      | some (some (false, c)) => (match c[off]? with
        | some (.stk e (some u) l) => (n ≤ l.length ∧ v = cutV u n) ∧ R .nilp (h.set id (some (false, c.set off (.stk e (some v) (l.take n)))))
        | _ => False)
      | _ => False)
    | _, _ => False) := id rfl
theorem kF_pk (k : Nat) (x : Opd) (fr : Fr) (h : Hp) (R : AV → Hp → Prop) : kF (.pk k x) fr h R = (match lk fr k, ev fr x with
    | some (.stk _ (some u) l), some (.rawp v i) => (v = u ∧ i < l.length) ∧ R (.int .i64 (l.getD i 0)) h
    | _, _ => False) := id rfl
theorem kF_po (a x : Opd) (fr : Fr) (h : Hp) (R : AV → Hp → Prop) : kF (.po a x) fr h R = (match ev fr a, ev fr x with
    | some (.ptr id off), some (.rawp v i) => (match h[id]? with
      | some (some (false, c)) => (match c[off]? with
        | some (.stk _ (some u) l) => (v = u ∧ i < l.length) ∧ R (.int .i64 (l.getD i 0)) h
        | _ => False)
      | _ => False)
    | _, _ => False) := id rfl
theorem kF_len (x : Opd) (fr : Fr) (h : Hp) (R : AV → Hp → Prop) : kF (.len x) fr h R = (match ev fr x with
    | some (.raw _ n) => R (.int .i64 n) h
    | _ => False) := id rfl
theorem kF_sl (x j : Opd) (fr : Fr) (h : Hp) (R : AV → Hp → Prop) : kF (.sl x j) fr h R = (match ev fr x, ev fr j with
    | some (.raw v n), some (.int _ m) => (0 ≤ m ∧ m ≤ n) ∧ R (.raw (cutV v m.toNat) m.toNat) h
    | _, _ => False) := id rfl
theorem kF_ix (x i : Opd) (fr : Fr) (h : Hp) (R : AV → Hp → Prop) : kF (.ix x i) fr h R = (match ev fr x, ev fr i with
    | some (.raw v n), some (.int _ i) => (0 ≤ i ∧ i < n) ∧ R (.rawp v i.toNat) h
    | _, _ => False) := id rfl
theorem kF_new (l : List AV) (u : List (Nat × Nat × Nat)) (ks : List (Nat × Nat)) (fr : Fr) (h : Hp) (R : AV → Hp → Prop) : kF (.new l u ks) fr h R = (upgK u l (fun l' => ksetK ks l' (fun l'' => R (.ptr h.length 0) (h ++ [some (false, l'')])))) := id rfl
theorem ksetK_nil (l : List AV) (K : List AV → Prop) : ksetK [] l K = (K l) := id rfl
theorem ksetK_cons (i e : Nat) (r : List (Nat × Nat)) (l : List AV) (K : List AV → Prop) : ksetK ((i, e) :: r) l K = (match l[i]? with
    | some (.lst .clip 0 []) => ksetK r (l.set i (.stk e none [])) K
    | _ => False) := id rfl
theorem ktk_mk (e : Nat) (x : Opd) (fr : Fr) : ktk (.mk e x) fr = (fr) := id rfl
theorem ktk_mv (k : Nat) (fr : Fr) : ktk (.mv k) fr = (degr k fr) := id rfl
theorem ktk_ld (x : Opd) (fr : Fr) : ktk (.ld x) fr = (fr) := id rfl
theorem ktk_st (a : Opd) (k : Nat) (fr : Fr) : ktk (.st a k) fr = (degr k fr) := id rfl
theorem ktk_ap (e b k : Nat) (y : Opd) (fr : Fr) : ktk (.ap e b k y) fr = (degr k fr) := id rfl
theorem ktk_cut (k : Nat) (j : Opd) (fr : Fr) : ktk (.cut k j) fr = (degr k fr) := id rfl
theorem ktk_pop (a x : Opd) (fr : Fr) : ktk (.pop a x) fr = (fr) := id rfl
theorem ktk_pk (k : Nat) (x : Opd) (fr : Fr) : ktk (.pk k x) fr = (fr) := id rfl
theorem ktk_po (a x : Opd) (fr : Fr) : ktk (.po a x) fr = (fr) := id rfl
theorem ktk_len (x : Opd) (fr : Fr) : ktk (.len x) fr = (fr) := id rfl
theorem ktk_sl (x j : Opd) (fr : Fr) : ktk (.sl x j) fr = (fr) := id rfl
theorem ktk_ix (x i : Opd) (fr : Fr) : ktk (.ix x i) fr = (fr) := id rfl
theorem ktk_new (l : List AV) (u : List (Nat × Nat × Nat)) (ks : List (Nat × Nat)) (fr : Fr) : ktk (.new l u ks) fr = (fr) := id rfl
theorem W_nms (P : Program) (k : Nat) (a : ACode) (fr : Fr) (h : Hp) (Q : Exit → Fr → Hp → Prop) : W P (.nms k a) fr h Q = (match lk fr k with
    | some (.stk e none l) => ∀ v, W P a ((k, .stk e (some v) l) :: fr) h Q
    | _ => W P a fr h Q) := id rfl
theorem W_nmo (P : Program) (k off : Nat) (a : ACode) (fr : Fr) (h : Hp) (Q : Exit → Fr → Hp → Prop) : W P (.nmo k off a) fr h Q = (match lk fr k with
    | some (.ptr id _) => (match h[id]? with
      | some (some (false, c)) => (match c[off]? with
        | some (.stk e none l) => ∀ v, W P a fr (h.set id (some (false, c.set off (.stk e (some v) l)))) Q
        | _ => W P a fr h Q)
      | _ => W P a fr h Q)
    | _ => W P a fr h Q) := id rfl
theorem deg_stks (e : TypeId) (v : Value) (l : List Int) : deg (.stk e (some v) l) = (.raw v l.length) := id rfl
theorem deg_stkn (e : TypeId) (l : List Int) : deg (.stk e none l) = (.opq) := id rfl
theorem deg_raw (v : Value) (n : Nat) : deg (.raw v n) = (.raw v n) := id rfl
theorem isTup_raw (v : Value) (n : Nat) : isTup (.raw v n) = (false) := id rfl
theorem cellsOf_raw (v : Value) (n : Nat) : cellsOf (.raw v n) = ([.raw v n]) := id rfl
theorem deg_rawp (v : Value) (n : Nat) : deg (.rawp v n) = (.rawp v n) := id rfl
theorem isTup_rawp (v : Value) (n : Nat) : isTup (.rawp v n) = (false) := id rfl
theorem cellsOf_rawp (v : Value) (n : Nat) : cellsOf (.rawp v n) = ([.rawp v n]) := id rfl
/-- a row's name is forgotten -/
theorem Sim.unname {P : Program} {g : Gh} {h : Hp} {w : World} {id off : Nat} {c : List AV} {e : TypeId} {u : Value} {l : List Int} (hl : h[id]? = some (some (false, c))) (hc : c[off]? = some (.stk e none l)) (hs : Sim P g (h.set id (some (false, c.set off (.stk e (some u) l)))) w) : Sim P g h w := by
  have hidlt : id < h.length := (List.getElem?_eq_some_iff.1 hl).1
  have hofflt : off < c.length := (List.getElem?_eq_some_iff.1 hc).1
  have hat : (h.set id (some (false, c.set off (.stk e (some u) l))))[id]? = some (some (false, c.set off (.stk e (some u) l))) := by simp [hidlt]
  refine ⟨hs.prot, ?_, hs.inj, fun i b hb => by have := hs.dom i b hb; rw [List.length_set] at this; exact this, hs.flt, hs.olt, fun i hi => hs.hole i ?_⟩
  · intro id' s l' hl'
    by_cases e1 : id' = id
    · subst e1
      rw [hl] at hl'
      simp only [Option.some.injEq, Prod.mk.injEq] at hl'
      obtain ⟨rfl, rfl⟩ := hl'
      obtain ⟨b, arr, e', p1, p2, p3, p4, p5, p6, p7, p8, p9⟩ := hs.obj id' false _ hat
      have hx : (c.set off (.stk e (some u) l))[off]? = some (.stk e (some u) l) := by simp [hofflt]
      obtain ⟨v, hv, hr⟩ := p3.get off _ hx
      obtain ⟨a, cc, rfl, q1, q2, q3⟩ := stk_slice hr
      have hcc : (c.set off (.stk e (some u) l)).set off (.stk e none l) = c := by
        rw [List.set_set]
        apply List.ext_getElem?
        intro j
        rw [List.getElem?_set]
        split
        · next ej => subst ej; first | rw [hc] | rw [if_pos hofflt, hc]
        · rfl
      have hrl := p3.setR off hv (.stk a cc e none l q1 q2 (fun v h => by cases h))
      rw [hcc] at hrl
      refine ⟨b, arr, e', p1, p2, hrl, p4, fun i x y hx2 hy => ?_, p6, (fun h => by cases h), p8, p9⟩
      by_cases ei : i = off
      · subst ei
        rw [hc] at hy
        simp only [Option.some.injEq] at hy
        subst hy
        have hq := p5 i x _ hx2 hx
        exact hq
      · exact p5 i x y hx2 (by rw [List.getElem?_set_ne (fun e => ei e.symm)]; exact hy)
    · exact hs.obj id' s l' (by rw [List.getElem?_set_ne (fun e => e1 e.symm)]; exact hl')
  · rw [List.getElem?_set_ne (fun e => by subst e; rw [hl] at hi; cases hi)]
    exact hi
theorem ACalls.unname {P : Program} {f : FuncId} {args : List AV} {h : Hp} {R : AV → Prop} {id off : Nat} {c : List AV} {e : TypeId} {l : List Int} (hl : h[id]? = some (some (false, c))) (hc : c[off]? = some (.stk e none l))
    (hA : ACalls P f args h (fun a h' => (∃ u, h' = h.set id (some (false, c.set off (.stk e (some u) l)))) ∧ R a)) : ACalls P f args h (fun a h' => R a ∧ h' = h) :=
  ⟨hA.1, fun g w vargs h1 h2 h3 h4 => (hA.2 g w vargs h1 h2 h3 h4).mono fun _ _ ⟨x, a, h', g', q1, q2, q3, q4, q5, q6, ⟨u, q7⟩, q8⟩ => ⟨x, a, h, g', q1, q2, Sim.unname hl hc (by rw [← q7]; exact q3), q4, q5, q6, q8, rfl⟩⟩
theorem wkr : type_of% (And.intro (And.intro (And.intro (And.intro (And.intro (@wop_k) (@eff_k)) (And.intro (@tk_k) (And.intro (@effF_kld) (@wop_callr)))) (And.intro (And.intro (@eff_callr) (And.intro (@tk_callr) (@kF_mk))) (And.intro (@kF_mv) (And.intro (@kF_ld) (@kF_st))))) (And.intro (And.intro (And.intro (@kF_ap) (@kF_cut)) (And.intro (@kF_pop) (And.intro (@kF_pk) (@kF_po)))) (And.intro (And.intro (@kF_len) (And.intro (@kF_sl) (@kF_ix))) (And.intro (@kF_new) (And.intro (@ksetK_nil) (@ksetK_cons)))))) (And.intro (And.intro (And.intro (And.intro (@ktk_mk) (@ktk_mv)) (And.intro (@ktk_ld) (And.intro (@ktk_st) (@ktk_ap)))) (And.intro (And.intro (@ktk_cut) (And.intro (@ktk_pop) (@ktk_pk))) (And.intro (@ktk_po) (And.intro (@ktk_len) (@ktk_sl))))) (And.intro (And.intro (And.intro (@ktk_ix) (And.intro (@ktk_new) (@W_nms))) (And.intro (@W_nmo) (And.intro (@deg_stks) (@deg_stkn)))) (And.intro (And.intro (@deg_raw) (And.intro (@isTup_raw) (@cellsOf_raw))) (And.intro (@deg_rawp) (And.intro (@isTup_rawp) (@cellsOf_rawp))))))) :=
  And.intro (And.intro (And.intro (And.intro (And.intro (@wop_k) (@eff_k)) (And.intro (@tk_k) (And.intro (@effF_kld) (@wop_callr)))) (And.intro (And.intro (@eff_callr) (And.intro (@tk_callr) (@kF_mk))) (And.intro (@kF_mv) (And.intro (@kF_ld) (@kF_st))))) (And.intro (And.intro (And.intro (@kF_ap) (@kF_cut)) (And.intro (@kF_pop) (And.intro (@kF_pk) (@kF_po)))) (And.intro (And.intro (@kF_len) (And.intro (@kF_sl) (@kF_ix))) (And.intro (@kF_new) (And.intro (@ksetK_nil) (@ksetK_cons)))))) (And.intro (And.intro (And.intro (And.intro (@ktk_mk) (@ktk_mv)) (And.intro (@ktk_ld) (And.intro (@ktk_st) (@ktk_ap)))) (And.intro (And.intro (@ktk_cut) (And.intro (@ktk_pop) (@ktk_pk))) (And.intro (@ktk_po) (And.intro (@ktk_len) (@ktk_sl))))) (And.intro (And.intro (And.intro (@ktk_ix) (And.intro (@ktk_new) (@W_nms))) (And.intro (@W_nmo) (And.intro (@deg_stks) (@deg_stkn)))) (And.intro (And.intro (@deg_raw) (And.intro (@isTup_raw) (@cellsOf_raw))) (And.intro (@deg_rawp) (And.intro (@isTup_rawp) (@cellsOf_rawp))))))
end Go.Proofs.Ytmbijfcjfhdnjaa

/- Names; the library's searches; the program's number, Word, name, sign. -/
namespace Go.Proofs.Ytmbijfcjfhdnjaa
set_option linter.unusedSimpArgs false
set_option linter.unusedVariables false
open Go.RowKit Go.Lib

def mayL (l : List UInt8) : Bool := decide (1 ≤ l.length) && (decide (l.length ≤ 24) && (lttI ((l.headD 0).toNat) && l.all fun b => innI b.toNat))
def mayN (s : ByteArray) : Bool := mayL s.data.toList
theorem mayL_bad {l : List UInt8} {i : Nat} (h : i < l.length) (hb : innI (l[i]).toNat = false) : mayL l = false := by
  have : l.all (fun b => innI b.toNat) = false := by
    rw [List.all_eq_false]; exact ⟨_, List.getElem_mem h, fun h2 => by rw [hb] at h2; cases h2⟩
  unfold mayL
  rw [this]; simp
theorem headD_get {l : List UInt8} (h : 0 < l.length) : l.headD 0 = l[0] := by
  cases l with
  | nil => simp at h
  | cons b r => rfl
set_option maxHeartbeats 4000000 in
theorem p_amay (s : ByteArray) (hs : s.size ≤ 9223372036854775807) : PCalls Try.prog 59 [.str s] (.bool (mayN s)) := by
  have hl := len_size s
  have no : mayN s = false → AV.bool false = .bool (mayN s) := fun h => by rw [h]
  refine pcalls_of (by first | rfl | simp [free, free.frees, frees_str, frees_u8, frees_u16]) (by first | rfl | simp [free, free.frees, frees_str, frees_u8, frees_u16]) (acalls_of mixed J_atom_May_ok (Nat.le_of_ble_eq_true rfl) ?_); simp only [J_atom_May, wk,if_true,if_false,forall_const,implies_true,ne_eq,eq_self,Nat.reduceEqDiff,Nat.reduceAdd,Nat.reduceMul,Nat.reduceSub,Nat.reduceLeDiff,Nat.reduceLT,Int.reduceEq,Int.reduceLT,Int.reduceLE,Int.reduceAdd,Int.reduceSub,Int.reduceMul,Int.reduceNeg,Int.reduceNe,reduceCtorEq,Int.reduceToNat,↓reduceIte]
  refine ⟨fun h1 => ⟨fun h2 => no ?_, fun h2 => ?_⟩, fun h1 => no ?_⟩
  · have : ¬ s.data.toList.length ≤ 24 := by omega
    unfold mayN mayL; rw [decide_eq_false this]; simp only [Bool.false_and, Bool.and_false]
  rotate_left
  · have : ¬ 1 ≤ s.data.toList.length := by omega
    unfold mayN mayL; rw [decide_eq_false this]; simp only [Bool.false_and]
  refine W_loop (fun m fr h' => ∃ n : Nat, n ≤ s.data.toList.length ∧ m = s.data.toList.length - n ∧ fr = [(0, .str s), (3, .int .i64 n)] ∧ (∀ b ∈ s.data.toList.take n, innI b.toNat = true) ∧ (0 < n → lttI ((s.data.toList.headD 0).toNat) = true)) s.data.toList.length ⟨0, by omega, by omega, rfl, by simp, by simp⟩ ?_
  rintro m fr h' ⟨n, hn, rfl, rfl, hall, hhd⟩
  simp only [J_atom_May_j3, wk,if_true,if_false,forall_const,implies_true,ne_eq,eq_self,Nat.reduceEqDiff,Nat.reduceAdd,Nat.reduceMul,Nat.reduceSub,Nat.reduceLeDiff,Nat.reduceLT,Int.reduceEq,Int.reduceLT,Int.reduceLE,Int.reduceAdd,Int.reduceSub,Int.reduceMul,Int.reduceNeg,Int.reduceNe,reduceCtorEq,Int.reduceToNat,↓reduceIte]
  refine ⟨fun hlt => ⟨⟨by omega, by omega⟩, ?_⟩, fun hge => ?_⟩
  · have hnl : n < s.data.toList.length := by omega
    rw [Int.toNat_natCast, byte_at hnl]
    obtain ⟨b, hb⟩ : ∃ b, b = s.data.toList[n] := ⟨_, rfl⟩
    rw [← hb]
    have hnx : innI b.toNat = true → (n = 0 → lttI b.toNat = true) → inR ((n : Int) + 1) ∧ ∃ m, m < s.data.toList.length - n ∧ ∃ n' : Nat, n' ≤ s.data.toList.length ∧ m = s.data.toList.length - n' ∧ [(0, AV.str s), (3, .int .i64 ((n : Int) + 1))] = [(0, .str s), (3, .int .i64 n')] ∧ (∀ b ∈ s.data.toList.take n', innI b.toNat = true) ∧ (0 < n' → lttI ((s.data.toList.headD 0).toNat) = true) := fun hi hz =>
      ⟨inR_of (by omega) (by omega), s.data.toList.length - (n + 1), by omega, n + 1, by omega, rfl, by simp, fun c hc => by
        rw [List.take_succ_eq_append_getElem hnl] at hc
        rcases List.mem_append.1 hc with hc | hc
        · exact hall c hc
        · simp at hc; subst hc; rw [hb] at hi; simpa using hi, fun _ => by
        rcases Nat.eq_zero_or_pos n with h0 | h0
        · subst h0; rw [headD_get (by omega), ← hb]; exact hz rfl
        · exact hhd h0⟩
    have hbad : innI b.toNat = false → mayN s = false := fun h => mayL_bad hnl (by rw [← hb]; exact h)
    have hbad0 : n = 0 → lttI b.toNat = false → mayN s = false := fun h0 h => by
      subst h0
      unfold mayN mayL
      rw [headD_get (by omega), ← hb, h]
      simp only [Bool.false_and, Bool.and_false]
    repeat' (first | (with_reducible refine And.intro ?_ ?_) | intro _)
    all_goals first
      | (simp only [J_atom_May_j2, wk,if_true,if_false,forall_const,implies_true,ne_eq,eq_self,Nat.reduceEqDiff,Nat.reduceAdd,Nat.reduceMul,Nat.reduceSub,Nat.reduceLeDiff,Nat.reduceLT,Int.reduceEq,Int.reduceLT,Int.reduceLE,Int.reduceAdd,Int.reduceSub,Int.reduceMul,Int.reduceNeg,Int.reduceNe,reduceCtorEq,Int.reduceToNat,↓reduceIte]; exact hnx (by simp [innI, digI, lttI]; omega) (by intro _; simp [lttI]; omega))
      | exact no (hbad (by simp [innI, digI, lttI]; omega))
      | exact no (hbad0 (by omega) (by simp [lttI]; omega))
  · rw [List.take_of_length_le (by omega)] at hall
    simp only [J_atom_May_j1, wk,if_true,if_false,forall_const,implies_true,ne_eq,eq_self,Nat.reduceEqDiff,Nat.reduceAdd,Nat.reduceMul,Nat.reduceSub,Nat.reduceLeDiff,Nat.reduceLT,Int.reduceEq,Int.reduceLT,Int.reduceLE,Int.reduceAdd,Int.reduceSub,Int.reduceMul,Int.reduceNeg,Int.reduceNe,reduceCtorEq,Int.reduceToNat,↓reduceIte]
    congr 1
    symm
    unfold mayN mayL
    have h3 := hhd (by omega)
    have h4 : s.data.toList.all (fun b => innI b.toNat) = true := List.all_eq_true.2 hall
    simp only [h3, h4, Bool.and_true, Bool.and_eq_true, decide_eq_true_eq]
    omega
set_option maxRecDepth 100000 in
set_option maxHeartbeats 4000000 in
theorem p_rmay01 (s : ByteArray) (hs : s.size ≤ 9223372036854775807) : PCalls Try.prog 49 [.str s] (.bool (mayN s)) := by
  have hl := len_size s
  have no : mayN s = false → AV.bool false = .bool (mayN s) := fun h => by rw [h]
  refine pcalls_of (by first | rfl | simp [free, free.frees, frees_str, frees_u8, frees_u16]) (by first | rfl | simp [free, free.frees, frees_str, frees_u8, frees_u16]) (acalls_of mixed J_ref01_May_ok (Nat.le_of_ble_eq_true rfl) ?_); simp only [J_ref01_May, wk,if_true,if_false,forall_const,implies_true,ne_eq,eq_self,Nat.reduceEqDiff,Nat.reduceAdd,Nat.reduceMul,Nat.reduceSub,Nat.reduceLeDiff,Nat.reduceLT,Int.reduceEq,Int.reduceLT,Int.reduceLE,Int.reduceAdd,Int.reduceSub,Int.reduceMul,Int.reduceNeg,Int.reduceNe,reduceCtorEq,Int.reduceToNat,↓reduceIte]
  refine ⟨fun h1 => ⟨fun h2 => no ?_, fun h2 => ?_⟩, fun h1 => no ?_⟩
  · have : ¬ s.data.toList.length ≤ 24 := by omega
    unfold mayN mayL; rw [decide_eq_false this]; simp only [Bool.false_and, Bool.and_false]
  rotate_left
  · have : ¬ 1 ≤ s.data.toList.length := by omega
    unfold mayN mayL; rw [decide_eq_false this]; simp only [Bool.false_and]
  refine W_loop (fun m fr h' => ∃ n : Nat, n ≤ s.data.toList.length ∧ m = s.data.toList.length - n ∧ fr = [(0, .str s), (3, .int .i64 n)] ∧ (∀ b ∈ s.data.toList.take n, innI b.toNat = true) ∧ (0 < n → lttI ((s.data.toList.headD 0).toNat) = true)) s.data.toList.length ⟨0, by omega, by omega, rfl, by simp, by simp⟩ ?_
  rintro m fr h' ⟨n, hn, rfl, rfl, hall, hhd⟩
  simp only [J_ref01_May_j2, wk,if_true,if_false,forall_const,implies_true,ne_eq,eq_self,Nat.reduceEqDiff,Nat.reduceAdd,Nat.reduceMul,Nat.reduceSub,Nat.reduceLeDiff,Nat.reduceLT,Int.reduceEq,Int.reduceLT,Int.reduceLE,Int.reduceAdd,Int.reduceSub,Int.reduceMul,Int.reduceNeg,Int.reduceNe,reduceCtorEq,Int.reduceToNat,↓reduceIte]
  refine ⟨fun hlt => ⟨⟨by omega, by omega⟩, ?_⟩, fun hge => ?_⟩
  · have hnl : n < s.data.toList.length := by omega
    rw [Int.toNat_natCast, byte_at hnl]
    obtain ⟨b, hb⟩ : ∃ b, b = s.data.toList[n] := ⟨_, rfl⟩
    rw [← hb]
    have hnx : innI b.toNat = true → (n = 0 → lttI b.toNat = true) → inR ((n : Int) + 1) ∧ ∃ m, m < s.data.toList.length - n ∧ ∃ n' : Nat, n' ≤ s.data.toList.length ∧ m = s.data.toList.length - n' ∧ [(0, AV.str s), (3, .int .i64 ((n : Int) + 1))] = [(0, .str s), (3, .int .i64 n')] ∧ (∀ b ∈ s.data.toList.take n', innI b.toNat = true) ∧ (0 < n' → lttI ((s.data.toList.headD 0).toNat) = true) := fun hi hz =>
      ⟨inR_of (by omega) (by omega), s.data.toList.length - (n + 1), by omega, n + 1, by omega, rfl, by simp, fun c hc => by
        rw [List.take_succ_eq_append_getElem hnl] at hc
        rcases List.mem_append.1 hc with hc | hc
        · exact hall c hc
        · simp at hc; subst hc; rw [hb] at hi; simpa using hi, fun _ => by
        rcases Nat.eq_zero_or_pos n with h0 | h0
        · subst h0; rw [headD_get (by omega), ← hb]; exact hz rfl
        · exact hhd h0⟩
    have hbad : innI b.toNat = false → mayN s = false := fun h => mayL_bad hnl (by rw [← hb]; exact h)
    have hbad0 : n = 0 → lttI b.toNat = false → mayN s = false := fun h0 h => by
      subst h0
      unfold mayN mayL
      rw [headD_get (by omega), ← hb, h]
      simp only [Bool.false_and, Bool.and_false]
    repeat' (first | (with_reducible refine And.intro ?_ ?_) | intro _)
    all_goals first
      | exact no (hbad (by simp [innI, digI, lttI]; omega))
      | exact no (hbad0 (by omega) (by simp [lttI]; omega))
      | exact (hnx (by simp [innI, digI, lttI]; omega) (by intro _; simp [lttI]; omega)).1
      | exact (hnx (by simp [innI, digI, lttI]; omega) (by intro _; simp [lttI]; omega)).2
  · rw [List.take_of_length_le (by omega)] at hall
    simp only [J_ref01_May_j1, wk,if_true,if_false,forall_const,implies_true,ne_eq,eq_self,Nat.reduceEqDiff,Nat.reduceAdd,Nat.reduceMul,Nat.reduceSub,Nat.reduceLeDiff,Nat.reduceLT,Int.reduceEq,Int.reduceLT,Int.reduceLE,Int.reduceAdd,Int.reduceSub,Int.reduceMul,Int.reduceNeg,Int.reduceNe,reduceCtorEq,Int.reduceToNat,↓reduceIte]
    congr 1
    symm
    unfold mayN mayL
    have h3 := hhd (by omega)
    have h4 : s.data.toList.all (fun b => innI b.toNat) = true := List.all_eq_true.2 hall
    simp only [h3, h4, Bool.and_true, Bool.and_eq_true, decide_eq_true_eq]
    omega
def signsS : ByteArray := ⟨#[61, 44, 59, 60, 62, 33, 63, 42]⟩
theorem find_sign : ∀ n : Fin 256, decide (0 ≤ indexByte signsS.data.toList (UInt8.ofNat n)) = sigB n := by decide +kernel
theorem p_ibyte (s : ByteArray) (c : Int) : PCalls Try.prog 86 [.str s, .int .u8 c] (.int .i64 (indexByte s.data.toList c.toNat.toUInt8)) := by
  refine pcalls_of (by first | rfl | simp [free, free.frees, frees_str, frees_u8, frees_u16]) (by first | rfl | simp [free, free.frees, frees_str, frees_u8, frees_u16]) (acalls_of mixed J_internal_stringslite_IndexByte_ok (Nat.le_of_ble_eq_true rfl) ?_); simp only [J_internal_stringslite_IndexByte, wk,if_true,if_false,forall_const,implies_true,ne_eq,eq_self,Nat.reduceEqDiff,Nat.reduceAdd,Nat.reduceMul,Nat.reduceSub,Nat.reduceLeDiff,Nat.reduceLT,Int.reduceEq,Int.reduceLT,Int.reduceLE,Int.reduceAdd,Int.reduceSub,Int.reduceMul,Int.reduceNeg,Int.reduceNe,reduceCtorEq,Int.reduceToNat,↓reduceIte]
theorem p_sibyte (s : ByteArray) (c : Int) : PCalls Try.prog 82 [.str s, .int .u8 c] (.int .i64 (indexByte s.data.toList c.toNat.toUInt8)) := by
  refine pcalls_of (by first | rfl | simp [free, free.frees, frees_str, frees_u8, frees_u16]) (by first | rfl | simp [free, free.frees, frees_str, frees_u8, frees_u16]) (acalls_of mixed J_strings_IndexByte_ok (Nat.le_of_ble_eq_true rfl) ?_); simp only [J_strings_IndexByte, wk,if_true,if_false,forall_const,implies_true,ne_eq,eq_self,Nat.reduceEqDiff,Nat.reduceAdd,Nat.reduceMul,Nat.reduceSub,Nat.reduceLeDiff,Nat.reduceLT,Int.reduceEq,Int.reduceLT,Int.reduceLE,Int.reduceAdd,Int.reduceSub,Int.reduceMul,Int.reduceNeg,Int.reduceNe,reduceCtorEq,Int.reduceToNat,↓reduceIte]
  refine PCalls.use (p_ibyte s c) ?_; simp only [wk,if_true,if_false,forall_const,implies_true,ne_eq,eq_self,Nat.reduceEqDiff,Nat.reduceAdd,Nat.reduceMul,Nat.reduceSub,Nat.reduceLeDiff,Nat.reduceLT,Int.reduceEq,Int.reduceLT,Int.reduceLE,Int.reduceAdd,Int.reduceSub,Int.reduceMul,Int.reduceNeg,Int.reduceNe,reduceCtorEq,Int.reduceToNat,↓reduceIte]
theorem p_lindex (s x : ByteArray) (hx : x.size = 1) : PCalls Try.prog 78 [.str s, .str x] (.int .i64 (indexByte s.data.toList (byteAt x 0).toUInt8)) := by
  obtain ⟨b, rfl⟩ := one_byte hx
  have e0 : byteAt ⟨#[b]⟩ 0 = b.toNat := rfl
  refine pcalls_of (by first | rfl | simp [free, free.frees, frees_str, frees_u8, frees_u16]) (by first | rfl | simp [free, free.frees, frees_str, frees_u8, frees_u16]) (acalls_of mixed J_internal_stringslite_Index_ok (Nat.le_of_ble_eq_true rfl) ?_); simp only [J_internal_stringslite_Index, wk,if_true,if_false,forall_const,implies_true,ne_eq,eq_self,Nat.reduceEqDiff,Nat.reduceAdd,Nat.reduceMul,Nat.reduceSub,Nat.reduceLeDiff,Nat.reduceLT,Int.reduceEq,Int.reduceLT,Int.reduceLE,Int.reduceAdd,Int.reduceSub,Int.reduceMul,Int.reduceNeg,Int.reduceNe,reduceCtorEq,Int.reduceToNat,↓reduceIte]
  rw [e0]
  have e1 : ((⟨#[b]⟩ : ByteArray).size : Int) = 1 := rfl
  have q := p_ibyte s b.toNat
  rw [Int.toNat_natCast] at q
  refine ⟨fun _ => ⟨fun h => ?_, fun h => ⟨fun _ => ⟨by omega, PCalls.use q ?_⟩, fun h => absurd e1 h⟩⟩, fun h => by omega⟩
  · rw [← h]
    have : b.toNat.toUInt8 = b := by simp
    simp [indexByte, this]
  · simp only [wk,if_true,if_false,forall_const,implies_true,ne_eq,eq_self,Nat.reduceEqDiff,Nat.reduceAdd,Nat.reduceMul,Nat.reduceSub,Nat.reduceLeDiff,Nat.reduceLT,Int.reduceEq,Int.reduceLT,Int.reduceLE,Int.reduceAdd,Int.reduceSub,Int.reduceMul,Int.reduceNeg,Int.reduceNe,reduceCtorEq,Int.reduceToNat,↓reduceIte]
theorem p_sindex (s x : ByteArray) (hx : x.size = 1) : PCalls Try.prog 61 [.str s, .str x] (.int .i64 (indexByte s.data.toList (byteAt x 0).toUInt8)) := by
  refine pcalls_of (by first | rfl | simp [free, free.frees, frees_str, frees_u8, frees_u16]) (by first | rfl | simp [free, free.frees, frees_str, frees_u8, frees_u16]) (acalls_of mixed J_strings_Index_ok (Nat.le_of_ble_eq_true rfl) ?_); simp only [J_strings_Index, wk,if_true,if_false,forall_const,implies_true,ne_eq,eq_self,Nat.reduceEqDiff,Nat.reduceAdd,Nat.reduceMul,Nat.reduceSub,Nat.reduceLeDiff,Nat.reduceLT,Int.reduceEq,Int.reduceLT,Int.reduceLE,Int.reduceAdd,Int.reduceSub,Int.reduceMul,Int.reduceNeg,Int.reduceNe,reduceCtorEq,Int.reduceToNat,↓reduceIte]
  refine PCalls.use (p_lindex s x hx) ?_; simp only [wk,if_true,if_false,forall_const,implies_true,ne_eq,eq_self,Nat.reduceEqDiff,Nat.reduceAdd,Nat.reduceMul,Nat.reduceSub,Nat.reduceLeDiff,Nat.reduceLT,Int.reduceEq,Int.reduceLT,Int.reduceLE,Int.reduceAdd,Int.reduceSub,Int.reduceMul,Int.reduceNeg,Int.reduceNe,reduceCtorEq,Int.reduceToNat,↓reduceIte]
theorem sign_find (n : Nat) (h : n < 256) : decide (0 ≤ indexByte signsS.data.toList n.toUInt8) = sigB n := by
  have := find_sign ⟨n, h⟩
  simpa using this
theorem p_contains1 (x : ByteArray) (hx : x.size = 1) : PCalls Try.prog 37 [.str signsS, .str x] (.bool (sigB (byteAt x 0))) := by
  obtain ⟨b, rfl⟩ := one_byte hx
  have e0 : byteAt ⟨#[b]⟩ 0 = b.toNat := rfl
  have hf := sign_find b.toNat b.toNat_lt
  refine pcalls_of (by first | rfl | simp [free, free.frees, frees_str, frees_u8, frees_u16]) (by first | rfl | simp [free, free.frees, frees_str, frees_u8, frees_u16]) (acalls_of mixed J_strings_Contains_ok (Nat.le_of_ble_eq_true rfl) ?_); simp only [J_strings_Contains, wk,if_true,if_false,forall_const,implies_true,ne_eq,eq_self,Nat.reduceEqDiff,Nat.reduceAdd,Nat.reduceMul,Nat.reduceSub,Nat.reduceLeDiff,Nat.reduceLT,Int.reduceEq,Int.reduceLT,Int.reduceLE,Int.reduceAdd,Int.reduceSub,Int.reduceMul,Int.reduceNeg,Int.reduceNe,reduceCtorEq,Int.reduceToNat,↓reduceIte]
  refine PCalls.use (p_sindex signsS ⟨#[b]⟩ hx) ?_; simp only [wk,if_true,if_false,forall_const,implies_true,ne_eq,eq_self,Nat.reduceEqDiff,Nat.reduceAdd,Nat.reduceMul,Nat.reduceSub,Nat.reduceLeDiff,Nat.reduceLT,Int.reduceEq,Int.reduceLT,Int.reduceLE,Int.reduceAdd,Int.reduceSub,Int.reduceMul,Int.reduceNeg,Int.reduceNe,reduceCtorEq,Int.reduceToNat,↓reduceIte]
  rw [e0, ← hf]
theorem p_validRune (r : Int) : PCalls Try.prog 83 [.int .i32 r] (.bool ((decide (0 ≤ r) && decide (r < 55296)) || (decide (57343 < r) && decide (r ≤ 1114111)))) := by
  refine pcalls_of (by first | rfl | simp [free, free.frees, frees_str, frees_u8, frees_u16]) (by first | rfl | simp [free, free.frees, frees_str, frees_u8, frees_u16]) (acalls_of mixed J_unicode_utf8_ValidRune_ok (Nat.le_of_ble_eq_true rfl) ?_); simp only [J_unicode_utf8_ValidRune, wk,if_true,if_false,forall_const,implies_true,ne_eq,eq_self,Nat.reduceEqDiff,Nat.reduceAdd,Nat.reduceMul,Nat.reduceSub,Nat.reduceLeDiff,Nat.reduceLT,Int.reduceEq,Int.reduceLT,Int.reduceLE,Int.reduceAdd,Int.reduceSub,Int.reduceMul,Int.reduceNeg,Int.reduceNe,reduceCtorEq,Int.reduceToNat,↓reduceIte]
  repeat' (first | (with_reducible refine And.intro ?_ ?_) | intro _)
  all_goals (congr 1; simp_all; try omega)
theorem ibyte_no {c : UInt8} (hc : 128 ≤ c.toNat) : ∀ {l : List UInt8}, (∀ b ∈ l, b.toNat < 128) → indexByte l c = -1
  | [], _ => rfl
  | b :: l, h => by
    have h1 := h b (by simp)
    have h2 := ibyte_no hc (l := l) (fun x hx => h x (by simp [hx]))
    have h3 : (b == c) = false := by
      rw [beq_eq_false_iff_ne]; intro e; subst e; omega
    simp [indexByte, h2, h3]
theorem enc_hi {r : Int} (h0 : 128 ≤ r) (h1 : r ≤ 1114111) (hv : Utf8.valid r = true) : 2 ≤ (Utf8.encode r).size ∧ (Utf8.encode r).size ≤ 4 ∧ 128 ≤ byteAt (Utf8.encode r) ((Utf8.encode r).size - 1) ∧ byteAt (Utf8.encode r) ((Utf8.encode r).size - 1) < 256 := by
  have e : (if Utf8.valid r = true then r.toNat else Utf8.runeError) = r.toNat := if_pos hv
  have h80 : ∀ n : Nat, 128 ≤ (UInt8.ofNat (128 + n % 64)).toNat ∧ (UInt8.ofNat (128 + n % 64)).toNat < 256 := fun n => by
    rw [UInt8.toNat_ofNat']; omega
  unfold Utf8.encode
  simp only [e]
  rw [if_neg (by omega)]
  split
  · exact ⟨Nat.le_of_ble_eq_true rfl, Nat.le_of_ble_eq_true rfl, h80 _⟩
  · split
    · exact ⟨Nat.le_of_ble_eq_true rfl, Nat.le_of_ble_eq_true rfl, h80 _⟩
    · exact ⟨Nat.le_of_ble_eq_true rfl, Nat.le_of_ble_eq_true rfl, h80 _⟩
theorem signs_lo : ∀ b ∈ signsS.data.toList, b.toNat < 128 := by decide
set_option maxRecDepth 100000 in
set_option maxHeartbeats 4000000 in
theorem p_indexRune (r : Int) (h0 : 0 ≤ r) (h1 : r ≤ 1114111) (hv : 128 ≤ r → Utf8.valid r = true) : PCalls Try.prog 75 [.str signsS, .int .i32 r] (.int .i64 (if r < 128 then indexByte signsS.data.toList r.toNat.toUInt8 else -1)) := by
  refine pcalls_of (by first | rfl | simp [free, free.frees, frees_str, frees_u8, frees_u16]) (by first | rfl | simp [free, free.frees, frees_str, frees_u8, frees_u16]) (acalls_of mixed J_strings_IndexRune_ok (Nat.le_of_ble_eq_true rfl) ?_); simp only [J_strings_IndexRune, wk,if_true,if_false,forall_const,implies_true,ne_eq,eq_self,Nat.reduceEqDiff,Nat.reduceAdd,Nat.reduceMul,Nat.reduceSub,Nat.reduceLeDiff,Nat.reduceLT,Int.reduceEq,Int.reduceLT,Int.reduceLE,Int.reduceAdd,Int.reduceSub,Int.reduceMul,Int.reduceNeg,Int.reduceNe,reduceCtorEq,Int.reduceToNat,↓reduceIte]
  refine ⟨fun _ => ⟨fun hlt => ?_, fun hge => ⟨fun h65 => ?_, fun h65 => ?_⟩⟩, fun hn => absurd h0 hn⟩
  · have hw : IntKind.u8.wrap r = r := by rw [IntKind.wrap_u8]; omega
    rw [hw]
    refine PCalls.use (p_sibyte signsS r) ?_; simp only [wk,if_true,if_false,forall_const,implies_true,ne_eq,eq_self,Nat.reduceEqDiff,Nat.reduceAdd,Nat.reduceMul,Nat.reduceSub,Nat.reduceLeDiff,Nat.reduceLT,Int.reduceEq,Int.reduceLT,Int.reduceLE,Int.reduceAdd,Int.reduceSub,Int.reduceMul,Int.reduceNeg,Int.reduceNe,reduceCtorEq,Int.reduceToNat,↓reduceIte]
    rw [if_pos hlt]
  · rw [if_neg hge]
    refine W_loop (fun m fr h' => ∃ p : Nat, p ≤ signsS.data.toList.length ∧ m = signsS.data.toList.length - p ∧ fr = [(175, .itr signsS p)]) 8 ⟨0, by omega, by decide, rfl⟩ ?_
    rintro m fr h' ⟨p, hp, rfl, rfl⟩
    have hl := len_size signsS
    simp only [J_strings_IndexRune_j2, wk,if_true,if_false,forall_const,implies_true,ne_eq,eq_self,Nat.reduceEqDiff,Nat.reduceAdd,Nat.reduceMul,Nat.reduceSub,Nat.reduceLeDiff,Nat.reduceLT,Int.reduceEq,Int.reduceLT,Int.reduceLE,Int.reduceAdd,Int.reduceSub,Int.reduceMul,Int.reduceNeg,Int.reduceNe,reduceCtorEq,Int.reduceToNat,↓reduceIte]
    refine ⟨fun hlt => ?_, fun hge2 => ?_⟩
    · have hpl : p < signsS.data.toList.length := by omega
      have hlo := signs_lo _ (List.getElem_mem hpl)
      rw [dec_lt hpl hlo]
      refine ⟨fun h => ?_, fun _ => ?_⟩
      · exfalso; simp only at h; omega
      · exact ⟨signsS.data.toList.length - (p + 1), by omega, p + 1, by omega, rfl, rfl⟩
    · simp only [J_strings_IndexRune_j1, wk,if_true,if_false,forall_const,implies_true,ne_eq,eq_self,Nat.reduceEqDiff,Nat.reduceAdd,Nat.reduceMul,Nat.reduceSub,Nat.reduceLeDiff,Nat.reduceLT,Int.reduceEq,Int.reduceLT,Int.reduceLE,Int.reduceAdd,Int.reduceSub,Int.reduceMul,Int.reduceNeg,Int.reduceNe,reduceCtorEq,Int.reduceToNat,↓reduceIte]
  · rw [if_neg hge]
    have hv' := hv (by omega)
    have qv := p_validRune r
    rw [show ((decide (0 ≤ r) && decide (r < 55296)) || (decide (57343 < r) && decide (r ≤ 1114111))) = true by
      unfold Utf8.valid at hv'
      simp only [Bool.or_eq_true, Bool.and_eq_true, decide_eq_true_eq] at hv' ⊢
      omega] at qv
    obtain ⟨g1, g2, g3, g4⟩ := enc_hi (by omega) h1 hv'
    obtain ⟨E, hE⟩ : ∃ E, E = Utf8.encode r := ⟨_, rfl⟩
    rw [← hE] at g1 g2 g3 g4
    refine PCalls.use (qv) ?_; simp only [wk,if_true,if_false,forall_const,implies_true,ne_eq,eq_self,Nat.reduceEqDiff,Nat.reduceAdd,Nat.reduceMul,Nat.reduceSub,Nat.reduceLeDiff,Nat.reduceLT,Int.reduceEq,Int.reduceLT,Int.reduceLE,Int.reduceAdd,Int.reduceSub,Int.reduceMul,Int.reduceNeg,Int.reduceNe,reduceCtorEq,Int.reduceToNat,↓reduceIte]
    rw [← hE]
    refine ⟨inR_of (by omega) (by omega), ?_⟩
    refine W_loop (fun m fr h' => fr = [(0, .str signsS), (7, .str E), (8, .int .i64 (E.size - 1)), (9, .int .i64 (E.size - 1))]) 0 rfl ?_
    rintro m fr h' rfl
    have hs8 : signsS.size = 8 := rfl
    have hl := len_size signsS
    have e1 : ((E.size : Int) - 1).toNat = E.size - 1 := by omega
    have e2 : ((E.size : Int) - 1 + 1).toNat = E.size := by omega
    have hlo := signs_lo _ (List.getElem_mem (show E.size - 1 < signsS.data.toList.length by omega))
    have hne : ((byteAt signsS (E.size - 1) : Nat) : Int) ≠ (byteAt E (E.size - 1) : Nat) := by
      rw [byte_at (show E.size - 1 < signsS.data.toList.length by omega)]; omega
    simp only [J_strings_IndexRune_j12, e1, e2, hs8, hne, wk,if_true,if_false,forall_const,implies_true,ne_eq,eq_self,Nat.reduceEqDiff,Nat.reduceAdd,Nat.reduceMul,Nat.reduceSub,Nat.reduceLeDiff,Nat.reduceLT,Int.reduceEq,Int.reduceLT,Int.reduceLE,Int.reduceAdd,Int.reduceSub,Int.reduceMul,Int.reduceNeg,Int.reduceNe,reduceCtorEq,Int.reduceToNat,↓reduceIte]
    have qi := p_sibyte (signsS.extract E.size ((8 : Nat) : Int).toNat) (byteAt E (E.size - 1))
    rw [ibyte_no (by rw [Int.toNat_natCast]; rw [show (byteAt E (E.size - 1)).toUInt8.toNat = byteAt E (E.size - 1) by simp; omega]; exact g3) (fun b hb => by
      refine signs_lo b ?_
      simp only [ByteArray.data_extract, Array.toList_extract, List.extract_eq_take_drop] at hb
      exact List.mem_of_mem_drop (List.mem_of_mem_take hb))] at qi
    refine ⟨fun _ => ⟨⟨by omega, by omega⟩, ⟨by omega, by omega⟩, inR_of (by omega) (by omega), ⟨by omega, by omega, by omega⟩, ⟨by omega, by omega⟩, _, qi, ?_⟩, fun h => absurd (by omega) h⟩
    simp only [wk,if_true,if_false,forall_const,implies_true,ne_eq,eq_self,Nat.reduceEqDiff,Nat.reduceAdd,Nat.reduceMul,Nat.reduceSub,Nat.reduceLeDiff,Nat.reduceLT,Int.reduceEq,Int.reduceLT,Int.reduceLE,Int.reduceAdd,Int.reduceSub,Int.reduceMul,Int.reduceNeg,Int.reduceNe,reduceCtorEq,Int.reduceToNat,↓reduceIte]
/-- is a rune among the signs? -/
theorem p_containsRune (r : Int) (h0 : 0 ≤ r) (h1 : r ≤ 1114111) (hv : 128 ≤ r → Utf8.valid r = true) : PCalls Try.prog 54 [.str signsS, .int .i32 r] (.bool (sigB r.toNat)) := by
  refine pcalls_of (by first | rfl | simp [free, free.frees, frees_str, frees_u8, frees_u16]) (by first | rfl | simp [free, free.frees, frees_str, frees_u8, frees_u16]) (acalls_of mixed J_strings_ContainsRune_ok (Nat.le_of_ble_eq_true rfl) ?_); simp only [J_strings_ContainsRune, wk,if_true,if_false,forall_const,implies_true,ne_eq,eq_self,Nat.reduceEqDiff,Nat.reduceAdd,Nat.reduceMul,Nat.reduceSub,Nat.reduceLeDiff,Nat.reduceLT,Int.reduceEq,Int.reduceLT,Int.reduceLE,Int.reduceAdd,Int.reduceSub,Int.reduceMul,Int.reduceNeg,Int.reduceNe,reduceCtorEq,Int.reduceToNat,↓reduceIte]
  refine PCalls.use (p_indexRune r h0 h1 hv) ?_; simp only [wk,if_true,if_false,forall_const,implies_true,ne_eq,eq_self,Nat.reduceEqDiff,Nat.reduceAdd,Nat.reduceMul,Nat.reduceSub,Nat.reduceLeDiff,Nat.reduceLT,Int.reduceEq,Int.reduceLT,Int.reduceLE,Int.reduceAdd,Int.reduceSub,Int.reduceMul,Int.reduceNeg,Int.reduceNe,reduceCtorEq,Int.reduceToNat,↓reduceIte]
  by_cases hlt : r < 128
  · rw [if_pos hlt]
    have := sign_find r.toNat (by omega)
    rw [this]
  · rw [if_neg hlt]
    have : sigB r.toNat = false := by simp [sigB]; omega
    rw [this]
    rfl
end Go.Proofs.Ytmbijfcjfhdnjaa

/- How a token is written: the program's Word, and the reference's. -/
namespace Go.Proofs.Ytmbijfcjfhdnjaa
set_option linter.unusedSimpArgs false
set_option linter.unusedVariables false
open Go.RowKit Go.Lib

theorem stop_all {q : Int → Bool} {l : List UInt8} : (stopN q l = l.length) ↔ l.all (fun b => q b.toNat) = true := by
  rw [List.all_eq_true]
  constructor
  · intro h b hb
    obtain ⟨i, hi, rfl⟩ := List.mem_iff_getElem.1 hb
    exact stopN_at hi (by omega)
  · intro h
    unfold stopN
    exact tw_len (Nat.le_refl _) (by rw [List.take_length]; exact h) (fun h => by omega)
theorem p_number (s : ByteArray) (hs : s.size ≤ 1000000) : PCalls Try.prog 36 [.str s] (.bool (numW s)) := by
  have hl := len_size s
  have q := p_stop (f := 55) p_digit hi_dig s 0 hs (by omega)
  rw [List.drop_zero] at q
  have hst := stop_all (q := digI) (l := s.data.toList)
  have no : numW s = false → AV.bool false = .bool (numW s) := fun h => by rw [h]
  refine pcalls_of (by first | rfl | simp [free, free.frees, frees_str, frees_u8, frees_u16]) (by first | rfl | simp [free, free.frees, frees_str, frees_u8, frees_u16]) (acalls_of mixed J_token_number_ok (Nat.le_of_ble_eq_true rfl) ?_); simp only [J_token_number, wk,if_true,if_false,forall_const,implies_true,ne_eq,eq_self,Nat.reduceEqDiff,Nat.reduceAdd,Nat.reduceMul,Nat.reduceSub,Nat.reduceLeDiff,Nat.reduceLT,Int.reduceEq,Int.reduceLT,Int.reduceLE,Int.reduceAdd,Int.reduceSub,Int.reduceMul,Int.reduceNeg,Int.reduceNe,reduceCtorEq,Int.reduceToNat,↓reduceIte]
  have fin : (1 ≤ s.size ∧ s.size ≤ 9 ∧ (byteAt s 0 ≠ 48 ∨ s.size = 1)) → ∀ x : Int, x = (0 : Nat) + (stopN digI s.data.toList : Nat) → AV.bool (decide (x = s.size)) = .bool (numW s) := by
    rintro ⟨h1, h2, h3⟩ x rfl
    congr 1
    unfold numW
    rw [Bool.eq_iff_iff]
    simp only [decide_eq_true_eq, Bool.and_eq_true, Bool.or_eq_true]
    rw [← hst]
    omega
  repeat' (first | (refine PCalls.use q ?_; simp only [wk,if_true,if_false,forall_const,implies_true,ne_eq,eq_self,Nat.reduceEqDiff,Nat.reduceAdd,Nat.reduceMul,Nat.reduceSub,Nat.reduceLeDiff,Nat.reduceLT,Int.reduceEq,Int.reduceLT,Int.reduceLE,Int.reduceAdd,Int.reduceSub,Int.reduceMul,Int.reduceNeg,Int.reduceNe,reduceCtorEq,Int.reduceToNat,↓reduceIte]) | (with_reducible refine And.intro ?_ ?_) | intro _)
  all_goals first
    | omega
    | exact fin (by omega) _ rfl
    | (apply no; unfold numW; simp_all; done)
    | (apply no; unfold numW; simp_all; omega)
def atomW (o : Int) (w : ByteArray) : ByteArray :=
  if o = 0 then (if w = ⟨#[68]⟩ then w else ⟨#[]⟩)
  else if mayN w = true then (if o = 1 ∨ o = 2 ∨ o = 4 ∨ o = 5 then preW o ++ w else if o = 3 ∧ keyW w = 0 then w else ⟨#[]⟩) else ⟨#[]⟩
def wordT (k : Int) (w : ByteArray) (o : Int) : ByteArray :=
  if k = 1 then atomW o w
  else if o ≠ 0 then ⟨#[]⟩
  else if k = 8 then (if numW w = true then w else ⟨#[]⟩)
  else if k = 9 then (if sigW w = true then w else ⟨#[]⟩)
  else if w ≠ ⟨#[]⟩ then ⟨#[]⟩
  else if k = 2 then ⟨#[97, 110, 100]⟩
  else if k = 3 then ⟨#[102, 111, 114]⟩
  else if k = 5 then ⟨#[97, 115]⟩
  else if k = 4 then ⟨#[124]⟩
  else if k = 6 then ⟨#[40]⟩
  else if k = 7 then ⟨#[41]⟩
  else ⟨#[]⟩
set_option maxRecDepth 100000 in
set_option maxHeartbeats 4000000 in
theorem p_atomWord (o : Int) (w : ByteArray) (hw : w.size ≤ 1000000) : PCalls Try.prog 35 [.int .i64 o, .str w] (.str (atomW o w)) := by
  have qm := p_amay w (by omega)
  have qk := p_keyword w
  refine pcalls_of (by first | rfl | simp [free, free.frees, frees_str, frees_u8, frees_u16]) (by first | rfl | simp [free, free.frees, frees_str, frees_u8, frees_u16]) (acalls_of mixed J_token_atomWord_ok (Nat.le_of_ble_eq_true rfl) ?_); simp only [J_token_atomWord, wk,if_true,if_false,forall_const,implies_true,ne_eq,eq_self,Nat.reduceEqDiff,Nat.reduceAdd,Nat.reduceMul,Nat.reduceSub,Nat.reduceLeDiff,Nat.reduceLT,Int.reduceEq,Int.reduceLT,Int.reduceLE,Int.reduceAdd,Int.reduceSub,Int.reduceMul,Int.reduceNeg,Int.reduceNe,reduceCtorEq,Int.reduceToNat,↓reduceIte]
  repeat' (first | (refine PCalls.use qm ?_; simp only [wk,if_true,if_false,forall_const,implies_true,ne_eq,eq_self,Nat.reduceEqDiff,Nat.reduceAdd,Nat.reduceMul,Nat.reduceSub,Nat.reduceLeDiff,Nat.reduceLT,Int.reduceEq,Int.reduceLT,Int.reduceLE,Int.reduceAdd,Int.reduceSub,Int.reduceMul,Int.reduceNeg,Int.reduceNe,reduceCtorEq,Int.reduceToNat,↓reduceIte]) | (refine PCalls.use qk ?_; simp only [wk,if_true,if_false,forall_const,implies_true,ne_eq,eq_self,Nat.reduceEqDiff,Nat.reduceAdd,Nat.reduceMul,Nat.reduceSub,Nat.reduceLeDiff,Nat.reduceLT,Int.reduceEq,Int.reduceLT,Int.reduceLE,Int.reduceAdd,Int.reduceSub,Int.reduceMul,Int.reduceNeg,Int.reduceNe,reduceCtorEq,Int.reduceToNat,↓reduceIte]) | (with_reducible refine And.intro ?_ ?_) | intro _)
  all_goals first
    | (simp only [J_token_atomWord_j1, wk,if_true,if_false,forall_const,implies_true,ne_eq,eq_self,Nat.reduceEqDiff,Nat.reduceAdd,Nat.reduceMul,Nat.reduceSub,Nat.reduceLeDiff,Nat.reduceLT,Int.reduceEq,Int.reduceLT,Int.reduceLE,Int.reduceAdd,Int.reduceSub,Int.reduceMul,Int.reduceNeg,Int.reduceNe,reduceCtorEq,Int.reduceToNat,↓reduceIte]; congr 1; unfold atomW; simp_all; done)
    | (congr 1; unfold atomW preW; simp_all; done)
    | exact (show ∀ n : Nat, n ≤ 6 → n + w.size ≤ 9223372036854775807 from fun n h => by omega) _ (Nat.le_of_ble_eq_true rfl)
theorem sigW_one {w : ByteArray} (h : w.size = 1) : sigW w = sigB (byteAt w 0) := by unfold sigW; simp [h]
set_option maxRecDepth 100000 in
set_option maxHeartbeats 4000000 in
theorem p_word (k : Int) (w : ByteArray) (o a : Int) (hw : w.size ≤ 1000000) : PCalls Try.prog 14 [.agg [.int .i64 k, .str w, .int .i64 o, .int .i64 a]] (.str (wordT k w o)) := by
  have qa := p_atomWord o w hw
  have qn := p_number w hw
  refine pcalls_of (by first | rfl | simp [free, free.frees, frees_str, frees_u8, frees_u16]) (by first | rfl | simp [free, free.frees, frees_str, frees_u8, frees_u16]) (acalls_of mixed J_token_Word_ok (Nat.le_of_ble_eq_true rfl) ?_); simp only [J_token_Word, wk,if_true,if_false,forall_const,implies_true,ne_eq,eq_self,Nat.reduceEqDiff,Nat.reduceAdd,Nat.reduceMul,Nat.reduceSub,Nat.reduceLeDiff,Nat.reduceLT,Int.reduceEq,Int.reduceLT,Int.reduceLE,Int.reduceAdd,Int.reduceSub,Int.reduceMul,Int.reduceNeg,Int.reduceNe,reduceCtorEq,Int.reduceToNat,↓reduceIte]
  repeat' (first | (refine PCalls.use qa ?_; simp only [wk,if_true,if_false,forall_const,implies_true,ne_eq,eq_self,Nat.reduceEqDiff,Nat.reduceAdd,Nat.reduceMul,Nat.reduceSub,Nat.reduceLeDiff,Nat.reduceLT,Int.reduceEq,Int.reduceLT,Int.reduceLE,Int.reduceAdd,Int.reduceSub,Int.reduceMul,Int.reduceNeg,Int.reduceNe,reduceCtorEq,Int.reduceToNat,↓reduceIte]) | (refine PCalls.use qn ?_; simp only [wk,if_true,if_false,forall_const,implies_true,ne_eq,eq_self,Nat.reduceEqDiff,Nat.reduceAdd,Nat.reduceMul,Nat.reduceSub,Nat.reduceLeDiff,Nat.reduceLT,Int.reduceEq,Int.reduceLT,Int.reduceLE,Int.reduceAdd,Int.reduceSub,Int.reduceMul,Int.reduceNeg,Int.reduceNe,reduceCtorEq,Int.reduceToNat,↓reduceIte]) | (refine PCalls.use (p_contains1 w (by omega)) ?_; simp only [wk,if_true,if_false,forall_const,implies_true,ne_eq,eq_self,Nat.reduceEqDiff,Nat.reduceAdd,Nat.reduceMul,Nat.reduceSub,Nat.reduceLeDiff,Nat.reduceLT,Int.reduceEq,Int.reduceLT,Int.reduceLE,Int.reduceAdd,Int.reduceSub,Int.reduceMul,Int.reduceNeg,Int.reduceNe,reduceCtorEq,Int.reduceToNat,↓reduceIte]) | (with_reducible refine And.intro ?_ ?_) | intro _)
  all_goals first
    | (congr 1; unfold wordT; simp_all; done)
    | (congr 1; unfold wordT; rw [sigW_one (by omega)]; simp_all; done)
    | (congr 1; unfold wordT sigW; simp_all; done)
    | (have hz : ¬ w.size = 1 := by omega
       congr 1; unfold wordT sigW; simp_all; done)
theorem preW_size (o : Int) : (preW o).size ≤ 6 := by
  unfold preW
  repeat' split
  all_goals decide
theorem ba_empty (w : ByteArray) : (⟨#[]⟩ : ByteArray) ++ w = w := by
  apply ByteArray.ext; apply Array.ext'; simp
theorem word_atom {k : Int} {w : ByteArray} {o : Int} (h1 : k = 1) (h2 : mayN w = true) (h3 : 1 ≤ o) (h4 : o ≤ 5) (h5 : o = 3 → keyW w = 0) : preW o ++ w = wordT k w o := by
  subst h1
  rcases (show o = 1 ∨ o = 2 ∨ o = 3 ∨ o = 4 ∨ o = 5 by omega) with rfl | rfl | rfl | rfl | rfl
  all_goals simp [wordT, atomW, h2, preW, ba_empty]
  exact (fun h => absurd (h5 rfl) h)
theorem word_atom3 {k : Int} {w : ByteArray} {o : Int} (h1 : k = 1) (h2 : mayN w = true) (h3 : o = 3) (h5 : ¬ keyW w = 0) : (⟨#[]⟩ : ByteArray) = wordT k w o := by
  subst h1; subst h3
  simp [wordT, atomW, h2, h5]
theorem word_none {k : Int} {w : ByteArray} {o : Int} (h1 : k = 1) (h0 : ¬ o = 0) (h2 : o < 1 ∨ 5 < o) : (⟨#[]⟩ : ByteArray) = wordT k w o := by
  subst h1
  have e1 : ¬ o = 1 := by omega
  have e2 : ¬ o = 2 := by omega
  have e3 : ¬ o = 3 := by omega
  have e4 : ¬ o = 4 := by omega
  have e5 : ¬ o = 5 := by omega
  simp [wordT, atomW, h0, e1, e2, e3, e4, e5]
theorem word_far {k : Int} {w : ByteArray} {o : Int} (h1 : ¬ k = 1) (h2 : ¬ k = 8) (h3 : ¬ k = 9) (h4 : k < 2 ∨ 7 < k) : (⟨#[]⟩ : ByteArray) = wordT k w o := by
  have e2 : ¬ k = 2 := by omega
  have e3 : ¬ k = 3 := by omega
  have e4 : ¬ k = 4 := by omega
  have e5 : ¬ k = 5 := by omega
  have e6 : ¬ k = 6 := by omega
  have e7 : ¬ k = 7 := by omega
  simp [wordT, h1, h2, h3, e2, e3, e4, e5, e6, e7]
theorem word_key {k : Int} {w : ByteArray} {o : Int} {K : AV → Prop} (h0 : o = 0) (hw : w = ⟨#[]⟩) (h1 : 2 ≤ k) (h2 : k ≤ 7) (hK : K (.str (wordT k w o))) :
    loadK none (List.drop (k - 2).toNat [AV.str ⟨#[97, 110, 100]⟩, .str ⟨#[102, 111, 114]⟩, .str ⟨#[124]⟩, .str ⟨#[97, 115]⟩, .str ⟨#[40]⟩, .str ⟨#[41]⟩]) K := by
  subst h0; subst hw
  rcases (show k = 2 ∨ k = 3 ∨ k = 4 ∨ k = 5 ∨ k = 6 ∨ k = 7 by omega) with rfl | rfl | rfl | rfl | rfl | rfl <;> exact hK
set_option maxRecDepth 100000 in
set_option maxHeartbeats 4000000 in
theorem p_rword04 (k : Int) (w : ByteArray) (o a : Int) (hw : w.size ≤ 1000000) : PCalls Try.prog 30 [.agg [.int .i64 k, .str w, .int .i64 o, .int .i64 a]] (.str (wordT k w o)) := by
  have qm := p_rmay01 w (by omega)
  have qk := p_rkeyword w
  have qn := p_rnumber w hw
  have qs := p_isSign w
  have qp := p_prefix o
  refine pcalls_of (by first | rfl | simp [free, free.frees, frees_str, frees_u8, frees_u16]) (by first | rfl | simp [free, free.frees, frees_str, frees_u8, frees_u16]) (acalls_of mixed J_ref04_Word_ok (Nat.le_of_ble_eq_true rfl) ?_); simp only [J_ref04_Word, wk,if_true,if_false,forall_const,implies_true,ne_eq,eq_self,Nat.reduceEqDiff,Nat.reduceAdd,Nat.reduceMul,Nat.reduceSub,Nat.reduceLeDiff,Nat.reduceLT,Int.reduceEq,Int.reduceLT,Int.reduceLE,Int.reduceAdd,Int.reduceSub,Int.reduceMul,Int.reduceNeg,Int.reduceNe,reduceCtorEq,Int.reduceToNat,↓reduceIte]
  repeat' (first | (refine PCalls.use qm ?_; simp only [wk,if_true,if_false,forall_const,implies_true,ne_eq,eq_self,Nat.reduceEqDiff,Nat.reduceAdd,Nat.reduceMul,Nat.reduceSub,Nat.reduceLeDiff,Nat.reduceLT,Int.reduceEq,Int.reduceLT,Int.reduceLE,Int.reduceAdd,Int.reduceSub,Int.reduceMul,Int.reduceNeg,Int.reduceNe,reduceCtorEq,Int.reduceToNat,↓reduceIte]) | (refine PCalls.use qk ?_; simp only [wk,if_true,if_false,forall_const,implies_true,ne_eq,eq_self,Nat.reduceEqDiff,Nat.reduceAdd,Nat.reduceMul,Nat.reduceSub,Nat.reduceLeDiff,Nat.reduceLT,Int.reduceEq,Int.reduceLT,Int.reduceLE,Int.reduceAdd,Int.reduceSub,Int.reduceMul,Int.reduceNeg,Int.reduceNe,reduceCtorEq,Int.reduceToNat,↓reduceIte]) | (refine PCalls.use qn ?_; simp only [wk,if_true,if_false,forall_const,implies_true,ne_eq,eq_self,Nat.reduceEqDiff,Nat.reduceAdd,Nat.reduceMul,Nat.reduceSub,Nat.reduceLeDiff,Nat.reduceLT,Int.reduceEq,Int.reduceLT,Int.reduceLE,Int.reduceAdd,Int.reduceSub,Int.reduceMul,Int.reduceNeg,Int.reduceNe,reduceCtorEq,Int.reduceToNat,↓reduceIte]) | (refine PCalls.use qs ?_; simp only [wk,if_true,if_false,forall_const,implies_true,ne_eq,eq_self,Nat.reduceEqDiff,Nat.reduceAdd,Nat.reduceMul,Nat.reduceSub,Nat.reduceLeDiff,Nat.reduceLT,Int.reduceEq,Int.reduceLT,Int.reduceLE,Int.reduceAdd,Int.reduceSub,Int.reduceMul,Int.reduceNeg,Int.reduceNe,reduceCtorEq,Int.reduceToNat,↓reduceIte]) | (refine ⟨_, qp, ?_⟩; simp only [wk,if_true,if_false,forall_const,implies_true,ne_eq,eq_self,Nat.reduceEqDiff,Nat.reduceAdd,Nat.reduceMul,Nat.reduceSub,Nat.reduceLeDiff,Nat.reduceLT,Int.reduceEq,Int.reduceLT,Int.reduceLE,Int.reduceAdd,Int.reduceSub,Int.reduceMul,Int.reduceNeg,Int.reduceNe,reduceCtorEq,Int.reduceToNat,↓reduceIte]) | (with_reducible refine And.intro ?_ ?_) | intro _)
  all_goals first
    | (congr 1; unfold wordT; simp_all; done)
    | (congr 1; unfold wordT atomW; simp_all; done)
    | (have := preW_size o; omega)
    | (refine inR_of ?_ ?_ <;> omega)
    | (congr 1; apply word_atom <;> first | assumption | omega | (intro _; first | assumption | omega))
    | (congr 1; apply word_atom3 <;> first | assumption | omega)
    | (congr 1; apply word_none <;> first | assumption | omega)
    | (congr 1; apply word_far <;> first | assumption | omega)
    | (refine word_key (by assumption) (by assumption) (by omega) (by omega) ?_; simp only [wk,if_true,if_false,forall_const,implies_true,ne_eq,eq_self,Nat.reduceEqDiff,Nat.reduceAdd,Nat.reduceMul,Nat.reduceSub,Nat.reduceLeDiff,Nat.reduceLT,Int.reduceEq,Int.reduceLT,Int.reduceLE,Int.reduceAdd,Int.reduceSub,Int.reduceMul,Int.reduceNeg,Int.reduceNe,reduceCtorEq,Int.reduceToNat,↓reduceIte])
end Go.Proofs.Ytmbijfcjfhdnjaa

/- Expressions: how closely signs bind; what waits last. -/
-- fast
-- rows
namespace Go.Proofs.Ytmbijfcjfhdnjaa
set_option linter.unusedSimpArgs false
set_option linter.unusedVariables false
open Go.RowKit Go.Lib

/-- how closely a term binds -/
def bindP (k : Int) : Int := if k = 1 then 5 else bindK k
theorem bindP_ne {k : Int} (h : k ≠ 1) : bindP k = bindK k := by unfold bindP; rw [if_neg h]
set_option maxRecDepth 100000 in
theorem p_bind (k : Int) : PCalls Try.prog 44 [.int .i64 k] (.int .i64 (bindP k)) := by
  refine pcalls_of (by first | rfl | simp [free, free.frees, frees_str, frees_u8, frees_u16]) (by first | rfl | simp [free, free.frees, frees_str, frees_u8, frees_u16]) (acalls_of mixed J_expr_bind_ok (Nat.le_of_ble_eq_true rfl) ?_); simp only [J_expr_bind, wkr,wk,if_true,if_false,forall_const,implies_true,ne_eq,eq_self,Nat.reduceEqDiff,Nat.reduceAdd,Nat.reduceMul,Nat.reduceSub,Nat.reduceLeDiff,Nat.reduceLT,Int.reduceEq,Int.reduceLT,Int.reduceLE,Int.reduceAdd,Int.reduceSub,Int.reduceMul,Int.reduceNeg,Int.reduceNe,reduceCtorEq,Int.reduceToNat,↓reduceIte]
  repeat' refine And.intro (fun h => ?_) (fun h => ?_)
  all_goals (congr 1; simp_all [bindP, bindK])
set_option maxRecDepth 100000 in
theorem p_binds (k : Int) : PCalls Try.prog 64 [.int .i64 k] (.int .i64 (bindK k)) := by
  refine pcalls_of (by first | rfl | simp [free, free.frees, frees_str, frees_u8, frees_u16]) (by first | rfl | simp [free, free.frees, frees_str, frees_u8, frees_u16]) (acalls_of mixed J_ref05_Binds_ok (Nat.le_of_ble_eq_true rfl) ?_); simp only [J_ref05_Binds, wkr,wk,if_true,if_false,forall_const,implies_true,ne_eq,eq_self,Nat.reduceEqDiff,Nat.reduceAdd,Nat.reduceMul,Nat.reduceSub,Nat.reduceLeDiff,Nat.reduceLT,Int.reduceEq,Int.reduceLT,Int.reduceLE,Int.reduceAdd,Int.reduceSub,Int.reduceMul,Int.reduceNeg,Int.reduceNe,reduceCtorEq,Int.reduceToNat,↓reduceIte]
  repeat' refine And.intro (fun h => ?_) (fun h => ?_)
  all_goals (congr 1; simp_all [bindK])
/-- terms as cells -/
def trC (t : Trm) : List AV := [.int .i64 t.op, .int .i64 t.of, .str t.name]
def trsC (l : List Trm) : List AV := l.flatMap trC
def vTrs (l : List Trm) : AV := .lst .ro l.length (trsC l)
abbrev rob (o : Option Value) (r : Rdr) : Option (Bool × List AV) := some (false, [.lst (.own 45) r.out.length (trsC r.out), .stk 3 o r.w.reverse, .int .i64 r.opn, .bool r.beh])
theorem hset1 {h : Hp} {id : Nat} {y : Option (Bool × List AV)} (ho : h[id]? = some y) (x : Option (Bool × List AV)) : (h.set id x)[id]? = some x := by
  have : id < h.length := (List.getElem?_eq_some_iff.1 ho).1
  rw [List.getElem?_set_self this]
theorem hself1 {h : Hp} {id : Nat} {y : Option (Bool × List AV)} (ho : h[id]? = some y) : h.set id y = h := by
  obtain ⟨h1, h2⟩ := List.getElem?_eq_some_iff.1 ho
  rw [← h2, List.set_getElem_self]
theorem rev_last {w : List Int} : w.reverse.getD (w.length - 1) 0 = w.headD 0 := by
  cases w with
  | nil => rfl
  | cons a w => simp
set_option maxRecDepth 100000 in
theorem a_top_some {h : Hp} {id : Nat} {x : AV} {rest : List AV} {w : List Int} {v : Value} (ho : h[id]? = some (some (false, x :: .stk 3 (some v) w.reverse :: rest))) (hl : w.length ≤ 1000000) : ACalls Try.prog 63 [.ptr id 0] h (fun a h' => a = .int .i64 (w.headD 0) ∧ h' = h) := by
  have hr : w.reverse.length = w.length := List.length_reverse
  refine acalls_of mixed J_expr_reader_top_ok (Nat.le_of_ble_eq_true rfl) ?_; simp only [J_expr_reader_top, wkr,wk,if_true,if_false,forall_const,implies_true,ne_eq,eq_self,Nat.reduceEqDiff,Nat.reduceAdd,Nat.reduceMul,Nat.reduceSub,Nat.reduceLeDiff,Nat.reduceLT,Int.reduceEq,Int.reduceLT,Int.reduceLE,Int.reduceAdd,Int.reduceSub,Int.reduceMul,Int.reduceNeg,Int.reduceNe,reduceCtorEq,Int.reduceToNat,↓reduceIte]
  simp only [wkr,wk,if_true,if_false,forall_const,implies_true,ne_eq,eq_self,Nat.reduceEqDiff,Nat.reduceAdd,Nat.reduceMul,Nat.reduceSub,Nat.reduceLeDiff,Nat.reduceLT,Int.reduceEq,Int.reduceLT,Int.reduceLE,Int.reduceAdd,Int.reduceSub,Int.reduceMul,Int.reduceNeg,Int.reduceNe,reduceCtorEq,Int.reduceToNat,↓reduceIte, ho]
  refine ⟨fun h0 => ?_, fun h0 => ⟨inR_of (by omega) (by omega), ⟨by omega, by omega⟩, by omega, ?_⟩⟩
  · have : w = [] := List.eq_nil_of_length_eq_zero (by omega)
    subst this; rfl
  · congr 1
    rw [hr, show ((w.length : Int) - 1).toNat = w.length - 1 by omega, rev_last]
set_option maxRecDepth 100000 in
theorem a_top {h : Hp} {id : Nat} {x : AV} {rest : List AV} {w : List Int} {o : Option Value} (ho : h[id]? = some (some (false, x :: .stk 3 o w.reverse :: rest))) (hl : w.length ≤ 1000000) : ACalls Try.prog 63 [.ptr id 0] h (fun a h' => a = .int .i64 (w.headD 0) ∧ h' = h) := by
  cases o with
  | some v => exact a_top_some ho hl
  | none =>
    have hr : w.reverse.length = w.length := List.length_reverse
    have hs : ∀ y, (h.set id (some (false, y)))[id]? = some (some (false, y)) := fun y => hset1 ho _
    refine ACalls.unname (off := 1) ho rfl ?_
    refine acalls_of mixed J_expr_reader_top_ok (Nat.le_of_ble_eq_true rfl) ?_; simp only [J_expr_reader_top, wkr,wk,if_true,if_false,forall_const,implies_true,ne_eq,eq_self,Nat.reduceEqDiff,Nat.reduceAdd,Nat.reduceMul,Nat.reduceSub,Nat.reduceLeDiff,Nat.reduceLT,Int.reduceEq,Int.reduceLT,Int.reduceLE,Int.reduceAdd,Int.reduceSub,Int.reduceMul,Int.reduceNeg,Int.reduceNe,reduceCtorEq,Int.reduceToNat,↓reduceIte]
    simp only [wkr,wk,if_true,if_false,forall_const,implies_true,ne_eq,eq_self,Nat.reduceEqDiff,Nat.reduceAdd,Nat.reduceMul,Nat.reduceSub,Nat.reduceLeDiff,Nat.reduceLT,Int.reduceEq,Int.reduceLT,Int.reduceLE,Int.reduceAdd,Int.reduceSub,Int.reduceMul,Int.reduceNeg,Int.reduceNe,reduceCtorEq,Int.reduceToNat,↓reduceIte, ho]
    intro v
    simp only [wkr,wk,if_true,if_false,forall_const,implies_true,ne_eq,eq_self,Nat.reduceEqDiff,Nat.reduceAdd,Nat.reduceMul,Nat.reduceSub,Nat.reduceLeDiff,Nat.reduceLT,Int.reduceEq,Int.reduceLT,Int.reduceLE,Int.reduceAdd,Int.reduceSub,Int.reduceMul,Int.reduceNeg,Int.reduceNe,reduceCtorEq,Int.reduceToNat,↓reduceIte, hs]
    refine ⟨fun h0 => ?_, fun h0 => ⟨inR_of (by omega) (by omega), ⟨by omega, by omega⟩, by omega, ?_⟩⟩
    · have : w = [] := List.eq_nil_of_length_eq_zero (by omega)
      subst this; exact ⟨⟨v, rfl⟩, rfl⟩
    · refine ⟨⟨v, rfl⟩, ?_⟩
      congr 1
      rw [hr, show ((w.length : Int) - 1).toNat = w.length - 1 by omega, rev_last]
theorem sameU_stk {h0 h : Hp} {id : Nat} {x : AV} {rest : List AV} {e : TypeId} {o : Option Value} {l : List Int} (hs : SameU h0 h) (ho : h[id]? = some (some (false, x :: .stk e o l :: rest))) : ∃ x' rest', h0[id]? = some (some (false, x' :: .stk e o l :: rest')) := by
  have h1 := congrArg (fun m : List (Option (Bool × List AV)) => m[id]?) hs
  simp only [List.getElem?_map, ho, Option.map_some, unfO, List.map_cons] at h1
  cases h2 : h0[id]? with
  | none => rw [h2] at h1; cases h1
  | some y =>
    rw [h2] at h1
    cases y with
    | none => simp [unfO] at h1
    | some z =>
      obtain ⟨s, c⟩ := z
      simp only [Option.map_some, unfO, Option.some.injEq, Prod.mk.injEq] at h1
      obtain ⟨rfl, h3⟩ := h1
      cases c with
      | nil => simp at h3
      | cons a c =>
        cases c with
        | nil => simp at h3
        | cons b c =>
          simp only [List.map_cons, List.cons.injEq] at h3
          have hb : b = .stk e o l := by
            have h4 := h3.2.1
            cases b <;> simp only [unf] at h4 <;> first | exact h4 | (split at h4 <;> first | cases h4 | exact h4) | cases h4
          subst hb
          exact ⟨a, c, rfl⟩
theorem a_topr {h : Hp} {id : Nat} {x : AV} {rest : List AV} {w : List Int} {o : Option Value} (ho : h[id]? = some (some (false, x :: .stk 3 o w.reverse :: rest))) (hl : w.length ≤ 1000000) : ∀ h0 : Hp, SameU h0 h → ACalls Try.prog 63 [.ptr id 0] h0 (fun a h' => a = .int .i64 (w.headD 0) ∧ h' = h0) := fun h0 hs => by
  obtain ⟨x', rest', h2⟩ := sameU_stk hs ho
  exact a_top h2 hl
/-- names of what waits are forgotten -/
theorem ACalls.unn {P : Program} {f : FuncId} {args : List AV} {h : Hp} {R : AV → Prop} {id : Nat} {r : Rdr} {y : Option (Bool × List AV)} (hid : h[id]? = some y)
    (hA : ACalls P f args h (fun a h' => R a ∧ ∃ o, h' = h.set id (rob o r))) : ACalls P f args h (fun a h' => R a ∧ h' = h.set id (rob none r)) :=
  ⟨hA.1, fun g w vargs h1 h2 h3 h4 => (hA.2 g w vargs h1 h2 h3 h4).mono fun _ _ ⟨x, a, h', g', q1, q2, q3, q4, q5, q6, q8, o, q7⟩ => by
    have hl := hset1 hid (rob none r)
    refine ⟨x, a, h.set id (rob none r), g', q1, q2, ?_, q4, q5, q6, q8, rfl⟩
    cases o with
    | none => rw [← q7]; exact q3
    | some u =>
      refine Sim.unname (off := 1) (u := u) hl rfl ?_
      rw [List.set_set]
      show Sim P g' (h.set id (rob (some u) r)) _
      rw [← q7]; exact q3⟩
/-- the signs that wait last are laid -/
def layR (m : Int) (r : Rdr) : Rdr := ⟨r.out ++ (popL m r.w).map sgn, popR m r.w, r.opn, r.beh⟩
theorem trsC_sn (l : List Trm) (t : Trm) : trsC (l ++ [t]) = trsC l ++ [.int .i64 t.op, .int .i64 t.of, .str t.name] := by simp [trsC, trC]
theorem trsC_len (l : List Trm) : (trsC l).length = l.length * 3 := by
  induction l with
  | nil => rfl
  | cons x l ih => simp only [trsC, List.flatMap_cons, List.length_append, trC, List.length_cons, List.length_nil] at ih ⊢; omega
set_option maxRecDepth 100000 in
theorem a_lay {h : Hp} {id : Nat} {r : Rdr} {m : Int} {o : Option Value} (ho : h[id]? = some (rob o r)) (hm : 0 < m) (hw : ∀ k ∈ r.w, k = 6 ∨ 0 < bindK k) (hl : r.w.length ≤ 10000) (hl2 : r.out.length ≤ 100000) : ACalls Try.prog 39 [.ptr id 0, .int .i64 m] h (fun a h' => a = .tup [] ∧ h' = h.set id (rob none (layR m r))) := by
  refine ACalls.unn ho ?_
  refine acalls_of mixed J_expr_reader_lay_ok (Nat.le_of_ble_eq_true rfl) ?_; simp only [J_expr_reader_lay, wkr,wk,if_true,if_false,forall_const,implies_true,ne_eq,eq_self,Nat.reduceEqDiff,Nat.reduceAdd,Nat.reduceMul,Nat.reduceSub,Nat.reduceLeDiff,Nat.reduceLT,Int.reduceEq,Int.reduceLT,Int.reduceLE,Int.reduceAdd,Int.reduceSub,Int.reduceMul,Int.reduceNeg,Int.reduceNe,reduceCtorEq,Int.reduceToNat,↓reduceIte]
  refine W_loop (fun n fr h' => ∃ (w2 : List Int) (a : List Int) (o : Option Value), n = w2.length ∧ popL m r.w = a ++ popL m w2 ∧ popR m r.w = popR m w2 ∧ a.length + w2.length = r.w.length ∧ (∀ k ∈ w2, k = 6 ∨ 0 < bindK k) ∧ h' = h.set id (rob o ⟨r.out ++ a.map sgn, w2, r.opn, r.beh⟩) ∧ fr = [(0, .ptr id 0), (1, .int .i64 m)]) r.w.length ⟨r.w, [], o, rfl, rfl, rfl, by simp, hw, by simp [hself1 ho], rfl⟩ ?_
  rintro n fr h' ⟨w2, a, o2, rfl, e1, e2, e3, hw2, rfl, rfl⟩
  have ho2 := hset1 ho (rob o2 ⟨r.out ++ a.map sgn, w2, r.opn, r.beh⟩)
  simp only [J_expr_reader_lay_j1, wkr,wk,if_true,if_false,forall_const,implies_true,ne_eq,eq_self,Nat.reduceEqDiff,Nat.reduceAdd,Nat.reduceMul,Nat.reduceSub,Nat.reduceLeDiff,Nat.reduceLT,Int.reduceEq,Int.reduceLT,Int.reduceLE,Int.reduceAdd,Int.reduceSub,Int.reduceMul,Int.reduceNeg,Int.reduceNe,reduceCtorEq,Int.reduceToNat,↓reduceIte]
  have hws : w2.length ≤ 10000 := by omega
  have hb : bindP (w2.headD 0) = bindK (w2.headD 0) := by
    refine bindP_ne ?_
    cases w2 with
    | nil => decide
    | cons k w2 =>
      have := hw2 k (by simp)
      show k ≠ 1
      rintro rfl
      rcases this with h | h
      · omega
      · rw [bind1] at h; omega
  refine ACalls.use (a_top ho2 (show w2.length ≤ 1000000 by omega)) ?_; rintro _ _ ⟨rfl, rfl⟩; simp only [wkr,wk,if_true,if_false,forall_const,implies_true,ne_eq,eq_self,Nat.reduceEqDiff,Nat.reduceAdd,Nat.reduceMul,Nat.reduceSub,Nat.reduceLeDiff,Nat.reduceLT,Int.reduceEq,Int.reduceLT,Int.reduceLE,Int.reduceAdd,Int.reduceSub,Int.reduceMul,Int.reduceNeg,Int.reduceNe,reduceCtorEq,Int.reduceToNat,↓reduceIte, ho2]
  refine PCalls.use (p_bind (w2.headD 0)) ?_; simp only [wkr,wk,if_true,if_false,forall_const,implies_true,ne_eq,eq_self,Nat.reduceEqDiff,Nat.reduceAdd,Nat.reduceMul,Nat.reduceSub,Nat.reduceLeDiff,Nat.reduceLT,Int.reduceEq,Int.reduceLT,Int.reduceLE,Int.reduceAdd,Int.reduceSub,Int.reduceMul,Int.reduceNeg,Int.reduceNe,reduceCtorEq,Int.reduceToNat,↓reduceIte]
  simp only [hb]
  have hs : ∀ y z, ((h.set id z).set id (some (false, y)))[id]? = some (some (false, y)) := fun y z => hset1 (hset1 ho z) _
  have hs1 : ∀ y, (h.set id (some (false, y)))[id]? = some (some (false, y)) := fun y => hset1 ho _
  refine ⟨fun hge => ?_, fun hlt => ?_⟩
  · simp only [rob] at ho2
    simp only [wkr,wk,if_true,if_false,forall_const,implies_true,ne_eq,eq_self,Nat.reduceEqDiff,Nat.reduceAdd,Nat.reduceMul,Nat.reduceSub,Nat.reduceLeDiff,Nat.reduceLT,Int.reduceEq,Int.reduceLT,Int.reduceLE,Int.reduceAdd,Int.reduceSub,Int.reduceMul,Int.reduceNeg,Int.reduceNe,reduceCtorEq,Int.reduceToNat,↓reduceIte, ho2]
    refine ⟨_, a_topr (hs1 _) (show w2.length ≤ 1000000 by omega), ?_⟩
    have hol : (r.out ++ a.map sgn).length = r.out.length + a.length := by simp
    simp only [wkr,wk,if_true,if_false,forall_const,implies_true,ne_eq,eq_self,Nat.reduceEqDiff,Nat.reduceAdd,Nat.reduceMul,Nat.reduceSub,Nat.reduceLeDiff,Nat.reduceLT,Int.reduceEq,Int.reduceLT,Int.reduceLE,Int.reduceAdd,Int.reduceSub,Int.reduceMul,Int.reduceNeg,Int.reduceNe,reduceCtorEq,Int.reduceToNat,↓reduceIte, hs, hs1]
    refine ⟨⟨by omega, by omega⟩, ?_⟩
    cases w2 with
    | nil => exact absurd hge (by show ¬ m ≤ bindK 0; simp only [bindK]; omega)
    | cons k w3 =>
      have hge : m ≤ bindK k := hge
      have hrl : (k :: w3).reverse.length = w3.length + 1 := by simp
      have hw3 : w3.length + 1 ≤ 10000 := by simpa using hws
      have hrt : (k :: w3).reverse.take w3.length = w3.reverse := by
        have := List.take_left (l₁ := w3.reverse) (l₂ := [k])
        rw [List.length_reverse] at this
        rw [List.reverse_cons]; exact this
      have ht : (((k :: w3).reverse.length : Int) - 1).toNat = w3.length := by omega
      have fin : ∀ v : Value, ∃ m_1, m_1 < (k :: w3).length ∧ ∃ (w2_1 : List Int) (a_1 : List Int) (o : Option Value), m_1 = w2_1.length ∧ popL m r.w = a_1 ++ popL m w2_1 ∧ popR m r.w = popR m w2_1 ∧ a_1.length + w2_1.length = r.w.length ∧ (∀ k ∈ w2_1, k = 6 ∨ 0 < bindK k) ∧ h.set id (some (false, [.lst (.own 45) ((r.out ++ a.map sgn).length + 1) (trsC (r.out ++ a.map sgn) ++ [.int .i64 ((k :: w3).headD 0), .int .i64 0, .str ⟨#[]⟩]), .stk 3 (some v) w3.reverse, .int .i64 r.opn, .bool r.beh])) = h.set id (rob o ⟨r.out ++ a_1.map sgn, w2_1, r.opn, r.beh⟩) := fun v => by
        refine ⟨w3.length, by simp, w3, a ++ [k], some v, rfl, ?_, ?_, ?_, fun q hq => hw2 q (by simp [hq]), ?_⟩
        · rw [e1]; simp [popL, hge]
        · rw [e2]; simp [popR, hge]
        · rw [List.length_cons] at e3; rw [List.length_append, List.length_singleton]; omega
        · rw [List.map_append, ← List.append_assoc, rob]
          simp only [List.map_cons, List.map_nil, trsC_sn, List.length_append, List.length_singleton, List.headD_cons]
          rfl
      cases o2 with
      | none =>
        intro v
        rw [ht, hrt]
        exact ⟨inR_of (by omega) (by omega), ⟨by omega, by omega⟩, by omega, fin _⟩
      | some v =>
        simp only [wkr,wk,if_true,if_false,forall_const,implies_true,ne_eq,eq_self,Nat.reduceEqDiff,Nat.reduceAdd,Nat.reduceMul,Nat.reduceSub,Nat.reduceLeDiff,Nat.reduceLT,Int.reduceEq,Int.reduceLT,Int.reduceLE,Int.reduceAdd,Int.reduceSub,Int.reduceMul,Int.reduceNeg,Int.reduceNe,reduceCtorEq,Int.reduceToNat,↓reduceIte]
        rw [ht, hrt]
        exact ⟨inR_of (by omega) (by omega), ⟨by omega, by omega⟩, by omega, fin _⟩
  · have hp : popL m w2 = [] ∧ popR m w2 = w2 := by
      cases w2 with
      | nil => exact ⟨rfl, rfl⟩
      | cons k w2 =>
        have : ¬ m ≤ bindK k := hlt
        simp [popL, popR, this]
    rw [hp.1, List.append_nil] at e1
    rw [hp.2] at e2
    exact ⟨o2, by unfold layR; rw [e1, e2]⟩
end Go.Proofs.Ytmbijfcjfhdnjaa

/- Expressions: the reader takes a token. -/
-- fast
-- rows
namespace Go.Proofs.Ytmbijfcjfhdnjaa
set_option linter.unusedSimpArgs false
set_option linter.unusedVariables false
open Go.RowKit Go.Lib

theorem frees_trs : ∀ l : List Trm, free.frees (trsC l) = true
  | [] => rfl
  | t :: l => by
    have := frees_trs l
    simp only [trsC, List.flatMap_cons, trC, List.cons_append, List.nil_append, free.frees, free, Bool.true_and] at this ⊢
    exact this
theorem rob_low {n : Nat} {o : Option Value} {r : Rdr} {s : Bool} {l : List AV} (h : rob o r = some (s, l)) : low.lows n l = true := by
  simp only [rob, Option.some.injEq, Prod.mk.injEq] at h
  obtain ⟨_, rfl⟩ := h
  simp [low.lows, low, lows_free (frees_trs r.out)]
theorem trimR {h ex : Hp} {id : Nat} {o : Option Value} {r : Rdr} {a c : Int} (hc : a = c) : ∃ h2 ex', h.set id (rob o r) ++ ex = h2 ++ ex' ∧ h.length ≤ h2.length ∧ low h2.length (.int .i64 a) = true ∧ (∀ (j : Nat) s l, h2[j]? = some (some (s, l)) → (∃ s', h[j]? = some (some (s', l))) ∨ low.lows h2.length l = true) ∧ (.int .i64 a = AV.int .i64 c ∧ ∃ o, h2 = h.set id (rob o r)) := by
  refine ⟨_, ex, rfl, by simp, rfl, fun j s' l' hj => ?_, by rw [hc], o, rfl⟩
  rw [List.getElem?_set] at hj
  split at hj
  · split at hj
    · exact .inr (rob_low (o := o) (r := r) (by simpa using hj))
    · cases hj
  · exact .inl ⟨_, hj⟩
theorem trimR1 {h ex : Hp} {id : Nat} {o : Option Value} {r : Rdr} {a : Int} : ∃ h2 ex', h.set id (rob o r) ++ ex = h2 ++ ex' ∧ h.length ≤ h2.length ∧ low h2.length (.int .i64 a) = true ∧ (∀ (j : Nat) s l, h2[j]? = some (some (s, l)) → (∃ s', h[j]? = some (some (s', l))) ∨ low.lows h2.length l = true) ∧ (∃ o, h2 = h.set id (rob o r)) := by
  obtain ⟨h2, ex', p1, p2, p3, p4, _, p5⟩ := trimR (h := h) (ex := ex) (id := id) (o := o) (r := r) (a := a) (c := a) rfl
  exact ⟨h2, ex', p1, p2, p3, p4, p5⟩
theorem trimR0 {h ex : Hp} {id : Nat} {o : Option Value} {r r' : Rdr} {a c : Int} (ho : h[id]? = some (rob o r)) (hc : c = a ∧ r' = r) : ∃ h2 ex', h ++ ex = h2 ++ ex' ∧ h.length ≤ h2.length ∧ low h2.length (.int .i64 a) = true ∧ (∀ (j : Nat) s l, h2[j]? = some (some (s, l)) → (∃ s', h[j]? = some (some (s', l))) ∨ low.lows h2.length l = true) ∧ (.int .i64 a = AV.int .i64 c ∧ ∃ o, h2 = h.set id (rob o r')) :=
  ⟨h, ex, rfl, Nat.le_refl _, rfl, fun _ s _ hl => .inl ⟨s, hl⟩, by rw [hc.1], o, by rw [hc.2]; exact (hself1 ho).symm⟩
theorem holdE {h : Hp} {id : Nat} {y : Option (Bool × List AV)} (ho : h[id]? = some y) (ex : Hp) : (h ++ ex)[id]? = some y := by
  rw [List.getElem?_append_left (List.getElem?_eq_some_iff.1 ho).1]; exact ho
theorem setlE {h : Hp} {id : Nat} {y : Option (Bool × List AV)} (ho : h[id]? = some y) (ex : Hp) (z : Option (Bool × List AV)) : (h ++ ex).set id z = h.set id z ++ ex :=
  List.set_append_left _ _ (List.getElem?_eq_some_iff.1 ho).1
theorem boxE {h : Hp} {y : Option (Bool × List AV)} : (h ++ [y])[h.length]? = some y := by simp
theorem boxE2 {h : Hp} {id : Nat} {x y z : Option (Bool × List AV)} (ho : h[id]? = some x) : ((h ++ [y]).set id z)[h.length]? = some y := by
  rw [setlE ho, List.getElem?_append_right (by simp), List.length_set, Nat.sub_self]; rfl
theorem rob_eq {o : Option Value} {k : Nat} {l : List AV} {s : List Int} {i : Int} {b : Bool} (r : Rdr) (h1 : k = r.out.length) (h2 : l = trsC r.out) (h3 : s = r.w.reverse) (h4 : i = r.opn) (h5 : b = r.beh) : (some (false, [.lst (.own 45) k l, .stk 3 o s, .int .i64 i, .bool b]) : Option (Bool × List AV)) = rob o r := by
  subst h1; subst h2; subst h3; subst h4; subst h5; rfl
def codeR (r : Rdr) (t : Tok) : Int := match takeR r t with
  | .inl e => e
  | .inr _ => 0
def nextR (r : Rdr) (t : Tok) : Rdr := match takeR r t with
  | .inl _ => r
  | .inr r' => r'
theorem take_inl {r : Rdr} {t : Tok} {e : Int} (h : takeR r t = .inl e) : codeR r t = e ∧ nextR r t = r := by unfold codeR nextR; rw [h]; exact ⟨rfl, rfl⟩
theorem take_inr {r r' : Rdr} {t : Tok} (h : takeR r t = .inr r') : codeR r t = 0 ∧ nextR r t = r' := by unfold codeR nextR; rw [h]; exact ⟨rfl, rfl⟩
set_option maxRecDepth 100000 in
set_option maxHeartbeats 4000000 in
theorem a_part {h : Hp} {id : Nat} {r : Rdr} {o : Option Value} {t : Tok} (ho : h[id]? = some (rob o r)) (hb : r.beh = false) (hl : r.w.length ≤ 10000) (hl2 : r.out.length ≤ 100000) (hl3 : r.opn ≤ 10000) : ACalls Try.prog 62 [.ptr id 0, .agg (tC t)] h (fun a h' => a = .int .i64 (codeR r t) ∧ h' = h.set id (rob none (nextR r t))) := by
  refine ACalls.unn ho ?_
  obtain ⟨out, w, n, b⟩ := r
  simp only at hb hl hl2 hl3
  subst hb
  have ho1 := holdE ho [some (false, tC t)]
  have hs1 : ∀ z, ((h ++ [some (false, tC t)]).set id z)[id]? = some z := fun z => hset1 ho1 z
  have hbx : (h ++ [some (false, tC t)])[h.length]? = some (some (false, tC t)) := boxE
  have hbx2 : ∀ z, ((h ++ [some (false, tC t)]).set id z)[h.length]? = some (some (false, tC t)) := fun z => boxE2 ho
  have hset := setlE ho [some (false, tC t)]
  have hrl : w.reverse.length = w.length := List.length_reverse
  simp only [tC] at ho1 hs1 hbx hbx2 hset ⊢
  refine ACalls.trim (acalls_of mixed J_expr_reader_part_ok (Nat.le_of_ble_eq_true rfl) ?_); simp only [J_expr_reader_part, hbx, wkr,wk,if_true,if_false,forall_const,implies_true,ne_eq,eq_self,Nat.reduceEqDiff,Nat.reduceAdd,Nat.reduceMul,Nat.reduceSub,Nat.reduceLeDiff,Nat.reduceLT,Int.reduceEq,Int.reduceLT,Int.reduceLE,Int.reduceAdd,Int.reduceSub,Int.reduceMul,Int.reduceNeg,Int.reduceNe,reduceCtorEq,Int.reduceToNat,↓reduceIte]
  have hid := (List.getElem?_eq_some_iff.1 ho).1
  have n1 : (id = h.length) = False := by simp; omega
  have n2 : (h.length = id) = False := by simp; omega
  refine ⟨fun k1 => ?_, fun k1 => ?_⟩
  · have hfin : ¬ (w.headD 0 = 5 ∧ t.of ≠ 5) → codeR ⟨out, w, n, false⟩ t = 0 ∧ nextR ⟨out, w, n, false⟩ t = ⟨out ++ [leaf t], w, n, true⟩ := fun hn => take_inr (by
      unfold takeR; rw [if_pos rfl, if_pos k1, if_neg hn])
    refine ACalls.use (a_top ho1 (show w.length ≤ 1000000 by omega)) ?_; rintro _ _ ⟨rfl, rfl⟩; simp only [wkr,wk,if_true,if_false,forall_const,implies_true,ne_eq,eq_self,Nat.reduceEqDiff,Nat.reduceAdd,Nat.reduceMul,Nat.reduceSub,Nat.reduceLeDiff,Nat.reduceLT,Int.reduceEq,Int.reduceLT,Int.reduceLE,Int.reduceAdd,Int.reduceSub,Int.reduceMul,Int.reduceNeg,Int.reduceNe,reduceCtorEq,Int.reduceToNat,↓reduceIte, ho1, hbx, hbx2, hs1, n1, n2]
    refine ⟨fun h5 => ⟨fun h6 => trimR0 ho (take_inl ?_), fun h6 => ?_⟩, fun h5 => ?_⟩
    · unfold takeR; rw [if_pos rfl, if_pos k1, if_pos ⟨h5, h6⟩]
    · obtain ⟨g1, g2⟩ := hfin (fun x => x.2 h6)
      simp only [J_expr_reader_part_j1, wkr,wk,if_true,if_false,forall_const,implies_true,ne_eq,eq_self,Nat.reduceEqDiff,Nat.reduceAdd,Nat.reduceMul,Nat.reduceSub,Nat.reduceLeDiff,Nat.reduceLT,Int.reduceEq,Int.reduceLT,Int.reduceLE,Int.reduceAdd,Int.reduceSub,Int.reduceMul,Int.reduceNeg,Int.reduceNe,reduceCtorEq,Int.reduceToNat,↓reduceIte]
      refine ⟨⟨by omega, by omega⟩, ?_⟩
      rw [hset, rob_eq ⟨out ++ [leaf t], w, n, true⟩ (by simp) (by simp [trsC_sn, leaf]) rfl rfl rfl, g1, g2]
      exact trimR rfl
    · obtain ⟨g1, g2⟩ := hfin (fun x => h5 x.1)
      simp only [J_expr_reader_part_j1, wkr,wk,if_true,if_false,forall_const,implies_true,ne_eq,eq_self,Nat.reduceEqDiff,Nat.reduceAdd,Nat.reduceMul,Nat.reduceSub,Nat.reduceLeDiff,Nat.reduceLT,Int.reduceEq,Int.reduceLT,Int.reduceLE,Int.reduceAdd,Int.reduceSub,Int.reduceMul,Int.reduceNeg,Int.reduceNe,reduceCtorEq,Int.reduceToNat,↓reduceIte]
      refine ⟨⟨by omega, by omega⟩, ?_⟩
      rw [hset, rob_eq ⟨out ++ [leaf t], w, n, true⟩ (by simp) (by simp [trsC_sn, leaf]) rfl rfl rfl, g1, g2]
      exact trimR rfl
  · have no : t.kind ≠ 6 ∨ w.headD 0 = 5 → takeR ⟨out, w, n, false⟩ t = .inl 2 := fun hn => by
      unfold takeR
      rw [if_pos rfl, if_neg k1, if_neg (by rintro ⟨a, b⟩; rcases hn with h | h; exact h a; exact b h)]
    refine ⟨fun k6 => ?_, fun k6 => ?_⟩
    · refine ACalls.use (a_top ho1 (show w.length ≤ 1000000 by omega)) ?_; rintro _ _ ⟨rfl, rfl⟩; simp only [wkr,wk,if_true,if_false,forall_const,implies_true,ne_eq,eq_self,Nat.reduceEqDiff,Nat.reduceAdd,Nat.reduceMul,Nat.reduceSub,Nat.reduceLeDiff,Nat.reduceLT,Int.reduceEq,Int.reduceLT,Int.reduceLE,Int.reduceAdd,Int.reduceSub,Int.reduceMul,Int.reduceNeg,Int.reduceNe,reduceCtorEq,Int.reduceToNat,↓reduceIte, ho1, hbx, hbx2, hs1, n1, n2]
      refine ⟨fun h5 => ⟨fun h1 => trimR0 ho (take_inl ?_), fun h1 => ⟨⟨by omega, by omega⟩, inR_of (by omega) (by omega), ?_⟩⟩, fun h5 => ?_⟩
      · unfold takeR; rw [if_pos rfl, if_neg k1, if_pos ⟨k6, h5⟩, if_pos (by show n = 100; omega)]
      · simp only [J_expr_reader_part_j1, wkr,wk,if_true,if_false,forall_const,implies_true,ne_eq,eq_self,Nat.reduceEqDiff,Nat.reduceAdd,Nat.reduceMul,Nat.reduceSub,Nat.reduceLeDiff,Nat.reduceLT,Int.reduceEq,Int.reduceLT,Int.reduceLE,Int.reduceAdd,Int.reduceSub,Int.reduceMul,Int.reduceNeg,Int.reduceNe,reduceCtorEq,Int.reduceToNat,↓reduceIte]
        obtain ⟨g1, g2⟩ := take_inr (r := ⟨out, w, n, false⟩) (t := t) (r' := ⟨out, 6 :: w, n + 1, false⟩) (by
          unfold takeR; rw [if_pos rfl, if_neg k1, if_pos ⟨k6, h5⟩, if_neg (by show ¬ n = 100; omega)])
        rw [hset, rob_eq ⟨out, 6 :: w, n + 1, false⟩ rfl rfl (by simp) (by simp) rfl, g1, g2]
        exact trimR rfl
      · exact trimR0 ho (take_inl (no (.inr h5)))
    · exact trimR0 ho (take_inl (no (.inl k6)))
set_option maxRecDepth 100000 in
set_option maxHeartbeats 4000000 in
theorem a_take {h : Hp} {id : Nat} {r : Rdr} {o : Option Value} {t : Tok} (ho : h[id]? = some (rob o r)) (hw : rcnt r) (hl : r.w.length ≤ 10000) (hl2 : r.out.length + r.w.length ≤ 10000) (hl3 : r.opn ≤ 10000) : ACalls Try.prog 38 [.ptr id 0, .agg (tC t)] h (fun a h' => a = .int .i64 (codeR r t) ∧ h' = h.set id (rob none (nextR r t))) := by
  refine ACalls.unn ho ?_
  obtain ⟨out, w, n, b⟩ := r
  obtain ⟨kd, nm, tf, ta⟩ := t
  simp only at hl hl2 hl3
  have ho1 := holdE ho [some (false, tC ⟨kd, nm, tf, ta⟩)]
  have hs1 : ∀ z, ((h ++ [some (false, tC ⟨kd, nm, tf, ta⟩)]).set id z)[id]? = some z := fun z => hset1 ho1 z
  have hbx : (h ++ [some (false, tC ⟨kd, nm, tf, ta⟩)])[h.length]? = some (some (false, tC ⟨kd, nm, tf, ta⟩)) := boxE
  have hbx2 : ∀ z, ((h ++ [some (false, tC ⟨kd, nm, tf, ta⟩)]).set id z)[h.length]? = some (some (false, tC ⟨kd, nm, tf, ta⟩)) := fun z => boxE2 ho
  have hset := setlE ho [some (false, tC ⟨kd, nm, tf, ta⟩)]
  have hid := (List.getElem?_eq_some_iff.1 ho).1
  have n1 : (id = h.length) = False := by simp; omega
  have n2 : (h.length = id) = False := by simp; omega
  have hpart : b = false → _ := fun hb => a_part (h := h ++ [some (false, tC ⟨kd, nm, tf, ta⟩)]) (t := ⟨kd, nm, tf, ta⟩) ho1 hb hl (by show out.length ≤ _; omega) hl3
  have hlay : ∀ m : Int, 0 < m → _ := fun m hm => a_lay (h := h ++ [some (false, tC ⟨kd, nm, tf, ta⟩)]) (m := m) ho1 hm hw.2 hl (by show out.length ≤ _; omega)
  have hrc : ∀ m, (popR m w).reverse.length = (popR m w).length := fun m => List.length_reverse
  have hrl : ∀ m, (popR m w).length ≤ w.length := fun m => (List.dropWhile_suffix _).length_le
  simp only [tC] at ho1 hs1 hbx hbx2 hset hpart hlay ⊢
  cases b with
  | false =>
    refine ACalls.trim (acalls_of mixed J_expr_reader_take_ok (Nat.le_of_ble_eq_true rfl) ?_); simp only [J_expr_reader_take, ho1, hbx, wkr,wk,if_true,if_false,forall_const,implies_true,ne_eq,eq_self,Nat.reduceEqDiff,Nat.reduceAdd,Nat.reduceMul,Nat.reduceSub,Nat.reduceLeDiff,Nat.reduceLT,Int.reduceEq,Int.reduceLT,Int.reduceLE,Int.reduceAdd,Int.reduceSub,Int.reduceMul,Int.reduceNeg,Int.reduceNe,reduceCtorEq,Int.reduceToNat,↓reduceIte]
    refine ACalls.use (hpart rfl) ?_; rintro _ _ ⟨rfl, rfl⟩; simp only [wkr,wk,if_true,if_false,forall_const,implies_true,ne_eq,eq_self,Nat.reduceEqDiff,Nat.reduceAdd,Nat.reduceMul,Nat.reduceSub,Nat.reduceLeDiff,Nat.reduceLT,Int.reduceEq,Int.reduceLT,Int.reduceLE,Int.reduceAdd,Int.reduceSub,Int.reduceMul,Int.reduceNeg,Int.reduceNe,reduceCtorEq,Int.reduceToNat,↓reduceIte]
    rw [hset]
    exact trimR1
  | true =>
    by_cases hk : 0 < bindK kd
    · have hk1 := bind_pos hk
      obtain ⟨g1, g2⟩ := take_inr (r := ⟨out, w, n, true⟩) (t := ⟨kd, nm, tf, ta⟩) (r' := ⟨out ++ (popL (bindK kd) w).map sgn, kd :: popR (bindK kd) w, n, false⟩) (by
        unfold takeR; rw [if_neg (by simp), if_pos hk])
      have hla := hlay _ hk
      simp only [layR, rob] at hla
      have qb := p_bind kd
      rw [bindP_ne (bind_ne hk).1] at qb
      have hrl2 := hrl (bindK kd)
      have hrc2 := hrc (bindK kd)
      rw [g1, g2]
      rcases hk1 with rfl | rfl | rfl | rfl
      all_goals
        refine ACalls.trim (acalls_of mixed J_expr_reader_take_ok (Nat.le_of_ble_eq_true rfl) ?_); simp only [J_expr_reader_take, ho1, hbx, wkr,wk,if_true,if_false,forall_const,implies_true,ne_eq,eq_self,Nat.reduceEqDiff,Nat.reduceAdd,Nat.reduceMul,Nat.reduceSub,Nat.reduceLeDiff,Nat.reduceLT,Int.reduceEq,Int.reduceLT,Int.reduceLE,Int.reduceAdd,Int.reduceSub,Int.reduceMul,Int.reduceNeg,Int.reduceNe,reduceCtorEq,Int.reduceToNat,↓reduceIte]
        simp only [J_expr_reader_take_j2, hbx, wkr,wk,if_true,if_false,forall_const,implies_true,ne_eq,eq_self,Nat.reduceEqDiff,Nat.reduceAdd,Nat.reduceMul,Nat.reduceSub,Nat.reduceLeDiff,Nat.reduceLT,Int.reduceEq,Int.reduceLT,Int.reduceLE,Int.reduceAdd,Int.reduceSub,Int.reduceMul,Int.reduceNeg,Int.reduceNe,reduceCtorEq,Int.reduceToNat,↓reduceIte]
        refine PCalls.use (qb) ?_; simp only [wkr,wk,if_true,if_false,forall_const,implies_true,ne_eq,eq_self,Nat.reduceEqDiff,Nat.reduceAdd,Nat.reduceMul,Nat.reduceSub,Nat.reduceLeDiff,Nat.reduceLT,Int.reduceEq,Int.reduceLT,Int.reduceLE,Int.reduceAdd,Int.reduceSub,Int.reduceMul,Int.reduceNeg,Int.reduceNe,reduceCtorEq,Int.reduceToNat,↓reduceIte]
        refine ACalls.use (hla) ?_; rintro _ _ ⟨rfl, rfl⟩; simp only [wkr,wk,if_true,if_false,forall_const,implies_true,ne_eq,eq_self,Nat.reduceEqDiff,Nat.reduceAdd,Nat.reduceMul,Nat.reduceSub,Nat.reduceLeDiff,Nat.reduceLT,Int.reduceEq,Int.reduceLT,Int.reduceLE,Int.reduceAdd,Int.reduceSub,Int.reduceMul,Int.reduceNeg,Int.reduceNe,reduceCtorEq,Int.reduceToNat,↓reduceIte, ho1, hbx, hbx2, hs1, n1, n2]
        simp only [J_expr_reader_take_j1, wkr,wk,if_true,if_false,forall_const,implies_true,ne_eq,eq_self,Nat.reduceEqDiff,Nat.reduceAdd,Nat.reduceMul,Nat.reduceSub,Nat.reduceLeDiff,Nat.reduceLT,Int.reduceEq,Int.reduceLT,Int.reduceLE,Int.reduceAdd,Int.reduceSub,Int.reduceMul,Int.reduceNeg,Int.reduceNe,reduceCtorEq,Int.reduceToNat,↓reduceIte]
        refine ⟨⟨by omega, by omega⟩, ?_⟩
        rw [hset, rob_eq ⟨out ++ (popL _ w).map sgn, _ :: popR _ w, n, false⟩ rfl rfl List.reverse_cons.symm rfl rfl]
        exact trimR1
    · have nb : ∀ k : Int, 0 < bindK k → (kd = k) = False := fun k hk2 => by simp; rintro rfl; exact hk hk2
      have e2 := nb 2 (by decide)
      have e3 := nb 3 (by decide)
      have e4 := nb 4 (by decide)
      have e5 := nb 5 (by decide)
      by_cases k7 : kd = 7
      · subst k7
        by_cases hn : n = 0
        · subst hn
          obtain ⟨g1, g2⟩ := take_inl (r := ⟨out, w, 0, true⟩) (t := ⟨7, nm, tf, ta⟩) (e := 2) (by unfold takeR; rw [if_neg (by simp), if_neg hk, if_pos rfl, if_pos rfl])
          refine ACalls.trim (acalls_of mixed J_expr_reader_take_ok (Nat.le_of_ble_eq_true rfl) ?_); simp only [J_expr_reader_take, ho1, hbx, wkr,wk,if_true,if_false,forall_const,implies_true,ne_eq,eq_self,Nat.reduceEqDiff,Nat.reduceAdd,Nat.reduceMul,Nat.reduceSub,Nat.reduceLeDiff,Nat.reduceLT,Int.reduceEq,Int.reduceLT,Int.reduceLE,Int.reduceAdd,Int.reduceSub,Int.reduceMul,Int.reduceNeg,Int.reduceNe,reduceCtorEq,Int.reduceToNat,↓reduceIte]
          simp only [J_expr_reader_take_j2, ho1, hbx, (show (((0 : Nat) : Int) = 0) = True by simp), wkr,wk,if_true,if_false,forall_const,implies_true,ne_eq,eq_self,Nat.reduceEqDiff,Nat.reduceAdd,Nat.reduceMul,Nat.reduceSub,Nat.reduceLeDiff,Nat.reduceLT,Int.reduceEq,Int.reduceLT,Int.reduceLE,Int.reduceAdd,Int.reduceSub,Int.reduceMul,Int.reduceNeg,Int.reduceNe,reduceCtorEq,Int.reduceToNat,↓reduceIte]
          exact trimR0 ho ⟨g1, g2⟩
        · obtain ⟨g1, g2⟩ := take_inr (r := ⟨out, w, n, true⟩) (t := ⟨7, nm, tf, ta⟩) (r' := ⟨out ++ (popL 1 w).map sgn, (popR 1 w).tail, n - 1, true⟩) (by
            unfold takeR; rw [if_neg (by simp), if_neg hk, if_pos rfl, if_neg hn])
          have hla := hlay 1 (by decide)
          simp only [layR, rob] at hla
          refine ACalls.trim (acalls_of mixed J_expr_reader_take_ok (Nat.le_of_ble_eq_true rfl) ?_); simp only [J_expr_reader_take, ho1, hbx, wkr,wk,if_true,if_false,forall_const,implies_true,ne_eq,eq_self,Nat.reduceEqDiff,Nat.reduceAdd,Nat.reduceMul,Nat.reduceSub,Nat.reduceLeDiff,Nat.reduceLT,Int.reduceEq,Int.reduceLT,Int.reduceLE,Int.reduceAdd,Int.reduceSub,Int.reduceMul,Int.reduceNeg,Int.reduceNe,reduceCtorEq,Int.reduceToNat,↓reduceIte]
          simp only [J_expr_reader_take_j2, ho1, hbx, (show ((n : Int) = 0) = False by simp; omega), wkr,wk,if_true,if_false,forall_const,implies_true,ne_eq,eq_self,Nat.reduceEqDiff,Nat.reduceAdd,Nat.reduceMul,Nat.reduceSub,Nat.reduceLeDiff,Nat.reduceLT,Int.reduceEq,Int.reduceLT,Int.reduceLE,Int.reduceAdd,Int.reduceSub,Int.reduceMul,Int.reduceNeg,Int.reduceNe,reduceCtorEq,Int.reduceToNat,↓reduceIte]
          refine ACalls.use (hla) ?_; rintro _ _ ⟨rfl, rfl⟩; simp only [wkr,wk,if_true,if_false,forall_const,implies_true,ne_eq,eq_self,Nat.reduceEqDiff,Nat.reduceAdd,Nat.reduceMul,Nat.reduceSub,Nat.reduceLeDiff,Nat.reduceLT,Int.reduceEq,Int.reduceLT,Int.reduceLE,Int.reduceAdd,Int.reduceSub,Int.reduceMul,Int.reduceNeg,Int.reduceNe,reduceCtorEq,Int.reduceToNat,↓reduceIte, ho1, hbx, hbx2, hs1, n1, n2]
          intro v
          obtain ⟨R, e1, _⟩ := popR_close (P := w) (by have := hw.1; simp only at this; omega) hw.2
          have hR := hrl 1
          rw [e1] at hR g2
          rw [List.length_cons] at hR
          have q1 : (6 :: R).reverse.length = R.length + 1 := by simp
          have q2 : (((6 :: R).reverse.length : Int) - 1).toNat = R.length := by omega
          have q3 : (6 :: R).reverse.take R.length = R.reverse := by
            have := List.take_left (l₁ := R.reverse) (l₂ := [6])
            rw [List.length_reverse] at this
            rw [List.reverse_cons]; exact this
          rw [e1, q2, q3]
          refine ⟨inR_of (by omega) (by omega), ⟨by omega, by omega⟩, by omega, inR_of (by omega) (by omega), ?_⟩
          simp only [J_expr_reader_take_j1, wkr,wk,if_true,if_false,forall_const,implies_true,ne_eq,eq_self,Nat.reduceEqDiff,Nat.reduceAdd,Nat.reduceMul,Nat.reduceSub,Nat.reduceLeDiff,Nat.reduceLT,Int.reduceEq,Int.reduceLT,Int.reduceLE,Int.reduceAdd,Int.reduceSub,Int.reduceMul,Int.reduceNeg,Int.reduceNe,reduceCtorEq,Int.reduceToNat,↓reduceIte]
          rw [hset, rob_eq ⟨out ++ (popL 1 w).map sgn, R, n - 1, true⟩ rfl rfl rfl (by show (n : Int) - 1 = ((n - 1 : Nat) : Int); omega) rfl, g1, g2]
          exact trimR rfl
      · have e7 : (kd = 7) = False := by simpa using k7
        refine ACalls.trim (acalls_of mixed J_expr_reader_take_ok (Nat.le_of_ble_eq_true rfl) ?_); simp only [J_expr_reader_take, ho1, hbx, e2, e3, e4, e5, wkr,wk,if_true,if_false,forall_const,implies_true,ne_eq,eq_self,Nat.reduceEqDiff,Nat.reduceAdd,Nat.reduceMul,Nat.reduceSub,Nat.reduceLeDiff,Nat.reduceLT,Int.reduceEq,Int.reduceLT,Int.reduceLE,Int.reduceAdd,Int.reduceSub,Int.reduceMul,Int.reduceNeg,Int.reduceNe,reduceCtorEq,Int.reduceToNat,↓reduceIte]
        simp only [J_expr_reader_take_j2, ho1, hbx, e7, wkr,wk,if_true,if_false,forall_const,implies_true,ne_eq,eq_self,Nat.reduceEqDiff,Nat.reduceAdd,Nat.reduceMul,Nat.reduceSub,Nat.reduceLeDiff,Nat.reduceLT,Int.reduceEq,Int.reduceLT,Int.reduceLE,Int.reduceAdd,Int.reduceSub,Int.reduceMul,Int.reduceNeg,Int.reduceNe,reduceCtorEq,Int.reduceToNat,↓reduceIte]
        exact trimR0 ho (take_inl (by unfold takeR; rw [if_neg (by simp), if_neg hk, if_neg k7]))
end Go.Proofs.Ytmbijfcjfhdnjaa

/- Expressions: Read. -/
-- fast
-- rows
namespace Go.Proofs.Ytmbijfcjfhdnjaa
set_option linter.unusedSimpArgs false
set_option linter.unusedVariables false
open Go.RowKit Go.Lib

/-- may a token be written? -/
def wdB (t : Tok) : Bool := !decide (wordT t.kind t.name t.of = ⟨#[]⟩)
def resX (r : List Trm × Nat × Int) : AV := .tup [vTrs r.1, .int .i64 r.2.1, .int .i64 r.2.2]
theorem free_resX (r : List Trm × Nat × Int) : free (resX r) = true := by simp [resX, vTrs, free, free.frees, frees_trs]
theorem rdps_trs : ∀ l : List Trm, rdps (trsC l) = trsC l
  | [] => rdps_nil
  | x :: l => by
    have := rdps_trs l
    simp only [trsC, List.flatMap_cons, trC, List.cons_append, List.nil_append, rdpw] at this ⊢
    rw [this]
theorem take_size {r r' : Rdr} {t : Tok} (h : takeR r t = .inr r') : r'.out.length + r'.w.length ≤ r.out.length + r.w.length + 1 := by
  have key : ∀ m, (popL m r.w).length + (popR m r.w).length = r.w.length := fun m => by
    rw [← List.length_append, popL, popR, List.takeWhile_append_dropWhile]
  unfold takeR at h
  split at h
  · split at h
    · split at h
      · cases h
      · simp only [Sum.inr.injEq] at h; subst h; simp; omega
    · split at h
      · split at h
        · cases h
        · simp only [Sum.inr.injEq] at h; subst h; simp; omega
      · cases h
  · split at h
    · simp only [Sum.inr.injEq] at h; subst h
      have := key (bindK t.kind)
      simp only [List.length_append, List.length_map, List.length_cons]; omega
    · split at h
      · split at h
        · cases h
        · simp only [Sum.inr.injEq] at h; subst h
          have := key 1
          simp only [List.length_append, List.length_map, List.length_tail]; omega
      · cases h
theorem rcnt_le {r : Rdr} (h : rcnt r) : r.opn ≤ r.w.length := by rw [← h.1]; exact List.count_le_length
set_option maxRecDepth 100000 in
set_option maxHeartbeats 4000000 in
theorem p_read (l : List Tok) (hl : l.length ≤ 5000) (hn : ∀ t ∈ l, t.name.size ≤ 1000000) : PCalls Try.prog 19 [vToks l] (resX (readR wdB l)) := by
  refine pcalls_of (by simp [vToks, free, free.frees, frees_toks]) (free_resX _) (ACalls.deep (acalls_of mixed J_expr_Read_ok (Nat.le_of_ble_eq_true rfl) ?_)); simp only [J_expr_Read, vToks, wkr,wk,if_true,if_false,forall_const,implies_true,ne_eq,eq_self,Nat.reduceEqDiff,Nat.reduceAdd,Nat.reduceMul,Nat.reduceSub,Nat.reduceLeDiff,Nat.reduceLT,Int.reduceEq,Int.reduceLT,Int.reduceLE,Int.reduceAdd,Int.reduceSub,Int.reduceMul,Int.reduceNeg,Int.reduceNe,reduceCtorEq,Int.reduceToNat,↓reduceIte]
  refine W_loop (fun m fr h' => ∃ i : Nat, i ≤ l.length ∧ m = l.length - i ∧ (∀ j (hj : j < l.length), j < i → wdB l[j] = true) ∧ fr = [(0, .lst .ro l.length (toksC l)), (11, .lst .ro l.length (toksC l)), (12, .int .i64 l.length), (13, .int .i64 i)]) l.length ⟨0, by omega, by omega, fun j _ h => by omega, rfl⟩ ?_
  rintro m fr h' ⟨i, hi, rfl, hw, rfl⟩
  simp only [J_expr_Read_j4, wkr,wk,if_true,if_false,forall_const,implies_true,ne_eq,eq_self,Nat.reduceEqDiff,Nat.reduceAdd,Nat.reduceMul,Nat.reduceSub,Nat.reduceLeDiff,Nat.reduceLT,Int.reduceEq,Int.reduceLT,Int.reduceLE,Int.reduceAdd,Int.reduceSub,Int.reduceMul,Int.reduceNeg,Int.reduceNe,reduceCtorEq,Int.reduceToNat,↓reduceIte]
  refine ⟨fun hlt => ?_, fun hge => ?_⟩
  · have hil : i < l.length := by omega
    have hd : (toksC l).drop ((i : Int).toNat * 4) = _ := toksC_drop hil
    have qw := p_word l[i].kind l[i].name l[i].of l[i].at_ (hn _ (List.getElem_mem hil))
    refine ⟨⟨by omega, by omega⟩, ?_⟩
    simp only [wkr,wk,if_true,if_false,forall_const,implies_true,ne_eq,eq_self,Nat.reduceEqDiff,Nat.reduceAdd,Nat.reduceMul,Nat.reduceSub,Nat.reduceLeDiff,Nat.reduceLT,Int.reduceEq,Int.reduceLT,Int.reduceLE,Int.reduceAdd,Int.reduceSub,Int.reduceMul,Int.reduceNeg,Int.reduceNe,reduceCtorEq,Int.reduceToNat,↓reduceIte, hd]
    refine PCalls.use (qw) ?_; simp only [wkr,wk,if_true,if_false,forall_const,implies_true,ne_eq,eq_self,Nat.reduceEqDiff,Nat.reduceAdd,Nat.reduceMul,Nat.reduceSub,Nat.reduceLeDiff,Nat.reduceLT,Int.reduceEq,Int.reduceLT,Int.reduceLE,Int.reduceAdd,Int.reduceSub,Int.reduceMul,Int.reduceNeg,Int.reduceNe,reduceCtorEq,Int.reduceToNat,↓reduceIte]
    refine ⟨fun h0 => ?_, fun h0 => ⟨inR_of (by omega) (by omega), l.length - (i + 1), by omega, i + 1, by omega, rfl, fun j hj hji => ?_, rfl⟩⟩
    · have hf : l.findIdx? (fun t => !wdB t) = some i := by
        rw [List.findIdx?_eq_some_iff_getElem]
        refine ⟨hil, by simp [wdB, h0], fun j hj => ?_⟩
        rw [hw j (by omega) hj]; simp
      unfold readR
      rw [hf]
      simp only [rdpw, resX, vTrs]
      rfl
    · rcases Nat.lt_or_ge j i with h1 | h1
      · exact hw j hj h1
      · obtain rfl : j = i := by omega
        simpa [wdB] using h0
  · have hall : ∀ t ∈ l, wdB t = true := fun t ht => by
      obtain ⟨j, hj, rfl⟩ := List.mem_iff_getElem.1 ht
      exact hw j hj (by omega)
    have hr0 := runR_eq l 0 false ⟨[], [], 0, false⟩ (fun _ => by simp)
    rw [readR_acc hall]
    simp only [J_expr_Read_j3, wkr,wk,if_true,if_false,forall_const,implies_true,ne_eq,eq_self,Nat.reduceEqDiff,Nat.reduceAdd,Nat.reduceMul,Nat.reduceSub,Nat.reduceLeDiff,Nat.reduceLT,Int.reduceEq,Int.reduceLT,Int.reduceLE,Int.reduceAdd,Int.reduceSub,Int.reduceMul,Int.reduceNeg,Int.reduceNe,reduceCtorEq,Int.reduceToNat,↓reduceIte]
    obtain ⟨id, hid⟩ : ∃ id, id = h'.length := ⟨_, rfl⟩
    rw [← hid]
    refine W_loop (fun m fr h'' => ∃ (i : Nat) (r : Rdr), i ≤ l.length ∧ m = l.length - i ∧ runR 0 ⟨[], [], 0, false⟩ l = runR i r (l.drop i) ∧ rcnt r ∧ r.out.length + r.w.length ≤ i ∧ h''[id]? = some (rob none r) ∧ fr = [(0, .lst .ro l.length (toksC l)), (7, .ptr id 0), (23, .lst .ro l.length (toksC l)), (24, .int .i64 l.length), (25, .int .i64 i)]) l.length ⟨0, ⟨[], [], 0, false⟩, by omega, by omega, rfl, ⟨rfl, by simp⟩, by simp, by rw [hid]; exact boxE, rfl⟩ ?_
    rintro m fr h'' ⟨i2, r, hi2, rfl, hrun, hrc, hsz, hob, rfl⟩
    simp only [J_expr_Read_j2, wkr,wk,if_true,if_false,forall_const,implies_true,ne_eq,eq_self,Nat.reduceEqDiff,Nat.reduceAdd,Nat.reduceMul,Nat.reduceSub,Nat.reduceLeDiff,Nat.reduceLT,Int.reduceEq,Int.reduceLT,Int.reduceLE,Int.reduceAdd,Int.reduceSub,Int.reduceMul,Int.reduceNeg,Int.reduceNe,reduceCtorEq,Int.reduceToNat,↓reduceIte]
    refine ⟨fun hlt => ?_, fun hge2 => ?_⟩
    · have hil : i2 < l.length := by omega
      have hd : (toksC l).drop ((i2 : Int).toNat * 4) = _ := toksC_drop hil
      refine ⟨⟨by omega, by omega⟩, ?_⟩
      have htk := fun ex => a_take (t := l[i2]) (holdE hob ex) hrc (by omega) (by omega) (by have := rcnt_le hrc; omega)
      simp only [tC] at htk
      rw [List.drop_eq_getElem_cons hil] at hrun
      simp only [runR] at hrun
      simp only [wkr,wk,if_true,if_false,forall_const,implies_true,ne_eq,eq_self,Nat.reduceEqDiff,Nat.reduceAdd,Nat.reduceMul,Nat.reduceSub,Nat.reduceLeDiff,Nat.reduceLT,Int.reduceEq,Int.reduceLT,Int.reduceLE,Int.reduceAdd,Int.reduceSub,Int.reduceMul,Int.reduceNeg,Int.reduceNe,reduceCtorEq,Int.reduceToNat,↓reduceIte, hd]
      refine ACalls.use (htk _) ?_; rintro _ _ ⟨rfl, rfl⟩; simp only [wkr,wk,if_true,if_false,forall_const,implies_true,ne_eq,eq_self,Nat.reduceEqDiff,Nat.reduceAdd,Nat.reduceMul,Nat.reduceSub,Nat.reduceLeDiff,Nat.reduceLT,Int.reduceEq,Int.reduceLT,Int.reduceLE,Int.reduceAdd,Int.reduceSub,Int.reduceMul,Int.reduceNeg,Int.reduceNe,reduceCtorEq,Int.reduceToNat,↓reduceIte]
      cases ht : takeR r l[i2] with
      | inl e =>
        rw [ht] at hrun
        simp only at hrun
        rw [hrun] at hr0
        obtain ⟨g1, g2⟩ := take_inl ht
        rw [g1]
        cases hc : ctlE 100 0 false 0 false l with
        | inr y => rw [hc] at hr0; cases hr0
        | inl y =>
          rw [hc] at hr0
          simp only [Sum.inl.injEq] at hr0
          subst hr0
          obtain ⟨_, _, he⟩ := ctlE_lt _ _ _ _ _ _ _ hc
          refine ⟨fun h0 => ?_, fun h0 => absurd h0 (by omega)⟩
          simp only [rdpw, resX, vTrs]
          rfl
      | inr r' =>
        rw [ht] at hrun
        simp only at hrun
        obtain ⟨g1, g2⟩ := take_inr ht
        rw [g1, g2]
        refine ⟨fun h => absurd rfl h, fun _ => ⟨inR_of (by omega) (by omega), l.length - (i2 + 1), by omega, i2 + 1, r', by omega, rfl, hrun, rcnt_take hrc ht, by have := take_size ht; omega, hset1 (holdE hob _) _, rfl⟩⟩
    · obtain rfl : i2 = l.length := by omega
      rw [List.drop_length] at hrun
      simp only [runR] at hrun
      rw [hrun] at hr0
      cases hc : ctlE 100 0 false 0 false l with
      | inl y => rw [hc] at hr0; cases hr0
      | inr y =>
        obtain ⟨b, n⟩ := y
        rw [hc] at hr0
        simp only [Sum.inr.injEq] at hr0
        obtain ⟨out, w, opn, beh⟩ := r
        simp only [Rdr.mk.injEq] at hr0
        obtain ⟨rfl, rfl, rfl, rfl⟩ := hr0
        have hla := a_lay (m := 1) hob (by decide) hrc.2 (by simp only at hsz ⊢; omega) (by simp only at hsz ⊢; omega)
        have hob2 := hset1 hob (rob none (layR 1 ⟨(srun l ([], [])).1, (srun l ([], [])).2, opn, beh⟩))
        simp only [rob, layR] at hla hob hob2
        have hrd : (srun l ([], [])).1 ++ (popL 1 (srun l ([], [])).2).map sgn = readD l := rfl
        rw [hrd] at hla hob2
        simp only [J_expr_Read_j1, hob, wkr,wk,if_true,if_false,forall_const,implies_true,ne_eq,eq_self,Nat.reduceEqDiff,Nat.reduceAdd,Nat.reduceMul,Nat.reduceSub,Nat.reduceLeDiff,Nat.reduceLT,Int.reduceEq,Int.reduceLT,Int.reduceLE,Int.reduceAdd,Int.reduceSub,Int.reduceMul,Int.reduceNeg,Int.reduceNe,reduceCtorEq,Int.reduceToNat,↓reduceIte]
        refine ⟨fun hb => ⟨fun h0 => ?_, fun h0 => ?_⟩, fun hb => ?_⟩
        · rw [if_pos (.inr (by omega))]
          simp only [rdpw, resX, vTrs]
          rfl
        · rw [if_neg (by rw [hb]; simp; omega)]
          refine ACalls.use (hla) ?_; rintro _ _ ⟨rfl, rfl⟩; simp only [wkr,wk,if_true,if_false,forall_const,implies_true,ne_eq,eq_self,Nat.reduceEqDiff,Nat.reduceAdd,Nat.reduceMul,Nat.reduceSub,Nat.reduceLeDiff,Nat.reduceLT,Int.reduceEq,Int.reduceLT,Int.reduceLE,Int.reduceAdd,Int.reduceSub,Int.reduceMul,Int.reduceNeg,Int.reduceNe,reduceCtorEq,Int.reduceToNat,↓reduceIte, hob2]
          refine ⟨fun h2 => ?_, fun h2 => ?_⟩
          · rw [if_pos (by omega)]
            simp only [rdpw, resX, vTrs]
            rfl
          · rw [if_neg (by omega)]
            simp only [rdpw, resX, vTrs, rdps_trs]
            rfl
        · rw [if_pos (.inl hb)]
          simp only [rdpw, resX, vTrs]
          rfl
end Go.Proofs.Ytmbijfcjfhdnjaa

/- Expressions: the document's Read. -/
-- fast
-- rows
namespace Go.Proofs.Ytmbijfcjfhdnjaa
set_option linter.unusedSimpArgs false
set_option linter.unusedVariables false
open Go.RowKit Go.Lib

/-- where tokens are wrong, and why -/
def checkR (wd : Tok → Bool) (l : List Tok) : Nat × Int :=
  match l.findIdx? (fun t => !wd t) with
  | some i => (i, 2)
  | none => match ctlE 100 0 false 0 false l with
    | .inl (i, e) => (i, e)
    | .inr (b, n) => if b = false ∨ 0 < n then (l.length, 2) else (0, 0)
theorem checkR_acc {wd : Tok → Bool} {l : List Tok} (hw : ∀ t ∈ l, wd t = true) : checkR wd l = match ctlE 100 0 false 0 false l with
    | .inl (i, e) => (i, e)
    | .inr (b, n) => if b = false ∨ 0 < n then (l.length, 2) else (0, 0) := by
  unfold checkR
  rw [List.findIdx?_eq_none_iff.2 (by intro t ht; rw [hw t ht]; rfl)]
/-- is the token ahead a sign of a role? -/
def asA (l : List Tok) : Nat → Bool
  | 0 => false
  | j + 1 => (l[j]?).elim false fun t => decide (t.kind = 5)
theorem asA_succ {l : List Tok} {i : Nat} (h : i < l.length) : asA l (i + 1) = decide (l[i].kind = 5) := by
  simp [asA, List.getElem?_eq_getElem h]
theorem eqTrue {p : Prop} (h : p) : p = True := eq_true h
theorem eqFalse {p : Prop} (h : ¬ p) : p = False := eq_false h
set_option maxRecDepth 100000 in
set_option maxHeartbeats 8000000 in
theorem p_check (l : List Tok) (hl : l.length ≤ 5000) (hn : ∀ t ∈ l, t.name.size ≤ 1000000) : PCalls Try.prog 40 [vToks l] (.tup [.int .i64 (checkR wdB l).1, .int .i64 (checkR wdB l).2]) := by
  refine pcalls_of (by simp [vToks, free, free.frees, frees_toks]) rfl (acalls_of mixed J_ref05_check_ok (Nat.le_of_ble_eq_true rfl) ?_); simp only [J_ref05_check, vToks, wkr,wk,if_true,if_false,forall_const,implies_true,ne_eq,eq_self,Nat.reduceEqDiff,Nat.reduceAdd,Nat.reduceMul,Nat.reduceSub,Nat.reduceLeDiff,Nat.reduceLT,Int.reduceEq,Int.reduceLT,Int.reduceLE,Int.reduceAdd,Int.reduceSub,Int.reduceMul,Int.reduceNeg,Int.reduceNe,reduceCtorEq,Int.reduceToNat,↓reduceIte]
  refine W_loop (fun m fr h' => ∃ i : Nat, i ≤ l.length ∧ m = l.length - i ∧ (∀ j (hj : j < l.length), j < i → wdB l[j] = true) ∧ fr = [(0, .lst .ro l.length (toksC l)), (4, .int .i64 i)]) l.length ⟨0, by omega, by omega, fun j _ h => by omega, rfl⟩ ?_
  rintro m fr h' ⟨i, hi, rfl, hw, rfl⟩
  simp only [J_ref05_check_j5, wkr,wk,if_true,if_false,forall_const,implies_true,ne_eq,eq_self,Nat.reduceEqDiff,Nat.reduceAdd,Nat.reduceMul,Nat.reduceSub,Nat.reduceLeDiff,Nat.reduceLT,Int.reduceEq,Int.reduceLT,Int.reduceLE,Int.reduceAdd,Int.reduceSub,Int.reduceMul,Int.reduceNeg,Int.reduceNe,reduceCtorEq,Int.reduceToNat,↓reduceIte]
  refine ⟨fun hlt => ?_, fun hge => ?_⟩
  · have hil : i < l.length := by omega
    have hd : (toksC l).drop ((i : Int).toNat * 4) = _ := toksC_drop hil
    have qw := p_rword04 l[i].kind l[i].name l[i].of l[i].at_ (hn _ (List.getElem_mem hil))
    refine ⟨⟨by omega, by omega⟩, ?_⟩
    simp only [wkr,wk,if_true,if_false,forall_const,implies_true,ne_eq,eq_self,Nat.reduceEqDiff,Nat.reduceAdd,Nat.reduceMul,Nat.reduceSub,Nat.reduceLeDiff,Nat.reduceLT,Int.reduceEq,Int.reduceLT,Int.reduceLE,Int.reduceAdd,Int.reduceSub,Int.reduceMul,Int.reduceNeg,Int.reduceNe,reduceCtorEq,Int.reduceToNat,↓reduceIte, hd]
    refine PCalls.use (qw) ?_; simp only [wkr,wk,if_true,if_false,forall_const,implies_true,ne_eq,eq_self,Nat.reduceEqDiff,Nat.reduceAdd,Nat.reduceMul,Nat.reduceSub,Nat.reduceLeDiff,Nat.reduceLT,Int.reduceEq,Int.reduceLT,Int.reduceLE,Int.reduceAdd,Int.reduceSub,Int.reduceMul,Int.reduceNeg,Int.reduceNe,reduceCtorEq,Int.reduceToNat,↓reduceIte]
    refine ⟨fun h0 => ?_, fun h0 => ⟨inR_of (by omega) (by omega), l.length - (i + 1), by omega, i + 1, by omega, rfl, fun j hj hji => ?_, rfl⟩⟩
    · have hf : l.findIdx? (fun t => !wdB t) = some i := by
        rw [List.findIdx?_eq_some_iff_getElem]
        refine ⟨hil, by simp [wdB, h0], fun j hj => ?_⟩
        rw [hw j (by omega) hj]; simp
      unfold checkR
      rw [hf]
    · rcases Nat.lt_or_ge j i with h1 | h1
      · exact hw j hj h1
      · obtain rfl : j = i := by omega
        simpa [wdB] using h0
  · have hall : ∀ t ∈ l, wdB t = true := fun t ht => by
      obtain ⟨j, hj, rfl⟩ := List.mem_iff_getElem.1 ht
      exact hw j hj (by omega)
    rw [checkR_acc hall]
    simp only [J_ref05_check_j4, wkr,wk,if_true,if_false,forall_const,implies_true,ne_eq,eq_self,Nat.reduceEqDiff,Nat.reduceAdd,Nat.reduceMul,Nat.reduceSub,Nat.reduceLeDiff,Nat.reduceLT,Int.reduceEq,Int.reduceLT,Int.reduceLE,Int.reduceAdd,Int.reduceSub,Int.reduceMul,Int.reduceNeg,Int.reduceNe,reduceCtorEq,Int.reduceToNat,↓reduceIte]
    refine W_loop (fun m fr h'' => ∃ (i : Nat) (b : Bool) (n : Nat), i ≤ l.length ∧ m = l.length - i ∧ n ≤ i ∧ ctlE 100 0 false 0 false l = ctlE 100 i b n (asA l i) (l.drop i) ∧ fr = [(0, .lst .ro l.length (toksC l)), (5, .bool b), (6, .int .i64 n), (7, .int .i64 i)]) l.length ⟨0, false, 0, by omega, by omega, by omega, rfl, rfl⟩ ?_
    rintro m fr h'' ⟨i2, b, n, hi2, rfl, hni, hrun, rfl⟩
    simp only [J_ref05_check_j3, wkr,wk,if_true,if_false,forall_const,implies_true,ne_eq,eq_self,Nat.reduceEqDiff,Nat.reduceAdd,Nat.reduceMul,Nat.reduceSub,Nat.reduceLeDiff,Nat.reduceLT,Int.reduceEq,Int.reduceLT,Int.reduceLE,Int.reduceAdd,Int.reduceSub,Int.reduceMul,Int.reduceNeg,Int.reduceNe,reduceCtorEq,Int.reduceToNat,↓reduceIte]
    refine ⟨fun hlt => ?_, fun hge2 => ?_⟩
    · have hil : i2 < l.length := by omega
      have hd : (toksC l).drop ((i2 : Int).toNat * 4) = _ := toksC_drop hil
      refine ⟨⟨by omega, by omega⟩, ?_⟩
      rw [List.drop_eq_getElem_cons hil] at hrun
      simp only [ctlE] at hrun
      have nxt : ∀ (b' : Bool) (n' : Nat), cstep 100 b n (asA l i2) l[i2] = some (b', n') → n' ≤ i2 + 1 → inR ((i2 : Int) + 1) ∧ ∃ m, m < l.length - i2 ∧ ∃ (i' : Nat) (b'' : Bool) (n'' : Nat), i' ≤ l.length ∧ m = l.length - i' ∧ n'' ≤ i' ∧ ctlE 100 0 false 0 false l = ctlE 100 i' b'' n'' (asA l i') (l.drop i') ∧ [(0, AV.lst .ro l.length (toksC l)), (5, .bool b'), (6, .int .i64 n'), (7, .int .i64 ((i2 : Int) + 1))] = [(0, .lst .ro l.length (toksC l)), (5, .bool b''), (6, .int .i64 n''), (7, .int .i64 i')] := fun b' n' hc hn' => by
        rw [hc] at hrun
        simp only [← asA_succ hil] at hrun
        exact ⟨inR_of (by omega) (by omega), l.length - (i2 + 1), by omega, i2 + 1, b', n', by omega, rfl, hn', hrun, rfl⟩
      have err : ∀ e : Int, cstep 100 b n (asA l i2) l[i2] = none → (if b = false ∧ l[i2].kind = 6 ∧ asA l i2 = false then (3 : Int) else 2) = e → AV.tup [.int .i64 i2, .int .i64 e] = .tup [.int .i64 (match ctlE 100 0 false 0 false l with | .inl (i, e) => (i, e) | .inr (b, n) => if b = false ∨ 0 < n then (l.length, 2) else (0, 0)).1, .int .i64 (match ctlE 100 0 false 0 false l with | .inl (i, e) => (i, e) | .inr (b, n) => if b = false ∨ 0 < n then (l.length, 2) else (0, 0)).2] := fun e hc he => by
        rw [hc] at hrun
        rw [hrun]
        simp only [he]
      cases i2 with
      | zero =>
        have hA : asA l 0 = false := rfl
        cases b with
        | false =>
          by_cases k1 : l[0].kind = 1
          · have hx := nxt true n (by unfold cstep; rw [if_pos rfl, if_pos ⟨k1, .inl hA⟩]) (by omega)
            simp only [wkr,wk,if_true,if_false,forall_const,implies_true,ne_eq,eq_self,Nat.reduceEqDiff,Nat.reduceAdd,Nat.reduceMul,Nat.reduceSub,Nat.reduceLeDiff,Nat.reduceLT,Int.reduceEq,Int.reduceLT,Int.reduceLE,Int.reduceAdd,Int.reduceSub,Int.reduceMul,Int.reduceNeg,Int.reduceNe,reduceCtorEq,Int.reduceToNat,↓reduceIte, J_ref05_check_j2, hd, (show ((0 : Int) < ((0 : Nat) : Int)) = False by simp), eqTrue k1]
            exact hx
          · by_cases k6 : l[0].kind = 6
            · by_cases kn : n = 100
              · have hx := err 3 (by unfold cstep; rw [if_pos rfl, if_neg (fun h => k1 h.1), if_pos ⟨k6, hA⟩, if_pos kn]) (by rw [if_pos ⟨rfl, k6, hA⟩])
                simp only [wkr,wk,if_true,if_false,forall_const,implies_true,ne_eq,eq_self,Nat.reduceEqDiff,Nat.reduceAdd,Nat.reduceMul,Nat.reduceSub,Nat.reduceLeDiff,Nat.reduceLT,Int.reduceEq,Int.reduceLT,Int.reduceLE,Int.reduceAdd,Int.reduceSub,Int.reduceMul,Int.reduceNeg,Int.reduceNe,reduceCtorEq,Int.reduceToNat,↓reduceIte, J_ref05_check_j2, hd, (show ((0 : Int) < ((0 : Nat) : Int)) = False by simp), eqFalse k1, eqTrue k6, (show ((n : Int) = 100) = True by simp; omega)]
                exact hx
              · have hx := nxt false (n + 1) (by unfold cstep; rw [if_pos rfl, if_neg (fun h => k1 h.1), if_pos ⟨k6, hA⟩, if_neg kn]) (by omega)
                simp only [wkr,wk,if_true,if_false,forall_const,implies_true,ne_eq,eq_self,Nat.reduceEqDiff,Nat.reduceAdd,Nat.reduceMul,Nat.reduceSub,Nat.reduceLeDiff,Nat.reduceLT,Int.reduceEq,Int.reduceLT,Int.reduceLE,Int.reduceAdd,Int.reduceSub,Int.reduceMul,Int.reduceNeg,Int.reduceNe,reduceCtorEq,Int.reduceToNat,↓reduceIte, J_ref05_check_j2, hd, (show ((0 : Int) < ((0 : Nat) : Int)) = False by simp), eqFalse k1, eqTrue k6, (show ((n : Int) = 100) = False by simp; omega)]
                exact ⟨inR_of (by omega) (by omega), hx⟩
            · have hx := err 2 (by unfold cstep; rw [if_pos rfl, if_neg (fun h => k1 h.1), if_neg (fun h => k6 h.1)]) (by rw [if_neg (fun h => k6 h.2.1)])
              simp only [wkr,wk,if_true,if_false,forall_const,implies_true,ne_eq,eq_self,Nat.reduceEqDiff,Nat.reduceAdd,Nat.reduceMul,Nat.reduceSub,Nat.reduceLeDiff,Nat.reduceLT,Int.reduceEq,Int.reduceLT,Int.reduceLE,Int.reduceAdd,Int.reduceSub,Int.reduceMul,Int.reduceNeg,Int.reduceNe,reduceCtorEq,Int.reduceToNat,↓reduceIte, J_ref05_check_j2, hd, (show ((0 : Int) < ((0 : Nat) : Int)) = False by simp), eqFalse k1, eqFalse k6]
              exact hx
        | true =>
          by_cases k7 : l[0].kind = 7
          · by_cases kn : 0 < n
            · have hx := nxt true (n - 1) (by unfold cstep; rw [if_neg (by simp), if_pos k7, if_pos kn]) (by omega)
              simp only [wkr,wk,if_true,if_false,forall_const,implies_true,ne_eq,eq_self,Nat.reduceEqDiff,Nat.reduceAdd,Nat.reduceMul,Nat.reduceSub,Nat.reduceLeDiff,Nat.reduceLT,Int.reduceEq,Int.reduceLT,Int.reduceLE,Int.reduceAdd,Int.reduceSub,Int.reduceMul,Int.reduceNeg,Int.reduceNe,reduceCtorEq,Int.reduceToNat,↓reduceIte, J_ref05_check_j2, hd, (show ((0 : Int) < ((0 : Nat) : Int)) = False by simp), eqTrue k7, (show ((0 : Int) < (n : Int)) = True by simp; omega)]
              rw [show ((n : Int) - 1) = ((n - 1 : Nat) : Int) by omega]
              exact ⟨inR_of (by omega) (by omega), hx⟩
            · have hx := err 2 (by unfold cstep; rw [if_neg (by simp), if_pos k7, if_neg kn]) (by rw [if_neg (by simp)])
              simp only [wkr,wk,if_true,if_false,forall_const,implies_true,ne_eq,eq_self,Nat.reduceEqDiff,Nat.reduceAdd,Nat.reduceMul,Nat.reduceSub,Nat.reduceLeDiff,Nat.reduceLT,Int.reduceEq,Int.reduceLT,Int.reduceLE,Int.reduceAdd,Int.reduceSub,Int.reduceMul,Int.reduceNeg,Int.reduceNe,reduceCtorEq,Int.reduceToNat,↓reduceIte, J_ref05_check_j2, hd, (show ((0 : Int) < ((0 : Nat) : Int)) = False by simp), eqTrue k7, (show ((0 : Int) < (n : Int)) = False by simp; omega)]
              refine PCalls.use (p_binds _) ?_; simp only [wkr,wk,if_true,if_false,forall_const,implies_true,ne_eq,eq_self,Nat.reduceEqDiff,Nat.reduceAdd,Nat.reduceMul,Nat.reduceSub,Nat.reduceLeDiff,Nat.reduceLT,Int.reduceEq,Int.reduceLT,Int.reduceLE,Int.reduceAdd,Int.reduceSub,Int.reduceMul,Int.reduceNeg,Int.reduceNe,reduceCtorEq,Int.reduceToNat,↓reduceIte]
              simp only [wkr,wk,if_true,if_false,forall_const,implies_true,ne_eq,eq_self,Nat.reduceEqDiff,Nat.reduceAdd,Nat.reduceMul,Nat.reduceSub,Nat.reduceLeDiff,Nat.reduceLT,Int.reduceEq,Int.reduceLT,Int.reduceLE,Int.reduceAdd,Int.reduceSub,Int.reduceMul,Int.reduceNeg,Int.reduceNe,reduceCtorEq,Int.reduceToNat,↓reduceIte, (show bindK l[0].kind = 0 by rw [k7]; rfl)]
              exact hx
          · by_cases kb : (0 : Int) < bindK l[0].kind
            · have hx := nxt false n (by unfold cstep; rw [if_neg (by simp), if_neg k7, if_pos kb]) (by omega)
              simp only [wkr,wk,if_true,if_false,forall_const,implies_true,ne_eq,eq_self,Nat.reduceEqDiff,Nat.reduceAdd,Nat.reduceMul,Nat.reduceSub,Nat.reduceLeDiff,Nat.reduceLT,Int.reduceEq,Int.reduceLT,Int.reduceLE,Int.reduceAdd,Int.reduceSub,Int.reduceMul,Int.reduceNeg,Int.reduceNe,reduceCtorEq,Int.reduceToNat,↓reduceIte, J_ref05_check_j2, hd, (show ((0 : Int) < ((0 : Nat) : Int)) = False by simp), eqFalse k7]
              refine PCalls.use (p_binds _) ?_; simp only [wkr,wk,if_true,if_false,forall_const,implies_true,ne_eq,eq_self,Nat.reduceEqDiff,Nat.reduceAdd,Nat.reduceMul,Nat.reduceSub,Nat.reduceLeDiff,Nat.reduceLT,Int.reduceEq,Int.reduceLT,Int.reduceLE,Int.reduceAdd,Int.reduceSub,Int.reduceMul,Int.reduceNeg,Int.reduceNe,reduceCtorEq,Int.reduceToNat,↓reduceIte]
              simp only [wkr,wk,if_true,if_false,forall_const,implies_true,ne_eq,eq_self,Nat.reduceEqDiff,Nat.reduceAdd,Nat.reduceMul,Nat.reduceSub,Nat.reduceLeDiff,Nat.reduceLT,Int.reduceEq,Int.reduceLT,Int.reduceLE,Int.reduceAdd,Int.reduceSub,Int.reduceMul,Int.reduceNeg,Int.reduceNe,reduceCtorEq,Int.reduceToNat,↓reduceIte, eqTrue kb]
              exact hx
            · have hx := err 2 (by unfold cstep; rw [if_neg (by simp), if_neg k7, if_neg kb]) (by rw [if_neg (by simp)])
              simp only [wkr,wk,if_true,if_false,forall_const,implies_true,ne_eq,eq_self,Nat.reduceEqDiff,Nat.reduceAdd,Nat.reduceMul,Nat.reduceSub,Nat.reduceLeDiff,Nat.reduceLT,Int.reduceEq,Int.reduceLT,Int.reduceLE,Int.reduceAdd,Int.reduceSub,Int.reduceMul,Int.reduceNeg,Int.reduceNe,reduceCtorEq,Int.reduceToNat,↓reduceIte, J_ref05_check_j2, hd, (show ((0 : Int) < ((0 : Nat) : Int)) = False by simp), eqFalse k7]
              refine PCalls.use (p_binds _) ?_; simp only [wkr,wk,if_true,if_false,forall_const,implies_true,ne_eq,eq_self,Nat.reduceEqDiff,Nat.reduceAdd,Nat.reduceMul,Nat.reduceSub,Nat.reduceLeDiff,Nat.reduceLT,Int.reduceEq,Int.reduceLT,Int.reduceLE,Int.reduceAdd,Int.reduceSub,Int.reduceMul,Int.reduceNeg,Int.reduceNe,reduceCtorEq,Int.reduceToNat,↓reduceIte]
              simp only [wkr,wk,if_true,if_false,forall_const,implies_true,ne_eq,eq_self,Nat.reduceEqDiff,Nat.reduceAdd,Nat.reduceMul,Nat.reduceSub,Nat.reduceLeDiff,Nat.reduceLT,Int.reduceEq,Int.reduceLT,Int.reduceLE,Int.reduceAdd,Int.reduceSub,Int.reduceMul,Int.reduceNeg,Int.reduceNe,reduceCtorEq,Int.reduceToNat,↓reduceIte, eqFalse kb]
              exact hx
      | succ j =>
        have hjl : j < l.length := by omega
        have hdj := toksC_drop hjl
        rw [show j * 4 = (((j + 1 : Nat) : Int) - 1).toNat * 4 by omega] at hdj
        have hp := asA_succ hjl
        have hj0 : ((0 : Int) < ((j + 1 : Nat) : Int)) = True := eqTrue (by omega)
        have hj1 : inR (((j + 1 : Nat) : Int) - 1) = True := eqTrue (inR_of (by omega) (by omega))
        have hj2 : ((0 : Int) ≤ ((j + 1 : Nat) : Int) - 1) = True := eqTrue (by omega)
        have hj3 : (((j + 1 : Nat) : Int) - 1 < (l.length : Int)) = True := eqTrue (by omega)
        by_cases h5 : l[j].kind = 5
        · have hA : asA l (j + 1) = true := by rw [hp]; simp [h5]
          cases b with
          | false =>
            by_cases k1 : l[j + 1].kind = 1
            · by_cases k5 : l[j + 1].of = 5
              · have hx := nxt true n (by unfold cstep; rw [if_pos rfl, if_pos ⟨k1, .inr k5⟩]) (by omega)
                simp only [wkr,wk,if_true,if_false,forall_const,implies_true,ne_eq,eq_self,Nat.reduceEqDiff,Nat.reduceAdd,Nat.reduceMul,Nat.reduceSub,Nat.reduceLeDiff,Nat.reduceLT,Int.reduceEq,Int.reduceLT,Int.reduceLE,Int.reduceAdd,Int.reduceSub,Int.reduceMul,Int.reduceNeg,Int.reduceNe,reduceCtorEq,Int.reduceToNat,↓reduceIte, J_ref05_check_j2, hd, hj0, hj1, hj2, hj3, hdj, eqTrue h5, eqTrue k1, eqTrue k5]
                exact hx
              · have hx := err 2 (by unfold cstep; rw [if_pos rfl, if_neg (by rintro ⟨_, h | h⟩; rw [hA] at h; cases h; exact k5 h), if_neg (by omega)]) (by rw [if_neg (by omega)])
                simp only [wkr,wk,if_true,if_false,forall_const,implies_true,ne_eq,eq_self,Nat.reduceEqDiff,Nat.reduceAdd,Nat.reduceMul,Nat.reduceSub,Nat.reduceLeDiff,Nat.reduceLT,Int.reduceEq,Int.reduceLT,Int.reduceLE,Int.reduceAdd,Int.reduceSub,Int.reduceMul,Int.reduceNeg,Int.reduceNe,reduceCtorEq,Int.reduceToNat,↓reduceIte, J_ref05_check_j2, hd, hj0, hj1, hj2, hj3, hdj, eqTrue h5, eqTrue k1, eqFalse k5, (show (l[j + 1].kind = 6) = False by simp; omega)]
                exact hx
            · have hx := err 2 (by unfold cstep; rw [if_pos rfl, if_neg (fun h => k1 h.1), if_neg (by rintro ⟨_, h⟩; rw [hA] at h; cases h)]) (by rw [if_neg (by rintro ⟨_, _, h⟩; rw [hA] at h; cases h)])
              by_cases k6 : l[j + 1].kind = 6
              · simp only [wkr,wk,if_true,if_false,forall_const,implies_true,ne_eq,eq_self,Nat.reduceEqDiff,Nat.reduceAdd,Nat.reduceMul,Nat.reduceSub,Nat.reduceLeDiff,Nat.reduceLT,Int.reduceEq,Int.reduceLT,Int.reduceLE,Int.reduceAdd,Int.reduceSub,Int.reduceMul,Int.reduceNeg,Int.reduceNe,reduceCtorEq,Int.reduceToNat,↓reduceIte, J_ref05_check_j2, hd, hj0, hj1, hj2, hj3, hdj, eqTrue h5, eqFalse k1, eqTrue k6]
                exact hx
              · simp only [wkr,wk,if_true,if_false,forall_const,implies_true,ne_eq,eq_self,Nat.reduceEqDiff,Nat.reduceAdd,Nat.reduceMul,Nat.reduceSub,Nat.reduceLeDiff,Nat.reduceLT,Int.reduceEq,Int.reduceLT,Int.reduceLE,Int.reduceAdd,Int.reduceSub,Int.reduceMul,Int.reduceNeg,Int.reduceNe,reduceCtorEq,Int.reduceToNat,↓reduceIte, J_ref05_check_j2, hd, hj0, hj1, hj2, hj3, hdj, eqTrue h5, eqFalse k1, eqFalse k6]
                exact hx
          | true =>
            by_cases k7 : l[j + 1].kind = 7
            · by_cases kn : 0 < n
              · have hx := nxt true (n - 1) (by unfold cstep; rw [if_neg (by simp), if_pos k7, if_pos kn]) (by omega)
                simp only [wkr,wk,if_true,if_false,forall_const,implies_true,ne_eq,eq_self,Nat.reduceEqDiff,Nat.reduceAdd,Nat.reduceMul,Nat.reduceSub,Nat.reduceLeDiff,Nat.reduceLT,Int.reduceEq,Int.reduceLT,Int.reduceLE,Int.reduceAdd,Int.reduceSub,Int.reduceMul,Int.reduceNeg,Int.reduceNe,reduceCtorEq,Int.reduceToNat,↓reduceIte, J_ref05_check_j2, hd, hj0, hj1, hj2, hj3, hdj, eqTrue h5, eqTrue k7, (show ((0 : Int) < (n : Int)) = True by simp; omega)]
                rw [show ((n : Int) - 1) = ((n - 1 : Nat) : Int) by omega]
                exact ⟨inR_of (by omega) (by omega), hx⟩
              · have hx := err 2 (by unfold cstep; rw [if_neg (by simp), if_pos k7, if_neg kn]) (by rw [if_neg (by simp)])
                simp only [wkr,wk,if_true,if_false,forall_const,implies_true,ne_eq,eq_self,Nat.reduceEqDiff,Nat.reduceAdd,Nat.reduceMul,Nat.reduceSub,Nat.reduceLeDiff,Nat.reduceLT,Int.reduceEq,Int.reduceLT,Int.reduceLE,Int.reduceAdd,Int.reduceSub,Int.reduceMul,Int.reduceNeg,Int.reduceNe,reduceCtorEq,Int.reduceToNat,↓reduceIte, J_ref05_check_j2, hd, hj0, hj1, hj2, hj3, hdj, eqTrue h5, eqTrue k7, (show ((0 : Int) < (n : Int)) = False by simp; omega)]
                refine PCalls.use (p_binds _) ?_; simp only [wkr,wk,if_true,if_false,forall_const,implies_true,ne_eq,eq_self,Nat.reduceEqDiff,Nat.reduceAdd,Nat.reduceMul,Nat.reduceSub,Nat.reduceLeDiff,Nat.reduceLT,Int.reduceEq,Int.reduceLT,Int.reduceLE,Int.reduceAdd,Int.reduceSub,Int.reduceMul,Int.reduceNeg,Int.reduceNe,reduceCtorEq,Int.reduceToNat,↓reduceIte]
                simp only [wkr,wk,if_true,if_false,forall_const,implies_true,ne_eq,eq_self,Nat.reduceEqDiff,Nat.reduceAdd,Nat.reduceMul,Nat.reduceSub,Nat.reduceLeDiff,Nat.reduceLT,Int.reduceEq,Int.reduceLT,Int.reduceLE,Int.reduceAdd,Int.reduceSub,Int.reduceMul,Int.reduceNeg,Int.reduceNe,reduceCtorEq,Int.reduceToNat,↓reduceIte, (show bindK l[j + 1].kind = 0 by rw [k7]; rfl)]
                exact hx
            · by_cases kb : (0 : Int) < bindK l[j + 1].kind
              · have hx := nxt false n (by unfold cstep; rw [if_neg (by simp), if_neg k7, if_pos kb]) (by omega)
                simp only [wkr,wk,if_true,if_false,forall_const,implies_true,ne_eq,eq_self,Nat.reduceEqDiff,Nat.reduceAdd,Nat.reduceMul,Nat.reduceSub,Nat.reduceLeDiff,Nat.reduceLT,Int.reduceEq,Int.reduceLT,Int.reduceLE,Int.reduceAdd,Int.reduceSub,Int.reduceMul,Int.reduceNeg,Int.reduceNe,reduceCtorEq,Int.reduceToNat,↓reduceIte, J_ref05_check_j2, hd, hj0, hj1, hj2, hj3, hdj, eqTrue h5, eqFalse k7]
                refine PCalls.use (p_binds _) ?_; simp only [wkr,wk,if_true,if_false,forall_const,implies_true,ne_eq,eq_self,Nat.reduceEqDiff,Nat.reduceAdd,Nat.reduceMul,Nat.reduceSub,Nat.reduceLeDiff,Nat.reduceLT,Int.reduceEq,Int.reduceLT,Int.reduceLE,Int.reduceAdd,Int.reduceSub,Int.reduceMul,Int.reduceNeg,Int.reduceNe,reduceCtorEq,Int.reduceToNat,↓reduceIte]
                simp only [wkr,wk,if_true,if_false,forall_const,implies_true,ne_eq,eq_self,Nat.reduceEqDiff,Nat.reduceAdd,Nat.reduceMul,Nat.reduceSub,Nat.reduceLeDiff,Nat.reduceLT,Int.reduceEq,Int.reduceLT,Int.reduceLE,Int.reduceAdd,Int.reduceSub,Int.reduceMul,Int.reduceNeg,Int.reduceNe,reduceCtorEq,Int.reduceToNat,↓reduceIte, eqTrue kb]
                exact hx
              · have hx := err 2 (by unfold cstep; rw [if_neg (by simp), if_neg k7, if_neg kb]) (by rw [if_neg (by simp)])
                simp only [wkr,wk,if_true,if_false,forall_const,implies_true,ne_eq,eq_self,Nat.reduceEqDiff,Nat.reduceAdd,Nat.reduceMul,Nat.reduceSub,Nat.reduceLeDiff,Nat.reduceLT,Int.reduceEq,Int.reduceLT,Int.reduceLE,Int.reduceAdd,Int.reduceSub,Int.reduceMul,Int.reduceNeg,Int.reduceNe,reduceCtorEq,Int.reduceToNat,↓reduceIte, J_ref05_check_j2, hd, hj0, hj1, hj2, hj3, hdj, eqTrue h5, eqFalse k7]
                refine PCalls.use (p_binds _) ?_; simp only [wkr,wk,if_true,if_false,forall_const,implies_true,ne_eq,eq_self,Nat.reduceEqDiff,Nat.reduceAdd,Nat.reduceMul,Nat.reduceSub,Nat.reduceLeDiff,Nat.reduceLT,Int.reduceEq,Int.reduceLT,Int.reduceLE,Int.reduceAdd,Int.reduceSub,Int.reduceMul,Int.reduceNeg,Int.reduceNe,reduceCtorEq,Int.reduceToNat,↓reduceIte]
                simp only [wkr,wk,if_true,if_false,forall_const,implies_true,ne_eq,eq_self,Nat.reduceEqDiff,Nat.reduceAdd,Nat.reduceMul,Nat.reduceSub,Nat.reduceLeDiff,Nat.reduceLT,Int.reduceEq,Int.reduceLT,Int.reduceLE,Int.reduceAdd,Int.reduceSub,Int.reduceMul,Int.reduceNeg,Int.reduceNe,reduceCtorEq,Int.reduceToNat,↓reduceIte, eqFalse kb]
                exact hx
        · have hA : asA l (j + 1) = false := by rw [hp]; simp [h5]
          cases b with
          | false =>
            by_cases k1 : l[j + 1].kind = 1
            · have hx := nxt true n (by unfold cstep; rw [if_pos rfl, if_pos ⟨k1, .inl hA⟩]) (by omega)
              simp only [wkr,wk,if_true,if_false,forall_const,implies_true,ne_eq,eq_self,Nat.reduceEqDiff,Nat.reduceAdd,Nat.reduceMul,Nat.reduceSub,Nat.reduceLeDiff,Nat.reduceLT,Int.reduceEq,Int.reduceLT,Int.reduceLE,Int.reduceAdd,Int.reduceSub,Int.reduceMul,Int.reduceNeg,Int.reduceNe,reduceCtorEq,Int.reduceToNat,↓reduceIte, J_ref05_check_j2, hd, hj0, hj1, hj2, hj3, hdj, eqFalse h5, eqTrue k1]
              exact hx
            · by_cases k6 : l[j + 1].kind = 6
              · by_cases kn : n = 100
                · have hx := err 3 (by unfold cstep; rw [if_pos rfl, if_neg (fun h => k1 h.1), if_pos ⟨k6, hA⟩, if_pos kn]) (by rw [if_pos ⟨rfl, k6, hA⟩])
                  simp only [wkr,wk,if_true,if_false,forall_const,implies_true,ne_eq,eq_self,Nat.reduceEqDiff,Nat.reduceAdd,Nat.reduceMul,Nat.reduceSub,Nat.reduceLeDiff,Nat.reduceLT,Int.reduceEq,Int.reduceLT,Int.reduceLE,Int.reduceAdd,Int.reduceSub,Int.reduceMul,Int.reduceNeg,Int.reduceNe,reduceCtorEq,Int.reduceToNat,↓reduceIte, J_ref05_check_j2, hd, hj0, hj1, hj2, hj3, hdj, eqFalse h5, eqFalse k1, eqTrue k6, (show ((n : Int) = 100) = True by simp; omega)]
                  exact hx
                · have hx := nxt false (n + 1) (by unfold cstep; rw [if_pos rfl, if_neg (fun h => k1 h.1), if_pos ⟨k6, hA⟩, if_neg kn]) (by omega)
                  simp only [wkr,wk,if_true,if_false,forall_const,implies_true,ne_eq,eq_self,Nat.reduceEqDiff,Nat.reduceAdd,Nat.reduceMul,Nat.reduceSub,Nat.reduceLeDiff,Nat.reduceLT,Int.reduceEq,Int.reduceLT,Int.reduceLE,Int.reduceAdd,Int.reduceSub,Int.reduceMul,Int.reduceNeg,Int.reduceNe,reduceCtorEq,Int.reduceToNat,↓reduceIte, J_ref05_check_j2, hd, hj0, hj1, hj2, hj3, hdj, eqFalse h5, eqFalse k1, eqTrue k6, (show ((n : Int) = 100) = False by simp; omega)]
                  exact ⟨inR_of (by omega) (by omega), hx⟩
              · have hx := err 2 (by unfold cstep; rw [if_pos rfl, if_neg (fun h => k1 h.1), if_neg (fun h => k6 h.1)]) (by rw [if_neg (fun h => k6 h.2.1)])
                simp only [wkr,wk,if_true,if_false,forall_const,implies_true,ne_eq,eq_self,Nat.reduceEqDiff,Nat.reduceAdd,Nat.reduceMul,Nat.reduceSub,Nat.reduceLeDiff,Nat.reduceLT,Int.reduceEq,Int.reduceLT,Int.reduceLE,Int.reduceAdd,Int.reduceSub,Int.reduceMul,Int.reduceNeg,Int.reduceNe,reduceCtorEq,Int.reduceToNat,↓reduceIte, J_ref05_check_j2, hd, hj0, hj1, hj2, hj3, hdj, eqFalse h5, eqFalse k1, eqFalse k6]
                exact hx
          | true =>
            by_cases k7 : l[j + 1].kind = 7
            · by_cases kn : 0 < n
              · have hx := nxt true (n - 1) (by unfold cstep; rw [if_neg (by simp), if_pos k7, if_pos kn]) (by omega)
                simp only [wkr,wk,if_true,if_false,forall_const,implies_true,ne_eq,eq_self,Nat.reduceEqDiff,Nat.reduceAdd,Nat.reduceMul,Nat.reduceSub,Nat.reduceLeDiff,Nat.reduceLT,Int.reduceEq,Int.reduceLT,Int.reduceLE,Int.reduceAdd,Int.reduceSub,Int.reduceMul,Int.reduceNeg,Int.reduceNe,reduceCtorEq,Int.reduceToNat,↓reduceIte, J_ref05_check_j2, hd, hj0, hj1, hj2, hj3, hdj, eqFalse h5, eqTrue k7, (show ((0 : Int) < (n : Int)) = True by simp; omega)]
                rw [show ((n : Int) - 1) = ((n - 1 : Nat) : Int) by omega]
                exact ⟨inR_of (by omega) (by omega), hx⟩
              · have hx := err 2 (by unfold cstep; rw [if_neg (by simp), if_pos k7, if_neg kn]) (by rw [if_neg (by simp)])
                simp only [wkr,wk,if_true,if_false,forall_const,implies_true,ne_eq,eq_self,Nat.reduceEqDiff,Nat.reduceAdd,Nat.reduceMul,Nat.reduceSub,Nat.reduceLeDiff,Nat.reduceLT,Int.reduceEq,Int.reduceLT,Int.reduceLE,Int.reduceAdd,Int.reduceSub,Int.reduceMul,Int.reduceNeg,Int.reduceNe,reduceCtorEq,Int.reduceToNat,↓reduceIte, J_ref05_check_j2, hd, hj0, hj1, hj2, hj3, hdj, eqFalse h5, eqTrue k7, (show ((0 : Int) < (n : Int)) = False by simp; omega)]
                refine PCalls.use (p_binds _) ?_; simp only [wkr,wk,if_true,if_false,forall_const,implies_true,ne_eq,eq_self,Nat.reduceEqDiff,Nat.reduceAdd,Nat.reduceMul,Nat.reduceSub,Nat.reduceLeDiff,Nat.reduceLT,Int.reduceEq,Int.reduceLT,Int.reduceLE,Int.reduceAdd,Int.reduceSub,Int.reduceMul,Int.reduceNeg,Int.reduceNe,reduceCtorEq,Int.reduceToNat,↓reduceIte]
                simp only [wkr,wk,if_true,if_false,forall_const,implies_true,ne_eq,eq_self,Nat.reduceEqDiff,Nat.reduceAdd,Nat.reduceMul,Nat.reduceSub,Nat.reduceLeDiff,Nat.reduceLT,Int.reduceEq,Int.reduceLT,Int.reduceLE,Int.reduceAdd,Int.reduceSub,Int.reduceMul,Int.reduceNeg,Int.reduceNe,reduceCtorEq,Int.reduceToNat,↓reduceIte, (show bindK l[j + 1].kind = 0 by rw [k7]; rfl)]
                exact hx
            · by_cases kb : (0 : Int) < bindK l[j + 1].kind
              · have hx := nxt false n (by unfold cstep; rw [if_neg (by simp), if_neg k7, if_pos kb]) (by omega)
                simp only [wkr,wk,if_true,if_false,forall_const,implies_true,ne_eq,eq_self,Nat.reduceEqDiff,Nat.reduceAdd,Nat.reduceMul,Nat.reduceSub,Nat.reduceLeDiff,Nat.reduceLT,Int.reduceEq,Int.reduceLT,Int.reduceLE,Int.reduceAdd,Int.reduceSub,Int.reduceMul,Int.reduceNeg,Int.reduceNe,reduceCtorEq,Int.reduceToNat,↓reduceIte, J_ref05_check_j2, hd, hj0, hj1, hj2, hj3, hdj, eqFalse h5, eqFalse k7]
                refine PCalls.use (p_binds _) ?_; simp only [wkr,wk,if_true,if_false,forall_const,implies_true,ne_eq,eq_self,Nat.reduceEqDiff,Nat.reduceAdd,Nat.reduceMul,Nat.reduceSub,Nat.reduceLeDiff,Nat.reduceLT,Int.reduceEq,Int.reduceLT,Int.reduceLE,Int.reduceAdd,Int.reduceSub,Int.reduceMul,Int.reduceNeg,Int.reduceNe,reduceCtorEq,Int.reduceToNat,↓reduceIte]
                simp only [wkr,wk,if_true,if_false,forall_const,implies_true,ne_eq,eq_self,Nat.reduceEqDiff,Nat.reduceAdd,Nat.reduceMul,Nat.reduceSub,Nat.reduceLeDiff,Nat.reduceLT,Int.reduceEq,Int.reduceLT,Int.reduceLE,Int.reduceAdd,Int.reduceSub,Int.reduceMul,Int.reduceNeg,Int.reduceNe,reduceCtorEq,Int.reduceToNat,↓reduceIte, eqTrue kb]
                exact hx
              · have hx := err 2 (by unfold cstep; rw [if_neg (by simp), if_neg k7, if_neg kb]) (by rw [if_neg (by simp)])
                simp only [wkr,wk,if_true,if_false,forall_const,implies_true,ne_eq,eq_self,Nat.reduceEqDiff,Nat.reduceAdd,Nat.reduceMul,Nat.reduceSub,Nat.reduceLeDiff,Nat.reduceLT,Int.reduceEq,Int.reduceLT,Int.reduceLE,Int.reduceAdd,Int.reduceSub,Int.reduceMul,Int.reduceNeg,Int.reduceNe,reduceCtorEq,Int.reduceToNat,↓reduceIte, J_ref05_check_j2, hd, hj0, hj1, hj2, hj3, hdj, eqFalse h5, eqFalse k7]
                refine PCalls.use (p_binds _) ?_; simp only [wkr,wk,if_true,if_false,forall_const,implies_true,ne_eq,eq_self,Nat.reduceEqDiff,Nat.reduceAdd,Nat.reduceMul,Nat.reduceSub,Nat.reduceLeDiff,Nat.reduceLT,Int.reduceEq,Int.reduceLT,Int.reduceLE,Int.reduceAdd,Int.reduceSub,Int.reduceMul,Int.reduceNeg,Int.reduceNe,reduceCtorEq,Int.reduceToNat,↓reduceIte]
                simp only [wkr,wk,if_true,if_false,forall_const,implies_true,ne_eq,eq_self,Nat.reduceEqDiff,Nat.reduceAdd,Nat.reduceMul,Nat.reduceSub,Nat.reduceLeDiff,Nat.reduceLT,Int.reduceEq,Int.reduceLT,Int.reduceLE,Int.reduceAdd,Int.reduceSub,Int.reduceMul,Int.reduceNeg,Int.reduceNe,reduceCtorEq,Int.reduceToNat,↓reduceIte, eqFalse kb]
                exact hx
    · obtain rfl : i2 = l.length := by omega
      rw [List.drop_length] at hrun
      simp only [ctlE] at hrun
      rw [hrun]
      simp only [J_ref05_check_j1, wkr,wk,if_true,if_false,forall_const,implies_true,ne_eq,eq_self,Nat.reduceEqDiff,Nat.reduceAdd,Nat.reduceMul,Nat.reduceSub,Nat.reduceLeDiff,Nat.reduceLT,Int.reduceEq,Int.reduceLT,Int.reduceLE,Int.reduceAdd,Int.reduceSub,Int.reduceMul,Int.reduceNeg,Int.reduceNe,reduceCtorEq,Int.reduceToNat,↓reduceIte]
      refine ⟨fun hb => ⟨fun h0 => ?_, fun h0 => ?_⟩, fun hb => ?_⟩
      · rw [if_pos (.inr (by omega))]
      · rw [if_neg (by rw [hb]; simp; omega)]; rfl
      · rw [if_pos (.inl hb)]
end Go.Proofs.Ytmbijfcjfhdnjaa
