/- Texts of one proof, laid together: FnE Al Ke Kf Ec Ed Ee Ef Eg Kg Kh Kj Kk Ay FnN St Sa. -/
import Derived.Test.YtedaffmkpljlnaaGreatProg
import Derived.Test.YtedaffmkpljlnaaGreatMC17
import Derived.Test.YtedaffmkpljlnaaGreatMC18
import Derived.Test.YtedaffmkpljlnaaGreatMC13
set_option maxRecDepth 100000
set_option maxHeartbeats 16000000

set_option linter.unusedSimpArgs false
set_option linter.unusedVariables false
namespace Go.Proofs.YtedaffmkpljlnaaGreat
open Go.RowKit
def J_expr_May : AFn :=
 ⟨11,[.t 2],.seq (.ops [Zo 2 (.mv (.c (.bool false)))])
 (.keep [0] (.seq (.ops [Zm 6 0,
 Zo 7 (.call (.f 51) [(.t 6)]),
 Zm 5 7,
 Zo 8 (.ext 0 (.t 5)),
 Zo 9 (.ext 1 (.t 5)),
 Zm 3 8,
 Zm 4 9])
 (.keep [4] (.seq (.ops [Zm 10 4,
 Zm 2 10])
 (.ret)))))⟩
theorem J_expr_May_ok : chkFn Tryz.prog 28 J_expr_May = true := by kernel_rfl
def J_expr_Parse : AFn :=
 ⟨45,[.t 2,.t 3,.t 4],.seq (.ops [Zo 2 (.mv (.c (.lst .clip 0 []))),
 Zo 3 (.mv (.c (.int .i64 0))),
 Zo 4 (.mv (.c (.int .i64 0)))])
 (.keep [0] (.seq (.ops [Zm 11 0,
 Zo 12 (.call (.f 61) [(.t 11)]),
 Zm 10 12,
 Zo 13 (.ext 0 (.t 10)),
 Zo 14 (.ext 1 (.t 10)),
 Zo 15 (.ext 2 (.t 10)),
 Zm 5 13,
 Zm 6 14,
 Zm 7 15])
 (.keep [0,5,6,7] (.seq (.seq (.ops [Zm 16 7,
 Zo 17 (.bin .neq (.t 16) (.c (.int .i64 0)))])
 (.keep [0,5,6,7,17] (.cond (.t 17)
 (.seq (.ops [Zm 18 6,
 Zm 19 7,
 Zo 2 (.mv (.c (.lst .clip 0 []))),
 Zm 3 18,
 Zm 4 19])
 (.ret))
 (.skip))))
 (.keep [0,5] (.seq (.ops [Zm 21 5,
 Zo 22 (.call (.f 62) [(.t 21)]),
 Zm 20 22,
 Zo 23 (.ext 0 (.t 20)),
 Zo 24 (.ext 1 (.t 20)),
 Zo 25 (.ext 2 (.t 20)),
 Zm 8 23,
 Zm 9 24,
 Zm 7 25])
 (.keep [0,5,7,8,9] (.seq (.seq (.ops [Zm 26 7,
 Zo 27 (.bin .eql (.t 26) (.c (.int .i64 0)))])
 (.keep [0,5,7,8,9,27] (.cond (.t 27)
 (.seq (.ops [Zm 28 8,
 Zm 2 28,
 Zo 3 (.mv (.c (.int .i64 0))),
 Zo 4 (.mv (.c (.int .i64 0)))])
 (.ret))
 (.skip))))
 (.keep [0,5,7,9] (.seq (.seq (.ops [Zm 29 9,
 Zm 30 5,
 Zo 31 (.lenl (.t 30)),
 Zo 32 (.bin .lss (.t 29) (.t 31))])
 (.keep [0,5,7,9,32] (.cond (.t 32)
 (.seq (.draw [2,3,4] [Zm 33 5,
 Zm 34 9,
 Zo 35 (.idxa 4 (.t 33) (.t 34)),
 Zo 36 (.fld 3 (.t 35)),
 Zo 37 (.load none (.t 36)),
 Zm 38 7,
 Zo 2 (.mv (.c (.lst .clip 0 []))),
 Zm 3 37,
 Zm 4 38])
 (.ret))
 (.skip))))
 (.keep [0,7] (.seq (.seq (.ops [Zm 39 7,
 Zo 40 (.bin .eql (.t 39) (.c (.int .i64 3)))])
 (.keep [0,7,40] (.cond (.t 40)
 (.seq (.ops [Zm 41 7,
 Zo 2 (.mv (.c (.lst .clip 0 []))),
 Zo 3 (.mv (.c (.int .i64 0))),
 Zm 4 41])
 (.ret))
 (.skip))))
 (.keep [0,7] (.seq (.ops [Zm 42 0,
 Zo 43 (.lens (.t 42)),
 Zm 44 7,
 Zo 2 (.mv (.c (.lst .clip 0 []))),
 Zm 3 43,
 Zm 4 44])
 (.ret)))))))))))))))⟩
theorem J_expr_Parse_ok : chkFn Tryz.prog 33 J_expr_Parse = true := by kernel_rfl
def J_expr_parts_j1 : ACode :=
 .keep [4,5] (.seq (.nms 5 (.ops [Zm 118 4,
 Zm 119 5,
 Zo 120 (.k (.len (.t 119))),
 Zo 121 (.bin .eql (.t 120) (.c (.int .i64 1))),
 Zm 2 118,
 Zm 3 121]))
 (.ret))
def J_expr_parts_j2 : ACode :=
 .keep [0,4,5,22,23,24] (.ops [Zo 117 (.bin .add (.t 24) (.c (.int .i64 1))),
 Zm 24 117])
def J_expr_parts_j3 : ACode :=
 .seq (.ops [Zo 25 (.bin .lss (.t 24) (.t 23))])
 (.keep [0,4,5,22,23,24,25] (.seq (.cond (.t 25)
 (.skip)
 (.exit 0))
 (.keep [0,4,5,22,23,24] (.seq (.block 1 (.seq (.ops [Zm 26 24,
 Zo 27 (.idxa 3 (.t 22) (.t 24)),
 Zo 28 (.load (some 3) (.t 27)),
 Zo 7 (.new [(.int .i64 0),(.int .i64 0),(.str ⟨#[]⟩)] []),
 Zm 6 26,
 ⟨none,none,.stores 3 (.t 7) (.t 28),none⟩])
 (.keep [0,4,5,6,7,22,23,24] (.seq (.seq (.ops [Zo 29 (.fld 0 (.t 7)),
 Zo 30 (.load none (.t 29)),
 Zo 31 (.bin .eql (.t 30) (.c (.int .i64 1)))])
 (.keep [0,4,5,6,7,22,23,24,31] (.cond (.t 31)
 (.seq (.seq (.ops [Zo 32 (.load (some 3) (.t 7)),
 Zo 33 (.call (.f 85) [(.t 32)]),
 Zo 34 (.bin .eql (.t 33) (.c (.str ⟨#[]⟩)))])
 (.keep [0,4,5,6,22,23,24,34] (.cond (.t 34)
 (.seq (.ops [Zo 2 (.mv (.c (.lst .clip 0 []))),
 Zo 3 (.mv (.c (.bool false)))])
 (.ret))
 (.skip))))
 (.keep [0,4,5,6,22,23,24] (.seq (.ops [Zm 35 4,
 Zm 36 6,
 Zo 37 (.idxa 3 (.t 35) (.t 36)),
 Zo 38 (.fld 2 (.t 37)),
 ⟨none,none,.store 1 (.t 38) (.c (.int .i64 1)),none⟩])
 (.keep [0,4,5,6,22,23,24] (.seq (.ops [Zo 39 (.k (.mv 5)),
 Zm 40 6,
 Zo 41 (.bsl 3 1 1 [(.int .i64 0)] [(0,1,(.t 40))]),
 Zo 42 (.k (.ap 3 8 39 (.t 41))),
 Zo 5 (.k (.mv 42))])
 (.exit 1))))))
 (.skip))))
 (.keep [0,4,5,6,7,22,23,24] (.seq (.nms 5 (.ops [Zm 43 5,
 Zo 44 (.k (.len (.t 43))),
 Zm 8 44]))
 (.keep [0,4,5,6,7,8,22,23,24] (.seq (.seq (.ops [Zo 45 (.fld 0 (.t 7)),
 Zo 46 (.load none (.t 45)),
 Zo 47 (.call (.f 86) [(.t 46)]),
 Zo 48 (.bin .eql (.t 47) (.c (.int .i64 0))),
 Zm 49 48,
 ⟨some 50,(some (49,false)),.fld 1 (.t 7),none⟩,
 ⟨some 51,(some (49,false)),.load none (.t 50),none⟩,
 ⟨some 52,(some (49,false)),.bin .neq (.t 51) (.c (.int .i64 0)),none⟩,
 Zo 53 (.pick (.t 49) (.c (.bool true)) (.t 52)),
 Zm 54 53,
 ⟨some 55,(some (54,false)),.fld 2 (.t 7),none⟩,
 ⟨some 56,(some (54,false)),.load none (.t 55),none⟩,
 ⟨some 57,(some (54,false)),.bin .neq (.t 56) (.c (.str ⟨#[]⟩)),none⟩,
 Zo 58 (.pick (.t 54) (.c (.bool true)) (.t 57)),
 Zm 59 58,
 ⟨some 60,(some (59,false)),.mv (.t 8),none⟩,
 ⟨some 61,(some (59,false)),.bin .lss (.t 60) (.c (.int .i64 2)),none⟩,
 Zo 62 (.pick (.t 59) (.c (.bool true)) (.t 61))])
 (.keep [0,4,5,6,7,8,22,23,24,62] (.cond (.t 62)
 (.seq (.ops [Zo 2 (.mv (.c (.lst .clip 0 []))),
 Zo 3 (.mv (.c (.bool false)))])
 (.ret))
 (.skip))))
 (.keep [0,4,5,6,7,8,22,23,24] (.seq (.nms 5 (.draw [0,4,5,6,7,8,9,10,22,23,24] [Zm 63 5,
 Zm 64 8,
 Zo 65 (.bin .sub (.t 64) (.c (.int .i64 2))),
 Zo 66 (.k (.ix (.t 63) (.t 65))),
 Zo 67 (.k (.pk 5 (.t 66))),
 Zm 68 5,
 Zm 69 8,
 Zo 70 (.bin .sub (.t 69) (.c (.int .i64 1))),
 Zo 71 (.k (.ix (.t 68) (.t 70))),
 Zo 72 (.k (.pk 5 (.t 71))),
 Zm 9 67,
 Zm 10 72]))
 (.keep [0,4,5,6,7,8,9,10,22,23,24] (.seq (.seq (.ops [Zo 73 (.fld 0 (.t 7)),
 Zo 74 (.load none (.t 73)),
 Zo 75 (.bin .eql (.t 74) (.c (.int .i64 5))),
 Zm 76 75,
 ⟨some 77,(some (76,true)),.mv (.t 0),none⟩,
 ⟨some 78,(some (76,true)),.mv (.t 10),none⟩,
 ⟨some 79,(some (76,true)),.idxa 3 (.t 77) (.t 78),none⟩,
 ⟨some 80,(some (76,true)),.fld 0 (.t 79),none⟩,
 ⟨some 81,(some (76,true)),.load none (.t 80),none⟩,
 ⟨some 82,(some (76,true)),.bin .neq (.t 81) (.c (.int .i64 1)),none⟩,
 ⟨some 83,(some (76,true)),.mv (.t 82),none⟩,
 ⟨some 84,(some (83,false)),.mv (.t 0),none⟩,
 ⟨some 85,(some (83,false)),.mv (.t 10),none⟩,
 ⟨some 86,(some (83,false)),.idxa 3 (.t 84) (.t 85),none⟩,
 ⟨some 87,(some (83,false)),.fld 1 (.t 86),none⟩,
 ⟨some 88,(some (83,false)),.load none (.t 87),none⟩,
 ⟨some 89,(some (83,false)),.bin .neq (.t 88) (.c (.int .i64 5)),none⟩,
 ⟨some 90,(some (76,true)),.pick (.t 83) (.c (.bool true)) (.t 89),none⟩,
 Zo 91 (.pick (.t 76) (.t 90) (.c (.bool false)))])
 (.keep [0,4,5,6,8,9,10,22,23,24,91] (.cond (.t 91)
 (.seq (.ops [Zo 2 (.mv (.c (.lst .clip 0 []))),
 Zo 3 (.mv (.c (.bool false)))])
 (.ret))
 (.skip))))
 (.keep [0,4,5,6,8,9,10,22,23,24] (.seq (.draw [0,4,5,6,8,22,23,24] [Zm 92 4,
 Zm 93 6,
 Zm 94 9,
 Zm 95 10,
 Zm 96 4,
 Zm 97 9,
 Zo 98 (.idxa 3 (.t 96) (.t 97)),
 Zo 99 (.fld 2 (.t 98)),
 Zo 100 (.load none (.t 99)),
 Zm 101 4,
 Zm 102 10,
 Zo 103 (.idxa 3 (.t 101) (.t 102)),
 Zo 104 (.fld 2 (.t 103)),
 Zo 105 (.load none (.t 104)),
 Zo 106 (.mx (.t 100) (.t 105)),
 Zo 107 (.bin .add (.c (.int .i64 1)) (.t 106)),
 Zo 108 (.build [(.int .i64 0),(.int .i64 0),(.int .i64 0)] [(0,1,(.t 94)),(1,1,(.t 95)),(2,1,(.t 107))]),
 Zo 109 (.idxa 3 (.t 92) (.t 93)),
 ⟨none,none,.store 3 (.t 109) (.t 108),none⟩])
 (.keep [0,4,5,6,8,22,23,24] (.ops [Zo 110 (.k (.mv 5)),
 Zm 111 8,
 Zo 112 (.bin .sub (.t 111) (.c (.int .i64 2))),
 Zo 113 (.k (.cut 110 (.t 112))),
 Zm 114 6,
 Zo 115 (.bsl 3 1 1 [(.int .i64 0)] [(0,1,(.t 114))]),
 Zo 116 (.k (.ap 3 8 113 (.t 115))),
 Zo 5 (.k (.mv 116))]))))))))))))))))
 (J_expr_parts_j2)))))
def J_expr_parts : AFn :=
 ⟨122,[.t 2,.t 3],.seq (.ops [Zo 2 (.mv (.c (.lst .clip 0 []))),
 Zo 3 (.mv (.c (.bool false)))])
 (.keep [0] (.seq (.seq (.ops [Zm 11 0,
 Zo 12 (.lenl (.t 11)),
 Zo 13 (.bin .lss (.t 12) (.c (.int .i64 1))),
 Zm 14 13,
 ⟨some 15,(some (14,false)),.mv (.t 0),none⟩,
 ⟨some 16,(some (14,false)),.lenl (.t 15),none⟩,
 ⟨some 17,(some (14,false)),.bin .gtr (.t 16) (.c (.int .i64 200)),none⟩,
 Zo 18 (.pick (.t 14) (.c (.bool true)) (.t 17))])
 (.keep [0,18] (.cond (.t 18)
 (.seq (.ops [Zo 2 (.mv (.c (.lst .clip 0 []))),
 Zo 3 (.mv (.c (.bool false)))])
 (.ret))
 (.skip))))
 (.keep [0] (.seq (.ops [Zm 19 0,
 Zo 20 (.lenl (.t 19)),
 Zo 21 (.mkn 133 3 24 [(.int .i64 0),(.int .i64 0),(.int .i64 0)] (.t 20)),
 Zm 4 21])
 (.keep [0,4] (.seq (.ops [Zo 5 (.k (.mk 3 (.c (.lst .clip 0 []))))])
 (.keep [0,4,5] (.seq (.seq (.ops [Zm 22 0,
 Zo 23 (.lenl (.t 22)),
 Zo 24 (.mv (.c (.int .i64 0)))])
 (.keep [0,4,5,22,23,24] (.block 0 (.loop [0,4,5,22,23,24] (J_expr_parts_j3)))))
 (J_expr_parts_j1)))))))))⟩
theorem J_expr_parts_ok : chkFn Tryz.prog 51 J_expr_parts = true := by kernel_rfl
def J_expr_Read_j1 : ACode :=
 .keep [0,7] (.seq (.seq (.ops [Zo 37 (.fld 3 (.t 7)),
 Zo 38 (.load none (.t 37)),
 Zo 39 (.not (.t 38)),
 Zm 40 39,
 ⟨some 41,(some (40,false)),.fld 2 (.t 7),none⟩,
 ⟨some 42,(some (40,false)),.load none (.t 41),none⟩,
 ⟨some 43,(some (40,false)),.bin .gtr (.t 42) (.c (.int .i64 0)),none⟩,
 Zo 44 (.pick (.t 40) (.c (.bool true)) (.t 43))])
 (.keep [0,7,44] (.cond (.t 44)
 (.seq (.ops [Zm 45 0,
 Zo 46 (.lenl (.t 45)),
 Zo 2 (.mv (.c (.lst .clip 0 []))),
 Zm 3 46,
 Zo 4 (.mv (.c (.int .i64 2)))])
 (.ret))
 (.skip))))
 (.keep [0,7] (.seq (.ops [Zo 47 (.call (.f 100) [(.t 7),(.c (.int .i64 1))])])
 (.keep [0,7] (.seq (.seq (.ops [Zo 48 (.fld 0 (.t 7)),
 Zo 49 (.load none (.t 48)),
 Zo 50 (.lenl (.t 49)),
 Zo 51 (.bin .gtr (.t 50) (.c (.int .i64 200)))])
 (.keep [0,7,51] (.cond (.t 51)
 (.seq (.ops [Zm 52 0,
 Zo 53 (.lenl (.t 52)),
 Zo 2 (.mv (.c (.lst .clip 0 []))),
 Zm 3 53,
 Zo 4 (.mv (.c (.int .i64 3)))])
 (.ret))
 (.skip))))
 (.keep [7] (.seq (.ops [Zo 54 (.fld 0 (.t 7)),
 Zo 55 (.load none (.t 54)),
 Zm 2 55,
 Zo 3 (.mv (.c (.int .i64 0))),
 Zo 4 (.mv (.c (.int .i64 0)))])
 (.ret))))))))
def J_expr_Read_j2 : ACode :=
 .seq (.ops [Zo 26 (.bin .lss (.t 25) (.t 24))])
 (.keep [0,7,23,24,25,26] (.seq (.cond (.t 26)
 (.skip)
 (.exit 2))
 (.keep [0,7,23,24,25] (.seq (.block 3 (.seq (.ops [Zm 27 25,
 Zo 28 (.idxa 4 (.t 23) (.t 25)),
 Zo 29 (.load (some 4) (.t 28)),
 Zo 9 (.new [(.int .i64 0),(.str ⟨#[]⟩),(.int .i64 0),(.int .i64 0)] []),
 Zm 8 27,
 ⟨none,none,.stores 4 (.t 9) (.t 29),none⟩])
 (.keep [0,7,8,9,23,24,25] (.seq (.ops [Zo 30 (.load (some 4) (.t 9)),
 Zo 31 (.call (.f 99) [(.t 7),(.t 30)]),
 Zm 10 31])
 (.keep [0,7,8,10,23,24,25] (.seq (.ops [Zm 32 10,
 Zo 33 (.bin .neq (.t 32) (.c (.int .i64 0)))])
 (.keep [0,7,8,10,23,24,25,33] (.cond (.t 33)
 (.seq (.ops [Zm 34 8,
 Zm 35 10,
 Zo 2 (.mv (.c (.lst .clip 0 []))),
 Zm 3 34,
 Zm 4 35])
 (.ret))
 (.skip)))))))))
 (.keep [0,7,23,24,25] (.ops [Zo 36 (.bin .add (.t 25) (.c (.int .i64 1))),
 Zm 25 36]))))))
def J_expr_Read_j3 : ACode :=
 .keep [0] (.seq (.ops [Zo 7 (.k (.new [(.lst .clip 0 []),(.lst .clip 0 []),(.int .i64 0),(.bool false)] [(0,52,3)] [(1,3)]))])
 (.keep [0,7] (.seq (.seq (.ops [Zm 23 0,
 Zo 24 (.lenl (.t 23)),
 Zo 25 (.mv (.c (.int .i64 0)))])
 (.keep [0,7,23,24,25] (.block 2 (.loop [0,7,23,24,25] (J_expr_Read_j2)))))
 (J_expr_Read_j1))))
def J_expr_Read_j4 : ACode :=
 .seq (.ops [Zo 14 (.bin .lss (.t 13) (.t 12))])
 (.keep [0,11,12,13,14] (.seq (.cond (.t 14)
 (.skip)
 (.exit 0))
 (.keep [0,11,12,13] (.seq (.block 1 (.seq (.ops [Zm 15 13,
 Zo 16 (.idxa 4 (.t 11) (.t 13)),
 Zo 17 (.load (some 4) (.t 16)),
 Zo 6 (.new [(.int .i64 0),(.str ⟨#[]⟩),(.int .i64 0),(.int .i64 0)] []),
 Zm 5 15,
 ⟨none,none,.stores 4 (.t 6) (.t 17),none⟩])
 (.keep [0,5,6,11,12,13] (.seq (.ops [Zo 18 (.load (some 4) (.t 6)),
 Zo 19 (.call (.f 69) [(.t 18)]),
 Zo 20 (.bin .eql (.t 19) (.c (.str ⟨#[]⟩)))])
 (.keep [0,5,11,12,13,20] (.cond (.t 20)
 (.seq (.ops [Zm 21 5,
 Zo 2 (.mv (.c (.lst .clip 0 []))),
 Zm 3 21,
 Zo 4 (.mv (.c (.int .i64 2)))])
 (.ret))
 (.skip)))))))
 (.keep [0,11,12,13] (.ops [Zo 22 (.bin .add (.t 13) (.c (.int .i64 1))),
 Zm 13 22]))))))
def J_expr_Read : AFn :=
 ⟨56,[.t 2,.t 3,.t 4],.seq (.ops [Zo 2 (.mv (.c (.lst .clip 0 []))),
 Zo 3 (.mv (.c (.int .i64 0))),
 Zo 4 (.mv (.c (.int .i64 0)))])
 (.keep [0] (.seq (.seq (.ops [Zm 11 0,
 Zo 12 (.lenl (.t 11)),
 Zo 13 (.mv (.c (.int .i64 0)))])
 (.keep [0,11,12,13] (.block 0 (.loop [0,11,12,13] (J_expr_Read_j4)))))
 (J_expr_Read_j3)))⟩
theorem J_expr_Read_ok : chkFn Tryz.prog 62 J_expr_Read = true := by kernel_rfl
def J_expr_written : AFn :=
 ⟨11,[.t 2],.seq (.ops [Zo 1 (.box (.t 0) []),
 Zo 2 (.mv (.c (.str ⟨#[]⟩)))])
 (.keep [1] (.seq (.ops [Zo 3 (.fld 0 (.t 1)),
 Zo 4 (.load none (.t 3)),
 Zo 5 (.fld 1 (.t 1)),
 Zo 6 (.load none (.t 5)),
 Zo 7 (.fld 2 (.t 1)),
 Zo 8 (.load none (.t 7)),
 Zo 9 (.build [(.int .i64 0),(.str ⟨#[]⟩),(.int .i64 0),(.int .i64 0)] [(0,1,(.t 4)),(2,1,(.t 6)),(1,1,(.t 8))]),
 Zo 10 (.call (.f 69) [(.t 9)]),
 Zm 2 10])
 (.ret)))⟩
theorem J_expr_written_ok : chkFn Tryz.prog 85 J_expr_written = true := by kernel_rfl
def J_expr_bind : AFn :=
 ⟨14,[.t 2],.seq (.ops [Zo 2 (.mv (.c (.int .i64 0)))])
 (.keep [0] (.seq (.seq (.ops [Zm 3 0])
 (.keep [3] (.block 0 (.seq (.ops [Zo 5 (.bin .eql (.t 3) (.c (.int .i64 2))),
 Zm 4 5])
 (.keep [3,4] (.cond (.t 4)
 (.seq (.ops [Zo 2 (.mv (.c (.int .i64 1)))])
 (.ret))
 (.seq (.ops [Zo 7 (.bin .eql (.t 3) (.c (.int .i64 3))),
 Zm 6 7])
 (.keep [3,6] (.cond (.t 6)
 (.seq (.ops [Zo 2 (.mv (.c (.int .i64 2)))])
 (.ret))
 (.seq (.ops [Zo 9 (.bin .eql (.t 3) (.c (.int .i64 4))),
 Zm 8 9])
 (.keep [3,8] (.cond (.t 8)
 (.seq (.ops [Zo 2 (.mv (.c (.int .i64 3)))])
 (.ret))
 (.seq (.ops [Zo 11 (.bin .eql (.t 3) (.c (.int .i64 5))),
 Zm 10 11])
 (.keep [3,10] (.cond (.t 10)
 (.seq (.ops [Zo 2 (.mv (.c (.int .i64 4)))])
 (.ret))
 (.seq (.ops [Zo 13 (.bin .eql (.t 3) (.c (.int .i64 1))),
 Zm 12 13])
 (.keep [12] (.cond (.t 12)
 (.seq (.ops [Zo 2 (.mv (.c (.int .i64 5)))])
 (.ret))
 (.skip)))))))))))))))))))
 (.keep [] (.seq (.ops [Zo 2 (.mv (.c (.int .i64 0)))])
 (.ret)))))⟩
theorem J_expr_bind_ok : chkFn Tryz.prog 86 J_expr_bind = true := by kernel_rfl
def J_expr_reader_take_j1 : ACode :=
 .keep [] (.seq (.ops [Zo 4 (.mv (.c (.int .i64 0)))])
 (.ret))
def J_expr_reader_take_j2 : ACode :=
 .keep [0,3,14,15] (.cond (.t 15)
 (.seq (.ops [Zm 20 0,
 Zo 21 (.fld 0 (.t 3)),
 Zo 22 (.load none (.t 21)),
 Zo 23 (.call (.f 86) [(.t 22)]),
 Zo 24 (.call (.f 100) [(.t 20),(.t 23)])])
 (.keep [0,3] (.seq (.draw [0] [Zm 25 0,
 Zm 26 0,
 Zo 27 (.nilck (.t 26)),
 Zo 28 (.fld 1 (.t 27)),
 ⟨some 29,none,.k (.ld (.t 28)),(some (.s 0,[3]))⟩,
 Zo 30 (.fld 0 (.t 3)),
 ⟨some 31,none,.load none (.t 30),(some (.s 3,[0]))⟩,
 Zo 32 (.bsl 3 1 1 [(.int .i64 0)] [(0,1,(.t 31))]),
 Zo 33 (.k (.ap 3 8 29 (.t 32))),
 Zo 34 (.nilck (.t 25)),
 Zo 35 (.fld 1 (.t 34)),
 ⟨none,none,.k (.st (.t 35) 33),none⟩])
 (.keep [0] (.ops [Zm 36 0,
 Zo 37 (.nilck (.t 36)),
 Zo 38 (.fld 3 (.t 37)),
 ⟨none,none,.store 1 (.t 38) (.c (.bool false)),none⟩])))))
 (.seq (.ops [Zo 40 (.bin .eql (.t 14) (.c (.int .i64 7))),
 Zm 39 40])
 (.keep [0,39] (.cond (.t 39)
 (.seq (.seq (.ops [Zm 41 0,
 Zo 42 (.nilck (.t 41)),
 Zo 43 (.fld 2 (.t 42)),
 Zo 44 (.load none (.t 43)),
 Zo 45 (.bin .eql (.t 44) (.c (.int .i64 0)))])
 (.keep [0,45] (.cond (.t 45)
 (.seq (.ops [Zo 4 (.mv (.c (.int .i64 2)))])
 (.ret))
 (.skip))))
 (.keep [0] (.seq (.ops [Zm 46 0,
 Zo 47 (.call (.f 100) [(.t 46),(.c (.int .i64 1))])])
 (.keep [0] (.seq (.nmo 0 1 (.draw [0] [Zm 48 0,
 Zm 49 0,
 Zo 50 (.nilck (.t 49)),
 Zo 51 (.fld 1 (.t 50)),
 Zo 52 (.load none (.t 51)),
 Zm 53 0,
 Zo 54 (.nilck (.t 53)),
 Zo 55 (.fld 1 (.t 54)),
 Zo 56 (.load none (.t 55)),
 Zo 57 (.k (.len (.t 56))),
 Zo 58 (.bin .sub (.t 57) (.c (.int .i64 1))),
 Zo 59 (.k (.sl (.t 52) (.t 58))),
 Zo 60 (.nilck (.t 48)),
 Zo 61 (.fld 1 (.t 60)),
 ⟨none,none,.k (.pop (.t 61) (.t 59)),none⟩]))
 (.keep [0] (.ops [Zm 62 0,
 Zo 63 (.nilck (.t 62)),
 Zo 64 (.fld 2 (.t 63)),
 Zo 65 (.load none (.t 64)),
 Zo 66 (.bin .sub (.t 65) (.c (.int .i64 1))),
 Zo 67 (.nilck (.t 62)),
 Zo 68 (.fld 2 (.t 67)),
 ⟨none,none,.store 1 (.t 68) (.t 66),none⟩])))))))
 (.seq (.ops [Zo 4 (.mv (.c (.int .i64 2)))])
 (.ret))))))
def J_expr_reader_take : AFn :=
 ⟨69,[.t 4],.seq (.ops [Zo 3 (.box (.t 1) []),
 Zo 4 (.mv (.c (.int .i64 0)))])
 (.keep [0,3] (.seq (.seq (.ops [Zm 5 0,
 Zo 6 (.nilck (.t 5)),
 Zo 7 (.fld 3 (.t 6)),
 Zo 8 (.load none (.t 7)),
 Zo 9 (.not (.t 8))])
 (.keep [0,3,9] (.cond (.t 9)
 (.seq (.ops [Zm 10 0,
 Zo 11 (.load (some 4) (.t 3)),
 Zo 12 (.call (.f 121) [(.t 10),(.t 11)]),
 Zm 4 12])
 (.ret))
 (.skip))))
 (.keep [0,3] (.seq (.seq (.ops [Zo 13 (.fld 0 (.t 3)),
 Zo 14 (.load none (.t 13))])
 (.keep [0,3,14] (.block 0 (.seq (.seq (.ops [Zo 16 (.bin .eql (.t 14) (.c (.int .i64 2))),
 Zm 15 16])
 (.keep [0,3,14,15] (.cond (.t 15)
 (.skip)
 (.seq (.ops [Zo 17 (.bin .eql (.t 14) (.c (.int .i64 3))),
 Zm 15 17])
 (.keep [0,3,14,15] (.cond (.t 15)
 (.skip)
 (.seq (.ops [Zo 18 (.bin .eql (.t 14) (.c (.int .i64 4))),
 Zm 15 18])
 (.keep [0,3,14,15] (.cond (.t 15)
 (.skip)
 (.ops [Zo 19 (.bin .eql (.t 14) (.c (.int .i64 5))),
 Zm 15 19]))))))))))
 (J_expr_reader_take_j2)))))
 (J_expr_reader_take_j1)))))⟩
theorem J_expr_reader_take_ok : chkFn Tryz.prog 99 J_expr_reader_take = true := by kernel_rfl
def J_expr_reader_lay_j1 : ACode :=
 .seq (.seq (.ops [Zm 4 0,
 Zo 5 (.call (.f 122) [(.t 4)]),
 Zo 6 (.call (.f 86) [(.t 5)]),
 Zm 7 1,
 Zo 8 (.bin .geq (.t 6) (.t 7))])
 (.keep [0,1,8] (.cond (.t 8)
 (.skip)
 (.exit 0))))
 (.keep [0,1] (.block 1 (.seq (.draw [0,1] [Zm 9 0,
 Zm 10 0,
 Zo 11 (.nilck (.t 10)),
 Zo 12 (.fld 0 (.t 11)),
 Zo 13 (.loado (.t 12)),
 Zm 14 0,
 Zo 15 (.callr (.f 122) [(.t 14)]),
 Zo 16 (.build [(.int .i64 0),(.int .i64 0),(.str ⟨#[]⟩)] [(0,1,(.t 15))]),
 Zo 17 (.bsl 52 3 1 [(.int .i64 0),(.int .i64 0),(.str ⟨#[]⟩)] [(0,3,(.t 16))]),
 Zo 18 (.appo 52 3 32 13 (.t 17)),
 Zo 19 (.nilck (.t 9)),
 Zo 20 (.fld 0 (.t 19)),
 ⟨none,none,.storeo (.t 20) 18,none⟩])
 (.keep [0,1] (.nmo 0 1 (.draw [0,1] [Zm 21 0,
 Zm 22 0,
 Zo 23 (.nilck (.t 22)),
 Zo 24 (.fld 1 (.t 23)),
 Zo 25 (.load none (.t 24)),
 Zm 26 0,
 Zo 27 (.nilck (.t 26)),
 Zo 28 (.fld 1 (.t 27)),
 Zo 29 (.load none (.t 28)),
 Zo 30 (.k (.len (.t 29))),
 Zo 31 (.bin .sub (.t 30) (.c (.int .i64 1))),
 Zo 32 (.k (.sl (.t 25) (.t 31))),
 Zo 33 (.nilck (.t 21)),
 Zo 34 (.fld 1 (.t 33)),
 ⟨none,none,.k (.pop (.t 34) (.t 32)),none⟩]))))))
def J_expr_reader_lay : AFn :=
 ⟨35,[],.block 0 (.loop [0,1] (J_expr_reader_lay_j1))⟩
theorem J_expr_reader_lay_ok : chkFn Tryz.prog 100 J_expr_reader_lay = true := by kernel_rfl
def J_expr_reader_part_j1 : ACode :=
 .keep [] (.seq (.ops [Zo 4 (.mv (.c (.int .i64 0)))])
 (.ret))
def J_expr_reader_part : AFn :=
 ⟨64,[.t 4],.seq (.ops [Zo 3 (.box (.t 1) []),
 Zo 4 (.mv (.c (.int .i64 0)))])
 (.keep [0,3] (.seq (.block 0 (.seq (.ops [Zo 6 (.fld 0 (.t 3)),
 Zo 7 (.load none (.t 6)),
 Zo 8 (.bin .eql (.t 7) (.c (.int .i64 1))),
 Zm 5 8])
 (.keep [0,3,5] (.cond (.t 5)
 (.seq (.seq (.ops [Zm 9 0,
 Zo 10 (.call (.f 122) [(.t 9)]),
 Zo 11 (.bin .eql (.t 10) (.c (.int .i64 5))),
 Zm 12 11,
 ⟨some 13,(some (12,true)),.fld 2 (.t 3),none⟩,
 ⟨some 14,(some (12,true)),.load none (.t 13),none⟩,
 ⟨some 15,(some (12,true)),.bin .neq (.t 14) (.c (.int .i64 5)),none⟩,
 Zo 16 (.pick (.t 12) (.t 15) (.c (.bool false)))])
 (.keep [0,3,16] (.cond (.t 16)
 (.seq (.ops [Zo 4 (.mv (.c (.int .i64 2)))])
 (.ret))
 (.skip))))
 (.keep [0,3] (.seq (.draw [0] [Zm 17 0,
 Zm 18 0,
 Zo 19 (.nilck (.t 18)),
 Zo 20 (.fld 0 (.t 19)),
 ⟨some 21,none,.loado (.t 20),(some (.s 0,[3]))⟩,
 Zo 22 (.fld 2 (.t 3)),
 ⟨some 23,none,.load none (.t 22),(some (.s 3,[0]))⟩,
 Zo 24 (.fld 1 (.t 3)),
 ⟨some 25,none,.load none (.t 24),(some (.s 3,[0]))⟩,
 Zo 26 (.build [(.int .i64 0),(.int .i64 0),(.str ⟨#[]⟩)] [(0,1,(.c (.int .i64 1))),(1,1,(.t 23)),(2,1,(.t 25))]),
 Zo 27 (.bsl 52 3 1 [(.int .i64 0),(.int .i64 0),(.str ⟨#[]⟩)] [(0,3,(.t 26))]),
 Zo 28 (.appo 52 3 32 21 (.t 27)),
 Zo 29 (.nilck (.t 17)),
 Zo 30 (.fld 0 (.t 29)),
 ⟨none,none,.storeo (.t 30) 28,none⟩])
 (.keep [0] (.ops [Zm 31 0,
 Zo 32 (.nilck (.t 31)),
 Zo 33 (.fld 3 (.t 32)),
 ⟨none,none,.store 1 (.t 33) (.c (.bool true)),none⟩])))))
 (.seq (.ops [Zo 35 (.fld 0 (.t 3)),
 Zo 36 (.load none (.t 35)),
 Zo 37 (.bin .eql (.t 36) (.c (.int .i64 6))),
 Zm 38 37,
 ⟨some 39,(some (38,true)),.mv (.t 0),none⟩,
 ⟨some 40,(some (38,true)),.call (.f 122) [(.t 39)],none⟩,
 ⟨some 41,(some (38,true)),.bin .neq (.t 40) (.c (.int .i64 5)),none⟩,
 Zo 42 (.pick (.t 38) (.t 41) (.c (.bool false))),
 Zm 34 42])
 (.keep [0,34] (.cond (.t 34)
 (.seq (.seq (.ops [Zm 43 0,
 Zo 44 (.nilck (.t 43)),
 Zo 45 (.fld 2 (.t 44)),
 Zo 46 (.load none (.t 45)),
 Zo 47 (.bin .eql (.t 46) (.c (.int .i64 100)))])
 (.keep [0,47] (.cond (.t 47)
 (.seq (.ops [Zo 4 (.mv (.c (.int .i64 3)))])
 (.ret))
 (.skip))))
 (.keep [0] (.seq (.ops [Zm 48 0,
 Zm 49 0,
 Zo 50 (.nilck (.t 49)),
 Zo 51 (.fld 1 (.t 50)),
 Zo 52 (.k (.ld (.t 51))),
 Zo 53 (.bsl 3 1 1 [(.int .i64 0)] [(0,1,(.c (.int .i64 6)))]),
 Zo 54 (.k (.ap 3 8 52 (.t 53))),
 Zo 55 (.nilck (.t 48)),
 Zo 56 (.fld 1 (.t 55)),
 ⟨none,none,.k (.st (.t 56) 54),none⟩])
 (.keep [0] (.ops [Zm 57 0,
 Zo 58 (.nilck (.t 57)),
 Zo 59 (.fld 2 (.t 58)),
 Zo 60 (.load none (.t 59)),
 Zo 61 (.bin .add (.t 60) (.c (.int .i64 1))),
 Zo 62 (.nilck (.t 57)),
 Zo 63 (.fld 2 (.t 62)),
 ⟨none,none,.store 1 (.t 63) (.t 61),none⟩])))))
 (.seq (.ops [Zo 4 (.mv (.c (.int .i64 2)))])
 (.ret)))))))))
 (J_expr_reader_part_j1)))⟩
theorem J_expr_reader_part_ok : chkFn Tryz.prog 121 J_expr_reader_part = true := by kernel_rfl
def J_expr_reader_top : AFn :=
 ⟨21,[.t 2],.seq (.ops [Zo 2 (.mv (.c (.int .i64 0)))])
 (.keep [0] (.seq (.seq (.nmo 0 1 (.ops [Zm 3 0,
 Zo 4 (.nilck (.t 3)),
 Zo 5 (.fld 1 (.t 4)),
 Zo 6 (.load none (.t 5)),
 Zo 7 (.k (.len (.t 6))),
 Zo 8 (.bin .eql (.t 7) (.c (.int .i64 0)))]))
 (.keep [0,8] (.cond (.t 8)
 (.seq (.ops [Zo 2 (.mv (.c (.int .i64 0)))])
 (.ret))
 (.skip))))
 (.keep [0] (.seq (.nmo 0 1 (.draw [2] [Zm 9 0,
 Zo 10 (.nilck (.t 9)),
 Zo 11 (.fld 1 (.t 10)),
 Zo 12 (.load none (.t 11)),
 Zm 13 0,
 Zo 14 (.nilck (.t 13)),
 Zo 15 (.fld 1 (.t 14)),
 Zo 16 (.load none (.t 15)),
 Zo 17 (.k (.len (.t 16))),
 Zo 18 (.bin .sub (.t 17) (.c (.int .i64 1))),
 Zo 19 (.k (.ix (.t 12) (.t 18))),
 Zo 20 (.k (.po (.t 11) (.t 19))),
 Zm 2 20]))
 (.ret)))))⟩
theorem J_expr_reader_top_ok : chkFn Tryz.prog 122 J_expr_reader_top = true := by kernel_rfl
end Go.Proofs.YtedaffmkpljlnaaGreat
/- The abstract layer: laws of the walk for rows that grow and shrink, and for calls that only look. -/
namespace Go.Proofs.YtedaffmkpljlnaaGreat
open Go.RowKit Go.Lib

theorem wop_k (P : Program) (d : Option Nat) (o : KOp) (fr : Fr) (h : Hp) (K : Fr → Hp → Prop) : wop P d (.k o) fr h K = (kF o fr h (fun a h' => K (put d a (ktk o fr)) h')) := id rfl
theorem eff_k (P : Program) (o : KOp) (fr : Fr) (h : Hp) (R : AV → Hp → Prop) : eff P (.k o) fr h R = (kF o fr h R) := id rfl
theorem tk_k (o : KOp) (fr : Fr) : tk (.k o) fr = (ktk o fr) := id rfl
theorem effF_kld (P : Program) (b : FB) (x : Opd) (fr : Fr) (h : Hp) (R : AV → Hp → Prop) : effF P b (.k (.ld x)) fr h R = (sameId (ev fr x) (fbId b fr h) ∧ kF (.ld x) fr h R) := id rfl
theorem wop_callr (P : Program) (d : Option Nat) (f : Opd) (args : List Opd) (fr : Fr) (h : Hp) (K : Fr → Hp → Prop) : wop P d (.callr f args) fr h K = (match ev fr f, evs fr args with
  | some (.fn f' caps), some l => ACalls P f' (l ++ caps) h (kcall d fr K)
  | _, _ => False) := id rfl
theorem eff_callr (P : Program) (f : Opd) (args : List Opd) (fr : Fr) (h : Hp) (R : AV → Hp → Prop) : eff P (.callr f args) fr h R = (match ev fr f, evs fr args with
  | some (.fn f' caps), some l => ∃ v, (∀ h0 : Hp, SameU h0 h → ACalls P f' (l ++ caps) h0 (fun a h' => a = v ∧ h' = h0)) ∧ R v h
  | _, _ => False) := id rfl
theorem tk_callr (f : Opd) (args : List Opd) (fr : Fr) : tk (.callr f args) fr = (fr) := id rfl
theorem kF_mk (e : Nat) (x : Opd) (fr : Fr) (h : Hp) (R : AV → Hp → Prop) : kF (.mk e x) fr h R = (match ev fr x with
  | some (.lst .clip 0 []) => R (.stk e none []) h
  | _ => False) := id rfl
theorem kF_mv (k : Nat) (fr : Fr) (h : Hp) (R : AV → Hp → Prop) : kF (.mv k) fr h R = (match lk fr k with
  | some (.stk e o l) => R (.stk e o l) h
  | _ => False) := id rfl
theorem kF_ld (x : Opd) (fr : Fr) (h : Hp) (R : AV → Hp → Prop) : kF (.ld x) fr h R = (match ev fr x with
  | some (.ptr id off) => (match h[id]? with
   | some (some (false, c)) => (match c[off]? with
    | some (.stk e o l) => R (.stk e o l) (h.set id (some (false, c.set off .opq)))
    | _ => False)
   | _ => False)
  | _ => False) := id rfl
theorem kF_st (a : Opd) (k : Nat) (fr : Fr) (h : Hp) (R : AV → Hp → Prop) : kF (.st a k) fr h R = (match ev fr a, lk fr k with
  | some (.ptr id off), some (.stk e o l) => (match h[id]? with
   | some (some (false, c)) => off < c.length ∧ R .nilp (h.set id (some (false, c.set off (.stk e o l))))
   | _ => False)
  | _, _ => False) := id rfl
theorem kF_ap (e b k : Nat) (y : Opd) (fr : Fr) (h : Hp) (R : AV → Hp → Prop) : kF (.ap e b k y) fr h R = (match lk fr k, ev fr y with
  | some (.stk e' _ l), some (.lst _ 1 [.int .i64 x]) => (e' = e ∧ l.length + 1 ≤ 9223372036854775807 ∧ (l.length + 1) * b ≤ 140737488355328) ∧ R (.stk e none (l ++ [x])) h
  | _, _ => False) := id rfl
theorem kF_cut (k : Nat) (j : Opd) (fr : Fr) (h : Hp) (R : AV → Hp → Prop) : kF (.cut k j) fr h R = (match lk fr k, ev fr j with
  | some (.stk e _ l), some (.int _ m) => (0 ≤ m ∧ m ≤ l.length) ∧ R (.stk e none (l.take m.toNat)) h
  | _, _ => False) := id rfl
theorem kF_pop (a x : Opd) (fr : Fr) (h : Hp) (R : AV → Hp → Prop) : kF (.pop a x) fr h R = (match ev fr a, ev fr x with
  | some (.ptr id off), some (.raw v n) => (match h[id]? with
   | some (some (false, c)) => (match c[off]? with
    | some (.stk e (some u) l) => (n ≤ l.length ∧ v = cutV u n) ∧ R .nilp (h.set id (some (false, c.set off (.stk e (some v) (l.take n)))))
    | _ => False)
   | _ => False)
  | _, _ => False) := id rfl
theorem kF_pk (k : Nat) (x : Opd) (fr : Fr) (h : Hp) (R : AV → Hp → Prop) : kF (.pk k x) fr h R = (match lk fr k, ev fr x with
  | some (.stk _ (some u) l), some (.rawp v i) => (v = u ∧ i < l.length) ∧ R (.int .i64 (l.getD i 0)) h
  | _, _ => False) := id rfl
theorem kF_po (a x : Opd) (fr : Fr) (h : Hp) (R : AV → Hp → Prop) : kF (.po a x) fr h R = (match ev fr a, ev fr x with
  | some (.ptr id off), some (.rawp v i) => (match h[id]? with
   | some (some (false, c)) => (match c[off]? with
    | some (.stk _ (some u) l) => (v = u ∧ i < l.length) ∧ R (.int .i64 (l.getD i 0)) h
    | _ => False)
   | _ => False)
  | _, _ => False) := id rfl
theorem kF_len (x : Opd) (fr : Fr) (h : Hp) (R : AV → Hp → Prop) : kF (.len x) fr h R = (match ev fr x with
  | some (.raw _ n) => R (.int .i64 n) h
  | _ => False) := id rfl
theorem kF_sl (x j : Opd) (fr : Fr) (h : Hp) (R : AV → Hp → Prop) : kF (.sl x j) fr h R = (match ev fr x, ev fr j with
  | some (.raw v n), some (.int _ m) => (0 ≤ m ∧ m ≤ n) ∧ R (.raw (cutV v m.toNat) m.toNat) h
  | _, _ => False) := id rfl
theorem kF_ix (x i : Opd) (fr : Fr) (h : Hp) (R : AV → Hp → Prop) : kF (.ix x i) fr h R = (match ev fr x, ev fr i with
  | some (.raw v n), some (.int _ i) => (0 ≤ i ∧ i < n) ∧ R (.rawp v i.toNat) h
  | _, _ => False) := id rfl
theorem kF_new (l : List AV) (u : List (Nat × Nat × Nat)) (ks : List (Nat × Nat)) (fr : Fr) (h : Hp) (R : AV → Hp → Prop) : kF (.new l u ks) fr h R = (upgK u l (fun l' => ksetK ks l' (fun l'' => R (.ptr h.length 0) (h ++ [some (false, l'')])))) := id rfl
theorem ksetK_nil (l : List AV) (K : List AV → Prop) : ksetK [] l K = (K l) := id rfl
theorem ksetK_cons (i e : Nat) (r : List (Nat × Nat)) (l : List AV) (K : List AV → Prop) : ksetK ((i, e) :: r) l K = (match l[i]? with
  | some (.lst .clip 0 []) => ksetK r (l.set i (.stk e none [])) K
  | _ => False) := id rfl
theorem ktk_mk (e : Nat) (x : Opd) (fr : Fr) : ktk (.mk e x) fr = (fr) := id rfl
theorem ktk_mv (k : Nat) (fr : Fr) : ktk (.mv k) fr = (degr k fr) := id rfl
theorem ktk_ld (x : Opd) (fr : Fr) : ktk (.ld x) fr = (fr) := id rfl
theorem ktk_st (a : Opd) (k : Nat) (fr : Fr) : ktk (.st a k) fr = (degr k fr) := id rfl
theorem ktk_ap (e b k : Nat) (y : Opd) (fr : Fr) : ktk (.ap e b k y) fr = (degr k fr) := id rfl
theorem ktk_cut (k : Nat) (j : Opd) (fr : Fr) : ktk (.cut k j) fr = (degr k fr) := id rfl
theorem ktk_pop (a x : Opd) (fr : Fr) : ktk (.pop a x) fr = (fr) := id rfl
theorem ktk_pk (k : Nat) (x : Opd) (fr : Fr) : ktk (.pk k x) fr = (fr) := id rfl
theorem ktk_po (a x : Opd) (fr : Fr) : ktk (.po a x) fr = (fr) := id rfl
theorem ktk_len (x : Opd) (fr : Fr) : ktk (.len x) fr = (fr) := id rfl
theorem ktk_sl (x j : Opd) (fr : Fr) : ktk (.sl x j) fr = (fr) := id rfl
theorem ktk_ix (x i : Opd) (fr : Fr) : ktk (.ix x i) fr = (fr) := id rfl
theorem ktk_new (l : List AV) (u : List (Nat × Nat × Nat)) (ks : List (Nat × Nat)) (fr : Fr) : ktk (.new l u ks) fr = (fr) := id rfl
theorem W_nms (P : Program) (k : Nat) (a : ACode) (fr : Fr) (h : Hp) (Q : Exit → Fr → Hp → Prop) : W P (.nms k a) fr h Q = (match lk fr k with
  | some (.stk e none l) => ∀ v, W P a ((k, .stk e (some v) l) :: fr) h Q
  | _ => W P a fr h Q) := id rfl
theorem W_nmo (P : Program) (k off : Nat) (a : ACode) (fr : Fr) (h : Hp) (Q : Exit → Fr → Hp → Prop) : W P (.nmo k off a) fr h Q = (match lk fr k with
  | some (.ptr id _) => (match h[id]? with
   | some (some (false, c)) => (match c[off]? with
    | some (.stk e none l) => ∀ v, W P a fr (h.set id (some (false, c.set off (.stk e (some v) l)))) Q
    | _ => W P a fr h Q)
   | _ => W P a fr h Q)
  | _ => W P a fr h Q) := id rfl
theorem deg_stks (e : TypeId) (v : Value) (l : List Int) : deg (.stk e (some v) l) = (.raw v l.length) := id rfl
theorem deg_stkn (e : TypeId) (l : List Int) : deg (.stk e none l) = (.opq) := id rfl
theorem deg_raw (v : Value) (n : Nat) : deg (.raw v n) = (.raw v n) := id rfl
theorem isTup_raw (v : Value) (n : Nat) : isTup (.raw v n) = (false) := id rfl
theorem cellsOf_raw (v : Value) (n : Nat) : cellsOf (.raw v n) = ([.raw v n]) := id rfl
theorem deg_rawp (v : Value) (n : Nat) : deg (.rawp v n) = (.rawp v n) := id rfl
theorem isTup_rawp (v : Value) (n : Nat) : isTup (.rawp v n) = (false) := id rfl
theorem cellsOf_rawp (v : Value) (n : Nat) : cellsOf (.rawp v n) = ([.rawp v n]) := id rfl
theorem Sim.unname {P : Program} {g : Gh} {h : Hp} {w : World} {id off : Nat} {c : List AV} {e : TypeId} {u : Value} {l : List Int} (hl : h[id]? = some (some (false, c))) (hc : c[off]? = some (.stk e none l)) (hs : Sim P g (h.set id (some (false, c.set off (.stk e (some u) l)))) w) : Sim P g h w := by
 have hidlt : id < h.length := (List.getElem?_eq_some_iff.1 hl).1
 have hofflt : off < c.length := (List.getElem?_eq_some_iff.1 hc).1
 have hat : (h.set id (some (false, c.set off (.stk e (some u) l))))[id]? = some (some (false, c.set off (.stk e (some u) l))) := by simp [hidlt]
 refine ⟨hs.prot, ?_, hs.inj, fun i b hb => by have := hs.dom i b hb; rw [List.length_set] at this; exact this, hs.flt, hs.olt, fun i hi => hs.hole i ?_, hs.fro⟩
 ·intro id' s l' hl'
  by_cases e1 : id' = id
  ·subst e1
   rw [hl] at hl'
   simp only [Option.some.injEq, Prod.mk.injEq] at hl'
   obtain ⟨rfl, rfl⟩ := hl'
   obtain ⟨b, arr, e', p1, p2, p3, p4, p5, p6, p7, p8, p9⟩ := hs.obj id' false _ hat
   have hx : (c.set off (.stk e (some u) l))[off]? = some (.stk e (some u) l) := by simp [hofflt]
   obtain ⟨v, hv, hr⟩ := p3.get off _ hx
   obtain ⟨a, cc, rfl, q1, q2, q3⟩ := stk_slice hr
   have hcc : (c.set off (.stk e (some u) l)).set off (.stk e none l) = c := by
    rw [List.set_set]
    apply List.ext_getElem?
    intro j
    rw [List.getElem?_set]
    split
    ·next ej => subst ej; first | rw [hc] | rw [if_pos hofflt, hc]
    ·rfl
   have hrl := p3.setR off hv (.stk a cc e none l q1 q2 (fun v h => by cases h))
   rw [hcc] at hrl
   refine ⟨b, arr, e', p1, p2, hrl, p4, fun i x y hx2 hy => ?_, p6, (fun h => by cases h), p8, p9⟩
   by_cases ei : i = off
   ·subst ei
    rw [hc] at hy
    simp only [Option.some.injEq] at hy
    subst hy
    have hq := p5 i x _ hx2 hx
    exact hq
   ·exact p5 i x y hx2 (by rw [List.getElem?_set_ne (fun e => ei e.symm)]; exact hy)
  ·exact hs.obj id' s l' (by rw [List.getElem?_set_ne (fun e => e1 e.symm)]; exact hl')
 ·rw [List.getElem?_set_ne (fun e => by subst e; rw [hl] at hi; cases hi)]
  exact hi
theorem ACalls.unname {P : Program} {f : FuncId} {args : List AV} {h : Hp} {R : AV → Prop} {id off : Nat} {c : List AV} {e : TypeId} {l : List Int} (hl : h[id]? = some (some (false, c))) (hc : c[off]? = some (.stk e none l))
  (hA : ACalls P f args h (fun a h' => (∃ u, h' = h.set id (some (false, c.set off (.stk e (some u) l)))) ∧ R a)) : ACalls P f args h (fun a h' => R a ∧ h' = h) :=
 ⟨hA.1, fun g w vargs h1 h2 h3 h4 => (hA.2 g w vargs h1 h2 h3 h4).mono fun _ _ ⟨x, a, h', g', q1, q2, q3, q4, q5, q6, ⟨u, q7⟩, q8⟩ => ⟨x, a, h, g', q1, q2, Sim.unname hl hc (by rw [← q7]; exact q3), q4, q5, q6, q8, rfl⟩⟩
theorem wkr : type_of% (And.intro (And.intro (And.intro (And.intro (And.intro (@wop_k) (@eff_k)) (And.intro (@tk_k) (And.intro (@effF_kld) (@wop_callr)))) (And.intro (And.intro (@eff_callr) (And.intro (@tk_callr) (@kF_mk))) (And.intro (@kF_mv) (And.intro (@kF_ld) (@kF_st))))) (And.intro (And.intro (And.intro (@kF_ap) (@kF_cut)) (And.intro (@kF_pop) (And.intro (@kF_pk) (@kF_po)))) (And.intro (And.intro (@kF_len) (And.intro (@kF_sl) (@kF_ix))) (And.intro (@kF_new) (And.intro (@ksetK_nil) (@ksetK_cons)))))) (And.intro (And.intro (And.intro (And.intro (@ktk_mk) (@ktk_mv)) (And.intro (@ktk_ld) (And.intro (@ktk_st) (@ktk_ap)))) (And.intro (And.intro (@ktk_cut) (And.intro (@ktk_pop) (@ktk_pk))) (And.intro (@ktk_po) (And.intro (@ktk_len) (@ktk_sl))))) (And.intro (And.intro (And.intro (@ktk_ix) (And.intro (@ktk_new) (@W_nms))) (And.intro (@W_nmo) (And.intro (@deg_stks) (@deg_stkn)))) (And.intro (And.intro (@deg_raw) (And.intro (@isTup_raw) (@cellsOf_raw))) (And.intro (@deg_rawp) (And.intro (@isTup_rawp) (@cellsOf_rawp))))))) :=
 And.intro (And.intro (And.intro (And.intro (And.intro (@wop_k) (@eff_k)) (And.intro (@tk_k) (And.intro (@effF_kld) (@wop_callr)))) (And.intro (And.intro (@eff_callr) (And.intro (@tk_callr) (@kF_mk))) (And.intro (@kF_mv) (And.intro (@kF_ld) (@kF_st))))) (And.intro (And.intro (And.intro (@kF_ap) (@kF_cut)) (And.intro (@kF_pop) (And.intro (@kF_pk) (@kF_po)))) (And.intro (And.intro (@kF_len) (And.intro (@kF_sl) (@kF_ix))) (And.intro (@kF_new) (And.intro (@ksetK_nil) (@ksetK_cons)))))) (And.intro (And.intro (And.intro (And.intro (@ktk_mk) (@ktk_mv)) (And.intro (@ktk_ld) (And.intro (@ktk_st) (@ktk_ap)))) (And.intro (And.intro (@ktk_cut) (And.intro (@ktk_pop) (@ktk_pk))) (And.intro (@ktk_po) (And.intro (@ktk_len) (@ktk_sl))))) (And.intro (And.intro (And.intro (@ktk_ix) (And.intro (@ktk_new) (@W_nms))) (And.intro (@W_nmo) (And.intro (@deg_stks) (@deg_stkn)))) (And.intro (And.intro (@deg_raw) (And.intro (@isTup_raw) (@cellsOf_raw))) (And.intro (@deg_rawp) (And.intro (@isTup_rawp) (@cellsOf_rawp))))))
def mayL (l : List UInt8) : Bool := decide (1 ≤ l.length) && (decide (l.length ≤ 24) && (lttI ((l.headD 0).toNat) && l.all fun b => innI b.toNat))
def mayN (s : ByteArray) : Bool := mayL s.data.toList
theorem mayL_bad {l : List UInt8} {i : Nat} (h : i < l.length) (hb : innI (l[i]).toNat = false) : mayL l = false := by
 have : l.all (fun b => innI b.toNat) = false := by
  rw [List.all_eq_false]; exact ⟨_, List.getElem_mem h, fun h2 => by rw [hb] at h2; cases h2⟩
 unfold mayL
 rw [this]; simp
theorem headD_get {l : List UInt8} (h : 0 < l.length) : l.headD 0 = l[0] := by
 cases l with
 | nil => simp at h
 | cons b r => rfl
theorem p_amay (s : ByteArray) (hs : s.size ≤ 9223372036854775807) : PCalls Tryz.prog 84 [.str s] (.bool (mayN s)) := by
 have hl := len_size s
 have no : mayN s = false → AV.bool false = .bool (mayN s) := fun h => by rw [h]
 refine pcalls_of (by first | rfl | simp [free, free.frees, frees_str, frees_u8, frees_u16]) (by first | rfl | simp [free, free.frees, frees_str, frees_u8, frees_u16]) (acalls_of mixed J_atom_May_ok (Nat.le_of_ble_eq_true rfl) ?_); simp only [J_atom_May, wk,eq_self,Nat.reduceEqDiff,reduceCtorEq,↓reduceIte]
 refine ⟨fun h1 => ⟨fun h2 => no ?_, fun h2 => ?_⟩, fun h1 => no ?_⟩
 ·have : ¬ s.data.toList.length ≤ 24 := by omega
  unfold mayN mayL; rw [decide_eq_false this]; simp only [Bool.false_and, Bool.and_false]
 rotate_left
 ·have : ¬ 1 ≤ s.data.toList.length := by omega
  unfold mayN mayL; rw [decide_eq_false this]; simp only [Bool.false_and]
 refine W_loop (fun m fr h' => ∃ n : Nat, n ≤ s.data.toList.length ∧ m = s.data.toList.length - n ∧ fr = [(0, .str s), (3, .int .i64 n)] ∧ (∀ b ∈ s.data.toList.take n, innI b.toNat = true) ∧ (0 < n → lttI ((s.data.toList.headD 0).toNat) = true)) s.data.toList.length ⟨0, by omega, by omega, rfl, by simp, by simp⟩ ?_
 rintro m fr h' ⟨n, hn, rfl, rfl, hall, hhd⟩
 simp only [J_atom_May_j3, wk,ne_eq,eq_self,Nat.reduceEqDiff,reduceCtorEq,↓reduceIte]
 refine ⟨fun hlt => ⟨⟨by omega, by omega⟩, ?_⟩, fun hge => ?_⟩
 ·have hnl : n < s.data.toList.length := by omega
  rw [Int.toNat_natCast, byte_at hnl]
  obtain ⟨b, hb⟩ : ∃ b, b = s.data.toList[n] := ⟨_, rfl⟩
  rw [← hb]
  have hnx : innI b.toNat = true → (n = 0 → lttI b.toNat = true) → inR ((n : Int) + 1) ∧ ∃ m, m < s.data.toList.length - n ∧ ∃ n' : Nat, n' ≤ s.data.toList.length ∧ m = s.data.toList.length - n' ∧ [(0, AV.str s), (3, .int .i64 ((n : Int) + 1))] = [(0, .str s), (3, .int .i64 n')] ∧ (∀ b ∈ s.data.toList.take n', innI b.toNat = true) ∧ (0 < n' → lttI ((s.data.toList.headD 0).toNat) = true) := fun hi hz =>
   ⟨inR_of (by omega) (by omega), s.data.toList.length - (n + 1), by omega, n + 1, by omega, rfl, by simp, fun c hc => by
    rw [List.take_succ_eq_append_getElem hnl] at hc
    rcases List.mem_append.1 hc with hc | hc
    ·exact hall c hc
    ·simp at hc; subst hc; rw [hb] at hi; simpa using hi, fun _ => by
    rcases Nat.eq_zero_or_pos n with h0 | h0
    ·subst h0; rw [headD_get (by omega), ← hb]; exact hz rfl
    ·exact hhd h0⟩
  have hbad : innI b.toNat = false → mayN s = false := fun h => mayL_bad hnl (by rw [← hb]; exact h)
  have hbad0 : n = 0 → lttI b.toNat = false → mayN s = false := fun h0 h => by
   subst h0
   unfold mayN mayL
   rw [headD_get (by omega), ← hb, h]
   simp only [Bool.false_and, Bool.and_false]
  repeat' (first | (with_reducible refine And.intro ?_ ?_) | intro _)
  all_goals first
   | (simp only [J_atom_May_j2, wk,eq_self,reduceCtorEq,↓reduceIte]; exact hnx (by simp [innI, digI, lttI]; omega) (by intro _; simp [lttI]; omega))
   | exact no (hbad (by simp [innI, digI, lttI]; omega))
   | exact no (hbad0 (by omega) (by simp [lttI]; omega))
 ·rw [List.take_of_length_le (by omega)] at hall
  simp only [J_atom_May_j1, wk,eq_self,↓reduceIte]
  congr 1
  symm
  unfold mayN mayL
  have h3 := hhd (by omega)
  have h4 : s.data.toList.all (fun b => innI b.toNat) = true := List.all_eq_true.2 hall
  simp only [h3, h4, Bool.and_true, Bool.and_eq_true, decide_eq_true_eq]
  omega
def signsS : ByteArray := ⟨#[61, 44, 59, 60, 62, 33, 63, 42]⟩
theorem find_sign : ∀ n : Fin 256, decide (0 ≤ indexByte signsS.data.toList (UInt8.ofNat n)) = sigB n := by decide +kernel
theorem p_ibyte (s : ByteArray) (c : Int) : PCalls Tryz.prog 156 [.str s, .int .u8 c] (.int .i64 (indexByte s.data.toList c.toNat.toUInt8)) := by
 refine pcalls_of (by first | rfl | simp [free, free.frees, frees_str, frees_u8, frees_u16]) (by first | rfl | simp [free, free.frees, frees_str, frees_u8, frees_u16]) (acalls_of mixed J_internal_stringslite_IndexByte_ok (Nat.le_of_ble_eq_true rfl) ?_); simp only [J_internal_stringslite_IndexByte, wk,eq_self,Nat.reduceEqDiff,Nat.reduceAdd,reduceCtorEq,↓reduceIte]
theorem p_sibyte (s : ByteArray) (c : Int) : PCalls Tryz.prog 152 [.str s, .int .u8 c] (.int .i64 (indexByte s.data.toList c.toNat.toUInt8)) := by
 refine pcalls_of (by first | rfl | simp [free, free.frees, frees_str, frees_u8, frees_u16]) (by first | rfl | simp [free, free.frees, frees_str, frees_u8, frees_u16]) (acalls_of mixed J_strings_IndexByte_ok (Nat.le_of_ble_eq_true rfl) ?_); simp only [J_strings_IndexByte, wk,eq_self,Nat.reduceEqDiff,Nat.reduceAdd,reduceCtorEq,↓reduceIte]
 refine PCalls.use (p_ibyte s c) ?_; simp only [wk,eq_self,↓reduceIte]
theorem p_lindex (s x : ByteArray) (hx : x.size = 1) : PCalls Tryz.prog 146 [.str s, .str x] (.int .i64 (indexByte s.data.toList (byteAt x 0).toUInt8)) := by
 obtain ⟨b, rfl⟩ := one_byte hx
 have e0 : byteAt ⟨#[b]⟩ 0 = b.toNat := rfl
 refine pcalls_of (by first | rfl | simp [free, free.frees, frees_str, frees_u8, frees_u16]) (by first | rfl | simp [free, free.frees, frees_str, frees_u8, frees_u16]) (acalls_of mixed J_internal_stringslite_Index_ok (Nat.le_of_ble_eq_true rfl) ?_); simp only [J_internal_stringslite_Index, wk,eq_self,Nat.reduceEqDiff,Nat.reduceAdd,Int.reduceLE,Int.reduceNeg,reduceCtorEq,↓reduceIte]
 rw [e0]
 have e1 : ((⟨#[b]⟩ : ByteArray).size : Int) = 1 := rfl
 have q := p_ibyte s b.toNat
 rw [Int.toNat_natCast] at q
 refine ⟨fun _ => ⟨fun h => ?_, fun h => ⟨fun _ => ⟨by omega, PCalls.use q ?_⟩, fun h => absurd e1 h⟩⟩, fun h => by omega⟩
 ·rw [← h]
  have : b.toNat.toUInt8 = b := by simp
  simp [indexByte, this]
 ·simp only [wk,eq_self,↓reduceIte]
theorem p_sindex (s x : ByteArray) (hx : x.size = 1) : PCalls Tryz.prog 129 [.str s, .str x] (.int .i64 (indexByte s.data.toList (byteAt x 0).toUInt8)) := by
 refine pcalls_of (by first | rfl | simp [free, free.frees, frees_str, frees_u8, frees_u16]) (by first | rfl | simp [free, free.frees, frees_str, frees_u8, frees_u16]) (acalls_of mixed J_strings_Index_ok (Nat.le_of_ble_eq_true rfl) ?_); simp only [J_strings_Index, wk,eq_self,Nat.reduceEqDiff,Nat.reduceAdd,reduceCtorEq,↓reduceIte]
 refine PCalls.use (p_lindex s x hx) ?_; simp only [wk,eq_self,↓reduceIte]
theorem sign_find (n : Nat) (h : n < 256) : decide (0 ≤ indexByte signsS.data.toList n.toUInt8) = sigB n := by
 have := find_sign ⟨n, h⟩
 simpa using this
theorem p_contains1 (x : ByteArray) (hx : x.size = 1) : PCalls Tryz.prog 108 [.str signsS, .str x] (.bool (sigB (byteAt x 0))) := by
 obtain ⟨b, rfl⟩ := one_byte hx
 have e0 : byteAt ⟨#[b]⟩ 0 = b.toNat := rfl
 have hf := sign_find b.toNat b.toNat_lt
 refine pcalls_of (by first | rfl | simp [free, free.frees, frees_str, frees_u8, frees_u16]) (by first | rfl | simp [free, free.frees, frees_str, frees_u8, frees_u16]) (acalls_of mixed J_strings_Contains_ok (Nat.le_of_ble_eq_true rfl) ?_); simp only [J_strings_Contains, wk,eq_self,Nat.reduceEqDiff,Nat.reduceAdd,reduceCtorEq,↓reduceIte]
 refine PCalls.use (p_sindex signsS ⟨#[b]⟩ hx) ?_; simp only [wk,eq_self,↓reduceIte]
 rw [e0, ← hf]
theorem p_validRune (r : Int) : PCalls Tryz.prog 153 [.int .i32 r] (.bool ((decide (0 ≤ r) && decide (r < 55296)) || (decide (57343 < r) && decide (r ≤ 1114111)))) := by
 refine pcalls_of (by first | rfl | simp [free, free.frees, frees_str, frees_u8, frees_u16]) (by first | rfl | simp [free, free.frees, frees_str, frees_u8, frees_u16]) (acalls_of mixed J_unicode_utf8_ValidRune_ok (Nat.le_of_ble_eq_true rfl) ?_); simp only [J_unicode_utf8_ValidRune, wk,eq_self,Nat.reduceEqDiff,reduceCtorEq,↓reduceIte]
 repeat' (first | (with_reducible refine And.intro ?_ ?_) | intro _)
 all_goals (congr 1; simp_all; try omega)
theorem ibyte_no {c : UInt8} (hc : 128 ≤ c.toNat) : ∀ {l : List UInt8}, (∀ b ∈ l, b.toNat < 128) → indexByte l c = -1
 | [], _ => rfl
 | b :: l, h => by
  have h1 := h b (by simp)
  have h2 := ibyte_no hc (l := l) (fun x hx => h x (by simp [hx]))
  have h3 : (b == c) = false := by
   rw [beq_eq_false_iff_ne]; intro e; subst e; omega
  simp [indexByte, h2, h3]
theorem enc_hi {r : Int} (h0 : 128 ≤ r) (h1 : r ≤ 1114111) (hv : Utf8.valid r = true) : 2 ≤ (Utf8.encode r).size ∧ (Utf8.encode r).size ≤ 4 ∧ 128 ≤ byteAt (Utf8.encode r) ((Utf8.encode r).size - 1) ∧ byteAt (Utf8.encode r) ((Utf8.encode r).size - 1) < 256 := by
 have e : (if Utf8.valid r = true then r.toNat else Utf8.runeError) = r.toNat := if_pos hv
 have h80 : ∀ n : Nat, 128 ≤ (UInt8.ofNat (128 + n % 64)).toNat ∧ (UInt8.ofNat (128 + n % 64)).toNat < 256 := fun n => by
  rw [UInt8.toNat_ofNat']; omega
 unfold Utf8.encode
 simp only [e]
 rw [if_neg (by omega)]
 split
 ·exact ⟨Nat.le_of_ble_eq_true rfl, Nat.le_of_ble_eq_true rfl, h80 _⟩
 ·split
  ·exact ⟨Nat.le_of_ble_eq_true rfl, Nat.le_of_ble_eq_true rfl, h80 _⟩
  ·exact ⟨Nat.le_of_ble_eq_true rfl, Nat.le_of_ble_eq_true rfl, h80 _⟩
theorem signs_lo : ∀ b ∈ signsS.data.toList, b.toNat < 128 := by decide
theorem p_indexRune (r : Int) (h0 : 0 ≤ r) (h1 : r ≤ 1114111) (hv : 128 ≤ r → Utf8.valid r = true) : PCalls Tryz.prog 142 [.str signsS, .int .i32 r] (.int .i64 (if r < 128 then indexByte signsS.data.toList r.toNat.toUInt8 else -1)) := by
 refine pcalls_of (by first | rfl | simp [free, free.frees, frees_str, frees_u8, frees_u16]) (by first | rfl | simp [free, free.frees, frees_str, frees_u8, frees_u16]) (acalls_of mixed J_strings_IndexRune_ok (Nat.le_of_ble_eq_true rfl) ?_); simp only [J_strings_IndexRune, wk,eq_self,Nat.reduceEqDiff,Nat.reduceAdd,Int.reduceNeg,reduceCtorEq,↓reduceIte]
 refine ⟨fun _ => ⟨fun hlt => ?_, fun hge => ⟨fun h65 => ?_, fun h65 => ?_⟩⟩, fun hn => absurd h0 hn⟩
 ·have hw : IntKind.u8.wrap r = r := by rw [IntKind.wrap_u8]; omega
  rw [hw]
  refine PCalls.use (p_sibyte signsS r) ?_; simp only [wk,eq_self,Int.reduceNeg,↓reduceIte]
  rw [if_pos hlt]
 ·rw [if_neg hge]
  refine W_loop (fun m fr h' => ∃ p : Nat, p ≤ signsS.data.toList.length ∧ m = signsS.data.toList.length - p ∧ fr = [(175, .itr signsS p)]) 8 ⟨0, by omega, by decide, rfl⟩ ?_
  rintro m fr h' ⟨p, hp, rfl, rfl⟩
  have hl := len_size signsS
  simp only [J_strings_IndexRune_j2, wk,eq_self,Nat.reduceEqDiff,Int.reduceNeg,↓reduceIte]
  refine ⟨fun hlt => ?_, fun hge2 => ?_⟩
  ·have hpl : p < signsS.data.toList.length := by omega
   have hlo := signs_lo _ (List.getElem_mem hpl)
   rw [dec_lt hpl hlo]
   refine ⟨fun h => ?_, fun _ => ?_⟩
   ·exfalso; simp only at h; omega
   ·exact ⟨signsS.data.toList.length - (p + 1), by omega, p + 1, by omega, rfl, rfl⟩
  ·simp only [J_strings_IndexRune_j1, wk,eq_self,Int.reduceNeg,↓reduceIte]
 ·rw [if_neg hge]
  have hv' := hv (by omega)
  have qv := p_validRune r
  rw [show ((decide (0 ≤ r) && decide (r < 55296)) || (decide (57343 < r) && decide (r ≤ 1114111))) = true by
   unfold Utf8.valid at hv'
   simp only [Bool.or_eq_true, Bool.and_eq_true, decide_eq_true_eq] at hv' ⊢
   omega] at qv
  obtain ⟨g1, g2, g3, g4⟩ := enc_hi (by omega) h1 hv'
  obtain ⟨E, hE⟩ : ∃ E, E = Utf8.encode r := ⟨_, rfl⟩
  rw [← hE] at g1 g2 g3 g4
  refine PCalls.use (qv) ?_; simp only [wk,eq_self,Nat.reduceEqDiff,Int.reduceNeg,reduceCtorEq,↓reduceIte]
  rw [← hE]
  refine ⟨inR_of (by omega) (by omega), ?_⟩
  refine W_loop (fun m fr h' => fr = [(0, .str signsS), (7, .str E), (8, .int .i64 (E.size - 1)), (9, .int .i64 (E.size - 1))]) 0 rfl ?_
  rintro m fr h' rfl
  have hs8 : signsS.size = 8 := rfl
  have hl := len_size signsS
  have e1 : ((E.size : Int) - 1).toNat = E.size - 1 := by omega
  have e2 : ((E.size : Int) - 1 + 1).toNat = E.size := by omega
  have hlo := signs_lo _ (List.getElem_mem (show E.size - 1 < signsS.data.toList.length by omega))
  have hne : ((byteAt signsS (E.size - 1) : Nat) : Int) ≠ (byteAt E (E.size - 1) : Nat) := by
   rw [byte_at (show E.size - 1 < signsS.data.toList.length by omega)]; omega
  simp only [J_strings_IndexRune_j12, e1, e2, hs8, hne, wk,ne_eq,eq_self,Nat.reduceEqDiff,Int.reduceNeg,reduceCtorEq,↓reduceIte]
  have qi := p_sibyte (signsS.extract E.size ((8 : Nat) : Int).toNat) (byteAt E (E.size - 1))
  rw [ibyte_no (by rw [Int.toNat_natCast]; rw [show (byteAt E (E.size - 1)).toUInt8.toNat = byteAt E (E.size - 1) by simp; omega]; exact g3) (fun b hb => by
   refine signs_lo b ?_
   simp only [ByteArray.data_extract, Array.toList_extract, List.extract_eq_take_drop] at hb
   exact List.mem_of_mem_drop (List.mem_of_mem_take hb))] at qi
  refine ⟨fun _ => ⟨⟨by omega, by omega⟩, ⟨by omega, by omega⟩, inR_of (by omega) (by omega), ⟨by omega, by omega, by omega⟩, ⟨by omega, by omega⟩, _, qi, ?_⟩, fun h => absurd (by omega) h⟩
  simp only [wk,eq_self,Nat.reduceEqDiff,Int.reduceLT,Int.reduceNeg,reduceCtorEq,↓reduceIte]
theorem p_containsRune (r : Int) (h0 : 0 ≤ r) (h1 : r ≤ 1114111) (hv : 128 ≤ r → Utf8.valid r = true) : PCalls Tryz.prog 116 [.str signsS, .int .i32 r] (.bool (sigB r.toNat)) := by
 refine pcalls_of (by first | rfl | simp [free, free.frees, frees_str, frees_u8, frees_u16]) (by first | rfl | simp [free, free.frees, frees_str, frees_u8, frees_u16]) (acalls_of mixed J_strings_ContainsRune_ok (Nat.le_of_ble_eq_true rfl) ?_); simp only [J_strings_ContainsRune, wk,eq_self,Nat.reduceEqDiff,Nat.reduceAdd,reduceCtorEq,↓reduceIte]
 refine PCalls.use (p_indexRune r h0 h1 hv) ?_; simp only [wk,eq_self,Int.reduceNeg,↓reduceIte]
 by_cases hlt : r < 128
 ·rw [if_pos hlt]
  have := sign_find r.toNat (by omega)
  rw [this]
 ·rw [if_neg hlt]
  have : sigB r.toNat = false := by simp [sigB]; omega
  rw [this]
  rfl
theorem stop_all {q : Int → Bool} {l : List UInt8} : (stopN q l = l.length) ↔ l.all (fun b => q b.toNat) = true := by
 rw [List.all_eq_true]
 constructor
 ·intro h b hb
  obtain ⟨i, hi, rfl⟩ := List.mem_iff_getElem.1 hb
  exact stopN_at hi (by omega)
 ·intro h
  unfold stopN
  exact tw_len (Nat.le_refl _) (by rw [List.take_length]; exact h) (fun h => by omega)
theorem p_number (s : ByteArray) (hs : s.size ≤ 1000000) : PCalls Tryz.prog 107 [.str s] (.bool (numW s)) := by
 have hl := len_size s
 have q := p_stop (f := 117) p_digit hi_dig s 0 hs (by omega)
 rw [List.drop_zero] at q
 have hst := stop_all (q := digI) (l := s.data.toList)
 have no : numW s = false → AV.bool false = .bool (numW s) := fun h => by rw [h]
 refine pcalls_of (by first | rfl | simp [free, free.frees, frees_str, frees_u8, frees_u16]) (by first | rfl | simp [free, free.frees, frees_str, frees_u8, frees_u16]) (acalls_of mixed J_token_number_ok (Nat.le_of_ble_eq_true rfl) ?_); simp only [J_token_number, wk,eq_self,Nat.reduceEqDiff,Int.reduceLE,reduceCtorEq,↓reduceIte]
 have fin : (1 ≤ s.size ∧ s.size ≤ 9 ∧ (byteAt s 0 ≠ 48 ∨ s.size = 1)) → ∀ x : Int, x = (0 : Nat) + (stopN digI s.data.toList : Nat) → AV.bool (decide (x = s.size)) = .bool (numW s) := by
  rintro ⟨h1, h2, h3⟩ x rfl
  congr 1
  unfold numW
  rw [Bool.eq_iff_iff]
  simp only [decide_eq_true_eq, Bool.and_eq_true, Bool.or_eq_true]
  rw [← hst]
  omega
 repeat' (first | (refine PCalls.use q ?_; simp only [wk,eq_self,Nat.reduceEqDiff,reduceCtorEq,↓reduceIte]) | (with_reducible refine And.intro ?_ ?_) | intro _)
 all_goals first
  | omega
  | exact fin (by omega) _ rfl
  | (apply no; unfold numW; simp_all; done)
  | (apply no; unfold numW; simp_all; omega)
def atomWk (o : Int) (w : ByteArray) : ByteArray :=
 if o = 0 then (if w = ⟨#[68]⟩ then w else ⟨#[]⟩)
 else if mayN w = true then (if o = 1 ∨ o = 2 ∨ o = 4 ∨ o = 5 then preW o ++ w else if o = 3 ∧ keyW w = 0 then w else ⟨#[]⟩) else ⟨#[]⟩
def wordT (k : Int) (w : ByteArray) (o : Int) : ByteArray :=
 if k = 1 then atomWk o w
 else if o ≠ 0 then ⟨#[]⟩
 else if k = 8 then (if numW w = true then w else ⟨#[]⟩)
 else if k = 9 then (if sigW w = true then w else ⟨#[]⟩)
 else if w ≠ ⟨#[]⟩ then ⟨#[]⟩
 else if k = 2 then ⟨#[97, 110, 100]⟩
 else if k = 3 then ⟨#[102, 111, 114]⟩
 else if k = 5 then ⟨#[97, 115]⟩
 else if k = 4 then ⟨#[124]⟩
 else if k = 6 then ⟨#[40]⟩
 else if k = 7 then ⟨#[41]⟩
 else ⟨#[]⟩
theorem p_atomWord (o : Int) (w : ByteArray) (hw : w.size ≤ 1000000) : PCalls Tryz.prog 106 [.int .i64 o, .str w] (.str (atomWk o w)) := by
 have qm := p_amay w (by omega)
 have qk := p_keyword w
 refine pcalls_of (by first | rfl | simp [free, free.frees, frees_str, frees_u8, frees_u16]) (by first | rfl | simp [free, free.frees, frees_str, frees_u8, frees_u16]) (acalls_of mixed J_token_atomWord_ok (Nat.le_of_ble_eq_true rfl) ?_); simp only [J_token_atomWord, wk,eq_self,Nat.reduceEqDiff,Nat.reduceAdd,reduceCtorEq,↓reduceIte]
 repeat' (first | (refine PCalls.use qm ?_; simp only [wk,eq_self,Nat.reduceEqDiff,reduceCtorEq,↓reduceIte]) | (refine PCalls.use qk ?_; simp only [wk,eq_self,Nat.reduceEqDiff,↓reduceIte]) | (with_reducible refine And.intro ?_ ?_) | intro _)
 all_goals first
  | (simp only [J_token_atomWord_j1, wk,eq_self,↓reduceIte]; congr 1; unfold atomWk; simp_all; done)
  | (congr 1; unfold atomWk preW; simp_all; done)
  | exact (show ∀ n : Nat, n ≤ 6 → n + w.size ≤ 9223372036854775807 from fun n h => by omega) _ (Nat.le_of_ble_eq_true rfl)
theorem sigW_one {w : ByteArray} (h : w.size = 1) : sigW w = sigB (byteAt w 0) := by unfold sigW; simp [h]
theorem p_word (k : Int) (w : ByteArray) (o a : Int) (hw : w.size ≤ 1000000) : PCalls Tryz.prog 69 [.agg [.int .i64 k, .str w, .int .i64 o, .int .i64 a]] (.str (wordT k w o)) := by
  have qa := p_atomWord o w hw
  have qn := p_number w hw
  refine pcalls_of (by first | rfl | simp [free, free.frees, frees_str, frees_u8, frees_u16]) (by first | rfl | simp [free, free.frees, frees_str, frees_u8, frees_u16]) (acalls_of mixed J_token_Word_ok (Nat.le_of_ble_eq_true rfl) ?_); simp only [J_token_Word, wk,ne_eq,eq_self,Nat.reduceEqDiff,↓reduceIte]
  repeat' (first | (refine PCalls.use qa ?_; simp only [wk,eq_self,↓reduceIte]) | (refine PCalls.use qn ?_; simp only [wk,eq_self,Nat.reduceEqDiff,↓reduceIte]) | (refine PCalls.use (p_contains1 w (by omega)) ?_; simp only [wk,eq_self,Nat.reduceEqDiff,↓reduceIte]) | (with_reducible refine And.intro ?_ ?_) | intro _)
  all_goals first
    | (congr 1; unfold wordT; simp_all; done)
    | (congr 1; unfold wordT; rw [sigW_one (by omega)]; simp_all; done)
    | (congr 1; unfold wordT sigW; simp_all; done)
    | (have hz : ¬ w.size = 1 := by omega
       congr 1; unfold wordT sigW; simp_all; done)
theorem preW_size (o : Int) : (preW o).size ≤ 6 := by
 unfold preW
 repeat' split
 all_goals decide
theorem ba_empty (w : ByteArray) : (⟨#[]⟩ : ByteArray) ++ w = w := by
 apply ByteArray.ext; apply Array.ext'; simp
end Go.Proofs.YtedaffmkpljlnaaGreat
/- Expressions: how closely signs bind; what waits last. -/
-- fast
-- rows
namespace Go.Proofs.YtedaffmkpljlnaaGreat
open Go.RowKit Go.Lib

def bindP (k : Int) : Int := if k = 1 then 5 else bindK k
theorem bindP_ne {k : Int} (h : k ≠ 1) : bindP k = bindK k := by unfold bindP; rw [if_neg h]
theorem p_bind (k : Int) : PCalls Tryz.prog 86 [.int .i64 k] (.int .i64 (bindP k)) := by
 refine pcalls_of (by first | rfl | simp [free, free.frees, frees_str, frees_u8, frees_u16]) (by first | rfl | simp [free, free.frees, frees_str, frees_u8, frees_u16]) (acalls_of mixed J_expr_bind_ok (Nat.le_of_ble_eq_true rfl) ?_); simp only [J_expr_bind, wk,eq_self,Nat.reduceEqDiff,reduceCtorEq,↓reduceIte]
 repeat' refine And.intro (fun h => ?_) (fun h => ?_)
 all_goals (congr 1; simp_all [bindP, bindK])
def trC (t : Trm) : List AV := [.int .i64 t.op, .int .i64 t.of, .str t.name]
def trsC (l : List Trm) : List AV := l.flatMap trC
def vTrs (l : List Trm) : AV := .lst .ro l.length (trsC l)
abbrev rob (o : Option Value) (r : Rdr) : Option (Bool × List AV) := some (false, [.lst (.own 52) r.out.length (trsC r.out), .stk 3 o r.w.reverse, .int .i64 r.opn, .bool r.beh])
theorem hset1 {h : Hp} {id : Nat} {y : Option (Bool × List AV)} (ho : h[id]? = some y) (x : Option (Bool × List AV)) : (h.set id x)[id]? = some x := by
 have : id < h.length := (List.getElem?_eq_some_iff.1 ho).1
 rw [List.getElem?_set_self this]
theorem hself1 {h : Hp} {id : Nat} {y : Option (Bool × List AV)} (ho : h[id]? = some y) : h.set id y = h := by
 obtain ⟨h1, h2⟩ := List.getElem?_eq_some_iff.1 ho
 rw [← h2, List.set_getElem_self]
theorem rev_last {w : List Int} : w.reverse.getD (w.length - 1) 0 = w.headD 0 := by
 cases w with
 | nil => rfl
 | cons a w => simp
theorem a_top_some {h : Hp} {id : Nat} {x : AV} {rest : List AV} {w : List Int} {v : Value} (ho : h[id]? = some (some (false, x :: .stk 3 (some v) w.reverse :: rest))) (hl : w.length ≤ 1000000) : ACalls Tryz.prog 122 [.ptr id 0] h (fun a h' => a = .int .i64 (w.headD 0) ∧ h' = h) := by
 have hr : w.reverse.length = w.length := List.length_reverse
 refine acalls_of mixed J_expr_reader_top_ok (Nat.le_of_ble_eq_true rfl) ?_; simp only [J_expr_reader_top, wkr,wk,eq_self,reduceCtorEq,↓reduceIte]
 simp only [wkr,wk,eq_self,Nat.reduceEqDiff,reduceCtorEq,↓reduceIte, ho]
 refine ⟨fun h0 => ?_, fun h0 => ⟨inR_of (by omega) (by omega), ⟨by omega, by omega⟩, by omega, ?_⟩⟩
 ·have : w = [] := List.eq_nil_of_length_eq_zero (by omega)
  subst this; rfl
 ·congr 1
  rw [hr, show ((w.length : Int) - 1).toNat = w.length - 1 by omega, rev_last]
theorem a_top {h : Hp} {id : Nat} {x : AV} {rest : List AV} {w : List Int} {o : Option Value} (ho : h[id]? = some (some (false, x :: .stk 3 o w.reverse :: rest))) (hl : w.length ≤ 1000000) : ACalls Tryz.prog 122 [.ptr id 0] h (fun a h' => a = .int .i64 (w.headD 0) ∧ h' = h) := by
 cases o with
 | some v => exact a_top_some ho hl
 | none =>
  have hr : w.reverse.length = w.length := List.length_reverse
  have hs : ∀ y, (h.set id (some (false, y)))[id]? = some (some (false, y)) := fun y => hset1 ho _
  refine ACalls.unname (off := 1) ho rfl ?_
  refine acalls_of mixed J_expr_reader_top_ok (Nat.le_of_ble_eq_true rfl) ?_; simp only [J_expr_reader_top, wkr,wk,eq_self,reduceCtorEq,↓reduceIte]
  simp only [wk,ho]
  intro v
  simp only [wkr,wk,eq_self,Nat.reduceEqDiff,reduceCtorEq,↓reduceIte, hs]
  refine ⟨fun h0 => ?_, fun h0 => ⟨inR_of (by omega) (by omega), ⟨by omega, by omega⟩, by omega, ?_⟩⟩
  ·have : w = [] := List.eq_nil_of_length_eq_zero (by omega)
   subst this; exact ⟨⟨v, rfl⟩, rfl⟩
  ·refine ⟨⟨v, rfl⟩, ?_⟩
   congr 1
   rw [hr, show ((w.length : Int) - 1).toNat = w.length - 1 by omega, rev_last]
theorem sameU_stk {h0 h : Hp} {id : Nat} {x : AV} {rest : List AV} {e : TypeId} {o : Option Value} {l : List Int} (hs : SameU h0 h) (ho : h[id]? = some (some (false, x :: .stk e o l :: rest))) : ∃ x' rest', h0[id]? = some (some (false, x' :: .stk e o l :: rest')) := by
 have h1 := congrArg (fun m : List (Option (Bool × List AV)) => m[id]?) hs
 simp only [List.getElem?_map, ho, Option.map_some, unfO, List.map_cons] at h1
 cases h2 : h0[id]? with
 | none => rw [h2] at h1; cases h1
 | some y =>
  rw [h2] at h1
  cases y with
  | none => simp [unfO] at h1
  | some z =>
   obtain ⟨s, c⟩ := z
   simp only [Option.map_some, unfO, Option.some.injEq, Prod.mk.injEq] at h1
   obtain ⟨rfl, h3⟩ := h1
   cases c with
   | nil => simp at h3
   | cons a c =>
    cases c with
    | nil => simp at h3
    | cons b c =>
     simp only [List.map_cons, List.cons.injEq] at h3
     have hb : b = .stk e o l := by
      have h4 := h3.2.1
      cases b <;> simp only [unf] at h4 <;> first | exact h4 | (split at h4 <;> first | cases h4 | exact h4) | cases h4
     subst hb
     exact ⟨a, c, rfl⟩
theorem a_topr {h : Hp} {id : Nat} {x : AV} {rest : List AV} {w : List Int} {o : Option Value} (ho : h[id]? = some (some (false, x :: .stk 3 o w.reverse :: rest))) (hl : w.length ≤ 1000000) : ∀ h0 : Hp, SameU h0 h → ACalls Tryz.prog 122 [.ptr id 0] h0 (fun a h' => a = .int .i64 (w.headD 0) ∧ h' = h0) := fun h0 hs => by
 obtain ⟨x', rest', h2⟩ := sameU_stk hs ho
 exact a_top h2 hl
theorem ACalls.unn {P : Program} {f : FuncId} {args : List AV} {h : Hp} {R : AV → Prop} {id : Nat} {r : Rdr} {y : Option (Bool × List AV)} (hid : h[id]? = some y)
  (hA : ACalls P f args h (fun a h' => R a ∧ ∃ o, h' = h.set id (rob o r))) : ACalls P f args h (fun a h' => R a ∧ h' = h.set id (rob none r)) :=
 ⟨hA.1, fun g w vargs h1 h2 h3 h4 => (hA.2 g w vargs h1 h2 h3 h4).mono fun _ _ ⟨x, a, h', g', q1, q2, q3, q4, q5, q6, q8, o, q7⟩ => by
  have hl := hset1 hid (rob none r)
  refine ⟨x, a, h.set id (rob none r), g', q1, q2, ?_, q4, q5, q6, q8, rfl⟩
  cases o with
  | none => rw [← q7]; exact q3
  | some u =>
   refine Sim.unname (off := 1) (u := u) hl rfl ?_
   rw [List.set_set]
   show Sim P g' (h.set id (rob (some u) r)) _
   rw [← q7]; exact q3⟩
def layR (m : Int) (r : Rdr) : Rdr := ⟨r.out ++ (popL m r.w).map sgn, popR m r.w, r.opn, r.beh⟩
theorem trsC_sn (l : List Trm) (t : Trm) : trsC (l ++ [t]) = trsC l ++ [.int .i64 t.op, .int .i64 t.of, .str t.name] := by simp [trsC, trC]
theorem trsC_len (l : List Trm) : (trsC l).length = l.length * 3 := by
 induction l with
 | nil => rfl
 | cons x l ih => simp only [trsC, List.flatMap_cons, List.length_append, trC, List.length_cons, List.length_nil] at ih ⊢; omega
theorem a_lay {h : Hp} {id : Nat} {r : Rdr} {m : Int} {o : Option Value} (ho : h[id]? = some (rob o r)) (hm : 0 < m) (hw : ∀ k ∈ r.w, k = 6 ∨ 0 < bindK k) (hl : r.w.length ≤ 10000) (hl2 : r.out.length ≤ 100000) : ACalls Tryz.prog 100 [.ptr id 0, .int .i64 m] h (fun a h' => a = .tup [] ∧ h' = h.set id (rob none (layR m r))) := by
 refine ACalls.unn ho ?_
 refine acalls_of mixed J_expr_reader_lay_ok (Nat.le_of_ble_eq_true rfl) ?_; simp only [J_expr_reader_lay, wk,Nat.reduceAdd]
 refine W_loop (fun n fr h' => ∃ (w2 : List Int) (a : List Int) (o : Option Value), n = w2.length ∧ popL m r.w = a ++ popL m w2 ∧ popR m r.w = popR m w2 ∧ a.length + w2.length = r.w.length ∧ (∀ k ∈ w2, k = 6 ∨ 0 < bindK k) ∧ h' = h.set id (rob o ⟨r.out ++ a.map sgn, w2, r.opn, r.beh⟩) ∧ fr = [(0, .ptr id 0), (1, .int .i64 m)]) r.w.length ⟨r.w, [], o, rfl, rfl, rfl, by simp, hw, by simp [hself1 ho], rfl⟩ ?_
 rintro n fr h' ⟨w2, a, o2, rfl, e1, e2, e3, hw2, rfl, rfl⟩
 have ho2 := hset1 ho (rob o2 ⟨r.out ++ a.map sgn, w2, r.opn, r.beh⟩)
 simp only [J_expr_reader_lay_j1, wk,eq_self,↓reduceIte]
 have hws : w2.length ≤ 10000 := by omega
 have hb : bindP (w2.headD 0) = bindK (w2.headD 0) := by
  refine bindP_ne ?_
  cases w2 with
  | nil => decide
  | cons k w2 =>
   have := hw2 k (by simp)
   show k ≠ 1
   rintro rfl
   rcases this with h | h
   ·omega
   ·rw [bind1] at h; omega
 refine ACalls.use (a_top ho2 (show w2.length ≤ 1000000 by omega)) ?_; rintro _ _ ⟨rfl, rfl⟩; simp only [wk,eq_self,↓reduceIte]
 refine PCalls.use (p_bind (w2.headD 0)) ?_; simp only [wkr,wk,eq_self,Nat.reduceEqDiff,Nat.reduceAdd,Nat.reduceMul,Nat.reduceLeDiff,reduceCtorEq,↓reduceIte]
 simp only [hb]
 have hs : ∀ y z, ((h.set id z).set id (some (false, y)))[id]? = some (some (false, y)) := fun y z => hset1 (hset1 ho z) _
 have hs1 : ∀ y, (h.set id (some (false, y)))[id]? = some (some (false, y)) := fun y => hset1 ho _
 refine ⟨fun hge => ?_, fun hlt => ?_⟩
 ·simp only [rob] at ho2
  simp only [wk,eq_self,ho2]
  refine ⟨_, a_topr (hs1 _) (show w2.length ≤ 1000000 by omega), ?_⟩
  have hol : (r.out ++ a.map sgn).length = r.out.length + a.length := by simp
  simp only [wkr,wk,eq_self,Nat.reduceEqDiff,Nat.reduceAdd,Nat.reduceLT,reduceCtorEq,↓reduceIte, hs1]
  refine ⟨⟨by omega, by omega⟩, ?_⟩
  cases w2 with
  | nil => exact absurd hge (by show ¬ m ≤ bindK 0; simp only [bindK]; omega)
  | cons k w3 =>
   have hge : m ≤ bindK k := hge
   have hrl : (k :: w3).reverse.length = w3.length + 1 := by simp
   have hw3 : w3.length + 1 ≤ 10000 := by simpa using hws
   have hrt : (k :: w3).reverse.take w3.length = w3.reverse := by
    have := List.take_left (l₁ := w3.reverse) (l₂ := [k])
    rw [List.length_reverse] at this
    rw [List.reverse_cons]; exact this
   have ht : (((k :: w3).reverse.length : Int) - 1).toNat = w3.length := by omega
   have fin : ∀ v : Value, ∃ m_1, m_1 < (k :: w3).length ∧ ∃ (w2_1 : List Int) (a_1 : List Int) (o : Option Value), m_1 = w2_1.length ∧ popL m r.w = a_1 ++ popL m w2_1 ∧ popR m r.w = popR m w2_1 ∧ a_1.length + w2_1.length = r.w.length ∧ (∀ k ∈ w2_1, k = 6 ∨ 0 < bindK k) ∧ h.set id (some (false, [.lst (.own 52) ((r.out ++ a.map sgn).length + 1) (trsC (r.out ++ a.map sgn) ++ [.int .i64 ((k :: w3).headD 0), .int .i64 0, .str ⟨#[]⟩]), .stk 3 (some v) w3.reverse, .int .i64 r.opn, .bool r.beh])) = h.set id (rob o ⟨r.out ++ a_1.map sgn, w2_1, r.opn, r.beh⟩) := fun v => by
    refine ⟨w3.length, by simp, w3, a ++ [k], some v, rfl, ?_, ?_, ?_, fun q hq => hw2 q (by simp [hq]), ?_⟩
    ·rw [e1]; simp [popL, hge]
    ·rw [e2]; simp [popR, hge]
    ·rw [List.length_cons] at e3; rw [List.length_append, List.length_singleton]; omega
    ·rw [List.map_append, ← List.append_assoc, rob]
     simp only [List.map_cons, List.map_nil, trsC_sn, List.length_append, List.length_singleton, List.headD_cons]
     rfl
   cases o2 with
   | none =>
    intro v
    rw [ht, hrt]
    exact ⟨inR_of (by omega) (by omega), ⟨by omega, by omega⟩, by omega, fin _⟩
   | some v =>
    simp only [wkr,wk,eq_self]
    rw [ht, hrt]
    exact ⟨inR_of (by omega) (by omega), ⟨by omega, by omega⟩, by omega, fin _⟩
 ·have hp : popL m w2 = [] ∧ popR m w2 = w2 := by
   cases w2 with
   | nil => exact ⟨rfl, rfl⟩
   | cons k w2 =>
    have : ¬ m ≤ bindK k := hlt
    simp [popL, popR, this]
  rw [hp.1, List.append_nil] at e1
  rw [hp.2] at e2
  exact ⟨o2, by unfold layR; rw [e1, e2]⟩
end Go.Proofs.YtedaffmkpljlnaaGreat
/- Expressions: the reader takes a token. -/
-- fast
-- rows
namespace Go.Proofs.YtedaffmkpljlnaaGreat
open Go.RowKit Go.Lib

theorem frees_trs : ∀ l : List Trm, free.frees (trsC l) = true
 | [] => rfl
 | t :: l => by
  have := frees_trs l
  simp only [trsC, List.flatMap_cons, trC, List.cons_append, List.nil_append, free.frees, free, Bool.true_and] at this ⊢
  exact this
theorem rob_low {n : Nat} {o : Option Value} {r : Rdr} {s : Bool} {l : List AV} (h : rob o r = some (s, l)) : low.lows n l = true := by
 simp only [rob, Option.some.injEq, Prod.mk.injEq] at h
 obtain ⟨_, rfl⟩ := h
 simp [low.lows, low, lows_free (frees_trs r.out)]
theorem trimR {h ex : Hp} {id : Nat} {o : Option Value} {r : Rdr} {a c : Int} (hc : a = c) : ∃ h2 ex', h.set id (rob o r) ++ ex = h2 ++ ex' ∧ h.length ≤ h2.length ∧ low h2.length (.int .i64 a) = true ∧ (∀ (j : Nat) s l, h2[j]? = some (some (s, l)) → (∃ s', h[j]? = some (some (s', l))) ∨ low.lows h2.length l = true) ∧ (.int .i64 a = AV.int .i64 c ∧ ∃ o, h2 = h.set id (rob o r)) := by
 refine ⟨_, ex, rfl, by simp, rfl, fun j s' l' hj => ?_, by rw [hc], o, rfl⟩
 rw [List.getElem?_set] at hj
 split at hj
 ·split at hj
  ·exact .inr (rob_low (o := o) (r := r) (by simpa using hj))
  ·cases hj
 ·exact .inl ⟨_, hj⟩
theorem trimR1 {h ex : Hp} {id : Nat} {o : Option Value} {r : Rdr} {a : Int} : ∃ h2 ex', h.set id (rob o r) ++ ex = h2 ++ ex' ∧ h.length ≤ h2.length ∧ low h2.length (.int .i64 a) = true ∧ (∀ (j : Nat) s l, h2[j]? = some (some (s, l)) → (∃ s', h[j]? = some (some (s', l))) ∨ low.lows h2.length l = true) ∧ (∃ o, h2 = h.set id (rob o r)) := by
 obtain ⟨h2, ex', p1, p2, p3, p4, _, p5⟩ := trimR (h := h) (ex := ex) (id := id) (o := o) (r := r) (a := a) (c := a) rfl
 exact ⟨h2, ex', p1, p2, p3, p4, p5⟩
theorem trimR0 {h ex : Hp} {id : Nat} {o : Option Value} {r r' : Rdr} {a c : Int} (ho : h[id]? = some (rob o r)) (hc : c = a ∧ r' = r) : ∃ h2 ex', h ++ ex = h2 ++ ex' ∧ h.length ≤ h2.length ∧ low h2.length (.int .i64 a) = true ∧ (∀ (j : Nat) s l, h2[j]? = some (some (s, l)) → (∃ s', h[j]? = some (some (s', l))) ∨ low.lows h2.length l = true) ∧ (.int .i64 a = AV.int .i64 c ∧ ∃ o, h2 = h.set id (rob o r')) :=
 ⟨h, ex, rfl, Nat.le_refl _, rfl, fun _ s _ hl => .inl ⟨s, hl⟩, by rw [hc.1], o, by rw [hc.2]; exact (hself1 ho).symm⟩
theorem holdE {h : Hp} {id : Nat} {y : Option (Bool × List AV)} (ho : h[id]? = some y) (ex : Hp) : (h ++ ex)[id]? = some y := by
 rw [List.getElem?_append_left (List.getElem?_eq_some_iff.1 ho).1]; exact ho
theorem setlE {h : Hp} {id : Nat} {y : Option (Bool × List AV)} (ho : h[id]? = some y) (ex : Hp) (z : Option (Bool × List AV)) : (h ++ ex).set id z = h.set id z ++ ex :=
 List.set_append_left _ _ (List.getElem?_eq_some_iff.1 ho).1
theorem boxE {h : Hp} {y : Option (Bool × List AV)} : (h ++ [y])[h.length]? = some y := by simp
theorem boxE2 {h : Hp} {id : Nat} {x y z : Option (Bool × List AV)} (ho : h[id]? = some x) : ((h ++ [y]).set id z)[h.length]? = some y := by
 rw [setlE ho, List.getElem?_append_right (by simp), List.length_set, Nat.sub_self]; rfl
theorem rob_eq {o : Option Value} {k : Nat} {l : List AV} {s : List Int} {i : Int} {b : Bool} (r : Rdr) (h1 : k = r.out.length) (h2 : l = trsC r.out) (h3 : s = r.w.reverse) (h4 : i = r.opn) (h5 : b = r.beh) : (some (false, [.lst (.own 52) k l, .stk 3 o s, .int .i64 i, .bool b]) : Option (Bool × List AV)) = rob o r := by
 subst h1; subst h2; subst h3; subst h4; subst h5; rfl
def codeR (r : Rdr) (t : Tok) : Int := match takeR r t with
 | .inl e => e
 | .inr _ => 0
def nextR (r : Rdr) (t : Tok) : Rdr := match takeR r t with
 | .inl _ => r
 | .inr r' => r'
theorem take_inl {r : Rdr} {t : Tok} {e : Int} (h : takeR r t = .inl e) : codeR r t = e ∧ nextR r t = r := by unfold codeR nextR; rw [h]; exact ⟨rfl, rfl⟩
theorem take_inr {r r' : Rdr} {t : Tok} (h : takeR r t = .inr r') : codeR r t = 0 ∧ nextR r t = r' := by unfold codeR nextR; rw [h]; exact ⟨rfl, rfl⟩
theorem a_part {h : Hp} {id : Nat} {r : Rdr} {o : Option Value} {t : Tok} (ho : h[id]? = some (rob o r)) (hb : r.beh = false) (hl : r.w.length ≤ 10000) (hl2 : r.out.length ≤ 100000) (hl3 : r.opn ≤ 10000) : ACalls Tryz.prog 121 [.ptr id 0, .agg (tC t)] h (fun a h' => a = .int .i64 (codeR r t) ∧ h' = h.set id (rob none (nextR r t))) := by
 refine ACalls.unn ho ?_
 obtain ⟨out, w, n, b⟩ := r
 simp only at hb hl hl2 hl3
 subst hb
 have ho1 := holdE ho [some (false, tC t)]
 have hs1 : ∀ z, ((h ++ [some (false, tC t)]).set id z)[id]? = some z := fun z => hset1 ho1 z
 have hbx : (h ++ [some (false, tC t)])[h.length]? = some (some (false, tC t)) := boxE
 have hbx2 : ∀ z, ((h ++ [some (false, tC t)]).set id z)[h.length]? = some (some (false, tC t)) := fun z => boxE2 ho
 have hset := setlE ho [some (false, tC t)]
 have hrl : w.reverse.length = w.length := List.length_reverse
 simp only [tC] at ho1 hs1 hbx hbx2 hset ⊢
 refine ACalls.trim (acalls_of mixed J_expr_reader_part_ok (Nat.le_of_ble_eq_true rfl) ?_); simp only [J_expr_reader_part, hbx, wk,eq_self,Nat.reduceEqDiff,Nat.reduceAdd,reduceCtorEq,↓reduceIte]
 have hid := (List.getElem?_eq_some_iff.1 ho).1
 have n1 : (id = h.length) = False := by simp; omega
 have n2 : (h.length = id) = False := by simp; omega
 refine ⟨fun k1 => ?_, fun k1 => ?_⟩
 ·have hfin : ¬ (w.headD 0 = 5 ∧ t.of ≠ 5) → codeR ⟨out, w, n, false⟩ t = 0 ∧ nextR ⟨out, w, n, false⟩ t = ⟨out ++ [leaf t], w, n, true⟩ := fun hn => take_inr (by
   unfold takeR; rw [if_pos rfl, if_pos k1, if_neg hn])
  refine ACalls.use (a_top ho1 (show w.length ≤ 1000000 by omega)) ?_; rintro _ _ ⟨rfl, rfl⟩; simp only [wk,ne_eq,eq_self,Nat.reduceEqDiff,Nat.reduceAdd,Nat.reduceMul,Nat.reduceLeDiff,Nat.reduceLT,reduceCtorEq,↓reduceIte, ho1, hbx, hbx2, hs1, n1, n2]
  refine ⟨fun h5 => ⟨fun h6 => trimR0 ho (take_inl ?_), fun h6 => ?_⟩, fun h5 => ?_⟩
  ·unfold takeR; rw [if_pos rfl, if_pos k1, if_pos ⟨h5, h6⟩]
  ·obtain ⟨g1, g2⟩ := hfin (fun x => x.2 h6)
   simp only [J_expr_reader_part_j1, wk,eq_self,↓reduceIte]
   refine ⟨⟨by omega, by omega⟩, ?_⟩
   rw [hset, rob_eq ⟨out ++ [leaf t], w, n, true⟩ (by simp) (by simp [trsC_sn, leaf]) rfl rfl rfl, g1, g2]
   exact trimR rfl
  ·obtain ⟨g1, g2⟩ := hfin (fun x => h5 x.1)
   simp only [J_expr_reader_part_j1, wk,eq_self,↓reduceIte]
   refine ⟨⟨by omega, by omega⟩, ?_⟩
   rw [hset, rob_eq ⟨out ++ [leaf t], w, n, true⟩ (by simp) (by simp [trsC_sn, leaf]) rfl rfl rfl, g1, g2]
   exact trimR rfl
 ·have no : t.kind ≠ 6 ∨ w.headD 0 = 5 → takeR ⟨out, w, n, false⟩ t = .inl 2 := fun hn => by
   unfold takeR
   rw [if_pos rfl, if_neg k1, if_neg (by rintro ⟨a, b⟩; rcases hn with h | h; exact h a; exact b h)]
  refine ⟨fun k6 => ?_, fun k6 => ?_⟩
  ·refine ACalls.use (a_top ho1 (show w.length ≤ 1000000 by omega)) ?_; rintro _ _ ⟨rfl, rfl⟩; simp only [wkr,wk,ne_eq,eq_self,Nat.reduceEqDiff,Nat.reduceAdd,Nat.reduceLeDiff,Nat.reduceLT,reduceCtorEq,↓reduceIte, ho1, hs1]
   refine ⟨fun h5 => ⟨fun h1 => trimR0 ho (take_inl ?_), fun h1 => ⟨⟨by omega, by omega⟩, inR_of (by omega) (by omega), ?_⟩⟩, fun h5 => ?_⟩
   ·unfold takeR; rw [if_pos rfl, if_neg k1, if_pos ⟨k6, h5⟩, if_pos (by show n = 100; omega)]
   ·simp only [J_expr_reader_part_j1, wk,eq_self,↓reduceIte]
    obtain ⟨g1, g2⟩ := take_inr (r := ⟨out, w, n, false⟩) (t := t) (r' := ⟨out, 6 :: w, n + 1, false⟩) (by
     unfold takeR; rw [if_pos rfl, if_neg k1, if_pos ⟨k6, h5⟩, if_neg (by show ¬ n = 100; omega)])
    rw [hset, rob_eq ⟨out, 6 :: w, n + 1, false⟩ rfl rfl (by simp) (by simp) rfl, g1, g2]
    exact trimR rfl
   ·exact trimR0 ho (take_inl (no (.inr h5)))
  ·exact trimR0 ho (take_inl (no (.inl k6)))
theorem a_take {h : Hp} {id : Nat} {r : Rdr} {o : Option Value} {t : Tok} (ho : h[id]? = some (rob o r)) (hw : rcnt r) (hl : r.w.length ≤ 10000) (hl2 : r.out.length + r.w.length ≤ 10000) (hl3 : r.opn ≤ 10000) : ACalls Tryz.prog 99 [.ptr id 0, .agg (tC t)] h (fun a h' => a = .int .i64 (codeR r t) ∧ h' = h.set id (rob none (nextR r t))) := by
 refine ACalls.unn ho ?_
 obtain ⟨out, w, n, b⟩ := r
 obtain ⟨kd, nm, tf, ta⟩ := t
 simp only at hl hl2 hl3
 have ho1 := holdE ho [some (false, tC ⟨kd, nm, tf, ta⟩)]
 have hs1 : ∀ z, ((h ++ [some (false, tC ⟨kd, nm, tf, ta⟩)]).set id z)[id]? = some z := fun z => hset1 ho1 z
 have hbx : (h ++ [some (false, tC ⟨kd, nm, tf, ta⟩)])[h.length]? = some (some (false, tC ⟨kd, nm, tf, ta⟩)) := boxE
 have hbx2 : ∀ z, ((h ++ [some (false, tC ⟨kd, nm, tf, ta⟩)]).set id z)[h.length]? = some (some (false, tC ⟨kd, nm, tf, ta⟩)) := fun z => boxE2 ho
 have hset := setlE ho [some (false, tC ⟨kd, nm, tf, ta⟩)]
 have hid := (List.getElem?_eq_some_iff.1 ho).1
 have n1 : (id = h.length) = False := by simp; omega
 have n2 : (h.length = id) = False := by simp; omega
 have hpart : b = false → _ := fun hb => a_part (h := h ++ [some (false, tC ⟨kd, nm, tf, ta⟩)]) (t := ⟨kd, nm, tf, ta⟩) ho1 hb hl (by show out.length ≤ _; omega) hl3
 have hlay : ∀ m : Int, 0 < m → _ := fun m hm => a_lay (h := h ++ [some (false, tC ⟨kd, nm, tf, ta⟩)]) (m := m) ho1 hm hw.2 hl (by show out.length ≤ _; omega)
 have hrc : ∀ m, (popR m w).reverse.length = (popR m w).length := fun m => List.length_reverse
 have hrl : ∀ m, (popR m w).length ≤ w.length := fun m => (List.dropWhile_suffix _).length_le
 simp only [tC] at ho1 hs1 hbx hbx2 hset hpart hlay ⊢
 cases b with
 | false =>
  refine ACalls.trim (acalls_of mixed J_expr_reader_take_ok (Nat.le_of_ble_eq_true rfl) ?_); simp only [J_expr_reader_take, ho1, hbx, wk,eq_self,Nat.reduceEqDiff,Nat.reduceAdd,Nat.reduceLeDiff,reduceCtorEq,↓reduceIte]
  refine ACalls.use (hpart rfl) ?_; rintro _ _ ⟨rfl, rfl⟩; simp only [wk,eq_self,↓reduceIte]
  rw [hset]
  exact trimR1
 | true =>
  by_cases hk : 0 < bindK kd
  ·have hk1 := bind_pos hk
   obtain ⟨g1, g2⟩ := take_inr (r := ⟨out, w, n, true⟩) (t := ⟨kd, nm, tf, ta⟩) (r' := ⟨out ++ (popL (bindK kd) w).map sgn, kd :: popR (bindK kd) w, n, false⟩) (by
    unfold takeR; rw [if_neg (by simp), if_pos hk])
   have hla := hlay _ hk
   simp only [layR, rob] at hla
   have qb := p_bind kd
   rw [bindP_ne (bind_ne hk).1] at qb
   have hrl2 := hrl (bindK kd)
   have hrc2 := hrc (bindK kd)
   rw [g1, g2]
   rcases hk1 with rfl | rfl | rfl | rfl
   all_goals
    refine ACalls.trim (acalls_of mixed J_expr_reader_take_ok (Nat.le_of_ble_eq_true rfl) ?_); simp only [J_expr_reader_take, ho1, hbx, wk,eq_self,Nat.reduceEqDiff,Nat.reduceAdd,Int.reduceEq,reduceCtorEq,↓reduceIte]
    simp only [J_expr_reader_take_j2, hbx, wk,eq_self,Nat.reduceEqDiff,reduceCtorEq,↓reduceIte]
    refine PCalls.use (qb) ?_; simp only [wk,eq_self,Nat.reduceEqDiff,↓reduceIte]
    refine ACalls.use (hla) ?_; rintro _ _ ⟨rfl, rfl⟩; simp only [wkr,wk,ne_eq,eq_self,Nat.reduceEqDiff,Nat.reduceAdd,Nat.reduceLeDiff,Nat.reduceLT,reduceCtorEq,↓reduceIte, hbx2, hs1, n1, n2]
    simp only [J_expr_reader_take_j1, wk,eq_self,↓reduceIte]
    refine ⟨⟨by omega, by omega⟩, ?_⟩
    rw [hset, rob_eq ⟨out ++ (popL _ w).map sgn, _ :: popR _ w, n, false⟩ rfl rfl List.reverse_cons.symm rfl rfl]
    exact trimR1
  ·have nb : ∀ k : Int, 0 < bindK k → (kd = k) = False := fun k hk2 => by simp; rintro rfl; exact hk hk2
   have e2 := nb 2 (by decide)
   have e3 := nb 3 (by decide)
   have e4 := nb 4 (by decide)
   have e5 := nb 5 (by decide)
   by_cases k7 : kd = 7
   ·subst k7
    by_cases hn : n = 0
    ·subst hn
     obtain ⟨g1, g2⟩ := take_inl (r := ⟨out, w, 0, true⟩) (t := ⟨7, nm, tf, ta⟩) (e := 2) (by unfold takeR; rw [if_neg (by simp), if_neg hk, if_pos rfl, if_pos rfl])
     refine ACalls.trim (acalls_of mixed J_expr_reader_take_ok (Nat.le_of_ble_eq_true rfl) ?_); simp only [J_expr_reader_take, ho1, hbx, wk,eq_self,Nat.reduceEqDiff,Nat.reduceAdd,Int.reduceEq,reduceCtorEq,↓reduceIte]
     simp only [J_expr_reader_take_j2, ho1, (show (((0 : Nat) : Int) = 0) = True by simp), wk,eq_self,Nat.reduceEqDiff,reduceCtorEq,↓reduceIte]
     exact trimR0 ho ⟨g1, g2⟩
    ·obtain ⟨g1, g2⟩ := take_inr (r := ⟨out, w, n, true⟩) (t := ⟨7, nm, tf, ta⟩) (r' := ⟨out ++ (popL 1 w).map sgn, (popR 1 w).tail, n - 1, true⟩) (by
      unfold takeR; rw [if_neg (by simp), if_neg hk, if_pos rfl, if_neg hn])
     have hla := hlay 1 (by decide)
     simp only [layR, rob] at hla
     refine ACalls.trim (acalls_of mixed J_expr_reader_take_ok (Nat.le_of_ble_eq_true rfl) ?_); simp only [J_expr_reader_take, ho1, hbx, wk,eq_self,Nat.reduceEqDiff,Nat.reduceAdd,Int.reduceEq,reduceCtorEq,↓reduceIte]
     simp only [J_expr_reader_take_j2, ho1, (show ((n : Int) = 0) = False by simp; omega), wk,eq_self,Nat.reduceEqDiff,reduceCtorEq,↓reduceIte]
     refine ACalls.use (hla) ?_; rintro _ _ ⟨rfl, rfl⟩; simp only [wkr,wk,eq_self,Nat.reduceEqDiff,Nat.reduceAdd,Nat.reduceLeDiff,reduceCtorEq,↓reduceIte, hs1]
     intro v
     obtain ⟨R, e1, _⟩ := popR_close (P := w) (by have := hw.1; simp only at this; omega) hw.2
     have hR := hrl 1
     rw [e1] at hR g2
     rw [List.length_cons] at hR
     have q1 : (6 :: R).reverse.length = R.length + 1 := by simp
     have q2 : (((6 :: R).reverse.length : Int) - 1).toNat = R.length := by omega
     have q3 : (6 :: R).reverse.take R.length = R.reverse := by
      have := List.take_left (l₁ := R.reverse) (l₂ := [6])
      rw [List.length_reverse] at this
      rw [List.reverse_cons]; exact this
     rw [e1, q2, q3]
     refine ⟨inR_of (by omega) (by omega), ⟨by omega, by omega⟩, by omega, inR_of (by omega) (by omega), ?_⟩
     simp only [J_expr_reader_take_j1, wk,eq_self,↓reduceIte]
     rw [hset, rob_eq ⟨out ++ (popL 1 w).map sgn, R, n - 1, true⟩ rfl rfl rfl (by show (n : Int) - 1 = ((n - 1 : Nat) : Int); omega) rfl, g1, g2]
     exact trimR rfl
   ·have e7 : (kd = 7) = False := by simpa using k7
    refine ACalls.trim (acalls_of mixed J_expr_reader_take_ok (Nat.le_of_ble_eq_true rfl) ?_); simp only [J_expr_reader_take, ho1, hbx, e2, e3, e4, e5, wk,eq_self,Nat.reduceEqDiff,Nat.reduceAdd,reduceCtorEq,↓reduceIte]
    simp only [J_expr_reader_take_j2, e7, wk,eq_self,Nat.reduceEqDiff,reduceCtorEq,↓reduceIte]
    exact trimR0 ho (take_inl (by unfold takeR; rw [if_neg (by simp), if_neg hk, if_neg k7]))
end Go.Proofs.YtedaffmkpljlnaaGreat
/- Expressions: Read. -/
-- fast
-- rows
namespace Go.Proofs.YtedaffmkpljlnaaGreat
open Go.RowKit Go.Lib

def wdB (t : Tok) : Bool := !decide (wordT t.kind t.name t.of = ⟨#[]⟩)
def resX (r : List Trm × Nat × Int) : AV := .tup [vTrs r.1, .int .i64 r.2.1, .int .i64 r.2.2]
theorem free_resX (r : List Trm × Nat × Int) : free (resX r) = true := by simp [resX, vTrs, free, free.frees, frees_trs]
theorem rdps_trs : ∀ l : List Trm, rdps (trsC l) = trsC l
 | [] => rdps_nil
 | x :: l => by
  have := rdps_trs l
  simp only [trsC, List.flatMap_cons, trC, List.cons_append, List.nil_append, rdpw] at this ⊢
  rw [this]
theorem take_size {r r' : Rdr} {t : Tok} (h : takeR r t = .inr r') : r'.out.length + r'.w.length ≤ r.out.length + r.w.length + 1 := by
 have key : ∀ m, (popL m r.w).length + (popR m r.w).length = r.w.length := fun m => by
  rw [← List.length_append, popL, popR, List.takeWhile_append_dropWhile]
 unfold takeR at h
 split at h
 ·split at h
  ·split at h
   ·cases h
   ·simp only [Sum.inr.injEq] at h; subst h; simp; omega
  ·split at h
   ·split at h
    ·cases h
    ·simp only [Sum.inr.injEq] at h; subst h; simp; omega
   ·cases h
 ·split at h
  ·simp only [Sum.inr.injEq] at h; subst h
   have := key (bindK t.kind)
   simp only [List.length_append, List.length_map, List.length_cons]; omega
  ·split at h
   ·split at h
    ·cases h
    ·simp only [Sum.inr.injEq] at h; subst h
     have := key 1
     simp only [List.length_append, List.length_map, List.length_tail]; omega
   ·cases h
theorem rcnt_le {r : Rdr} (h : rcnt r) : r.opn ≤ r.w.length := by rw [← h.1]; exact List.count_le_length
theorem p_read (l : List Tok) (hl : l.length ≤ 5000) (hn : ∀ t ∈ l, t.name.size ≤ 1000000) : PCalls Tryz.prog 62 [vToks l] (resX (readR wdB l)) := by
 refine pcalls_of (by simp [vToks, free, free.frees, frees_toks]) (free_resX _) (ACalls.deep (acalls_of mixed J_expr_Read_ok (Nat.le_of_ble_eq_true rfl) ?_)); simp only [J_expr_Read, vToks, wk,eq_self,Nat.reduceEqDiff,reduceCtorEq,↓reduceIte]
 refine W_loop (fun m fr h' => ∃ i : Nat, i ≤ l.length ∧ m = l.length - i ∧ (∀ j (hj : j < l.length), j < i → wdB l[j] = true) ∧ fr = [(0, .lst .ro l.length (toksC l)), (11, .lst .ro l.length (toksC l)), (12, .int .i64 l.length), (13, .int .i64 i)]) l.length ⟨0, by omega, by omega, fun j _ h => by omega, rfl⟩ ?_
 rintro m fr h' ⟨i, hi, rfl, hw, rfl⟩
 simp only [J_expr_Read_j4, wk,eq_self,Nat.reduceEqDiff,Nat.reduceAdd,Nat.reduceLeDiff,reduceCtorEq,↓reduceIte]
 refine ⟨fun hlt => ?_, fun hge => ?_⟩
 ·have hil : i < l.length := by omega
  have hd : (toksC l).drop ((i : Int).toNat * 4) = _ := toksC_drop hil
  have qw := p_word l[i].kind l[i].name l[i].of l[i].at_ (hn _ (List.getElem_mem hil))
  refine ⟨⟨by omega, by omega⟩, ?_⟩
  simp only [wk,eq_self,Nat.reduceAdd,Nat.reduceLeDiff,hd]
  refine PCalls.use (qw) ?_; simp only [wk,eq_self,Nat.reduceEqDiff,reduceCtorEq,↓reduceIte]
  refine ⟨fun h0 => ?_, fun h0 => ⟨inR_of (by omega) (by omega), l.length - (i + 1), by omega, i + 1, by omega, rfl, fun j hj hji => ?_, rfl⟩⟩
  ·have hf : l.findIdx? (fun t => !wdB t) = some i := by
    rw [List.findIdx?_eq_some_iff_getElem]
    refine ⟨hil, by simp [wdB, h0], fun j hj => ?_⟩
    rw [hw j (by omega) hj]; simp
   unfold readR
   rw [hf]
   simp only [rdpw, resX, vTrs]
   rfl
  ·rcases Nat.lt_or_ge j i with h1 | h1
   ·exact hw j hj h1
   ·obtain rfl : j = i := by omega
    simpa [wdB] using h0
 ·have hall : ∀ t ∈ l, wdB t = true := fun t ht => by
   obtain ⟨j, hj, rfl⟩ := List.mem_iff_getElem.1 ht
   exact hw j hj (by omega)
  have hr0 := runR_eq l 0 false ⟨[], [], 0, false⟩ (fun _ => by simp)
  rw [readR_acc hall]
  simp only [J_expr_Read_j3, wkr,wk,eq_self,Nat.reduceEqDiff,reduceCtorEq,↓reduceIte]
  obtain ⟨id, hid⟩ : ∃ id, id = h'.length := ⟨_, rfl⟩
  rw [← hid]
  refine W_loop (fun m fr h'' => ∃ (i : Nat) (r : Rdr), i ≤ l.length ∧ m = l.length - i ∧ runR 0 ⟨[], [], 0, false⟩ l = runR i r (l.drop i) ∧ rcnt r ∧ r.out.length + r.w.length ≤ i ∧ h''[id]? = some (rob none r) ∧ fr = [(0, .lst .ro l.length (toksC l)), (7, .ptr id 0), (23, .lst .ro l.length (toksC l)), (24, .int .i64 l.length), (25, .int .i64 i)]) l.length ⟨0, ⟨[], [], 0, false⟩, by omega, by omega, rfl, ⟨rfl, by simp⟩, by simp, by rw [hid]; exact boxE, rfl⟩ ?_
  rintro m fr h'' ⟨i2, r, hi2, rfl, hrun, hrc, hsz, hob, rfl⟩
  simp only [J_expr_Read_j2, wk,eq_self,Nat.reduceEqDiff,Nat.reduceAdd,Nat.reduceLeDiff,reduceCtorEq,↓reduceIte]
  refine ⟨fun hlt => ?_, fun hge2 => ?_⟩
  ·have hil : i2 < l.length := by omega
   have hd : (toksC l).drop ((i2 : Int).toNat * 4) = _ := toksC_drop hil
   refine ⟨⟨by omega, by omega⟩, ?_⟩
   have htk := fun ex => a_take (t := l[i2]) (holdE hob ex) hrc (by omega) (by omega) (by have := rcnt_le hrc; omega)
   simp only [tC] at htk
   rw [List.drop_eq_getElem_cons hil] at hrun
   simp only [runR] at hrun
   simp only [wk,eq_self,Nat.reduceAdd,Nat.reduceLeDiff,hd]
   refine ACalls.use (htk _) ?_; rintro _ _ ⟨rfl, rfl⟩; simp only [wk,ne_eq,eq_self,Nat.reduceEqDiff,reduceCtorEq,↓reduceIte]
   cases ht : takeR r l[i2] with
   | inl e =>
    rw [ht] at hrun
    simp only at hrun
    rw [hrun] at hr0
    obtain ⟨g1, g2⟩ := take_inl ht
    rw [g1]
    cases hc : ctlE 100 0 false 0 false l with
    | inr y => rw [hc] at hr0; cases hr0
    | inl y =>
     rw [hc] at hr0
     simp only [Sum.inl.injEq] at hr0
     subst hr0
     obtain ⟨_, _, he⟩ := ctlE_lt _ _ _ _ _ _ _ hc
     refine ⟨fun h0 => ?_, fun h0 => absurd h0 (by omega)⟩
     simp only [rdpw, resX, vTrs]
     rfl
   | inr r' =>
    rw [ht] at hrun
    simp only at hrun
    obtain ⟨g1, g2⟩ := take_inr ht
    rw [g1, g2]
    refine ⟨fun h => absurd rfl h, fun _ => ⟨inR_of (by omega) (by omega), l.length - (i2 + 1), by omega, i2 + 1, r', by omega, rfl, hrun, rcnt_take hrc ht, by have := take_size ht; omega, hset1 (holdE hob _) _, rfl⟩⟩
  ·obtain rfl : i2 = l.length := by omega
   rw [List.drop_length] at hrun
   simp only [runR] at hrun
   rw [hrun] at hr0
   cases hc : ctlE 100 0 false 0 false l with
   | inl y => rw [hc] at hr0; cases hr0
   | inr y =>
    obtain ⟨b, n⟩ := y
    rw [hc] at hr0
    simp only [Sum.inr.injEq] at hr0
    obtain ⟨out, w, opn, beh⟩ := r
    simp only [Rdr.mk.injEq] at hr0
    obtain ⟨rfl, rfl, rfl, rfl⟩ := hr0
    have hla := a_lay (m := 1) hob (by decide) hrc.2 (by simp only at hsz ⊢; omega) (by simp only at hsz ⊢; omega)
    have hob2 := hset1 hob (rob none (layR 1 ⟨(srun l ([], [])).1, (srun l ([], [])).2, opn, beh⟩))
    simp only [rob, layR] at hla hob hob2
    have hrd : (srun l ([], [])).1 ++ (popL 1 (srun l ([], [])).2).map sgn = readD l := rfl
    rw [hrd] at hla hob2
    simp only [J_expr_Read_j1, hob, wk,eq_self,Nat.reduceEqDiff,reduceCtorEq,↓reduceIte]
    refine ⟨fun hb => ⟨fun h0 => ?_, fun h0 => ?_⟩, fun hb => ?_⟩
    ·rw [if_pos (.inr (by omega))]
     simp only [rdpw, resX, vTrs]
     rfl
    ·rw [if_neg (by rw [hb]; simp; omega)]
     refine ACalls.use (hla) ?_; rintro _ _ ⟨rfl, rfl⟩; simp only [wk,eq_self,Nat.reduceEqDiff,reduceCtorEq,↓reduceIte, hob2]
     refine ⟨fun h2 => ?_, fun h2 => ?_⟩
     ·rw [if_pos (by omega)]
      simp only [rdpw, resX, vTrs]
      rfl
     ·rw [if_neg (by omega)]
      simp only [rdpw, resX, vTrs, rdps_trs]
      rfl
    ·rw [if_pos (.inl hb)]
     simp only [rdpw, resX, vTrs]
     rfl
end Go.Proofs.YtedaffmkpljlnaaGreat
/- Expressions: the document's Read. -/
-- fast
-- rows
namespace Go.Proofs.YtedaffmkpljlnaaGreat
open Go.RowKit Go.Lib

theorem eqTrue {p : Prop} (h : p) : p = True := eq_true h
theorem eqFalse {p : Prop} (h : ¬ p) : p = False := eq_false h
end Go.Proofs.YtedaffmkpljlnaaGreat
/- Expressions: the document's terms, and its Read. -/
-- fast
-- rows
namespace Go.Proofs.YtedaffmkpljlnaaGreat
open Go.RowKit Go.Lib

theorem srun_size : ∀ (l : List Tok) (s : List Trm × List Int), (srun l s).1.length + (srun l s).2.length ≤ s.1.length + s.2.length + l.length
 | [], s => by simp [srun]
 | t :: l, s => by
  have ih := srun_size l (sstep s t)
  have key : ∀ m, (popL m s.2).length + (popR m s.2).length = s.2.length := fun m => by
   rw [← List.length_append, popL, popR, List.takeWhile_append_dropWhile]
  have h1 : (sstep s t).1.length + (sstep s t).2.length ≤ s.1.length + s.2.length + 1 := by
   unfold sstep
   split
   ·simp; omega
   ·split
    ·simp; omega
    ·split
     ·have := key 1
      simp only [List.length_append, List.length_map, List.length_tail]; omega
     ·have := key (bindK t.kind)
      simp only [List.length_append, List.length_map, List.length_cons]; omega
  show (srun l (sstep s t)).1.length + (srun l (sstep s t)).2.length ≤ _
  rw [List.length_cons]; omega
theorem readD_size (l : List Tok) : (readD l).length ≤ l.length := by
 have h1 := srun_size l ([], [])
 have h2 : (popL 1 (srun l ([], [])).2).length ≤ (srun l ([], [])).2.length := (List.takeWhile_prefix _).length_le
 unfold readD
 simp only [List.length_append, List.length_map, List.length_nil] at h1 ⊢
 omega
end Go.Proofs.YtedaffmkpljlnaaGreat
/- The program's name and sign. -/
namespace Go.Proofs.YtedaffmkpljlnaaGreat
open Go.RowKit Go.Lib

def colonL (l : List UInt8) : Bool := match l with
 | [] => false
 | b :: _ => b.toNat == 58
def pnameL (l : List UInt8) : Sig :=
 if aheW (ba (l.take (stopN innI l))) ≠ 0 ∧ colonL (l.drop (stopN innI l)) = true then
  (1, ba ((l.drop (stopN innI l + 1)).take (stopN innI (l.drop (stopN innI l + 1)))), aheW (ba (l.take (stopN innI l))), stopN innI l + 1 + stopN innI (l.drop (stopN innI l + 1)))
 else if keyW (ba (l.take (stopN innI l))) ≠ 0 then (keyW (ba (l.take (stopN innI l))), ba [], 0, stopN innI l)
 else (1, ba (l.take (stopN innI l)), 3, stopN innI l)
def sigV (x : Sig) (a : Nat) : AV := .tup [.agg [.int .i64 x.1, .str x.2.1, .int .i64 x.2.2.1, .int .i64 0], .int .i64 (a + x.2.2.2 : Nat)]
theorem p_pname (s : ByteArray) (a : Nat) (hs : s.size ≤ 1000000) (ha : a < s.size) :
  PCalls Tryz.prog 119 [.str s, .int .i64 a] (sigV (pnameL (s.data.toList.drop a)) a) := by
 have hl := len_size s
 obtain ⟨L, hL⟩ : ∃ L, L = s.data.toList.drop a := ⟨_, rfl⟩
 have hLl : L.length = s.size - a := by rw [hL, List.length_drop]; omega
 have hle := stopN_le innI L
 have q1 := p_stop (f := 143) p_inName hi_inn s a hs (by omega)
 rw [← hL] at q1 ⊢
 obtain ⟨m, hm⟩ : ∃ m, m = stopN innI L := ⟨_, rfl⟩
 rw [← hm] at q1 hle
 rw [show ((a : Int) + (m : Nat)) = ((a + m : Nat) : Int) by omega] at q1
 refine pcalls_of (by first | rfl | simp [free, free.frees, frees_str, frees_u8, frees_u16]) (by first | rfl | simp [free, free.frees, frees_str, frees_u8, frees_u16]) (acalls_of mixed J_token_name_ok (Nat.le_of_ble_eq_true rfl) ?_); simp only [J_token_name, wk,eq_self,Nat.reduceEqDiff,Nat.reduceAdd,reduceCtorEq,↓reduceIte]
 refine PCalls.use (q1) ?_; simp only [wk,eq_self,Nat.reduceEqDiff,reduceCtorEq,↓reduceIte]
 have hw : s.extract a (a + m) = ba (L.take m) := by rw [ext_ba, ← hL]
 simp only [Int.toNat_natCast, hw]
 refine ⟨⟨by omega, by omega, by omega⟩, ?_⟩
 refine PCalls.use (p_ahead (ba (L.take m))) ?_; simp only [wk,ne_eq,eq_self,Nat.reduceEqDiff,reduceCtorEq,↓reduceIte]
 have hcol : colonL (L.drop m) = true ↔ (a + m < s.size ∧ byteAt s (a + m) = 58) := by
  rcases Nat.lt_or_ge (a + m) s.size with h | h
  ·have hml : m < L.length := by omega
   rw [List.drop_eq_getElem_cons hml]
   have e : L[m] = s.data.toList[a + m] := by simp only [hL, List.getElem_drop]
   rw [byte_at (show a + m < s.data.toList.length by omega), ← e]
   simp [colonL, h]
  ·rw [List.drop_of_length_le (by omega)]
   simp [colonL]; omega
 have hd2 : s.data.toList.drop (a + m + 1) = L.drop (m + 1) := by rw [hL, List.drop_drop, Nat.add_assoc]
 have e1 : ((a : Int) + (m : Nat)) = ((a + m : Nat) : Int) := by omega
 have yes : (aheW (ba (L.take m)) ≠ 0 ∧ colonL (L.drop m) = true) → pnameL L = (1, ba ((L.drop (m + 1)).take (stopN innI (L.drop (m + 1)))), aheW (ba (L.take m)), m + 1 + stopN innI (L.drop (m + 1))) := fun h => by
  unfold pnameL; rw [← hm, if_pos h]
 have no : ¬ (aheW (ba (L.take m)) ≠ 0 ∧ colonL (L.drop m) = true) → pnameL L = if keyW (ba (L.take m)) ≠ 0 then (keyW (ba (L.take m)), ba [], 0, m) else (1, ba (L.take m), 3, m) := fun h => by
  unfold pnameL; rw [← hm, if_neg h]
 have qk := p_keyword (ba (L.take m))
 refine ⟨fun h1 => ⟨fun h2 => ⟨⟨by omega, by omega⟩, fun h3 => ⟨inR_of (by omega) (by omega), ?_⟩, fun h3 => ?_⟩, fun h2 => ?_⟩, fun h1 => ?_⟩
 ·rw [Int.toNat_natCast] at h3
  have q2 := p_stop (f := 143) p_inName hi_inn s (a + m + 1) hs (by omega)
  rw [hd2] at q2
  have y := yes ⟨h1, hcol.2 ⟨by omega, by omega⟩⟩
  obtain ⟨m2, hm2⟩ : ∃ m2, m2 = stopN innI (L.drop (m + 1)) := ⟨_, rfl⟩
  rw [← hm2] at q2 y
  have hle2 : m2 ≤ (L.drop (m + 1)).length := by rw [hm2]; exact stopN_le _ _
  rw [List.length_drop] at hle2
  rw [show ((a + m : Nat) : Int) + 1 = ((a + m + 1 : Nat) : Int) by omega]
  rw [show ((a + m + 1 : Nat) : Int) + (m2 : Nat) = ((a + m + 1 + m2 : Nat) : Int) by omega] at q2
  refine PCalls.use (q2) ?_; simp only [wk,eq_self,Nat.reduceEqDiff,Nat.reduceAdd,Nat.reduceLeDiff,reduceCtorEq,↓reduceIte]
  refine ⟨⟨by omega, by omega, by omega⟩, ?_⟩
  rw [y]
  have hw2 : s.extract (a + m + 1) (a + m + 1 + m2) = ba ((L.drop (m + 1)).take m2) := by rw [ext_ba, hd2]
  rw [Int.toNat_natCast, Int.toNat_natCast, hw2]
  rw [show (a + m + 1 + m2 : Nat) = a + (m + 1 + m2) by omega]
  exact ⟨Nat.le_refl _, rfl⟩
 all_goals (refine PCalls.use qk ?_; simp only [wk,ne_eq,eq_self,Nat.reduceEqDiff,Nat.reduceAdd,Nat.reduceLeDiff,↓reduceIte])
 all_goals (
  rw [no (by
   first
    | (intro hh; exact h3 (by have := (hcol.1 hh.2).2; rw [Int.toNat_natCast]; omega))
    | (intro hh; exact h2 (by have := (hcol.1 hh.2).1; omega))
    | (intro hh; exact hh.1 h1))]
  refine ⟨fun hk => ?_, fun hk => ?_⟩
  ·rw [if_pos hk]; exact ⟨Nat.le_refl _, rfl⟩
  ·rw [if_neg (fun h => h hk)]; exact ⟨Nat.le_refl _, rfl⟩)
theorem dec_val (s : ByteArray) (p : Nat) : (Utf8.decode s p).1 ≤ 1114111 ∧ (128 ≤ (Utf8.decode s p).1 → Utf8.valid ((Utf8.decode s p).1 : Nat) = true) := by
 have e : Utf8.runeError ≤ 1114111 ∧ (128 ≤ Utf8.runeError → Utf8.valid (Utf8.runeError : Nat) = true) := by decide
 have hb : ∀ k, (s.get! k).toNat < 256 := fun k => (s.get! k).toNat_lt
 simp only [Utf8.decode]
 split
 ·exact ⟨by simp only; omega, fun h => by simp only at h; omega⟩
 ·split
  ·next c =>
   split
   ·have := hb (p + 0)
    refine ⟨by simp only; omega, fun _ => ?_⟩
    unfold Utf8.valid
    simp only [Bool.or_eq_true, Bool.and_eq_true, decide_eq_true_eq]
    left; omega
   ·exact e
  ·split
   ·split
    ·next c =>
     simp only [Bool.and_eq_true, decide_eq_true_eq] at c
     refine ⟨?_, fun _ => c.2⟩
     have := c.2
     unfold Utf8.valid at this
     simp only [Bool.or_eq_true, Bool.and_eq_true, decide_eq_true_eq] at this
     simp only; omega
    ·exact e
   ·split
    ·split
     ·next c =>
      simp only [Bool.and_eq_true, decide_eq_true_eq] at c
      refine ⟨?_, fun _ => c.2⟩
      have := c.2
      unfold Utf8.valid at this
      simp only [Bool.or_eq_true, Bool.and_eq_true, decide_eq_true_eq] at this
      simp only; omega
     ·exact e
    ·exact e
theorem colon_iff {p L : List UInt8} (hp : ∀ b ∈ p, innI b.toNat = true) : L.take (p.length + 1) = p ++ [58] ↔ (L.take (stopN innI L) = p ∧ colonL (L.drop (stopN innI L)) = true) := by
 constructor
 ·intro h
  have e : L = p ++ 58 :: L.drop (p.length + 1) := by
   have := (List.take_append_drop (p.length + 1) L).symm
   rw [h] at this
   simpa using this
  have hs : stopN innI L = p.length := by
   rw [e]
   unfold stopN
   refine tw_len (by simp) (fun b hb => ?_) (fun h => ?_)
   ·rw [List.take_left] at hb; exact hp b hb
   ·rw [List.getElem_append_right (Nat.le_refl _)]; simp; decide
  rw [hs, e]
  simp [colonL]
 ·rintro ⟨h1, h2⟩
  have e := (List.take_append_drop (stopN innI L) L).symm
  rw [h1] at e
  obtain ⟨r, hr⟩ : ∃ r, L.drop (stopN innI L) = 58 :: r := by
   cases hd : L.drop (stopN innI L) with
   | nil => rw [hd] at h2; cases h2
   | cons c r =>
    rw [hd] at h2
    have : c = 58 := by
     apply UInt8.toNat_inj.1; simpa [colonL] using h2
    exact ⟨r, by rw [this]⟩
  rw [hr] at e
  rw [e]; simp [List.take_append]
  exact List.take_of_length_le (by omega)
theorem beg_key {L : List UInt8} {k : Int} (p : List UInt8) (hk : preW k = ba (p ++ [58])) (hp : ∀ b ∈ p, innI b.toNat = true) : begL (preW k) L = true ↔ (ba (L.take (stopN innI L)) = ba p ∧ colonL (L.drop (stopN innI L)) = true) := by
 unfold begL
 rw [hk, decide_eq_true_eq, ba_list, ba_len2, List.length_append, List.length_singleton, colon_iff hp, ba_inj]
theorem kind_name (L : List UInt8) : kindL L = if aheW (ba (L.take (stopN innI L))) ≠ 0 ∧ colonL (L.drop (stopN innI L)) = true then aheW (ba (L.take (stopN innI L))) else 0 := by
 have b1 := beg_key (L := L) (k := 1) [107, 101, 121] rfl (by decide)
 have b2 := beg_key (L := L) (k := 2) [99, 104, 97, 110] rfl (by decide)
 have b4 := beg_key (L := L) (k := 4) [103, 114, 111, 117, 112] rfl (by decide)
 have b5 := beg_key (L := L) (k := 5) [114, 111, 108, 101] rfl (by decide)
 unfold kindL aheW
 simp only [b1, b2, b4, b5]
 by_cases hc : colonL (L.drop (stopN innI L)) = true
 ·simp only [hc, and_true]
  show _ = _
  simp only [ba, List.toArray]
  by_cases h1 : ba (L.take (stopN innI L)) = ⟨#[107, 101, 121]⟩
  ·simp_all [ba]
  ·by_cases h2 : ba (L.take (stopN innI L)) = ⟨#[99, 104, 97, 110]⟩
   ·simp_all [ba]
   ·by_cases h4 : ba (L.take (stopN innI L)) = ⟨#[103, 114, 111, 117, 112]⟩
    ·simp_all [ba]
    ·by_cases h5 : ba (L.take (stopN innI L)) = ⟨#[114, 111, 108, 101]⟩
     ·simp_all [ba]
     ·simp_all [ba]
 ·simp [hc]
theorem ahe_len (w : ByteArray) (h : aheW w ≠ 0) : aheW w ∈ kinds ∧ (preW (aheW w)).size = w.size + 1 := by
 unfold aheW at h ⊢
 split
 ·next e => rw [e]; decide
 ·split
  ·next e => rw [e]; decide
  ·split
   ·next e => rw [e]; decide
   ·split
    ·next e => rw [e]; decide
    ·next h1 h2 h3 h4 => simp [h1, h2, h3, h4] at h
theorem may_stop (L : List UInt8) : mayN (ba (L.take (stopN innI L))) = true ↔ (lttI (L.headD 0).toNat = true ∧ stopN innI L ≤ 24) := by
 have hle := stopN_le innI L
 unfold mayN mayL
 rw [ba_list]
 simp only [Bool.and_eq_true, decide_eq_true_eq, List.length_take]
 cases L with
 | nil => simp [stopN, lttI]
 | cons b r =>
  by_cases hb : innI b.toNat = true
  ·have h1 : 1 ≤ stopN innI (b :: r) := by rw [stopN_cons hb]; omega
   obtain ⟨m, hm⟩ : ∃ m, stopN innI (b :: r) = m + 1 := ⟨stopN innI (b :: r) - 1, by omega⟩
   have hall : ((b :: r).take (stopN innI (b :: r))).all (fun b => innI b.toNat) = true := by
    rw [List.all_eq_true]
    intro c hc
    obtain ⟨i, hi, rfl⟩ := List.mem_iff_getElem.1 hc
    rw [List.length_take] at hi
    rw [List.getElem_take]
    exact stopN_at (by omega) (by omega)
   rw [hall, hm]
   simp only [List.take_succ_cons, List.headD_cons]
   rw [hm] at hle
   constructor
   ·rintro ⟨h1, h2, h3, h4⟩; exact ⟨h3, by omega⟩
   ·rintro ⟨h1, h2⟩; exact ⟨by omega, by omega, h1, trivial⟩
  ·have hz := stopN_zero (q := innI) (r := r) (b := b) (by simpa using hb)
   have hl : lttI b.toNat = false := by
    simp only [innI, Bool.or_eq_true, not_or] at hb
    simpa using hb.1.1.1
   rw [hz]; simp [hl]
theorem kind_nl {b : UInt8} {r : List UInt8} (h : lttI b.toNat = false) : kindL (b :: r) = 0 := by
 rw [kind_name, if_neg]
 rintro ⟨h1, -⟩
 apply h1
 have e : ∀ (c : UInt8) (p : List UInt8), lttI c.toNat = true → ba ((b :: r).take (stopN innI (b :: r))) ≠ ba (c :: p) := fun c p hc h2 => by
  rw [ba_inj] at h2
  have h3 : b = c := by
   cases hm : stopN innI (b :: r) with
   | zero => rw [hm] at h2; simp at h2
   | succ m => rw [hm, List.take_succ_cons] at h2; exact (List.cons.inj h2).1
  rw [h3] at h; rw [h] at hc; cases hc
 have k1 : ¬ ba ((b :: r).take (stopN innI (b :: r))) = ⟨#[107, 101, 121]⟩ := e 107 [101, 121] (by decide)
 have k2 : ¬ ba ((b :: r).take (stopN innI (b :: r))) = ⟨#[99, 104, 97, 110]⟩ := e 99 [104, 97, 110] (by decide)
 have k4 : ¬ ba ((b :: r).take (stopN innI (b :: r))) = ⟨#[103, 114, 111, 117, 112]⟩ := e 103 [114, 111, 117, 112] (by decide)
 have k5 : ¬ ba ((b :: r).take (stopN innI (b :: r))) = ⟨#[114, 111, 108, 101]⟩ := e 114 [111, 108, 101] (by decide)
 unfold aheW
 rw [if_neg k1, if_neg k2, if_neg k4, if_neg k5]
theorem sign_nl {b : UInt8} {r : List UInt8} (h : lttI b.toNat = false) : signL (b :: r) = plainL (b :: r) := by
 unfold signL; rw [if_pos (kind_nl h)]
def goodT (x : Sig) (l : List UInt8) : Bool := decide (wordT x.1 x.2.1 x.2.2.1 ≠ ⟨#[]⟩) && fineL (l.drop x.2.2.2)
theorem ba_app_ne {o : Int} {w : ByteArray} (h : o ∈ kinds) : preW o ++ w ≠ ⟨#[]⟩ := by
 intro e
 have := congrArg ByteArray.size e
 rw [ByteArray.size_append] at this
 have h2 := (pre_ok h).1
 have h3 : (⟨#[]⟩ : ByteArray).size = 0 := rfl
 omega
theorem atomW_kind {o : Int} {w : ByteArray} (h : o ∈ kinds) : atomWk o w ≠ ⟨#[]⟩ ↔ mayN w = true := by
 have h2 : o = 1 ∨ o = 2 ∨ o = 4 ∨ o = 5 := by simpa [kinds] using h
 have h0 := kinds_nz h
 unfold atomWk
 rw [if_neg h0]
 by_cases hm : mayN w = true
 ·rw [if_pos hm, if_pos h2]; exact ⟨fun _ => hm, fun _ => ba_app_ne h⟩
 ·rw [if_neg hm]; exact ⟨fun h => absurd rfl h, fun h => absurd h hm⟩
theorem name_some (L : List UInt8) : nameL L = if lttI (L.headD 0).toNat = true ∧ stopN innI L ≤ 24 ∧ fineL (L.drop (stopN innI L)) = true then some (stopN innI L) else none := by
 cases L with
 | nil => rfl
 | cons b r => rfl
theorem sign_letter {b : UInt8} {r : List UInt8} (h : lttI b.toNat = true) : signL (b :: r) = if goodT (pnameL (b :: r)) (b :: r) = true then some (pnameL (b :: r)) else none := by
 obtain ⟨L, hL⟩ : ∃ L, L = b :: r := ⟨_, rfl⟩
 have hhd : lttI (L.headD 0).toNat = true := by rw [hL]; exact h
 have hin : innI b.toNat = true := by simp [innI, h]
 have h1 : 1 ≤ stopN innI L := by rw [hL, stopN_cons hin]; omega
 have hle := stopN_le innI L
 have hpl : plainL L = match nameL L with
   | none => none
   | some n => if keyW (ba (L.take n)) = 0 then some (1, ba (L.take n), 3, n) else some (keyW (ba (L.take n)), ba [], 0, n) := by
  rw [hL]; simp only [plainL]; rw [if_pos h]; try rfl
 rw [← hL]
 have hwl : (ba (L.take (stopN innI L))).size = stopN innI L := by rw [ba_len2, List.length_take]; omega
 unfold signL
 rw [kind_name]
 by_cases hc : aheW (ba (L.take (stopN innI L))) ≠ 0 ∧ colonL (L.drop (stopN innI L)) = true
 ·obtain ⟨a1, a2⟩ := ahe_len _ hc.1
  rw [if_pos hc, if_neg hc.1]
  have hp : pnameL L = (1, ba ((L.drop (stopN innI L + 1)).take (stopN innI (L.drop (stopN innI L + 1)))), aheW (ba (L.take (stopN innI L))), stopN innI L + 1 + stopN innI (L.drop (stopN innI L + 1))) := by unfold pnameL; rw [if_pos hc]
  rw [hp]
  obtain ⟨k, hk⟩ : ∃ k, k = aheW (ba (L.take (stopN innI L))) := ⟨_, rfl⟩
  rw [← hk] at a1 a2 ⊢
  rw [hwl] at a2
  rw [a2]
  obtain ⟨M, hM⟩ : ∃ M, M = L.drop (stopN innI L + 1) := ⟨_, rfl⟩
  rw [← hM]
  unfold atomL goodT
  rw [name_some]
  have hat := atomW_kind (w := ba (M.take (stopN innI M))) a1
  rw [may_stop] at hat
  have hdr : L.drop (stopN innI L + 1 + stopN innI M) = M.drop (stopN innI M) := by rw [hM, List.drop_drop]
  simp only [hdr]
  have hw1 : wordT 1 (ba (M.take (stopN innI M))) k = atomWk k (ba (M.take (stopN innI M))) := by unfold wordT; rw [if_pos rfl]
  rw [hw1]
  by_cases hg : lttI (M.headD 0).toNat = true ∧ stopN innI M ≤ 24 ∧ fineL (M.drop (stopN innI M)) = true
  ·have h3 := hat.2 ⟨hg.1, hg.2.1⟩
   rw [if_pos hg]
   simp [h3, hg.2.2]
  ·rw [if_neg hg]
   rw [if_neg]
   simp only [Bool.and_eq_true, decide_eq_true_eq]
   rintro ⟨g1, g2⟩
   have := hat.1 g1
   exact hg ⟨this.1, this.2, g2⟩
 ·rw [if_neg hc, if_pos rfl, hpl]
  have hp : pnameL L = if keyW (ba (L.take (stopN innI L))) ≠ 0 then (keyW (ba (L.take (stopN innI L))), ba [], 0, stopN innI L) else (1, ba (L.take (stopN innI L)), 3, stopN innI L) := by unfold pnameL; rw [if_neg hc]
  rw [hp, name_some]
  by_cases hk : keyW (ba (L.take (stopN innI L))) = 0
  ·rw [if_neg (show ¬ keyW (ba (L.take (stopN innI L))) ≠ 0 from fun h => h hk)]
   have hw : wordT 1 (ba (L.take (stopN innI L))) 3 ≠ ⟨#[]⟩ ↔ mayN (ba (L.take (stopN innI L))) = true := by
    unfold wordT atomWk
    rw [if_pos rfl, if_neg (by decide)]
    by_cases hm : mayN (ba (L.take (stopN innI L))) = true
    ·rw [if_pos hm, if_neg (by decide), if_pos ⟨rfl, hk⟩]
     refine ⟨fun _ => hm, fun _ e => ?_⟩
     rw [e] at hwl
     have h3 : (⟨#[]⟩ : ByteArray).size = 0 := rfl
     omega
    ·rw [if_neg hm]; exact ⟨fun h => absurd rfl h, fun h => absurd h hm⟩
   rw [may_stop] at hw
   unfold goodT
   by_cases hg : lttI (L.headD 0).toNat = true ∧ stopN innI L ≤ 24 ∧ fineL (L.drop (stopN innI L)) = true
   ·have h3 := hw.2 ⟨hg.1, hg.2.1⟩
    rw [if_pos hg]
    simp [h3, hg.2.2, hk]
   ·rw [if_neg hg, if_neg]
    simp only [Bool.and_eq_true, decide_eq_true_eq]
    rintro ⟨g1, g2⟩
    have := hw.1 g1
    exact hg ⟨this.1, this.2, g2⟩
  ·rw [if_pos (show keyW (ba (L.take (stopN innI L))) ≠ 0 from hk)]
   have hm24 : stopN innI L ≤ 24 := by
    unfold keyW at hk
    rw [← hwl]
    by_cases e1 : ba (L.take (stopN innI L)) = ⟨#[97, 110, 100]⟩
    ·rw [e1]; decide
    ·rw [if_neg e1] at hk
     by_cases e2 : ba (L.take (stopN innI L)) = ⟨#[102, 111, 114]⟩
     ·rw [e2]; decide
     ·rw [if_neg e2] at hk
      by_cases e3 : ba (L.take (stopN innI L)) = ⟨#[97, 115]⟩
      ·rw [e3]; decide
      ·rw [if_neg e3] at hk; exact absurd rfl hk
   have hw : wordT (keyW (ba (L.take (stopN innI L)))) (ba []) 0 ≠ ⟨#[]⟩ := by
    unfold keyW at hk ⊢
    split
    ·decide
    ·split
     ·decide
     ·split
      ·decide
      ·next e1 e2 e3 => rw [if_neg e1, if_neg e2, if_neg e3] at hk; exact absurd rfl hk
   unfold goodT
   by_cases hg : fineL (L.drop (stopN innI L)) = true
   ·rw [if_pos ⟨hhd, hm24, hg⟩]
    simp [hw, hg, hk]
   ·rw [if_neg (fun h => hg h.2.2), if_neg]
    simp only [Bool.and_eq_true, decide_eq_true_eq]
    exact fun h => hg h.2
def psV (l : List UInt8) (a : Nat) : AV := match signL l with
 | some (k, w, o, n) => .tup [.agg [.int .i64 k, .str w, .int .i64 o, .int .i64 0], .int .i64 (a + n : Nat)]
 | none => .tup [.agg [.int .i64 0, .str ⟨#[]⟩, .int .i64 0, .int .i64 0], .int .i64 0]
theorem free_psV (l : List UInt8) (a : Nat) : free (psV l a) = true := by unfold psV; split <;> rfl
theorem sig_124 {b : UInt8} {r : List UInt8} (h : b.toNat = 124) : signL (b :: r) = some (4, ba [], 0, 1) := by
 have hl : lttI b.toNat = false := by rw [h]; rfl
 rw [sign_nl hl]; simp only [plainL]
 rw [if_neg (by simp [hl]), if_neg (by omega), if_pos h]
theorem sig_40 {b : UInt8} {r : List UInt8} (h : b.toNat = 40) : signL (b :: r) = some (6, ba [], 0, 1) := by
 have hl : lttI b.toNat = false := by rw [h]; rfl
 rw [sign_nl hl]; simp only [plainL]
 rw [if_neg (by simp [hl]), if_neg (by omega), if_neg (by omega), if_pos h]
theorem sig_41 {b : UInt8} {r : List UInt8} (h : b.toNat = 41) : signL (b :: r) = some (7, ba [], 0, 1) := by
 have hl : lttI b.toNat = false := by rw [h]; rfl
 rw [sign_nl hl]; simp only [plainL]
 rw [if_neg (by simp [hl]), if_neg (by omega), if_neg (by omega), if_neg (by omega), if_pos h]
theorem sig_sign {b : UInt8} {r : List UInt8} (h : sigB b.toNat = true) : signL (b :: r) = some (9, ba [b], 0, 1) := by
 have h2 : b.toNat = 61 ∨ b.toNat = 44 ∨ b.toNat = 59 ∨ b.toNat = 60 ∨ b.toNat = 62 ∨ b.toNat = 33 ∨ b.toNat = 63 ∨ b.toNat = 42 := by
  simpa [sigB, or_assoc] using h
 have hl : lttI b.toNat = false := by simp [lttI]; omega
 have hd : digI b.toNat = false := by simp [digI]; omega
 rw [sign_nl hl]; simp only [plainL]
 rw [if_neg (by simp [hl]), if_neg (by omega), if_neg (by omega), if_neg (by omega), if_neg (by omega), if_neg (by simp [hd]), if_pos h]
theorem good_d (r : List UInt8) {b : UInt8} : goodT (1, ⟨#[68]⟩, 0, 1) (b :: r) = fineL r := by
 have : wordT 1 ⟨#[68]⟩ 0 ≠ ⟨#[]⟩ := by decide
 unfold goodT
 simp [this]
theorem sig_d {b : UInt8} {r : List UInt8} (h : b.toNat = 68) : signL (b :: r) = if goodT (1, ⟨#[68]⟩, 0, 1) (b :: r) = true then some (1, ⟨#[68]⟩, 0, 1) else none := by
 have hl : lttI b.toNat = false := by rw [h]; rfl
 rw [sign_nl hl, good_d]; simp only [plainL]
 rw [if_neg (by simp [hl]), if_pos h]; rfl
theorem sig_dig {b : UInt8} {r : List UInt8} (h : digI b.toNat = true) : signL (b :: r) = if goodT (8, ba ((b :: r).take (stopN digI (b :: r))), 0, stopN digI (b :: r)) (b :: r) = true then some (8, ba ((b :: r).take (stopN digI (b :: r))), 0, stopN digI (b :: r)) else none := by
 have h2 : 48 ≤ b.toNat ∧ b.toNat ≤ 57 := by simp [digI] at h; omega
 have hl : lttI b.toNat = false := by simp [lttI]; omega
 obtain ⟨L, hL⟩ : ∃ L, L = b :: r := ⟨_, rfl⟩
 have hpl : plainL L = if numW (ba (L.take (stopN digI L))) = true ∧ fineL (L.drop (stopN digI L)) = true then some (8, ba (L.take (stopN digI L)), 0, stopN digI L) else none := by
  rw [hL]; simp only [plainL]
  rw [if_neg (by simp [hl]), if_neg (by omega), if_neg (by omega), if_neg (by omega), if_neg (by omega), if_pos h]
 rw [sign_nl hl, ← hL, hpl]
 have hg : goodT (8, ba (L.take (stopN digI L)), 0, stopN digI L) L = true ↔ numW (ba (L.take (stopN digI L))) = true ∧ fineL (L.drop (stopN digI L)) = true := by
  have hw : wordT 8 (ba (L.take (stopN digI L))) 0 = if numW (ba (L.take (stopN digI L))) = true then ba (L.take (stopN digI L)) else ⟨#[]⟩ := by
   unfold wordT; rw [if_neg (by decide), if_neg (by decide), if_pos rfl]
  unfold goodT
  simp only [Bool.and_eq_true, decide_eq_true_eq]
  rw [hw]
  by_cases hn : numW (ba (L.take (stopN digI L))) = true
  ·rw [if_pos hn]
   have : ba (L.take (stopN digI L)) ≠ ⟨#[]⟩ := by
    intro e; rw [e] at hn; revert hn; decide
   simp [hn, this]
  ·rw [if_neg hn]; simp [hn]
 simp only [hg]
theorem sig_else {b : UInt8} {r : List UInt8} (h1 : b.toNat ≠ 124) (h2 : b.toNat ≠ 40) (h3 : b.toNat ≠ 41) (h4 : sigB b.toNat = false) (h5 : b.toNat ≠ 68) (h6 : digI b.toNat = false) (h7 : lttI b.toNat = false) : signL (b :: r) = if goodT (0, ⟨#[]⟩, 0, 1) (b :: r) = true then some (0, ⟨#[]⟩, 0, 1) else none := by
 have hg : goodT (0, ⟨#[]⟩, 0, 1) (b :: r) = false := by
  have : ¬ wordT 0 ⟨#[]⟩ 0 ≠ ⟨#[]⟩ := by decide
  unfold goodT
  rw [decide_eq_false this]; rfl
 rw [hg, sign_nl h7]; simp only [plainL]
 rw [if_neg (by simp [h7]), if_neg h5, if_neg h1, if_neg h2, if_neg h3, if_neg (by simp [h6]), if_neg (by simp [h4])]; rfl
theorem pname_le (l : List UInt8) : (pnameL l).2.1.size ≤ l.length ∧ (pnameL l).2.2.2 ≤ l.length := by
 have h1 := stopN_le innI l
 have h2 := stopN_le innI (l.drop (stopN innI l + 1))
 rw [List.length_drop] at h2
 unfold pnameL
 split
 ·next h =>
  have h3 : stopN innI l < l.length := by
   rcases Nat.lt_or_ge (stopN innI l) l.length with h3 | h3
   ·exact h3
   ·rw [List.drop_of_length_le h3] at h; exact absurd h.2 (by simp [colonL])
  simp only [ba_len2, List.length_take, List.length_drop]
  omega
 ·split <;> simp [ba_len2] <;> omega
theorem p_psign (s : ByteArray) (a : Nat) (v : Int) (hs : s.size ≤ 1000000) (ha : a < s.size) (hv : v = (Utf8.decode s a).1) :
  PCalls Tryz.prog 98 [.str s, .int .i64 a, .int .i32 v] (psV (s.data.toList.drop a) a) := by
 have hl := len_size s
 have hal : a < s.data.toList.length := by omega
 have hd : s.data.toList.drop a = s.data.toList[a] :: s.data.toList.drop (a + 1) := List.drop_eq_getElem_cons hal
 obtain ⟨b, hb⟩ : ∃ b, b = s.data.toList[a] := ⟨_, rfl⟩
 obtain ⟨r, hr⟩ : ∃ r, r = s.data.toList.drop (a + 1) := ⟨_, rfl⟩
 have hdv := dec_val s a
 have hlo : b.toNat < 128 → v = b.toNat := fun h => by rw [hv, dec_lt hal (by rw [← hb]; exact h), hb]
 have hhi : ¬ b.toNat < 128 → 128 ≤ v := fun h => by have := (dec_ge hal (by rw [← hb]; exact h)).1; rw [hv]; omega
 have qc := p_containsRune v (by omega) (by omega) (fun h => by rw [hv]; exact hdv.2 (by omega))
 have qd := p_digit v
 have ql := p_letter v
 have qs := p_stop (f := 117) p_digit hi_dig s a hs (by omega)
 have qn := p_pname s a hs ha
 rw [← hb, ← hr] at hd
 obtain ⟨L, hL⟩ : ∃ L, L = b :: r := ⟨_, rfl⟩
 rw [← hL] at hd
 have hLl : L.length = s.size - a := by rw [← hd, List.length_drop]; omega
 rw [hd] at qs qn ⊢
 have hch : ∀ q : Int → Bool, (∀ r, 128 ≤ r → q r = q 128) → q v = q b.toNat := fun q hi => by
  by_cases h : b.toNat < 128
  ·rw [hlo h]
  ·rw [hi v (hhi h), hi b.toNat (by omega)]
 rw [hch _ hi_dig] at qd
 rw [hch _ hi_ltt] at ql
 refine pcalls_of rfl (free_psV _ _) (acalls_of mixed J_token_sign_ok (Nat.le_of_ble_eq_true rfl) ?_); simp only [J_token_sign, wk,eq_self,Nat.reduceEqDiff,Nat.reduceAdd,Nat.reduceLeDiff,reduceCtorEq,↓reduceIte]
 refine ⟨inR_of (by omega) (by omega), ?_⟩
 have lo : ∀ n : Nat, n < 128 → v = n → b.toNat = n := fun n hn e => by
  by_cases h : b.toNat < 128
  ·have := hlo h; omega
  ·have := hhi h; omega
 refine ⟨fun e => ?_, fun e1 => ⟨fun e => ?_, fun e2 => ⟨fun e => ?_, fun e3 => ?_⟩⟩⟩
 ·unfold psV; rw [hL, sig_124 (lo 124 (by omega) e)]; exact ⟨Nat.le_refl _, rfl⟩
 ·unfold psV; rw [hL, sig_40 (lo 40 (by omega) e)]; exact ⟨Nat.le_refl _, rfl⟩
 ·unfold psV; rw [hL, sig_41 (lo 41 (by omega) e)]; exact ⟨Nat.le_refl _, rfl⟩
 refine PCalls.use (qc) ?_; simp only [wk,eq_self,Nat.reduceEqDiff,Nat.reduceAdd,Nat.reduceLeDiff,reduceCtorEq,↓reduceIte]
 have hfree : ∀ n : Nat, a + n ≤ s.size → PCalls Tryz.prog 96 [.str s, .int .i64 (a + n : Nat), .fn 120 []] (.int .i64 ((a + n : Nat) + stopN freI (L.drop n))) := fun n hn => by
  have := p_stop (f := 120) p_free hi_fre s (a + n) hs hn
  rw [← List.drop_drop, hd] at this
  exact this
 have hfin : ∀ n : Nat, a + n ≤ s.size → ((stopN freI (L.drop n) = 0 ∧ a + n < s.size) ↔ fineL (L.drop n) = false) := fun n hn => by
  rcases Nat.lt_or_ge (a + n) s.size with h | h
  ·have hnl : n < L.length := by omega
   rw [List.drop_eq_getElem_cons hnl]
   show _ ↔ freI (L[n]).toNat = false
   by_cases hf : freI (L[n]).toNat = true
   ·rw [stopN_cons hf, hf]; simp
   ·have hf2 : freI (L[n]).toNat = false := by simpa using hf
    rw [stopN_zero hf2]; simp [hf2, h]
  ·rw [List.drop_of_length_le (by omega)]
   constructor
   ·rintro ⟨-, h2⟩; omega
   ·intro h2; cases h2
 have one : ∀ n : Nat, ((a : Int) + (n : Nat)) = ((a + n : Nat) : Int) := fun n => by omega
 have one1 : ((a : Int) + 1) = ((a + 1 : Nat) : Int) := by omega
 -- the four ways on
 have bad : ∀ k w o n, (signL L = if goodT (k, w, o, n) L = true then some (k, w, o, n) else none) → goodT (k, w, o, n) L = false → psV L a = .tup [.agg [.int .i64 0, .str ⟨#[]⟩, .int .i64 0, .int .i64 0], .int .i64 0] := fun k w o n h1 h2 => by
  unfold psV; rw [h1, h2]; rfl
 have good : ∀ k w o n, (signL L = if goodT (k, w, o, n) L = true then some (k, w, o, n) else none) → goodT (k, w, o, n) L = true → psV L a = .tup [.agg [.int .i64 k, .str w, .int .i64 o, .int .i64 0], .int .i64 (a + n : Nat)] := fun k w o n h1 h2 => by
  unfold psV; rw [h1, h2]; rfl
 refine ⟨fun e => ?_, fun e4 => ⟨fun e => ?_, fun e5 => ?_⟩⟩
 ·have hb2 : sigB b.toNat = true ∧ v = b.toNat := by
   by_cases h : b.toNat < 128
   ·rw [hlo h] at e; exact ⟨by simpa using e, hlo h⟩
   ·have := hhi h
    simp [sigB] at e; omega
  have henc : Utf8.encode v = ba [b] := by
   have : b.toNat < 128 := by have := hb2.1; simp [sigB] at this; omega
   rw [hb2.2]
   unfold Utf8.encode Utf8.valid
   have e1 : (decide ((0 : Int) ≤ (b.toNat : Int)) && decide ((b.toNat : Int) < 55296)) = true := by simp; omega
   simp only [e1, Bool.true_or, if_true, Int.toNat_natCast, this]
   simp [ba]
  unfold psV; rw [hL, sig_sign hb2.1, henc]; exact ⟨Nat.le_refl _, rfl⟩
 ·have hsig := sig_d (r := r) (lo 68 (by omega) e)
  rw [← hL] at hsig
  have qw := p_word 1 ⟨#[68]⟩ 0 0 (by decide)
  rw [one1]
  have qf := hfree (1) (by omega)
  have hf := hfin (1) (by omega)
  have hgd := good _ _ _ _ hsig
  have hbd := bad _ _ _ _ hsig
  simp only [goodT] at hgd hbd
  simp only [J_token_sign_j1, wk,eq_self,Nat.reduceEqDiff,Nat.reduceAdd,Nat.reduceLeDiff,reduceCtorEq,↓reduceIte]
  refine PCalls.use qw ?_; simp only [wk,eq_self,Nat.reduceEqDiff,Nat.reduceAdd,Nat.reduceLeDiff,reduceCtorEq,↓reduceIte]
  refine ⟨fun hne => ?_, fun he => ?_⟩
  ·have hne2 := decide_eq_true hne
   simp only [hne2, Bool.true_and] at hgd hbd
   refine PCalls.use qf ?_; simp only [wk,eq_self,Nat.reduceEqDiff,Nat.reduceAdd,Nat.reduceLeDiff,reduceCtorEq,↓reduceIte]
   refine ⟨fun h1 => ⟨fun h2 => ?_, fun h2 => ?_⟩, fun h1 => ?_⟩
   ·rw [hbd (hf.1 ⟨by omega, by omega⟩)]; exact ⟨Nat.le_refl _, rfl⟩
   ·rw [hgd (by cases hx : fineL _ with | true => rfl | false => (exfalso; have := hf.2 hx; omega))]; exact ⟨Nat.le_refl _, rfl⟩
   ·rw [hgd (by cases hx : fineL _ with | true => rfl | false => (exfalso; have := hf.2 hx; omega))]; exact ⟨Nat.le_refl _, rfl⟩
  ·rw [hbd (by rw [he]; simp)]; exact ⟨Nat.le_refl _, rfl⟩
 ·refine PCalls.use (qd) ?_; simp only [wk,eq_self,Nat.reduceEqDiff,reduceCtorEq,↓reduceIte]
  refine ⟨fun e => ?_, fun e6 => ?_⟩
  ·have hsig := sig_dig (r := r) e
   rw [← hL] at hsig
   have hle := stopN_le digI L
   obtain ⟨n, hn⟩ : ∃ n, n = stopN digI L := ⟨_, rfl⟩
   rw [← hn] at qs hsig hle
   rw [one n] at qs
   refine PCalls.use (qs) ?_; simp only [wk,eq_self,Nat.reduceEqDiff,Nat.reduceAdd,Nat.reduceLeDiff,reduceCtorEq,↓reduceIte]
   have hw : s.extract a (a + n) = ba (L.take n) := by rw [ext_ba, hd]
   refine ⟨⟨by omega, by omega, by omega⟩, ?_⟩
   rw [Int.toNat_natCast, Int.toNat_natCast, hw]
   have qw := p_word 8 (ba (L.take n)) 0 0 (by rw [ba_len2, List.length_take]; omega)
   have qf := hfree (n) (by omega)
   have hf := hfin (n) (by omega)
   have hgd := good _ _ _ _ hsig
   have hbd := bad _ _ _ _ hsig
   simp only [goodT] at hgd hbd
   simp only [J_token_sign_j1, wk,eq_self,Nat.reduceEqDiff,Nat.reduceAdd,Nat.reduceLeDiff,reduceCtorEq,↓reduceIte]
   refine PCalls.use qw ?_; simp only [wk,eq_self,Nat.reduceEqDiff,Nat.reduceAdd,Nat.reduceLeDiff,reduceCtorEq,↓reduceIte]
   refine ⟨fun hne => ?_, fun he => ?_⟩
   ·have hne2 := decide_eq_true hne
    simp only [hne2, Bool.true_and] at hgd hbd
    refine PCalls.use qf ?_; simp only [wk,eq_self,Nat.reduceEqDiff,Nat.reduceAdd,Nat.reduceLeDiff,reduceCtorEq,↓reduceIte]
    refine ⟨fun h1 => ⟨fun h2 => ?_, fun h2 => ?_⟩, fun h1 => ?_⟩
    ·rw [hbd (hf.1 ⟨by omega, by omega⟩)]; exact ⟨Nat.le_refl _, rfl⟩
    ·rw [hgd (by cases hx : fineL _ with | true => rfl | false => (exfalso; have := hf.2 hx; omega))]; exact ⟨Nat.le_refl _, rfl⟩
    ·rw [hgd (by cases hx : fineL _ with | true => rfl | false => (exfalso; have := hf.2 hx; omega))]; exact ⟨Nat.le_refl _, rfl⟩
   ·rw [hbd (by rw [he]; simp)]; exact ⟨Nat.le_refl _, rfl⟩
  ·refine PCalls.use (ql) ?_; simp only [wk,eq_self,Nat.reduceEqDiff,reduceCtorEq,↓reduceIte]
   refine ⟨fun e => ?_, fun e7 => ?_⟩
   ·have hsig := sign_letter (r := r) e
    rw [← hL] at hsig
    have hple := pname_le L
    obtain ⟨k, w, o, n, hpn⟩ : ∃ k w o n, pnameL L = (k, w, o, n) := ⟨_, _, _, _, rfl⟩
    rw [hpn] at hsig qn hple
    simp only at hple
    have qw := p_word k w o 0 (by omega)
    simp only [sigV] at qn
    refine PCalls.use (qn) ?_; simp only [wk,eq_self,Nat.reduceEqDiff,Nat.reduceAdd,Nat.reduceLeDiff,reduceCtorEq,↓reduceIte]
    have qf := hfree (n) (by omega)
    have hf := hfin (n) (by omega)
    have hgd := good _ _ _ _ hsig
    have hbd := bad _ _ _ _ hsig
    simp only [goodT] at hgd hbd
    simp only [J_token_sign_j1, wk,eq_self,Nat.reduceEqDiff,Nat.reduceAdd,Nat.reduceLeDiff,reduceCtorEq,↓reduceIte]
    refine PCalls.use qw ?_; simp only [wk,eq_self,Nat.reduceEqDiff,Nat.reduceAdd,Nat.reduceLeDiff,reduceCtorEq,↓reduceIte]
    refine ⟨fun hne => ?_, fun he => ?_⟩
    ·have hne2 := decide_eq_true hne
     simp only [hne2, Bool.true_and] at hgd hbd
     refine PCalls.use qf ?_; simp only [wk,eq_self,Nat.reduceEqDiff,Nat.reduceAdd,Nat.reduceLeDiff,reduceCtorEq,↓reduceIte]
     refine ⟨fun h1 => ⟨fun h2 => ?_, fun h2 => ?_⟩, fun h1 => ?_⟩
     ·rw [hbd (hf.1 ⟨by omega, by omega⟩)]; exact ⟨Nat.le_refl _, rfl⟩
     ·rw [hgd (by cases hx : fineL _ with | true => rfl | false => (exfalso; have := hf.2 hx; omega))]; exact ⟨Nat.le_refl _, rfl⟩
     ·rw [hgd (by cases hx : fineL _ with | true => rfl | false => (exfalso; have := hf.2 hx; omega))]; exact ⟨Nat.le_refl _, rfl⟩
    ·rw [hbd (by rw [he]; simp)]; exact ⟨Nat.le_refl _, rfl⟩
   ·have hsig := sig_else (b := b) (r := r) (by intro h; apply e1; have := hlo (by omega); omega) (by intro h; apply e2; have := hlo (by omega); omega) (by intro h; apply e3; have := hlo (by omega); omega) (by
     by_cases h : b.toNat < 128
     ·rw [hlo h] at e4; simpa using e4
     ·simp [sigB]; omega) (by intro h; apply e5; have := hlo (by omega); omega) (by simpa using e6) (by simpa using e7)
    rw [← hL] at hsig
    have qw := p_word 0 ⟨#[]⟩ 0 0 (by decide)
    rw [one1]
    have qf := hfree (1) (by omega)
    have hf := hfin (1) (by omega)
    have hgd := good _ _ _ _ hsig
    have hbd := bad _ _ _ _ hsig
    simp only [goodT] at hgd hbd
    simp only [J_token_sign_j1, wk,eq_self,Nat.reduceEqDiff,Nat.reduceAdd,Nat.reduceLeDiff,reduceCtorEq,↓reduceIte]
    refine PCalls.use qw ?_; simp only [wk,eq_self,Nat.reduceEqDiff,Nat.reduceAdd,Nat.reduceLeDiff,reduceCtorEq,↓reduceIte]
    refine ⟨fun hne => ?_, fun he => ?_⟩
    ·have hne2 := decide_eq_true hne
     simp only [hne2, Bool.true_and] at hgd hbd
     refine PCalls.use qf ?_; simp only [wk,eq_self,Nat.reduceEqDiff,Nat.reduceAdd,Nat.reduceLeDiff,reduceCtorEq,↓reduceIte]
     refine ⟨fun h1 => ⟨fun h2 => ?_, fun h2 => ?_⟩, fun h1 => ?_⟩
     ·rw [hbd (hf.1 ⟨by omega, by omega⟩)]; exact ⟨Nat.le_refl _, rfl⟩
     ·rw [hgd (by cases hx : fineL _ with | true => rfl | false => (exfalso; have := hf.2 hx; omega))]; exact ⟨Nat.le_refl _, rfl⟩
     ·rw [hgd (by cases hx : fineL _ with | true => rfl | false => (exfalso; have := hf.2 hx; omega))]; exact ⟨Nat.le_refl _, rfl⟩
    ·rw [hbd (by rw [he]; simp)]; exact ⟨Nat.le_refl _, rfl⟩
def noJ (s : ByteArray) (e : Nat) : Prop := ∀ p, p < e → p + (Utf8.decode s p).2 ≤ e
theorem noJ_atB {s : ByteArray} {e : Nat} (he : e ≤ s.size) (h : atB s e) : noJ s e := fun p hp => step_le h hp he
theorem noJ_size (s : ByteArray) : noJ s s.size := fun p hp => (step_one hp).2
theorem noJ_low {s : ByteArray} {e : Nat} (he : e < s.data.toList.length) (h : (s.data.toList[e]).toNat < 128) : noJ s e := fun p hp => by
 have hpl : p < s.data.toList.length := by omega
 by_cases h1 : (s.data.toList[p]).toNat < 128
 ·rw [dec_lt hpl h1]; show p + 1 ≤ e; omega
 ·obtain ⟨d1, d2, d3, d4⟩ := dec_ge hpl h1
  rcases Nat.lt_or_ge e (p + (Utf8.decode s p).2) with h2 | h2
  ·have := d4 e he hp h2; omega
  ·exact h2
theorem noJ_note {s : ByteArray} {i : Nat} (hi : i ≤ s.size) : i + stopN notI (s.data.toList.drop i) ≤ s.size ∧ noJ s (i + stopN notI (s.data.toList.drop i)) := by
 have hl := len_size s
 have hle := stopN_le notI (s.data.toList.drop i)
 have hll : (s.data.toList.drop i).length = s.data.toList.length - i := List.length_drop
 refine ⟨by omega, ?_⟩
 rcases Nat.lt_or_ge (stopN notI (s.data.toList.drop i)) (s.data.toList.drop i).length with h | h
 ·have h2 := stopN_end h
  rw [List.getElem_drop] at h2
  refine noJ_low (by omega) ?_
  simp only [notI, decide_eq_false_iff_not, Decidable.not_not] at h2
  omega
 ·have : i + stopN notI (s.data.toList.drop i) = s.size := by omega
  rw [this]; exact noJ_size s
theorem signL_kind {l : List UInt8} {k : Int} {w : ByteArray} {o : Int} {n : Nat} (h : signL l = some (k, w, o, n)) : k ≠ 0 := by
 unfold signL at h
 split at h
 ·unfold plainL at h
  repeat' split at h
  all_goals first
   | (cases h; done)
   | (simp only [Option.some.injEq, Prod.mk.injEq] at h; obtain ⟨rfl, _⟩ := h; first | decide | assumption)
 ·unfold atomL at h
  split at h
  ·cases h
  ·simp only [Option.some.injEq, Prod.mk.injEq] at h; obtain ⟨rfl, _⟩ := h; decide
theorem p_pall (s : ByteArray) (hs : s.size ≤ 1000000) : PCalls Tryz.prog 61 [.str s] (resV (allT s)) := by
 have hl := len_size s
 refine pcalls_of rfl (free_resV _) (ACalls.deep (acalls_of mixed J_token_All_ok (Nat.le_of_ble_eq_true rfl) ?_)); simp only [J_token_All, wk,eq_self,Nat.reduceEqDiff,reduceCtorEq,↓reduceIte]
 unfold allT
 refine ⟨fun hbig => ?_, fun hbig => ?_⟩
 ·rw [if_pos (by omega)]
  simp only [rdpw, resV, vToks, toksC]
  rfl
 rw [if_neg (by omega)]
 refine W_loop (fun m fr h' => ∃ (p e : Nat) (acc : List Tok), p ≤ s.size ∧ e ≤ s.size ∧ m = s.size - p ∧ acc.length ≤ 1000 ∧ noJ s e ∧ scan s.data.toList 0 [] = scan (s.data.toList.drop (max p e)) (max p e) acc ∧ fr = [(0, .str s), (5, .lst (.own 85) acc.length (toksC acc)), (6, .int .i64 e), (15, .itr s p)]) s.size ⟨0, 0, [], by omega, by omega, by omega, by simp, fun p hp => by omega, rfl, rfl⟩ ?_
 rintro m fr h' ⟨p, e, acc, hp, he, rfl, hacc, hj, hscan, rfl⟩
 simp only [J_token_All_j2, wk,eq_self,Nat.reduceEqDiff,reduceCtorEq,↓reduceIte]
 refine ⟨fun hlt => ?_, fun hge => ?_⟩
 ·have hpl : p < s.size := by omega
  have hal : p < s.data.toList.length := by omega
  have hd : s.data.toList.drop p = s.data.toList[p] :: s.data.toList.drop (p + 1) := List.drop_eq_getElem_cons hal
  obtain ⟨b, hb⟩ : ∃ b, b = s.data.toList[p] := ⟨_, rfl⟩
  rw [← hb] at hd
  have hone := step_one hpl
  have hlo : b.toNat < 128 → Utf8.decode s p = (b.toNat, 1) := fun h => by rw [dec_lt hal (by rw [← hb]; exact h), hb]
  have hhi : ¬ b.toNat < 128 → 128 ≤ (Utf8.decode s p).1 := fun h => (dec_ge hal (by rw [← hb]; exact h)).1
  have q := p_psign s p (Utf8.decode s p).1 hs hpl rfl
  rw [hd] at q
  obtain ⟨v, hv⟩ : ∃ v, v = (Utf8.decode s p).1 := ⟨_, rfl⟩
  obtain ⟨d, hdd⟩ : ∃ d, d = (Utf8.decode s p).2 := ⟨_, rfl⟩
  rw [← hv] at q hhi
  rw [← hdd] at hone
  simp only [← hv, ← hdd]
  have ch : ∀ n : Nat, n < 128 → ((v : Int) = n ↔ b.toNat = n) := fun n hn => by
   by_cases h : b.toNat < 128
   ·have := congrArg Prod.fst (hlo h); simp only at this; omega
   ·have := hhi h; omega
  have c32 := ch 32 (by omega)
  have c9 := ch 9 (by omega)
  have c10 := ch 10 (by omega)
  have c35 := ch 35 (by omega)
  have d1 : b.toNat < 128 → d = 1 := fun h => by have := congrArg Prod.snd (hlo h); simp only at this; omega
  -- on with the same tokens
  have on : ∀ e' : Nat, e' ≤ s.size → noJ s e' → scan s.data.toList 0 [] = scan (s.data.toList.drop (max (p + d) e')) (max (p + d) e') acc → ∃ m, m < s.size - p ∧ ∃ (p' e'' : Nat) (acc' : List Tok), p' ≤ s.size ∧ e'' ≤ s.size ∧ m = s.size - p' ∧ acc'.length ≤ 1000 ∧ noJ s e'' ∧ scan s.data.toList 0 [] = scan (s.data.toList.drop (max p' e'')) (max p' e'') acc' ∧ [(0, AV.str s), (5, .lst (.own 85) acc.length (toksC acc)), (6, .int .i64 e'), (15, .itr s (p + d))] = [(0, .str s), (5, .lst (.own 85) acc'.length (toksC acc')), (6, .int .i64 e''), (15, .itr s p')] := fun e' h1 h2 h3 =>
   ⟨s.size - (p + d), by omega, p + d, e', acc, by omega, h1, rfl, hacc, h2, h3, rfl⟩
  have far : p < e → scan s.data.toList 0 [] = scan (s.data.toList.drop (max (p + d) e)) (max (p + d) e) acc := fun h => by
   have := hj p h
   rw [← hdd] at this
   rw [hscan, show max (p + d) e = max p e by omega]
  have hsc : ¬ p < e → scan s.data.toList 0 [] = if blankB b = true then scan (s.data.toList.drop (p + 1)) (p + 1) acc
    else if b.toNat = 35 then scan (s.data.toList.drop (p + stopN notI (s.data.toList.drop p))) (p + stopN notI (s.data.toList.drop p)) acc
    else match signL (s.data.toList.drop p) with
     | none => ([], p, 2)
     | some (k, w, o, n) => if acc.length = 1000 then ([], p, 3) else scan (s.data.toList.drop (p + n)) (p + n) (acc ++ [⟨k, w, o, p⟩]) := fun h => by
   rw [hscan, show max p e = p by omega]
   rw [hd, scan_cons, ← hd]
   simp only [List.drop_drop]
   try rfl
  have blank : ¬ p < e → blankB b = true → scan s.data.toList 0 [] = scan (s.data.toList.drop (max (p + d) e)) (max (p + d) e) acc := fun h h2 => by
   have : d = 1 := d1 (by simp [blankB] at h2; omega)
   rw [hsc h, if_pos h2, show max (p + d) e = p + 1 by omega]
  have hblank : ∀ n : Nat, n = 32 ∨ n = 9 ∨ n = 10 → b.toNat = n → blankB b = true := fun n h h2 => by
   rw [← h2] at h
   rcases h with h | h | h <;> simp [blankB, h]
  refine ⟨fun nlt => ⟨fun n32 => ⟨fun n9 => ⟨fun ev => ?_, fun n10 => ⟨fun ev => ?_, fun n35 => ?_⟩⟩, fun ev => ?_⟩, fun ev => ?_⟩, fun hpe => ?_⟩
  ·exact on e he hj (blank (by omega) (hblank 10 (by omega) (c10.1 ev)))
  ·have h35 := c35.1 ev
   obtain ⟨k1, k2⟩ := noJ_note (s := s) (i := p) hp
   have q2 := p_stop (f := 97) p_not hi_not s p hs hp
   have h1 : 1 ≤ stopN notI (s.data.toList.drop p) := by rw [hd]; exact note_one h35
   obtain ⟨n, hn⟩ : ∃ n, n = stopN notI (s.data.toList.drop p) := ⟨_, rfl⟩
   rw [← hn] at k1 k2 q2 h1
   rw [show ((p : Int) + (n : Nat)) = ((p + n : Nat) : Int) by omega] at q2
   have hd1 := d1 (by omega)
   refine PCalls.use q2 ?_; simp only [wk,eq_self,Nat.reduceEqDiff,reduceCtorEq,↓reduceIte]
   refine on (p + n) k1 k2 ?_
   rw [hsc (by omega), if_neg (by simp [blankB, h35]), if_pos h35, ← hn, show max (p + d) (p + n) = p + n by omega]
  ·have hsc2 := hsc (by omega)
   rw [if_neg (by simp [blankB]; omega), if_neg (by omega)] at hsc2
   unfold psV at q
   rw [hd] at hsc2
   cases hsg : signL (b :: s.data.toList.drop (p + 1)) with
   | none =>
    rw [hsg] at q hsc2
    refine PCalls.use (q) ?_; simp only [wk,eq_self,Nat.reduceEqDiff,Nat.reduceAdd,Nat.reduceLeDiff,reduceCtorEq,↓reduceIte]
    simp only [hsc2, resV, vToks, toksC, rdpw]
    rfl
   | some x =>
    obtain ⟨k, w, o, n⟩ := x
    rw [hsg] at q hsc2
    have hk := signL_kind hsg
    have hasc := signL_ascii hsg
    have hn1 := hasc.1
    rw [← hd] at hasc
    obtain ⟨k1, k2⟩ := ascii_at (by omega) hasc
    refine PCalls.use (q) ?_; simp only [wk,eq_self,Nat.reduceEqDiff,Nat.reduceAdd,Nat.reduceMul,Nat.reduceLeDiff,reduceCtorEq,↓reduceIte]
    have hjn := noJ_atB k1 k2
    have hdn := hjn p (by omega)
    rw [← hdd] at hdn
    refine ⟨fun h => absurd h hk, fun _ => ⟨fun h => ?_, fun h => ?_⟩⟩
    ·simp only [hsc2, show acc.length = 1000 by omega, if_true, resV, vToks, toksC, rdpw]
     rfl
    ·refine ⟨⟨by omega, by omega⟩, s.size - (p + d), by omega, p + d, p + n, acc ++ [⟨k, w, o, p⟩], by omega, k1, rfl, by simp; omega, hjn, ?_, ?_⟩
     ·rw [hsc2]
      simp only
      rw [if_neg (by omega), show max (p + d) (p + n) = p + n by omega]
     ·simp [toksC_sn]
  ·exact on e he hj (blank (by omega) (hblank 9 (by omega) (c9.1 ev)))
  ·exact on e he hj (blank (by omega) (hblank 32 (by omega) (c32.1 ev)))
  ·exact on e he hj (far (by omega))
 ·have hn : scan s.data.toList 0 [] = (acc, 0, 0) := by
   rw [hscan, List.drop_of_length_le (by omega)]
   rfl
  simp only [J_token_All_j1, hn, resV, vToks, rdpw, rdps_toks, wk,eq_self,Nat.reduceEqDiff,reduceCtorEq,↓reduceIte]
  rfl
mutual
def fgt : AV → AV
  | .lst _ _ _ => .opq
  | .fp _ => .opq
  | .fn _ _ => .opq
  | .fnb _ _ => .opq
  | .ptr _ _ => .opq
  | .hs _ _ => .opq
  | .hsc _ _ _ => .opq
  | .itr _ _ => .opq
  | .omp _ _ _ => .opq
  | .mp _ => .opq
  | .fmp _ _ => .opq
  | .stk _ _ _ => .opq
  | .frn _ => .opq
  | .agg l => .agg (fgts l)
  | .tup l => .tup (fgts l)
  | a => a
def fgts : List AV → List AV
  | [] => []
  | a :: l => fgt a :: fgts l
end
theorem plain_fgt (a : AV) : plain (fgt a) = true := by
 cases a <;> simp [fgt, plain]
theorem plains_fgt : ∀ l : List AV, plains (fgts l)
 | [] => by intro a ha; simp [fgts] at ha
 | a :: l => by
  intro b hb
  simp only [fgts, List.mem_cons] at hb
  rcases hb with rfl | hb
  ·exact plain_fgt a
  ·exact plains_fgt l b hb
mutual
theorem Rep.fgt {g g' : Gh} : ∀ {v : Value} {a : AV}, Rep g v a → Rep g' v (fgt a)
  | _, _, .bool b => by simp only [Go.Proofs.YtedaffmkpljlnaaGreat.fgt]; exact .bool b
  | _, _, .int k n => by simp only [Go.Proofs.YtedaffmkpljlnaaGreat.fgt]; exact .int k n
  | _, _, .str s => by simp only [Go.Proofs.YtedaffmkpljlnaaGreat.fgt]; exact .str s
  | _, _, .nilp => by simp only [Go.Proofs.YtedaffmkpljlnaaGreat.fgt]; exact .nilp
  | _, _, .ptr id off b h => by simp only [Go.Proofs.YtedaffmkpljlnaaGreat.fgt]; exact .opq _ rfl (fun h => by cases h)
  | _, _, .fp b off vs l h hp hl => by simp only [Go.Proofs.YtedaffmkpljlnaaGreat.fgt]; exact .opq _ rfl (fun h => by cases h)
  | _, _, .lst b off n c f vs l h hp h1 h2 hl => by simp only [Go.Proofs.YtedaffmkpljlnaaGreat.fgt]; exact .opq _ rfl (fun h => by cases h)
  | _, _, .lst0 a c f h => by simp only [Go.Proofs.YtedaffmkpljlnaaGreat.fgt]; exact .opq _ rfl (fun h => by cases h)
  | _, _, .hs id b n c h h1 => by simp only [Go.Proofs.YtedaffmkpljlnaaGreat.fgt]; exact .opq _ rfl (fun h => by cases h)
  | _, _, .hsc id b n c h h1 => by simp only [Go.Proofs.YtedaffmkpljlnaaGreat.fgt]; exact .opq _ rfl (fun h => by cases h)
  | _, _, .agg vs l h hp hl => by simp only [Go.Proofs.YtedaffmkpljlnaaGreat.fgt]; exact .agg vs _ h (plains_fgt l) (RepL.fgt hl)
  | _, _, .tup vs l hp hl => by simp only [Go.Proofs.YtedaffmkpljlnaaGreat.fgt]; exact .tup vs _ (plains_fgt l) (RepL.fgt hl)
  | _, _, .fn f vs l hp hl => by simp only [Go.Proofs.YtedaffmkpljlnaaGreat.fgt]; exact .opq _ rfl (fun h => by cases h)
  | _, _, .fnb f vs l hp hl => by simp only [Go.Proofs.YtedaffmkpljlnaaGreat.fgt]; exact .opq _ rfl (fun h => by cases h)
  | _, _, .nilf => by simp only [Go.Proofs.YtedaffmkpljlnaaGreat.fgt]; exact .nilf
  | _, _, .opq v h h' => by simp only [Go.Proofs.YtedaffmkpljlnaaGreat.fgt]; exact .opq v h h'
  | _, _, .itr b s p => by simp only [Go.Proofs.YtedaffmkpljlnaaGreat.fgt]; exact .opq _ rfl (fun h => by cases h)
  | _, _, .omp b ks vs => by simp only [Go.Proofs.YtedaffmkpljlnaaGreat.fgt]; exact .opq _ rfl (fun h => by cases h)
  | _, _, .mp b => by simp only [Go.Proofs.YtedaffmkpljlnaaGreat.fgt]; exact .opq _ rfl (fun h => by cases h)
  | _, _, .fmp b obj ks vs h1 h2 => by simp only [Go.Proofs.YtedaffmkpljlnaaGreat.fgt]; exact .opq _ rfl (fun h => by cases h)
  | _, _, .stk a c e o l h1 h2 h3 => by simp only [Go.Proofs.YtedaffmkpljlnaaGreat.fgt]; exact .opq _ rfl (fun h => by cases h)
  | _, _, .raw a m c h1 h2 => by simp only [Go.Proofs.YtedaffmkpljlnaaGreat.fgt]; exact .raw a m c h1 h2
  | _, _, .rawp b i m c => by simp only [Go.Proofs.YtedaffmkpljlnaaGreat.fgt]; exact .rawp b i m c
  | _, _, .frn v Q S W0 h1 h2 h3 h4 => by simp only [Go.Proofs.YtedaffmkpljlnaaGreat.fgt]; exact .opq _ h1 (fun e => by obtain ⟨b, o, h2⟩ := h2; rw [h2] at e; cases e)
theorem RepL.fgt {g g' : Gh} : ∀ {vs : List Value} {l : List AV}, RepL g vs l → RepL g' vs (fgts l)
  | _, _, .nil => by simp only [fgts]; exact .nil
  | _, _, .cons h hr => by simp only [fgts]; exact .cons (Rep.fgt h) (RepL.fgt hr)
end
noncomputable def Gh.still (g : Gh) (h : Hp) (w : World) : Gh := { g.bare with C := (g.ice h w).C }
open Classical in
noncomputable def Gh.melt (g g1 : Gh) : Gh := { g with C := fun b o => if (∃ i, g.io i = some b) ∨ (∃ x, g.own b = some x) then g.C b o else g1.C b o, X := g1.X }
section
variable {P : Program} {g : Gh} {h : Hp} {w : World}
theorem Sim.still (hs : Sim P g h w) : Sim P (g.still h w) [] w := by
 have hb := hs.bare
 refine ⟨fun b o u hu => ?_, (fun id s l hl => by simp at hl), hb.inj, hb.dom, hb.flt, hb.olt, hb.hole, hb.fro⟩
 simp only [Gh.still, Gh.ice] at hu
 split at hu
 ·next u' hu' => simp only [Option.some.injEq] at hu; subst hu; exact hs.prot b o _ hu'
 ·split at hu
  ·simp only [Option.filter_eq_some_iff] at hu; exact hu
  ·cases hu
theorem Sim.melt {g1 : Gh} {w1 : World} {h1 : Hp} (hs : Sim P g h w) (hev : Ev (g.still h w) w g1 w1) (hs1 : Sim P g1 h1 w1) : Sim P (g.melt g1) h w1 ∧ Ev g w (g.melt g1) w1 := by
 have hC : ∀ b o v, g.C b o = some v → g1.C b o = some v := fun b o v hc => hev.le.C b o v (ice_le hc)
 have hle : GLe g (g.melt g1) := ⟨fun b o v hc => by
  simp only [Gh.melt]
  split
  ·exact hc
  ·exact hC b o v hc, fun _ _ h => h, fun b o hx => hev.le.X b o hx⟩
 have hin : ∀ b, ((∃ i, g.io i = some b) ∨ (∃ x, g.own b = some x)) → ∀ o, (g.melt g1).C b o = g.C b o := fun b hb o => by
  simp only [Gh.melt]; rw [if_pos hb]
 refine ⟨⟨fun b o v hc => ?_, ?_, hs.inj, fun i b hi => ⟨(hs.dom i b hi).1, Nat.lt_of_lt_of_le (hs.dom i b hi).2 hev.size⟩, fun b hb => Nat.lt_of_lt_of_le (hs.flt b hb) hev.size, fun b x hx => Nat.lt_of_lt_of_le (hs.olt b x hx) hev.size, hs.hole, fun b o hx => ?_⟩, ⟨hle, fun _ => .rfl, fun b hb => ?_, hev.os, hev.tape, hev.output, hev.size, fun b hb => hev.Fx b (.inl hb)⟩⟩
 ·simp only [Gh.melt] at hc
  split at hc
  ·exact hs1.prot b o v (hC b o v hc)
  ·exact hs1.prot b o v hc
 ·intro id s l hl
  refine (hs.obj id s l hl).keep hle (fun b hb h8 h9 => ?_) (fun b i o1 o3 o4 => ?_)
  ·obtain ⟨q1, _, _⟩ := hev.Fb b (.inr (.inl ⟨id, hb⟩))
   exact ⟨q1, hin b (.inl ⟨id, hb⟩), h8, h9⟩
  ·obtain ⟨q1, _, _⟩ := hev.Fb b (.inr (.inr ⟨_, o1⟩))
   exact ⟨q1, o1, hin b (.inr ⟨_, o1⟩), o3, o4⟩
 ·have hbk : (∃ i, g.io i = some b) ∨ (∃ x, g.own b = some x) → g.X b = some o := fun hh => by
   have := hev.Fx b (.inr hh)
   rw [show (g.still h w).X b = g.X b from rfl] at this
   rw [← this]; exact hx
  refine ⟨(hs1.fro b o hx).1, ?_, fun i hi => ?_⟩
  ·cases ho : g.own b with
   | none => exact ho
   | some x => exact absurd (hs.fro b o (hbk (.inr ⟨x, ho⟩))).2.1 (by rw [ho]; simp)
  ·exact (hs.fro b o (hbk (.inl ⟨i, hi⟩))).2.2 i hi
 ·obtain ⟨q1, q2, _⟩ := hev.Fb b (.inl hb)
  refine ⟨q1, fun o => ?_, rfl, fun _ h => h⟩
  simp only [Gh.melt]
  split
  ·rfl
  ·next hn =>
   rw [q2 o]
   simp only [Gh.still, Gh.ice]
   cases hg : g.C b o with
   | some v => rfl
   | none =>
    simp only
    rw [if_neg]
    rintro ⟨id, s, l, k1, _⟩
    exact hn (.inl ⟨id, k1⟩)
theorem PCalls.iced {f : FuncId} {args args' : List AV} {v : AV} (hp : PCalls P f args v) (h : Hp) (ha : fzs h args' = args) : ACalls P f args' h (fun a h' => a = fgt v ∧ h = h') := by
 obtain ⟨hfa, hfv, hent, hc⟩ := hp
 refine ⟨hent, fun g w vargs hs hns hr hpl => ?_⟩
 have hr1 := RepL.ice hs hr (by rw [ha]; exact hfa)
 rw [ha] at hr1
 have hpa : plains args := by rw [← ha]; exact plains_fz hpl
 refine (hc (g.still h w) w vargs hs.still (fun b k h => by cases h) (RepL.free (g := g.ice h w) (g' := g.still h w) (fun _ _ _ h => h) (fun _ _ h => h) hr1 hfa) hpa).mono ?_
 rintro e w1 ⟨x, a, h1, g1, rfl, r1, r2, r3, r4, r5, rfl, rfl⟩
 obtain ⟨s1, s2⟩ := hs.melt r1 r2
 exact ⟨x, _, h, g.melt g1, rfl, s2, s1, hns, Rep.fgt r4, plain_fgt _, rfl, rfl⟩
end
theorem fgt_str (s : ByteArray) : fgt (.str s) = .str s := by simp only [fgt]
end Go.Proofs.YtedaffmkpljlnaaGreat
namespace Go.Proofs.YtedaffmkpljlnaaGreat
open Go.RowKit
def J_law06_NormParens_j1 : ACode :=
 .keep [9,11,13,15,18] (.seq (.ops [Zo 137 (.mvo 18),
 Zo 138 (.load (some 3) (.t 11)),
 Zo 139 (.bsl 52 3 1 [(.int .i64 0),(.int .i64 0),(.str ⟨#[]⟩)] [(0,3,(.t 138))]),
 Zo 140 (.appo 52 3 32 137 (.t 139)),
 Zo 18 (.mvo 140)])
 (.keep [9,13,15,18] (.seq (.ops [Zm 142 9,
 Zm 143 13,
 Zo 144 (.call (.f 12) [(.t 142),(.t 143)]),
 Zm 141 144,
 Zo 145 (.ext 0 (.t 141)),
 Zo 146 (.ext 1 (.t 141)),
 Zo 147 (.ext 2 (.t 141)),
 Zm 20 145,
 Zm 21 146,
 Zm 22 147])
 (.keep [9,15,18,20,22] (.seq (.ops [Zm 149 9,
 Zm 150 15,
 Zo 151 (.call (.f 12) [(.t 149),(.t 150)]),
 Zm 148 151,
 Zo 152 (.ext 0 (.t 148)),
 Zo 153 (.ext 1 (.t 148)),
 Zo 154 (.ext 2 (.t 148)),
 Zm 23 152,
 Zm 24 153,
 Zm 25 154])
 (.keep [9,18,20,22,23,25] (.seq (.ops [Zm 156 9,
 Zm 157 18,
 Zo 158 (.call (.f 12) [(.t 156),(.t 157)]),
 Zm 155 158,
 Zo 159 (.ext 0 (.t 155)),
 Zo 160 (.ext 1 (.t 155)),
 Zo 161 (.ext 2 (.t 155)),
 Zm 26 159,
 Zm 27 160,
 Zm 28 161])
 (.keep [20,22,23,25,26,28] (.seq (.ops [Zm 162 22,
 Zm 163 25,
 Zo 164 (.bin .eql (.t 162) (.t 163)),
 Zm 165 164,
 ⟨some 166,(some (165,true)),.mv (.t 22),none⟩,
 ⟨some 167,(some (165,true)),.mv (.t 28),none⟩,
 ⟨some 168,(some (165,true)),.bin .eql (.t 166) (.t 167),none⟩,
 Zo 169 (.pick (.t 165) (.t 168) (.c (.bool false))),
 Zm 170 169,
 ⟨some 171,(some (170,true)),.mv (.t 20),none⟩,
 ⟨some 172,(some (170,true)),.mv (.t 23),none⟩,
 ⟨some 173,(some (170,true)),.call (.f 14) [(.t 171),(.t 172)],none⟩,
 Zo 174 (.pick (.t 170) (.t 173) (.c (.bool false))),
 Zm 175 174,
 ⟨some 176,(some (175,true)),.mv (.t 20),none⟩,
 ⟨some 177,(some (175,true)),.mv (.t 26),none⟩,
 ⟨some 178,(some (175,true)),.call (.f 14) [(.t 176),(.t 177)],none⟩,
 Zo 179 (.pick (.t 175) (.t 178) (.c (.bool false))),
 Zm 8 179])
 (.ret))))))))))
def J_law06_NormParens_j2 : ACode :=
 .keep [1,9,11,13,15,17,18,114,115] (.ops [Zo 136 (.bin .add (.t 115) (.c (.int .i64 1))),
 Zm 115 136])
def J_law06_NormParens_j3 : ACode :=
 .seq (.ops [Zo 116 (.bin .lss (.t 115) (.t 114))])
 (.keep [1,9,11,13,15,17,18,114,115,116] (.seq (.cond (.t 116)
 (.skip)
 (.exit 6))
 (.keep [1,9,11,13,15,17,18,114,115] (.seq (.block 7 (.seq (.ops [Zm 117 115,
 Zm 19 117])
 (.keep [1,9,11,13,15,17,18,19,114,115] (.seq (.ops [Zo 118 (.mvo 18),
 Zm 119 1,
 Zm 120 19,
 Zo 121 (.idxa 3 (.t 119) (.t 120)),
 Zo 122 (.load (some 3) (.t 121)),
 Zo 123 (.bsl 52 3 1 [(.int .i64 0),(.int .i64 0),(.str ⟨#[]⟩)] [(0,3,(.t 122))]),
 Zo 124 (.appo 52 3 32 118 (.t 123)),
 Zo 18 (.mvo 124)])
 (.keep [1,9,11,13,15,17,18,19,114,115] (.seq (.ops [Zm 125 19,
 Zo 126 (.bin .gtr (.t 125) (.c (.int .i64 0))),
 Zm 127 126,
 ⟨some 128,(some (127,true)),.mv (.t 19),none⟩,
 ⟨some 129,(some (127,true)),.mv (.t 17),none⟩,
 ⟨some 130,(some (127,true)),.bin .neq (.t 128) (.t 129),none⟩,
 Zo 131 (.pick (.t 127) (.t 130) (.c (.bool false)))])
 (.keep [1,9,11,13,15,17,18,114,115,131] (.cond (.t 131)
 (.ops [Zo 132 (.mvo 18),
 Zo 133 (.load (some 3) (.t 11)),
 Zo 134 (.bsl 52 3 1 [(.int .i64 0),(.int .i64 0),(.str ⟨#[]⟩)] [(0,3,(.t 133))]),
 Zo 135 (.appo 52 3 32 132 (.t 134)),
 Zo 18 (.mvo 135)])
 (.skip)))))))))
 (J_law06_NormParens_j2)))))
def J_law06_NormParens_j4 : ACode :=
 .keep [1,3,9,11,13,15] (.seq (.ops [Zm 105 3,
 Zo 106 (.conv .i64 (.t 105)),
 Zm 107 1,
 Zo 108 (.lenl (.t 107)),
 Zo 109 (.bin .sub (.t 108) (.c (.int .i64 1))),
 Zo 110 (.bin .rem (.t 106) (.t 109)),
 Zo 111 (.bin .add (.c (.int .i64 1)) (.t 110)),
 Zm 17 111])
 (.keep [1,9,11,13,15,17] (.seq (.ops [Zo 112 (.bsl 52 3 0 [] []),
 Zo 18 (.mvo 112)])
 (.keep [1,9,11,13,15,17,18] (.seq (.seq (.ops [Zm 113 1,
 Zo 114 (.lenl (.t 113)),
 Zo 115 (.mv (.c (.int .i64 0)))])
 (.keep [1,9,11,13,15,17,18,114,115] (.block 6 (.loop [1,9,11,13,15,17,18,114,115] (J_law06_NormParens_j3)))))
 (J_law06_NormParens_j1))))))
def J_law06_NormParens_j5 : ACode :=
 .seq (.seq (.ops [Zm 95 16,
 Zm 96 1,
 Zo 97 (.lenl (.t 96)),
 Zo 98 (.bin .lss (.t 95) (.t 97))])
 (.keep [1,3,9,11,13,15,16,98] (.cond (.t 98)
 (.skip)
 (.exit 4))))
 (.keep [1,3,9,11,13,15,16] (.seq (.block 5 (.ops [Zo 101 (.mvo 15),
 Zo 102 (.load (some 3) (.t 11)),
 Zo 103 (.bsl 52 3 1 [(.int .i64 0),(.int .i64 0),(.str ⟨#[]⟩)] [(0,3,(.t 102))]),
 Zo 104 (.appo 52 3 32 101 (.t 103)),
 Zo 15 (.mvo 104)]))
 (.keep [1,3,9,11,13,15,16] (.ops [Zm 99 16,
 Zo 100 (.bin .add (.t 99) (.c (.int .i64 1))),
 Zm 16 100]))))
def J_law06_NormParens_j6 : ACode :=
 .keep [1,3,9,11,13] (.seq (.ops [Zo 92 (.bsl 52 3 0 [] []),
 Zm 93 1,
 Zo 94 (.appo 52 3 32 92 (.t 93)),
 Zo 15 (.mvo 94)])
 (.keep [1,3,9,11,13,15] (.seq (.seq (.ops [Zo 16 (.mv (.c (.int .i64 1)))])
 (.keep [1,3,9,11,13,15,16] (.block 4 (.loop [1,3,9,11,13,15,16] (J_law06_NormParens_j5)))))
 (J_law06_NormParens_j4))))
def J_law06_NormParens_j7 : ACode :=
 .keep [1,3,9,11,13,74,75] (.ops [Zo 91 (.bin .add (.t 75) (.c (.int .i64 1))),
 Zm 75 91])
def J_law06_NormParens_j8 : ACode :=
 .seq (.ops [Zo 76 (.bin .lss (.t 75) (.t 74))])
 (.keep [1,3,9,11,13,74,75,76] (.seq (.cond (.t 76)
 (.skip)
 (.exit 2))
 (.keep [1,3,9,11,13,74,75] (.seq (.block 3 (.seq (.ops [Zm 77 75,
 Zm 14 77])
 (.keep [1,3,9,11,13,14,74,75] (.seq (.ops [Zo 78 (.mvo 13),
 Zm 79 1,
 Zm 80 14,
 Zo 81 (.idxa 3 (.t 79) (.t 80)),
 Zo 82 (.load (some 3) (.t 81)),
 Zo 83 (.bsl 52 3 1 [(.int .i64 0),(.int .i64 0),(.str ⟨#[]⟩)] [(0,3,(.t 82))]),
 Zo 84 (.appo 52 3 32 78 (.t 83)),
 Zo 13 (.mvo 84)])
 (.keep [1,3,9,11,13,14,74,75] (.seq (.ops [Zm 85 14,
 Zo 86 (.bin .gtr (.t 85) (.c (.int .i64 0)))])
 (.keep [1,3,9,11,13,74,75,86] (.cond (.t 86)
 (.ops [Zo 87 (.mvo 13),
 Zo 88 (.load (some 3) (.t 11)),
 Zo 89 (.bsl 52 3 1 [(.int .i64 0),(.int .i64 0),(.str ⟨#[]⟩)] [(0,3,(.t 88))]),
 Zo 90 (.appo 52 3 32 87 (.t 89)),
 Zo 13 (.mvo 90)])
 (.skip)))))))))
 (J_law06_NormParens_j7)))))
def J_law06_NormParens_j9 : ACode :=
 .keep [1,3,9,11] (.seq (.ops [Zo 72 (.bsl 52 3 0 [] []),
 Zo 13 (.mvo 72)])
 (.keep [1,3,9,11,13] (.seq (.seq (.ops [Zm 73 1,
 Zo 74 (.lenl (.t 73)),
 Zo 75 (.mv (.c (.int .i64 0)))])
 (.keep [1,3,9,11,13,74,75] (.block 2 (.loop [1,3,9,11,13,74,75] (J_law06_NormParens_j8)))))
 (J_law06_NormParens_j6))))
def J_law06_NormParens_j10 : ACode :=
 .seq (.ops [Zo 54 (.bin .lss (.t 53) (.t 52))])
 (.keep [1,3,9,11,52,53,54] (.seq (.cond (.t 54)
 (.skip)
 (.exit 0))
 (.keep [1,3,9,11,52,53] (.seq (.block 1 (.seq (.ops [Zm 55 53,
 Zm 12 55])
 (.keep [1,3,9,11,12,52,53] (.seq (.ops [Zm 56 1,
 Zm 57 12,
 Zo 58 (.idxa 3 (.t 56) (.t 57)),
 Zo 59 (.fld 0 (.t 58)),
 Zo 60 (.load none (.t 59)),
 Zo 61 (.bin .neq (.t 60) (.c (.int .i64 1))),
 Zm 62 61,
 ⟨some 63,(some (62,false)),.mv (.t 1),none⟩,
 ⟨some 64,(some (62,false)),.mv (.t 12),none⟩,
 ⟨some 65,(some (62,false)),.idxa 3 (.t 63) (.t 64),none⟩,
 ⟨some 66,(some (62,false)),.fld 2 (.t 65),none⟩,
 ⟨some 67,(some (62,false)),.load none (.t 66),none⟩,
 ⟨some 68,(some (62,false)),.lens (.t 67),none⟩,
 ⟨some 69,(some (62,false)),.bin .gtr (.t 68) (.c (.int .i64 100)),none⟩,
 Zo 70 (.pick (.t 62) (.c (.bool true)) (.t 69))])
 (.keep [1,3,9,11,52,53,70] (.cond (.t 70)
 (.seq (.ops [Zo 8 (.mv (.c (.bool true)))])
 (.ret))
 (.skip)))))))
 (.keep [1,3,9,11,52,53] (.ops [Zo 71 (.bin .add (.t 53) (.c (.int .i64 1))),
 Zm 53 71]))))))
def J_law06_NormParens_j11 : ACode :=
 .keep [1,3,9,11] (.seq (.seq (.ops [Zm 51 1,
 Zo 52 (.lenl (.t 51)),
 Zo 53 (.mv (.c (.int .i64 0)))])
 (.keep [1,3,9,11,52,53] (.block 0 (.loop [1,3,9,11,52,53] (J_law06_NormParens_j10)))))
 (J_law06_NormParens_j9))
def J_law06_NormParens : AFn :=
 ⟨180,[.t 8],.seq (.ops [Zo 4 (.box (.t 0) []),
 Zo 8 (.mv (.c (.bool false)))])
 (.keep [1,2,3,4] (.seq (.seq (.ops [Zo 29 (.call (.f 9) []),
 Zo 30 (.not (.t 29))])
 (.keep [1,2,3,4,30] (.cond (.t 30)
 (.seq (.ops [Zo 8 (.mv (.c (.bool false)))])
 (.ret))
 (.skip))))
 (.keep [1,2,3,4] (.seq (.ops [Zo 32 (.load (some 6) (.t 4)),
 Zo 33 (.call (.f 10) [(.t 32)]),
 Zm 31 33,
 Zo 34 (.ext 0 (.t 31)),
 Zo 35 (.ext 1 (.t 31)),
 Zm 9 34,
 Zm 10 35])
 (.keep [1,2,3,9] (.seq (.seq (.ops [Zm 36 9,
 Zo 37 (.pnil false (.t 36)),
 Zm 38 37,
 ⟨some 39,(some (38,false)),.mv (.t 1),none⟩,
 ⟨some 40,(some (38,false)),.lenl (.t 39),none⟩,
 ⟨some 41,(some (38,false)),.bin .lss (.t 40) (.c (.int .i64 2)),none⟩,
 Zo 42 (.pick (.t 38) (.c (.bool true)) (.t 41)),
 Zm 43 42,
 ⟨some 44,(some (43,false)),.mv (.t 1),none⟩,
 ⟨some 45,(some (43,false)),.lenl (.t 44),none⟩,
 ⟨some 46,(some (43,false)),.bin .gtr (.t 45) (.c (.int .i64 8)),none⟩,
 Zo 47 (.pick (.t 43) (.c (.bool true)) (.t 46))])
 (.keep [1,2,3,9,47] (.cond (.t 47)
 (.seq (.ops [Zo 8 (.mv (.c (.bool true)))])
 (.ret))
 (.skip))))
 (.keep [1,2,3,9] (.seq (.ops [Zo 48 (.build [(.int .i64 0),(.int .i64 0),(.str ⟨#[]⟩)] [(0,1,(.c (.int .i64 2)))]),
 Zo 11 (.new [(.int .i64 0),(.int .i64 0),(.str ⟨#[]⟩)] []),
 ⟨none,none,.store 3 (.t 11) (.t 48),none⟩])
 (.keep [1,2,3,9,11] (.seq (.seq (.ops [Zm 49 2])
 (.keep [1,3,9,11,49] (.cond (.t 49)
 (.ops [Zo 50 (.fld 0 (.t 11)),
 ⟨none,none,.store 1 (.t 50) (.c (.int .i64 4)),none⟩])
 (.skip))))
 (J_law06_NormParens_j11)))))))))))⟩
theorem J_law06_NormParens_ok : chkFn Tryz.prog 8 J_law06_NormParens = true := by kernel_rfl
def J_law06_awake : AFn :=
 ⟨136,[.t 0],.seq (.ops [Zo 0 (.mv (.c (.bool false)))])
 (.keep [] (.seq (.ops [Zo 23 (.bsl 9 1 0 [] []),
 Zo 24 (.bsl 9 1 1 [(.str ⟨#[]⟩)] [(0,1,(.c (.str ⟨#[107]⟩)))]),
 Zo 25 (.bsl 9 1 0 [] []),
 Zo 26 (.bsl 9 1 2 [(.str ⟨#[]⟩),(.str ⟨#[]⟩)] [(0,1,(.c (.str ⟨#[97]⟩))),(1,1,(.c (.str ⟨#[98]⟩)))]),
 Zo 27 (.bsl 9 1 0 [] []),
 Zo 28 (.bsl 9 1 1 [(.str ⟨#[]⟩)] [(0,1,(.c (.str ⟨#[114]⟩)))]),
 Zo 29 (.bar 1 [(.lst .clip 0 []),(.lst .clip 0 []),(.lst .clip 0 []),(.lst .clip 0 []),(.lst .clip 0 []),(.lst .clip 0 [])] [(0,1,(.t 23)),(1,1,(.t 24)),(2,1,(.t 25)),(3,1,(.t 26)),(4,1,(.t 27)),(5,1,(.t 28))]),
 Zo 30 (.call (.f 26) [(.t 29)]),
 Zm 22 30,
 Zo 31 (.ext 0 (.t 22)),
 Zo 32 (.ext 1 (.t 22)),
 Zm 1 31,
 Zm 2 32])
 (.keep [1,2] (.seq (.seq (.ops [Zm 33 1,
 Zo 34 (.pnil false (.t 33)),
 Zm 35 34,
 ⟨some 36,(some (35,false)),.mv (.t 2),none⟩,
 ⟨some 37,(some (35,false)),.bin .neq (.t 36) (.c (.int .i64 0)),none⟩,
 Zo 38 (.pick (.t 35) (.c (.bool true)) (.t 37))])
 (.keep [1,38] (.cond (.t 38)
 (.seq (.ops [Zo 0 (.mv (.c (.bool false)))])
 (.ret))
 (.skip))))
 (.keep [1] (.seq (.ops [Zm 40 1,
 Zo 41 (.call (.f 15) [(.t 40),(.c (.str ⟨#[97,32,102,111,114,32,98,32,97,110,100,32,97]⟩))]),
 Zm 39 41,
 Zo 42 (.ext 0 (.t 39)),
 Zo 43 (.ext 1 (.t 39)),
 Zo 44 (.ext 2 (.t 39)),
 Zm 3 42,
 Zm 4 43,
 Zm 5 44])
 (.keep [1,3,4,5] (.seq (.ops [Zm 46 1,
 Zm 47 3,
 Zo 48 (.call (.f 17) [(.t 46),(.t 47)]),
 Zm 45 48,
 Zo 49 (.ext 0 (.t 45)),
 Zo 50 (.ext 1 (.t 45)),
 Zm 6 49,
 Zm 7 50])
 (.keep [1,3,4,5,6,7] (.seq (.ops [Zm 52 1,
 Zo 53 (.call (.f 15) [(.t 52),(.c (.str ⟨#[97,32,97,115,32,114,111,108,101,58,114,124,98]⟩))]),
 Zm 51 53,
 Zo 54 (.ext 0 (.t 51)),
 Zo 55 (.ext 1 (.t 51)),
 Zo 56 (.ext 2 (.t 51)),
 Zm 8 54,
 Zm 9 55,
 Zm 10 56])
 (.keep [1,3,4,5,6,7,8,10] (.seq (.ops [Zm 58 1,
 Zm 59 8,
 Zo 60 (.call (.f 17) [(.t 58),(.t 59)]),
 Zm 57 60,
 Zo 61 (.ext 0 (.t 57)),
 Zo 62 (.ext 1 (.t 57)),
 Zm 11 61,
 Zm 12 62])
 (.keep [1,3,4,5,6,7,8,10,11] (.seq (.ops [Zm 64 1,
 Zo 65 (.build [(.int .i64 0),(.int .i64 0),(.str ⟨#[]⟩)] [(0,1,(.c (.int .i64 1))),(1,1,(.c (.int .i64 3))),(2,1,(.c (.str ⟨#[97]⟩)))]),
 Zo 66 (.build [(.int .i64 0),(.int .i64 0),(.str ⟨#[]⟩)] [(0,1,(.c (.int .i64 1))),(1,1,(.c (.int .i64 3))),(2,1,(.c (.str ⟨#[122]⟩)))]),
 Zo 67 (.build [(.int .i64 0),(.int .i64 0),(.str ⟨#[]⟩)] [(0,1,(.c (.int .i64 2)))]),
 Zo 68 (.bsl 52 3 3 [(.int .i64 0),(.int .i64 0),(.str ⟨#[]⟩),(.int .i64 0),(.int .i64 0),(.str ⟨#[]⟩),(.int .i64 0),(.int .i64 0),(.str ⟨#[]⟩)] [(0,3,(.t 65)),(3,3,(.t 66)),(6,3,(.t 67))]),
 Zo 69 (.call (.f 12) [(.t 64),(.t 68)]),
 Zm 63 69,
 Zo 70 (.ext 0 (.t 63)),
 Zo 71 (.ext 1 (.t 63)),
 Zo 72 (.ext 2 (.t 63)),
 Zm 13 70,
 Zm 14 71,
 Zm 15 72])
 (.keep [1,3,4,5,6,7,8,10,11,14,15] (.seq (.ops [Zm 74 1,
 Zo 75 (.call (.f 15) [(.t 74),(.c (.str ⟨#[97,32,97,110,100]⟩))]),
 Zm 73 75,
 Zo 76 (.ext 0 (.t 73)),
 Zo 77 (.ext 1 (.t 73)),
 Zo 78 (.ext 2 (.t 73)),
 Zm 16 76,
 Zm 17 77,
 Zm 18 78])
 (.keep [3,4,5,6,7,8,10,11,14,15,17,18] (.seq (.ops [Zo 80 (.call (.f 15) [(.c .nilp),(.c (.str ⟨#[97]⟩))]),
 Zm 79 80,
 Zo 81 (.ext 0 (.t 79)),
 Zo 82 (.ext 1 (.t 79)),
 Zo 83 (.ext 2 (.t 79)),
 Zm 19 81,
 Zm 20 82,
 Zm 21 83])
 (.keep [3,4,5,6,7,8,10,11,14,15,17,18,21] (.seq (.ops [Zm 84 3,
 Zo 85 (.lenl (.t 84)),
 Zo 86 (.bin .eql (.t 85) (.c (.int .i64 3))),
 Zm 87 86,
 ⟨some 88,(some (87,true)),.mv (.t 4),none⟩,
 ⟨some 89,(some (87,true)),.bin .eql (.t 88) (.c (.int .i64 0)),none⟩,
 Zo 90 (.pick (.t 87) (.t 89) (.c (.bool false))),
 Zm 91 90,
 ⟨some 92,(some (91,true)),.mv (.t 5),none⟩,
 ⟨some 93,(some (91,true)),.bin .eql (.t 92) (.c (.int .i64 0)),none⟩,
 Zo 94 (.pick (.t 91) (.t 93) (.c (.bool false))),
 Zm 95 94,
 ⟨some 96,(some (95,true)),.mv (.t 6),none⟩,
 ⟨some 97,(some (95,true)),.bin .eql (.t 96) (.c (.str ⟨#[97,32,97,110,100,32,68,32,124,32,98,32,97,110,100,32,97,32,124,32,98]⟩)),none⟩,
 Zo 98 (.pick (.t 95) (.t 97) (.c (.bool false))),
 Zm 99 98,
 ⟨some 100,(some (99,true)),.mv (.t 7),none⟩,
 ⟨some 101,(some (99,true)),.bin .eql (.t 100) (.c (.int .i64 0)),none⟩,
 Zo 102 (.pick (.t 99) (.t 101) (.c (.bool false))),
 Zm 103 102,
 ⟨some 104,(some (103,true)),.mv (.t 8),none⟩,
 ⟨some 105,(some (103,true)),.lenl (.t 104),none⟩,
 ⟨some 106,(some (103,true)),.bin .eql (.t 105) (.c (.int .i64 1)),none⟩,
 Zo 107 (.pick (.t 103) (.t 106) (.c (.bool false))),
 Zm 108 107,
 ⟨some 109,(some (108,true)),.mv (.t 10),none⟩,
 ⟨some 110,(some (108,true)),.bin .eql (.t 109) (.c (.int .i64 0)),none⟩,
 Zo 111 (.pick (.t 108) (.t 110) (.c (.bool false))),
 Zm 112 111,
 ⟨some 113,(some (112,true)),.mv (.t 11),none⟩,
 ⟨some 114,(some (112,true)),.bin .eql (.t 113) (.c (.str ⟨#[97,32,97,115,32,114,111,108,101,58,114,32,124,32,98]⟩)),none⟩,
 Zo 115 (.pick (.t 112) (.t 114) (.c (.bool false))),
 Zm 116 115,
 ⟨some 117,(some (116,true)),.mv (.t 14),none⟩,
 ⟨some 118,(some (116,true)),.bin .eql (.t 117) (.c (.int .i64 1)),none⟩,
 Zo 119 (.pick (.t 116) (.t 118) (.c (.bool false))),
 Zm 120 119,
 ⟨some 121,(some (120,true)),.mv (.t 15),none⟩,
 ⟨some 122,(some (120,true)),.bin .eql (.t 121) (.c (.int .i64 10)),none⟩,
 Zo 123 (.pick (.t 120) (.t 122) (.c (.bool false))),
 Zm 124 123,
 ⟨some 125,(some (124,true)),.mv (.t 17),none⟩,
 ⟨some 126,(some (124,true)),.bin .eql (.t 125) (.c (.int .i64 5)),none⟩,
 Zo 127 (.pick (.t 124) (.t 126) (.c (.bool false))),
 Zm 128 127,
 ⟨some 129,(some (128,true)),.mv (.t 18),none⟩,
 ⟨some 130,(some (128,true)),.bin .eql (.t 129) (.c (.int .i64 2)),none⟩,
 Zo 131 (.pick (.t 128) (.t 130) (.c (.bool false))),
 Zm 132 131,
 ⟨some 133,(some (132,true)),.mv (.t 21),none⟩,
 ⟨some 134,(some (132,true)),.bin .eql (.t 133) (.c (.int .i64 2)),none⟩,
 Zo 135 (.pick (.t 132) (.t 134) (.c (.bool false))),
 Zm 0 135])
 (.ret)))))))))))))))))))))⟩
theorem J_law06_awake_ok : chkFn Tryz.prog 9 J_law06_awake = true := by kernel_rfl
def J_law06_tables_j1 : ACode :=
 .keep [1] (.seq (.ops [Zo 19 (.load (some 6) (.t 1)),
 Zo 20 (.call (.f 26) [(.t 19)]),
 Zm 18 20,
 Zo 21 (.ext 0 (.t 18)),
 Zo 22 (.ext 1 (.t 18)),
 Zm 5 21,
 Zm 6 22])
 (.keep [1,5,6] (.seq (.ops [Zo 24 (.load (some 6) (.t 1)),
 Zo 25 (.call (.f 27) [(.t 24)]),
 Zm 23 25,
 Zo 26 (.ext 0 (.t 23)),
 Zo 27 (.ext 1 (.t 23)),
 Zm 7 26,
 Zm 8 27])
 (.keep [5,6,7,8] (.seq (.seq (.ops [Zm 28 6,
 Zo 29 (.bin .neq (.t 28) (.c (.int .i64 0))),
 Zm 30 29,
 ⟨some 31,(some (30,false)),.mv (.t 8),none⟩,
 ⟨some 32,(some (30,false)),.bin .neq (.t 31) (.c (.int .i64 0)),none⟩,
 Zo 33 (.pick (.t 30) (.c (.bool true)) (.t 32))])
 (.keep [5,7,33] (.cond (.t 33)
 (.seq (.ops [Zo 2 (.mv (.c .nilp)),
 Zo 3 (.mv (.c .nilp))])
 (.ret))
 (.skip))))
 (.keep [5,7] (.seq (.ops [Zm 34 5,
 Zm 35 7,
 Zm 2 34,
 Zm 3 35])
 (.ret))))))))
def J_law06_tables_j2 : ACode :=
 .seq (.ops [Zo 10 (.bin .lss (.t 9) (.c (.int .i64 6)))])
 (.keep [1,9,10] (.seq (.cond (.t 10)
 (.skip)
 (.exit 0))
 (.keep [1,9] (.seq (.block 1 (.seq (.ops [Zm 11 9,
 Zm 4 11])
 (.keep [1,4,9] (.seq (.ops [Zm 12 4,
 Zo 13 (.ex (.idp 1 6) [(.t 1),(.t 12)]),
 Zo 14 (.load none (.t 13)),
 Zo 15 (.lenl (.t 14)),
 Zo 16 (.bin .gtr (.t 15) (.c (.int .i64 100)))])
 (.keep [1,9,16] (.cond (.t 16)
 (.seq (.ops [Zo 2 (.mv (.c .nilp)),
 Zo 3 (.mv (.c .nilp))])
 (.ret))
 (.skip)))))))
 (.keep [1,9] (.ops [Zo 17 (.bin .add (.t 9) (.c (.int .i64 1))),
 Zm 9 17]))))))
def J_law06_tables : AFn :=
 ⟨36,[.t 2,.t 3],.seq (.ops [Zo 1 (.box (.t 0) []),
 Zo 2 (.mv (.c .nilp)),
 Zo 3 (.mv (.c .nilp))])
 (.keep [1] (.seq (.seq (.ops [Zo 9 (.mv (.c (.int .i64 0)))])
 (.keep [1,9] (.block 0 (.loop [1,9] (J_law06_tables_j2)))))
 (J_law06_tables_j1)))⟩
theorem J_law06_tables_ok : chkFn Tryz.prog 10 J_law06_tables = true := by kernel_rfl
def J_norm_Run_j1 : ACode :=
 .keep [8] (.seq (.ops [Zm 82 8,
 Zo 83 (.idxa 1 (.t 82) (.c (.int .i64 0))),
 Zo 84 (.load none (.t 83)),
 Zm 4 84,
 Zo 5 (.mv (.c (.int .i64 0))),
 Zo 6 (.mv (.c (.int .i64 0)))])
 (.ret))
def J_norm_Run_j2 : ACode :=
 .keep [0,7,8,24,25,26] (.ops [Zo 81 (.bin .add (.t 26) (.c (.int .i64 1))),
 Zm 26 81])
def J_norm_Run_j3 : ACode :=
 .keep [0,7,8,9,11,12,24,25,26] (.seq (.seq (.ops [Zm 73 12,
 Zo 74 (.bin .neq (.t 73) (.c (.int .i64 0)))])
 (.keep [0,7,8,9,11,12,24,25,26,74] (.cond (.t 74)
 (.seq (.ops [Zm 75 9,
 Zm 76 12,
 Zo 4 (.mv (.c (.lst .clip 0 []))),
 Zm 5 75,
 Zm 6 76])
 (.ret))
 (.skip))))
 (.keep [0,7,8,11,24,25,26] (.ops [Zm 77 8,
 Zm 78 11,
 Zo 79 (.bsl 33 1 1 [(.lst .clip 0 [])] [(0,1,(.t 78))]),
 Zo 80 (.apc 33 1 24 [(.lst .clip 0 [])] (.t 77) (.t 79)),
 Zm 8 80])))
def J_norm_Run_j4 : ACode :=
 .keep [0,7,8,9,11,12,13,24,25,26] (.ops [Zm 70 8,
 Zm 71 13,
 Zo 72 (.slch 1 (.t 70) (.t 71)),
 Zm 8 72])
def J_norm_Run_j5 : ACode :=
 .keep [0,7,8,9,10,11,12,13,24,25,26,43,44,45] (.ops [Zo 69 (.bin .add (.t 45) (.c (.int .i64 1))),
 Zm 45 69])
def J_norm_Run_j6 : ACode :=
 .seq (.ops [Zo 46 (.bin .lss (.t 45) (.t 44))])
 (.keep [0,7,8,9,10,11,12,13,24,25,26,43,44,45,46] (.seq (.cond (.t 46)
 (.skip)
 (.exit 2))
 (.keep [0,7,8,9,10,11,12,13,24,25,26,43,44,45] (.seq (.block 3 (.seq (.ops [Zo 47 (.idxa 2 (.t 43) (.t 45)),
 Zo 48 (.load (some 2) (.t 47)),
 Zo 15 (.new [(.int .i64 0),.nilf] []),
 ⟨none,none,.stores 2 (.t 15) (.t 48),none⟩])
 (.keep [0,7,8,9,10,11,12,13,15,24,25,26,43,44,45] (.seq (.ops [Zo 49 (.fld 0 (.t 15)),
 Zo 50 (.load none (.t 49)),
 Zo 51 (.fld 0 (.t 10)),
 Zo 52 (.load none (.t 51)),
 Zo 53 (.bin .eql (.t 50) (.t 52))])
 (.keep [0,7,8,9,10,11,12,13,15,24,25,26,43,44,45,53] (.cond (.t 53)
 (.draw [0,7,8,9,10,11,12,13,24,25,26,43,44,45] [Zo 55 (.fld 1 (.t 15)),
 Zo 56 (.lds none (.t 55)),
 Zm 57 8,
 Zm 58 13,
 Zo 59 (.idxa 1 (.t 57) (.t 58)),
 Zo 60 (.load none (.t 59)),
 Zm 61 8,
 Zm 62 13,
 Zo 63 (.bin .add (.t 62) (.c (.int .i64 1))),
 Zo 64 (.idxa 1 (.t 61) (.t 63)),
 Zo 65 (.load none (.t 64)),
 Zo 66 (.call (.t 56) [(.t 60),(.t 65)]),
 Zm 54 66,
 Zo 67 (.ext 0 (.t 54)),
 Zo 68 (.ext 1 (.t 54)),
 Zm 11 67,
 Zm 12 68])
 (.skip)))))))
 (J_norm_Run_j5)))))
def J_norm_Run_j7 : ACode :=
 .seq (.ops [Zo 27 (.bin .lss (.t 26) (.t 25))])
 (.keep [0,7,8,24,25,26,27] (.seq (.cond (.t 27)
 (.skip)
 (.exit 0))
 (.keep [0,7,8,24,25,26] (.seq (.block 1 (.seq (.ops [Zm 28 26,
 Zo 29 (.idxa 3 (.t 24) (.t 26)),
 Zo 30 (.load (some 3) (.t 29)),
 Zo 10 (.new [(.int .i64 0),(.int .i64 0),(.str ⟨#[]⟩)] []),
 Zm 9 28,
 ⟨none,none,.stores 3 (.t 10) (.t 30),none⟩])
 (.keep [0,7,8,9,10,24,25,26] (.seq (.ops [Zo 11 (.mv (.c (.lst .clip 0 [])))])
 (.keep [0,7,8,9,10,11,24,25,26] (.seq (.ops [Zo 12 (.mv (.c (.int .i64 0)))])
 (.keep [0,7,8,9,10,11,12,24,25,26] (.seq (.seq (.ops [Zo 31 (.fld 0 (.t 10)),
 Zo 32 (.load none (.t 31)),
 Zo 33 (.bin .eql (.t 32) (.c (.int .i64 1)))])
 (.keep [0,7,8,9,10,11,12,24,25,26,33] (.cond (.t 33)
 (.ops [Zm 35 0,
 Zo 36 (.load (some 3) (.t 10)),
 Zo 37 (.call (.f 30) [(.t 35),(.t 36)]),
 Zm 34 37,
 Zo 38 (.ext 0 (.t 34)),
 Zo 39 (.ext 1 (.t 34)),
 Zm 11 38,
 Zm 12 39])
 (.seq (.ops [Zm 40 8,
 Zo 41 (.lenl (.t 40)),
 Zo 42 (.bin .sub (.t 41) (.c (.int .i64 2))),
 Zm 13 42])
 (.keep [0,7,8,9,10,11,12,13,24,25,26] (.seq (.seq (.ops [Zm 43 7,
 Zo 44 (.lenl (.t 43)),
 Zo 45 (.mv (.c (.int .i64 0)))])
 (.keep [0,7,8,9,10,11,12,13,24,25,26,43,44,45] (.block 2 (.loop [0,7,8,9,10,11,12,13,24,25,26,43,44,45] (J_norm_Run_j6)))))
 (J_norm_Run_j4)))))))
 (J_norm_Run_j3)))))))))
 (J_norm_Run_j2)))))
def J_norm_Run : AFn :=
 ⟨85,[.t 4,.t 5,.t 6],.seq (.ops [Zo 4 (.mv (.c (.lst .clip 0 []))),
 Zo 5 (.mv (.c (.int .i64 0))),
 Zo 6 (.mv (.c (.int .i64 0)))])
 (.keep [0,1] (.seq (.seq (.ops [Zm 16 0,
 Zo 17 (.pnil false (.t 16)),
 Zm 18 17,
 ⟨some 19,(some (18,false)),.mv (.t 1),none⟩,
 ⟨some 20,(some (18,false)),.call (.f 28) [(.t 19)],none⟩,
 ⟨some 21,(some (18,false)),.not (.t 20),none⟩,
 Zo 22 (.pick (.t 18) (.c (.bool true)) (.t 21))])
 (.keep [0,1,22] (.cond (.t 22)
 (.seq (.ops [Zo 4 (.mv (.c (.lst .clip 0 []))),
 Zo 5 (.mv (.c (.int .i64 0))),
 Zo 6 (.mv (.c (.int .i64 2)))])
 (.ret))
 (.skip))))
 (.keep [0,1] (.seq (.ops [Zo 23 (.call (.f 29) []),
 Zm 7 23])
 (.keep [0,1,7] (.seq (.ops [Zo 8 (.mv (.c (.lst .clip 0 [])))])
 (.keep [0,1,7,8] (.seq (.seq (.ops [Zm 24 1,
 Zo 25 (.lenl (.t 24)),
 Zo 26 (.mv (.c (.int .i64 0)))])
 (.keep [0,7,8,24,25,26] (.block 0 (.loop [0,7,8,24,25,26] (J_norm_Run_j7)))))
 (J_norm_Run_j1)))))))))⟩
theorem J_norm_Run_ok : chkFn Tryz.prog 12 J_norm_Run = true := by kernel_rfl
def J_norm_Read : AFn :=
 ⟨33,[.t 4,.t 5,.t 6],.seq (.ops [Zo 4 (.mv (.c (.lst .clip 0 []))),
 Zo 5 (.mv (.c (.int .i64 0))),
 Zo 6 (.mv (.c (.int .i64 0)))])
 (.keep [0,1] (.seq (.seq (.ops [Zm 12 0,
 Zo 13 (.pnil false (.t 12))])
 (.keep [0,1,13] (.cond (.t 13)
 (.seq (.ops [Zo 4 (.mv (.c (.lst .clip 0 []))),
 Zo 5 (.mv (.c (.int .i64 0))),
 Zo 6 (.mv (.c (.int .i64 2)))])
 (.ret))
 (.skip))))
 (.keep [0,1] (.seq (.ops [Zm 15 1,
 Zo 16 (.call (.f 33) [(.t 15)]),
 Zm 14 16,
 Zo 17 (.ext 0 (.t 14)),
 Zo 18 (.ext 1 (.t 14)),
 Zo 19 (.ext 2 (.t 14)),
 Zm 7 17,
 Zm 8 18,
 Zm 9 19])
 (.keep [0,7,8,9] (.seq (.seq (.ops [Zm 20 9,
 Zo 21 (.bin .neq (.t 20) (.c (.int .i64 0)))])
 (.keep [0,7,8,9,21] (.cond (.t 21)
 (.seq (.ops [Zm 22 8,
 Zm 23 9,
 Zo 4 (.mv (.c (.lst .clip 0 []))),
 Zm 5 22,
 Zm 6 23])
 (.ret))
 (.skip))))
 (.keep [0,7] (.seq (.ops [Zm 25 0,
 Zm 26 7,
 Zo 27 (.call (.f 12) [(.t 25),(.t 26)]),
 Zm 24 27,
 Zo 28 (.ext 0 (.t 24)),
 Zo 29 (.ext 1 (.t 24)),
 Zo 30 (.ext 2 (.t 24)),
 Zm 10 28,
 Zm 11 29,
 Zm 9 30])
 (.keep [9,10] (.seq (.ops [Zm 31 10,
 Zm 32 9,
 Zm 4 31,
 Zo 5 (.mv (.c (.int .i64 0))),
 Zm 6 32])
 (.ret)))))))))))⟩
theorem J_norm_Read_ok : chkFn Tryz.prog 15 J_norm_Read = true := by kernel_rfl
def J_norm_Show_j1 : ACode :=
 .keep [6] (.seq (.ops [Zm 41 6,
 Zo 42 (.call (.f 37) [(.t 41),(.c (.str ⟨#[32,97,110,100,32]⟩))]),
 Zm 4 42,
 Zo 5 (.mv (.c (.int .i64 0)))])
 (.ret))
def J_norm_Show_j2 : ACode :=
 .seq (.ops [Zo 24 (.bin .lss (.t 23) (.t 22))])
 (.keep [0,6,21,22,23,24] (.seq (.cond (.t 24)
 (.skip)
 (.exit 0))
 (.keep [0,6,21,22,23] (.seq (.block 1 (.seq (.ops [Zm 25 23,
 Zo 26 (.idxa 1 (.t 21) (.t 23)),
 Zo 27 (.load none (.t 26)),
 Zm 7 25,
 Zm 8 27])
 (.keep [0,6,7,8,21,22,23] (.seq (.ops [Zm 29 0,
 Zm 30 8,
 Zo 31 (.call (.f 36) [(.t 29),(.t 30)]),
 Zm 28 31,
 Zo 32 (.ext 0 (.t 28)),
 Zo 33 (.ext 1 (.t 28)),
 Zm 9 32,
 Zm 10 33])
 (.keep [0,6,7,9,10,21,22,23] (.seq (.seq (.ops [Zm 34 10,
 Zo 35 (.not (.t 34))])
 (.keep [0,6,7,9,21,22,23,35] (.cond (.t 35)
 (.seq (.ops [Zo 4 (.mv (.c (.str ⟨#[]⟩))),
 Zo 5 (.mv (.c (.int .i64 10)))])
 (.ret))
 (.skip))))
 (.keep [0,6,7,9,21,22,23] (.ops [Zm 36 6,
 Zm 37 7,
 Zm 38 9,
 Zo 39 (.idxa 1 (.t 36) (.t 37)),
 ⟨none,none,.store 1 (.t 39) (.t 38),none⟩]))))))))
 (.keep [0,6,21,22,23] (.ops [Zo 40 (.bin .add (.t 23) (.c (.int .i64 1))),
 Zm 23 40]))))))
def J_norm_Show : AFn :=
 ⟨43,[.t 4,.t 5],.seq (.ops [Zo 4 (.mv (.c (.str ⟨#[]⟩))),
 Zo 5 (.mv (.c (.int .i64 0)))])
 (.keep [0,1] (.seq (.seq (.ops [Zm 11 0,
 Zo 12 (.pnil false (.t 11)),
 Zm 13 12,
 ⟨some 14,(some (13,false)),.mv (.t 1),none⟩,
 ⟨some 15,(some (13,false)),.call (.f 35) [(.t 14)],none⟩,
 ⟨some 16,(some (13,false)),.not (.t 15),none⟩,
 Zo 17 (.pick (.t 13) (.c (.bool true)) (.t 16))])
 (.keep [0,1,17] (.cond (.t 17)
 (.seq (.ops [Zo 4 (.mv (.c (.str ⟨#[]⟩))),
 Zo 5 (.mv (.c (.int .i64 2)))])
 (.ret))
 (.skip))))
 (.keep [0,1] (.seq (.ops [Zm 18 1,
 Zo 19 (.lenl (.t 18)),
 Zo 20 (.mkn 9 1 16 [(.str ⟨#[]⟩)] (.t 19)),
 Zm 6 20])
 (.keep [0,1,6] (.seq (.seq (.ops [Zm 21 1,
 Zo 22 (.lenl (.t 21)),
 Zo 23 (.mv (.c (.int .i64 0)))])
 (.keep [0,6,21,22,23] (.block 0 (.loop [0,6,21,22,23] (J_norm_Show_j2)))))
 (J_norm_Show_j1)))))))⟩
theorem J_norm_Show_ok : chkFn Tryz.prog 17 J_norm_Show = true := by kernel_rfl
def J_norm_operators : AFn :=
 ⟨6,[.t 0],.seq (.ops [Zo 0 (.mv (.c (.lst .clip 0 [])))])
 (.keep [] (.seq (.ops [Zo 1 (.build [(.int .i64 0),.nilf] [(0,1,(.c (.int .i64 2))),(1,1,(.f 52))]),
 Zo 2 (.build [(.int .i64 0),.nilf] [(0,1,(.c (.int .i64 3))),(1,1,(.f 53))]),
 Zo 3 (.build [(.int .i64 0),.nilf] [(0,1,(.c (.int .i64 4))),(1,1,(.f 54))]),
 Zo 4 (.build [(.int .i64 0),.nilf] [(0,1,(.c (.int .i64 5))),(1,1,(.f 55))]),
 Zo 5 (.bsl 70 2 4 [(.int .i64 0),.nilf,(.int .i64 0),.nilf,(.int .i64 0),.nilf,(.int .i64 0),.nilf] [(0,2,(.t 1)),(2,2,(.t 2)),(4,2,(.t 3)),(6,2,(.t 4))]),
 Zo 0 (.mvo 5)])
 (.ret)))⟩
theorem J_norm_operators_ok : chkFn Tryz.prog 29 J_norm_operators = true := by kernel_rfl
def J_norm_alone_j1 : ACode :=
 .keep [6] (.seq (.ops [Zm 26 6,
 Zo 27 (.bsl 57 1 1 [(.int .u16 0)] [(0,1,(.t 26))]),
 Zo 28 (.call (.f 59) [(.t 27)]),
 Zo 29 (.bsl 43 1 1 [(.str ⟨#[]⟩)] [(0,1,(.t 28))]),
 Zo 30 (.call (.f 58) [(.t 29)]),
 Zo 31 (.ext 0 (.t 30)),
 Zo 32 (.ext 1 (.t 30)),
 Zm 4 31,
 Zm 5 32])
 (.ret))
def J_norm_alone : AFn :=
 ⟨33,[.t 4,.t 5],.seq (.ops [Zo 3 (.box (.t 1) []),
 Zo 4 (.mv (.c (.lst .clip 0 []))),
 Zo 5 (.mv (.c (.int .i64 0)))])
 (.keep [0,3] (.seq (.ops [Zo 6 (.mv (.c (.int .u16 1)))])
 (.keep [0,3,6] (.seq (.seq (.ops [Zo 9 (.fld 1 (.t 3)),
 Zo 10 (.load none (.t 9)),
 Zo 11 (.bin .neq (.t 10) (.c (.int .i64 0)))])
 (.keep [0,3,6,11] (.cond (.t 11)
 (.seq (.draw [7,8] [Zm 13 0,
 Zo 14 (.nilck (.t 13)),
 Zo 15 (.fld 0 (.t 14)),
 Zo 16 (.fld 1 (.t 3)),
 Zo 17 (.load none (.t 16)),
 Zo 18 (.fld 2 (.t 3)),
 Zo 19 (.load none (.t 18)),
 Zo 20 (.call (.f 48) [(.t 15),(.t 17),(.t 19)]),
 Zm 12 20,
 Zo 21 (.ext 0 (.t 12)),
 Zo 22 (.ext 1 (.t 12)),
 Zm 7 21,
 Zm 8 22])
 (.keep [7,8] (.seq (.seq (.ops [Zm 23 8,
 Zo 24 (.not (.t 23))])
 (.keep [7,24] (.cond (.t 24)
 (.seq (.ops [Zo 4 (.mv (.c (.lst .clip 0 []))),
 Zo 5 (.mv (.c (.int .i64 10)))])
 (.ret))
 (.skip))))
 (.keep [7] (.ops [Zm 25 7,
 Zm 6 25])))))
 (.skip))))
 (J_norm_alone_j1)))))⟩
theorem J_norm_alone_ok : chkFn Tryz.prog 30 J_norm_alone = true := by kernel_rfl
def J_norm_operators_1 : AFn :=
 ⟨14,[.t 4,.t 5],.seq (.ops [Zo 4 (.mv (.c (.lst .clip 0 []))),
 Zo 5 (.mv (.c (.int .i64 0)))])
 (.keep [0,1] (.seq (.ops [Zm 6 0,
 Zm 7 1,
 Zo 8 (.idxa 1 (.t 7) (.c (.int .i64 0))),
 Zo 9 (.load none (.t 8)),
 Zo 10 (.call (.f 57) [(.t 9),(.c (.int .i64 0))]),
 Zo 11 (.call (.f 56) [(.t 6),(.t 10)]),
 Zo 12 (.ext 0 (.t 11)),
 Zo 13 (.ext 1 (.t 11)),
 Zm 4 12,
 Zm 5 13])
 (.ret)))⟩
theorem J_norm_operators_1_ok : chkFn Tryz.prog 55 J_norm_operators_1 = true := by kernel_rfl
end Go.Proofs.YtedaffmkpljlnaaGreat
/- What the reference's sets do: Quote, As, For. -/
namespace Go.Proofs.YtedaffmkpljlnaaGreat
open Go.RowKit Go.Lib

def prodTo (a b : List ByteArray) (i k : Nat) : List ByteArray := prodW (a.take i) b ++ (match a[i]? with | some x => (b.take k).map fun y => x ++ y | none => [])
theorem prodTo_zero (a b : List ByteArray) (i : Nat) : prodTo a b i 0 = prodW (a.take i) b := by unfold prodTo; cases a[i]? <;> simp
theorem prodTo_succ {a b : List ByteArray} {i k : Nat} (hi : i < a.length) (hk : k < b.length) : prodTo a b i (k + 1) = prodTo a b i k ++ [a[i] ++ b[k]] := by
 unfold prodTo
 rw [List.getElem?_eq_getElem hi]
 simp only
 rw [List.take_succ_eq_append_getElem hk, List.map_append, List.append_assoc]; rfl
theorem prodTo_next {a b : List ByteArray} {i : Nat} (hi : i < a.length) : prodTo a b i b.length = prodW (a.take (i + 1)) b := by
 unfold prodTo prodW
 rw [List.getElem?_eq_getElem hi, List.take_succ_eq_append_getElem hi, List.flatMap_append, List.take_length]
 simp
theorem prodTo_len {a b : List ByteArray} {i k : Nat} (ha : a.length ≤ 16) (hb : b.length ≤ 16) : (prodTo a b i k).length ≤ 272 := by
 have h1 : ∀ l : List ByteArray, (prodW l b).length = l.length * b.length := by
  intro l
  induction l with
  | nil => simp [prodW]
  | cons x l ih => simp only [prodW, List.flatMap_cons, List.length_append, List.length_map, List.length_cons] at ih ⊢; rw [ih, Nat.add_mul]; omega
 unfold prodTo
 rw [List.length_append, h1]
 have h2 : (a.take i).length * b.length ≤ 16 * 16 := Nat.mul_le_mul (by rw [List.length_take]; omega) hb
 have h3 : (match a[i]? with | some x => (b.take k).map fun y => x ++ y | none => []).length ≤ 16 := by
  cases a[i]? with
  | none => simp
  | some x => simp only [List.length_map, List.length_take]; omega
 omega
theorem mem_prodW {a b : List ByteArray} {w : ByteArray} : w ∈ prodW a b ↔ ∃ x ∈ a, ∃ y ∈ b, w = x ++ y := by
 unfold prodW
 simp only [List.mem_flatMap, List.mem_map]
 constructor
 ·rintro ⟨x, hx, y, hy, rfl⟩; exact ⟨x, hx, y, hy, rfl⟩
 ·rintro ⟨x, hx, y, hy, rfl⟩; exact ⟨x, hx, y, hy, rfl⟩
theorem atomAt_app_left {x y : ByteArray} {i : Nat} (h : 2 * i + 1 < x.size) : atomAt (x ++ y) i = atomAt x i := by
 unfold atomAt
 rw [dif_pos (by rw [ByteArray.size_append]; omega), dif_pos h, ByteArray.getElem_append_left (by omega), ByteArray.getElem_append_left h]
theorem atomAt_app_right {x y : ByteArray} {i : Nat} (hx : x.size % 2 = 0) (h : x.size ≤ 2 * i) (h2 : 2 * i + 1 < (x ++ y).size) : atomAt (x ++ y) i = atomAt y (i - x.size / 2) := by
 rw [ByteArray.size_append] at h2
 unfold atomAt
 rw [dif_pos (by rw [ByteArray.size_append]; omega), dif_pos (by omega), ByteArray.getElem_append_right (by omega), ByteArray.getElem_append_right (by omega)]
 have e1 : 2 * (i - x.size / 2) = 2 * i - x.size := by omega
 have e2 : 2 * i + 1 - x.size = 2 * i - x.size + 1 := by omega
 simp only [e1, e2]
theorem wordMay_app {x y : ByteArray} (hx : wordMay x = true) (hy : wordMay y = true) (h8 : (x ++ y).size / 2 ≤ 8) : wordMay (x ++ y) = true := by
 have h1 := wordMay_size hx
 have h2 := wordMay_size hy
 simp only [wordMay, decide_eq_true_eq] at hx hy ⊢
 rw [ByteArray.size_append] at h8 ⊢
 refine ⟨by omega, by omega, by omega, fun i hi => ?_⟩
 by_cases h : 2 * i < x.size
 ·rw [atomAt_app_left (by omega)]; exact hx.2.2.2 i (by omega)
 ·rw [atomAt_app_right (by omega) (by omega) (by rw [ByteArray.size_append]; omega)]; exact hy.2.2.2 _ (by omega)
theorem quoteE_fit {a b : List ByteArray} (ha : setMay a = true) (hb : setMay b = true) (h : ∀ w ∈ prodW a b, w.size / 2 ≤ 8) : quoteE a b = boundE (nrm (prodW a b)) := by
 unfold quoteE
 rw [if_neg (by simp [ha, hb]), if_neg]
 ·refine ofE_may fun w hw => ?_
  have h8 := h w hw
  obtain ⟨x, hx, y, hy, rfl⟩ := mem_prodW.1 hw
  exact wordMay_app ((setMay_words ha).2 x hx) ((setMay_words hb).2 y hy) h8
 ·rw [List.any_eq_true]
  rintro ⟨w, hw, h1⟩
  have := h w hw
  simp only [decide_eq_true_eq] at h1
  omega
theorem atomBytes_one (r : Nat) : (⟨(atomBytes [r]).toArray⟩ : ByteArray) = atomW r := by
 apply ByteArray.ext; apply Array.ext'; simp [atomBytes, atomW]
theorem ofE_good {l r : List ByteArray} (h : ofE l = (r, 0)) : setMay r = true := by
 unfold ofE at h
 split at h
 ·cases h
 ·next hall =>
  split at h
  ·next hlen =>
   simp only [Prod.mk.injEq, and_true] at h
   subst h
   refine setMay_mk hlen.1 hlen.2 (fun x hx => ?_) (rising_nrm l)
   have : l.all wordMay = true := by simpa using hall
   exact List.all_eq_true.1 this x (mem_nrm.1 hx)
  ·cases h
theorem quoteE_good {a b : List ByteArray} (h : (quoteE a b).2 = 0) : setMay (quoteE a b).1 = true := by
 have e : quoteE a b = ((quoteE a b).1, 0) := by rw [← h]
 unfold quoteE at e
 split at e
 ·simp at e
 ·split at e
  ·simp at e
  ·next h1 h2 => rw [show quoteE a b = ofE (prodW a b) by unfold quoteE; rw [if_neg h1, if_neg h2]]; exact ofE_good e
theorem setMay_small {l : List ByteArray} (h : setMay l = true) : l.length ≤ 16 ∧ ∀ x ∈ l, x.size ≤ 16 := ⟨(setMay_words h).1.2, fun x hx => by have := wordMay_size ((setMay_words h).2 x hx); omega⟩
theorem p_wof (l : List Nat) (hl : l.length ≤ 1000000) (ha : ∀ a ∈ l, a < 65536) : PCalls Tryz.prog 59 [.lst .ro l.length (u16s l)] (.str ⟨(atomBytes l).toArray⟩) := by
 refine pcalls_of (by first | rfl | simp [free, free.frees, frees_u16]) (by first | rfl | simp [free, free.frees, frees_str, frees_u8, frees_u16]) (acalls_of mixed J_word_Of_ok (Nat.le_of_ble_eq_true rfl) ?_); simp only [J_word_Of, wk,eq_self,Nat.reduceEqDiff,reduceCtorEq,↓reduceIte]
 refine ⟨inR_of (by omega) (by omega), ⟨by omega, by omega, by omega⟩, ?_⟩
 refine W_loop (fun n fr h => ∃ i : Nat, i ≤ l.length ∧ n = l.length - i ∧ fr = [(3, .lst (.own 5) (2 * i) (u8s (atomBytes (l.take i)))), (10, .lst .ro l.length (u16s l)), (11, .int .i64 l.length), (12, .int .i64 i)]) l.length ⟨0, by omega, by omega, rfl⟩ ?_
 rintro n fr h ⟨i, hi, rfl, rfl⟩
 simp only [J_word_Of_j2, J_word_Of_j1, wk,eq_self,Nat.reduceEqDiff,↓reduceIte]
 refine ⟨fun hlt => ?_, fun hge => ?_⟩
 ·have hil : i < l.length := by omega
  have hx := ha l[i] (List.getElem_mem hil)
  (repeat (refine And.intro (by first | omega | exact inR_of (by omega) (by omega) | exact ⟨by omega, by omega⟩ | exact ⟨by omega, by omega, by omega⟩ | rfl) ?_))
  rw [show (i : Int).toNat = i by omega, u16s_drop hil]
  simp only [wk,eq_self,Nat.reduceEqDiff,Nat.reduceAdd,Nat.reduceLeDiff,Int.reduceLE,Int.reduceToNat,↓reduceIte]
  have e1 : IntKind.u8.wrap ((l[i] : Int).fdiv (2 ^ (min 8 IntKind.u16.bits))) = ((UInt8.ofNat (l[i] / 256)).toNat : Int) := by
   rw [show (min 8 IntKind.u16.bits) = 8 by decide, Int.fdiv_eq_ediv_of_nonneg _ (by omega), IntKind.wrap_u8]
   simp only [UInt8.toNat_ofNat']; omega
  have e2 : IntKind.u8.wrap (l[i] : Int) = ((UInt8.ofNat (l[i] % 256)).toNat : Int) := by
   rw [IntKind.wrap_u8]; simp only [UInt8.toNat_ofNat']; omega
  refine ⟨⟨by omega, by omega⟩, inR_of (by omega) (by omega), l.length - (i + 1), by omega, i + 1, by omega, rfl, ?_⟩
  have e3 : atomBytes (l.take (i + 1)) = atomBytes (l.take i) ++ [UInt8.ofNat (l[i] / 256), UInt8.ofNat (l[i] % 256)] := by
   unfold atomBytes; rw [List.take_succ_eq_append_getElem hil, List.flatMap_append]; simp
  rw [e1, e2, e3, ← u8s_app]
  rfl
 ·obtain rfl : i = l.length := by omega
  rw [List.take_length]
  refine ⟨atomBytes l, rfl, ?_, rfl⟩
  have : ∀ l : List Nat, (atomBytes l).length = 2 * l.length := by
   intro l
   induction l with
   | nil => rfl
   | cons a l ih => simp only [atomBytes, List.flatMap_cons, List.length_append, List.length_cons, List.length_nil] at ih ⊢; omega
  rw [this]
end Go.Proofs.YtedaffmkpljlnaaGreat
