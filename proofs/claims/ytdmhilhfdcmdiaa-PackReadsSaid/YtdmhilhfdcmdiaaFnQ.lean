/- The functions' abstract code, written by a program (acode.py), and that it is theirs. -/
import Derived.Test.YtdmhilhfdcmdiaaProg
import Derived.Test.YtdmhilhfdcmdiaaAb13
namespace Go.Proofs.Ytdmhilhfdcmdiaa
open Go.RowKit

/- behind: Q -/
def J_law07_PackReads_j1 : ACode :=
  .keep [5, 6] (.seq (.ops [⟨some 80, none, .mv (.t 5)⟩,
      ⟨some 81, none, .call (.f 37) [(.t 80)]⟩,
      ⟨some 82, none, .mv (.t 6)⟩,
      ⟨some 83, none, .call (.f 38) [(.t 82)]⟩,
      ⟨some 84, none, .bin .eql (.t 81) (.t 83)⟩,
      ⟨some 85, none, .mv (.t 84)⟩,
      ⟨some 86, (some (85, true)), .mv (.t 5)⟩,
      ⟨some 87, (some (85, true)), .call (.f 35) [(.t 86)]⟩,
      ⟨some 88, (some (85, true)), .mv (.t 6)⟩,
      ⟨some 89, (some (85, true)), .call (.f 36) [(.t 88)]⟩,
      ⟨some 90, (some (85, true)), .bin .eql (.t 87) (.t 89)⟩,
      ⟨some 91, none, .pick (.t 85) (.t 90) (.c (.bool false))⟩,
      ⟨some 4, none, .mv (.t 91)⟩])
         (.ret))

/- behind: (kblock 1 (kseq P _ Q)) -/
def J_law07_PackReads_j2 : ACode :=
  .keep [1, 5, 6, 7] (.seq (.ops [⟨some 75, none, .mv (.t 5)⟩,
      ⟨some 76, none, .call (.f 35) [(.t 75)]⟩,
      ⟨some 77, none, .mv (.t 6)⟩,
      ⟨some 78, none, .call (.f 36) [(.t 77)]⟩,
      ⟨some 79, none, .bin .neq (.t 76) (.t 78)⟩])
                 (.keep [1, 5, 6, 7, 79] (.cond (.t 79)
                  (.seq (.ops [⟨some 4, none, .mv (.c (.bool false))⟩])
                   (.ret))
                  (.skip))))

/- behind: Q = kloop [1, 5, 6, 7] I n (kblock 0 (kseq P (J_law07_PackReads_j1) Q)) -/
def J_law07_PackReads_j3 : ACode :=
  .seq (.seq (.ops [⟨some 20, none, .mv (.t 7)⟩,
      ⟨some 21, none, .mv (.t 1)⟩,
      ⟨some 22, none, .lenl (.t 21)⟩,
      ⟨some 23, none, .bin .lss (.t 20) (.t 22)⟩,
      ⟨some 24, none, .mv (.t 23)⟩,
      ⟨some 25, (some (24, true)), .mv (.t 7)⟩,
      ⟨some 26, (some (24, true)), .bin .lss (.t 25) (.c (.int .i64 100))⟩,
      ⟨some 27, none, .pick (.t 24) (.t 26) (.c (.bool false))⟩])
             (.keep [1, 5, 6, 7, 27] (.cond (.t 27)
              (.skip)
              (.exit 0))))
            (.keep [1, 5, 6, 7] (.seq (.block 1 (.seq (.ops [⟨some 30, none, .mv (.t 1)⟩,
      ⟨some 31, none, .mv (.t 7)⟩,
      ⟨some 32, none, .idxa 5 (.t 30) (.t 31)⟩,
      ⟨some 33, none, .load (some 5) (.t 32)⟩,
      ⟨some 8, none, .new [(.int .i64 0), (.int .i64 0), (.str ⟨#[]⟩), (.str ⟨#[]⟩), (.lst .clip 0 [])] []⟩,
      ⟨none, none, .stores 5 (.t 8) (.t 33)⟩])
               (.keep [1, 5, 6, 7, 8] (.seq (.seq (.ops [⟨some 34, none, .fld 0 (.t 8)⟩,
      ⟨some 35, none, .load none (.t 34)⟩])
                 (.keep [1, 5, 6, 7, 8, 35] (.block 2 (.seq (.ops [⟨some 37, none, .bin .eql (.t 35) (.c (.int .i64 0))⟩,
      ⟨some 36, none, .mv (.t 37)⟩])
                   (.keep [1, 5, 6, 7, 8, 35, 36] (.cond (.t 36)
                    (.seq (.draw [1, 5, 6, 7, 46] [⟨some 38, none, .mv (.t 5)⟩,
      ⟨some 39, none, .fld 1 (.t 8)⟩,
      ⟨some 40, none, .lds none (.t 39)⟩,
      ⟨some 41, none, .calli (.f 26) [(.t 38), (.t 40)]⟩,
      ⟨some 42, none, .mv (.t 6)⟩,
      ⟨some 43, none, .fld 1 (.t 8)⟩,
      ⟨some 44, none, .lds none (.t 43)⟩,
      ⟨some 45, none, .calli (.f 27) [(.t 42), (.t 44)]⟩,
      ⟨some 46, none, .bin .neq (.t 41) (.t 45)⟩])
                     (.keep [1, 5, 6, 7, 46] (.cond (.t 46)
                      (.seq (.ops [⟨some 4, none, .mv (.c (.bool false))⟩])
                       (.ret))
                      (.skip))))
                    (.seq (.ops [⟨some 48, none, .bin .eql (.t 35) (.c (.int .i64 1))⟩,
      ⟨some 47, none, .mv (.t 48)⟩])
                     (.keep [1, 5, 6, 7, 8, 35, 47] (.cond (.t 47)
                      (.seq (.ops [⟨some 49, none, .fld 1 (.t 8)⟩,
      ⟨some 50, none, .load none (.t 49)⟩,
      ⟨some 51, none, .mx (.t 50) (.c (.int .i64 (-9)))⟩,
      ⟨some 52, none, .mn (.t 51) (.c (.int .i64 1099511627776))⟩,
      ⟨some 9, none, .mv (.t 52)⟩])
                       (.keep [1, 5, 6, 7, 9] (.seq (.ops [⟨some 53, none, .mv (.t 5)⟩,
      ⟨some 54, none, .mv (.t 9)⟩,
      ⟨some 55, none, .call (.f 28) [(.t 53), (.t 54)]⟩,
      ⟨some 56, none, .mv (.t 6)⟩,
      ⟨some 57, none, .mv (.t 9)⟩,
      ⟨some 58, none, .call (.f 29) [(.t 56), (.t 57)]⟩,
      ⟨some 59, none, .bin .neq (.t 55) (.t 58)⟩])
                        (.keep [1, 5, 6, 7, 59] (.cond (.t 59)
                         (.seq (.ops [⟨some 4, none, .mv (.c (.bool false))⟩])
                          (.ret))
                         (.skip))))))
                      (.seq (.ops [⟨some 61, none, .bin .eql (.t 35) (.c (.int .i64 2))⟩,
      ⟨some 60, none, .mv (.t 61)⟩])
                       (.keep [1, 5, 6, 7, 35, 60] (.cond (.t 60)
                        (.seq (.ops [⟨some 62, none, .mv (.t 5)⟩,
      ⟨some 63, none, .call (.f 30) [(.t 62)]⟩,
      ⟨some 64, none, .mv (.t 6)⟩,
      ⟨some 65, none, .call (.f 31) [(.t 64)]⟩,
      ⟨some 66, none, .bin .neq (.t 63) (.t 65)⟩])
                         (.keep [1, 5, 6, 7, 66] (.cond (.t 66)
                          (.seq (.ops [⟨some 4, none, .mv (.c (.bool false))⟩])
                           (.ret))
                          (.skip))))
                        (.seq (.ops [⟨some 68, none, .bin .eql (.t 35) (.c (.int .i64 3))⟩,
      ⟨some 67, none, .mv (.t 68)⟩])
                         (.keep [1, 5, 6, 7, 67] (.cond (.t 67)
                          (.seq (.ops [⟨some 69, none, .mv (.t 5)⟩,
      ⟨some 70, none, .call (.f 33) [(.t 69)]⟩,
      ⟨some 71, none, .mv (.t 6)⟩,
      ⟨some 72, none, .call (.f 34) [(.t 71)]⟩,
      ⟨some 73, none, .call (.f 32) [(.t 70), (.t 72)]⟩,
      ⟨some 74, none, .not (.t 73)⟩])
                           (.keep [1, 5, 6, 7, 74] (.cond (.t 74)
                            (.seq (.ops [⟨some 4, none, .mv (.c (.bool false))⟩])
                             (.ret))
                            (.skip))))
                          (.skip))))))))))))))))
                (J_law07_PackReads_j2)))))
             (.keep [1, 5, 6, 7] (.ops [⟨some 28, none, .mv (.t 7)⟩,
      ⟨some 29, none, .bin .add (.t 28) (.c (.int .i64 1))⟩,
      ⟨some 7, none, .mv (.t 29)⟩]))))

/-- attorney/attorneylaw07.PackReads -/
def J_law07_PackReads : AFn :=
  ⟨92, [.t 4], .seq (.ops [⟨some 4, none, .mv (.c (.bool false))⟩])
   (.keep [0, 1] (.seq (.seq (.ops [⟨some 10, none, .call (.f 13) []⟩,
      ⟨some 11, none, .not (.t 10)⟩])
     (.keep [0, 1, 11] (.cond (.t 11)
      (.seq (.ops [⟨some 4, none, .mv (.c (.bool false))⟩])
       (.ret))
      (.skip))))
    (.keep [0, 1] (.seq (.seq (.ops [⟨some 12, none, .mv (.t 0)⟩,
      ⟨some 13, none, .lens (.t 12)⟩,
      ⟨some 14, none, .bin .gtr (.t 13) (.c (.int .i64 4096))⟩])
      (.keep [0, 1, 14] (.cond (.t 14)
       (.seq (.ops [⟨some 4, none, .mv (.c (.bool true))⟩])
        (.ret))
       (.skip))))
     (.keep [0, 1] (.seq (.ops [⟨some 15, none, .mv (.t 0)⟩,
      ⟨some 16, none, .call (.f 25) [(.t 15)]⟩,
      ⟨some 5, none, .mv (.t 16)⟩])
      (.keep [0, 1, 5] (.seq (.ops [⟨some 17, none, .mv (.t 0)⟩,
      ⟨some 18, none, .build [(.str ⟨#[]⟩), (.int .i64 0), (.bool false)] [(0, 1, (.t 17))]⟩,
      ⟨some 19, none, .box (.t 18) []⟩,
      ⟨some 6, none, .mv (.t 19)⟩])
       (.keep [1, 5, 6] (.seq (.seq (.ops [⟨some 7, none, .mv (.c (.int .i64 0))⟩])
         (.keep [1, 5, 6, 7] (.block 0 (.loop [1, 5, 6, 7] (J_law07_PackReads_j3)))))
        (J_law07_PackReads_j1)))))))))))⟩
theorem J_law07_PackReads_ok : chkFn Try.prog 4 J_law07_PackReads = true := by kernel_rfl

/- behind: Q -/
def J_law07_PackBack_j1 : ACode :=
  .keep [8] (.seq (.ops [⟨some 118, none, .mv (.t 8)⟩,
      ⟨some 119, none, .call (.f 35) [(.t 118)]⟩,
      ⟨some 120, none, .bin .eql (.t 119) (.c (.int .i64 0))⟩,
      ⟨some 121, none, .mv (.t 120)⟩,
      ⟨some 122, (some (121, true)), .mv (.t 8)⟩,
      ⟨some 123, (some (121, true)), .call (.f 37) [(.t 122)]⟩,
      ⟨some 124, (some (121, true)), .bin .eql (.t 123) (.c (.int .i64 0))⟩,
      ⟨some 125, none, .pick (.t 121) (.t 124) (.c (.bool false))⟩,
      ⟨some 2, none, .mv (.t 125)⟩])
            (.ret))

/- behind: Q -/
def J_law07_PackBack_j2 : ACode :=
  .keep [0, 8, 9] (.ops [⟨some 76, none, .mv (.t 9)⟩,
      ⟨some 77, none, .bin .add (.t 76) (.c (.int .i64 1))⟩,
      ⟨some 9, none, .mv (.t 77)⟩])

/- behind: Q = kloop [0, 8, 9] I n (kblock 3 (kseq P (J_law07_PackBack_j1) Q)) -/
def J_law07_PackBack_j3 : ACode :=
  .seq (.seq (.ops [⟨some 68, none, .mv (.t 9)⟩,
      ⟨some 69, none, .mv (.t 0)⟩,
      ⟨some 70, none, .lenl (.t 69)⟩,
      ⟨some 71, none, .bin .lss (.t 68) (.t 70)⟩,
      ⟨some 72, none, .mv (.t 71)⟩,
      ⟨some 73, (some (72, true)), .mv (.t 9)⟩,
      ⟨some 74, (some (72, true)), .bin .lss (.t 73) (.c (.int .i64 100))⟩,
      ⟨some 75, none, .pick (.t 72) (.t 74) (.c (.bool false))⟩])
                (.keep [0, 8, 9, 75] (.cond (.t 75)
                 (.skip)
                 (.exit 3))))
               (.keep [0, 8, 9] (.seq (.block 4 (.seq (.ops [⟨some 78, none, .mv (.t 0)⟩,
      ⟨some 79, none, .mv (.t 9)⟩,
      ⟨some 80, none, .idxa 5 (.t 78) (.t 79)⟩,
      ⟨some 81, none, .load (some 5) (.t 80)⟩,
      ⟨some 10, none, .new [(.int .i64 0), (.int .i64 0), (.str ⟨#[]⟩), (.str ⟨#[]⟩), (.lst .clip 0 [])] []⟩,
      ⟨none, none, .stores 5 (.t 10) (.t 81)⟩])
                  (.keep [0, 8, 9, 10] (.seq (.ops [⟨some 82, none, .fld 0 (.t 10)⟩,
      ⟨some 83, none, .load none (.t 82)⟩])
                   (.keep [0, 8, 9, 10, 83] (.block 5 (.seq (.ops [⟨some 85, none, .bin .eql (.t 83) (.c (.int .i64 0))⟩,
      ⟨some 84, none, .mv (.t 85)⟩])
                     (.keep [0, 8, 9, 10, 83, 84] (.cond (.t 84)
                      (.seq (.draw [0, 8, 9, 92] [⟨some 86, none, .mv (.t 8)⟩,
      ⟨some 87, none, .fld 1 (.t 10)⟩,
      ⟨some 88, none, .lds none (.t 87)⟩,
      ⟨some 89, none, .calli (.f 26) [(.t 86), (.t 88)]⟩,
      ⟨some 90, none, .fld 1 (.t 10)⟩,
      ⟨some 91, none, .lds none (.t 90)⟩,
      ⟨some 92, none, .bin .neq (.t 89) (.t 91)⟩])
                       (.keep [0, 8, 9, 92] (.cond (.t 92)
                        (.seq (.ops [⟨some 2, none, .mv (.c (.bool false))⟩])
                         (.ret))
                        (.skip))))
                      (.seq (.ops [⟨some 94, none, .bin .eql (.t 83) (.c (.int .i64 1))⟩,
      ⟨some 93, none, .mv (.t 94)⟩])
                       (.keep [0, 8, 9, 10, 83, 93] (.cond (.t 93)
                        (.seq (.draw [0, 8, 9, 102] [⟨some 95, none, .mv (.t 8)⟩,
      ⟨some 96, none, .fld 2 (.t 10)⟩,
      ⟨some 97, none, .lds none (.t 96)⟩,
      ⟨some 98, none, .lens (.t 97)⟩,
      ⟨some 99, none, .calli (.f 28) [(.t 95), (.t 98)]⟩,
      ⟨some 100, none, .fld 2 (.t 10)⟩,
      ⟨some 101, none, .lds none (.t 100)⟩,
      ⟨some 102, none, .bin .neq (.t 99) (.t 101)⟩])
                         (.keep [0, 8, 9, 102] (.cond (.t 102)
                          (.seq (.ops [⟨some 2, none, .mv (.c (.bool false))⟩])
                           (.ret))
                          (.skip))))
                        (.seq (.ops [⟨some 104, none, .bin .eql (.t 83) (.c (.int .i64 2))⟩,
      ⟨some 103, none, .mv (.t 104)⟩])
                         (.keep [0, 8, 9, 10, 83, 103] (.cond (.t 103)
                          (.seq (.draw [0, 8, 9, 109] [⟨some 105, none, .mv (.t 8)⟩,
      ⟨some 106, none, .calli (.f 30) [(.t 105)]⟩,
      ⟨some 107, none, .fld 3 (.t 10)⟩,
      ⟨some 108, none, .lds none (.t 107)⟩,
      ⟨some 109, none, .bin .neq (.t 106) (.t 108)⟩])
                           (.keep [0, 8, 9, 109] (.cond (.t 109)
                            (.seq (.ops [⟨some 2, none, .mv (.c (.bool false))⟩])
                             (.ret))
                            (.skip))))
                          (.seq (.ops [⟨some 111, none, .bin .eql (.t 83) (.c (.int .i64 3))⟩,
      ⟨some 110, none, .mv (.t 111)⟩])
                           (.keep [0, 8, 9, 10, 110] (.cond (.t 110)
                            (.seq (.draw [0, 8, 9, 117] [⟨some 112, none, .mv (.t 8)⟩,
      ⟨some 113, none, .calli (.f 33) [(.t 112)]⟩,
      ⟨some 114, none, .fld 4 (.t 10)⟩,
      ⟨some 115, none, .lds none (.t 114)⟩,
      ⟨some 116, none, .call (.f 32) [(.t 113), (.t 115)]⟩,
      ⟨some 117, none, .not (.t 116)⟩])
                             (.keep [0, 8, 9, 117] (.cond (.t 117)
                              (.seq (.ops [⟨some 2, none, .mv (.c (.bool false))⟩])
                               (.ret))
                              (.skip))))
                            (.skip)))))))))))))))))))
                (J_law07_PackBack_j2)))

/- behind: Q -/
def J_law07_PackBack_j4 : ACode :=
  .keep [0, 3] (.seq (.ops [⟨some 58, none, .mv (.t 3)⟩,
      ⟨some 59, none, .call (.f 23) [(.t 58)]⟩,
      ⟨some 57, none, .mv (.t 59)⟩,
      ⟨some 60, none, .ext 0 (.t 57)⟩,
      ⟨some 61, none, .ext 1 (.t 57)⟩,
      ⟨some 6, none, .mv (.t 60)⟩,
      ⟨some 7, none, .mv (.t 61)⟩])
        (.keep [0, 6, 7] (.seq (.seq (.ops [⟨some 62, none, .mv (.t 7)⟩,
      ⟨some 63, none, .bin .neq (.t 62) (.c (.int .i64 0))⟩])
          (.keep [0, 6, 63] (.cond (.t 63)
           (.seq (.ops [⟨some 64, none, .mv (.t 6)⟩,
      ⟨some 65, none, .bin .eql (.t 64) (.c (.str ⟨#[]⟩))⟩,
      ⟨some 2, none, .mv (.t 65)⟩])
            (.ret))
           (.skip))))
         (.keep [0, 6] (.seq (.ops [⟨some 66, none, .mv (.t 6)⟩,
      ⟨some 67, none, .call (.f 25) [(.t 66)]⟩,
      ⟨some 8, none, .mv (.t 67)⟩])
          (.keep [0, 8] (.seq (.seq (.ops [⟨some 9, none, .mv (.c (.int .i64 0))⟩])
            (.keep [0, 8, 9] (.block 3 (.loop [0, 8, 9] (J_law07_PackBack_j3)))))
           (J_law07_PackBack_j1))))))))

/- behind: Q -/
def J_law07_PackBack_j5 : ACode :=
  .keep [0, 3, 4] (.ops [⟨some 25, none, .mv (.t 4)⟩,
      ⟨some 26, none, .bin .add (.t 25) (.c (.int .i64 1))⟩,
      ⟨some 4, none, .mv (.t 26)⟩])

/- behind: Q = kloop [0, 3, 4] I n (kblock 0 (kseq P (J_law07_PackBack_j4) Q)) -/
def J_law07_PackBack_j6 : ACode :=
  .seq (.seq (.ops [⟨some 17, none, .mv (.t 4)⟩,
      ⟨some 18, none, .mv (.t 0)⟩,
      ⟨some 19, none, .lenl (.t 18)⟩,
      ⟨some 20, none, .bin .lss (.t 17) (.t 19)⟩,
      ⟨some 21, none, .mv (.t 20)⟩,
      ⟨some 22, (some (21, true)), .mv (.t 4)⟩,
      ⟨some 23, (some (21, true)), .bin .lss (.t 22) (.c (.int .i64 100))⟩,
      ⟨some 24, none, .pick (.t 21) (.t 23) (.c (.bool false))⟩])
            (.keep [0, 3, 4, 24] (.cond (.t 24)
             (.skip)
             (.exit 0))))
           (.keep [0, 3, 4] (.seq (.block 1 (.seq (.ops [⟨some 27, none, .mv (.t 0)⟩,
      ⟨some 28, none, .mv (.t 4)⟩,
      ⟨some 29, none, .idxa 5 (.t 27) (.t 28)⟩,
      ⟨some 30, none, .load (some 5) (.t 29)⟩,
      ⟨some 5, none, .new [(.int .i64 0), (.int .i64 0), (.str ⟨#[]⟩), (.str ⟨#[]⟩), (.lst .clip 0 [])] []⟩,
      ⟨none, none, .stores 5 (.t 5) (.t 30)⟩])
              (.keep [0, 3, 4, 5] (.seq (.ops [⟨some 31, none, .fld 0 (.t 5)⟩,
      ⟨some 32, none, .load none (.t 31)⟩])
               (.keep [0, 3, 4, 5, 32] (.block 2 (.seq (.ops [⟨some 34, none, .bin .eql (.t 32) (.c (.int .i64 0))⟩,
      ⟨some 33, none, .mv (.t 34)⟩])
                 (.keep [0, 3, 4, 5, 32, 33] (.cond (.t 33)
                  (.ops [⟨some 35, none, .mv (.t 3)⟩,
      ⟨some 36, none, .fld 1 (.t 5)⟩,
      ⟨some 37, none, .load none (.t 36)⟩,
      ⟨some 38, none, .call (.f 15) [(.t 35), (.t 37)]⟩])
                  (.seq (.ops [⟨some 40, none, .bin .eql (.t 32) (.c (.int .i64 1))⟩,
      ⟨some 39, none, .mv (.t 40)⟩])
                   (.keep [0, 3, 4, 5, 32, 39] (.cond (.t 39)
                    (.ops [⟨some 41, none, .mv (.t 3)⟩,
      ⟨some 42, none, .fld 2 (.t 5)⟩,
      ⟨some 43, none, .load none (.t 42)⟩,
      ⟨some 44, none, .call (.f 17) [(.t 41), (.t 43)]⟩])
                    (.seq (.ops [⟨some 46, none, .bin .eql (.t 32) (.c (.int .i64 2))⟩,
      ⟨some 45, none, .mv (.t 46)⟩])
                     (.keep [0, 3, 4, 5, 32, 45] (.cond (.t 45)
                      (.ops [⟨some 47, none, .mv (.t 3)⟩,
      ⟨some 48, none, .fld 3 (.t 5)⟩,
      ⟨some 49, none, .load none (.t 48)⟩,
      ⟨some 50, none, .call (.f 19) [(.t 47), (.t 49)]⟩])
                      (.seq (.ops [⟨some 52, none, .bin .eql (.t 32) (.c (.int .i64 3))⟩,
      ⟨some 51, none, .mv (.t 52)⟩])
                       (.keep [0, 3, 4, 5, 51] (.cond (.t 51)
                        (.ops [⟨some 53, none, .mv (.t 3)⟩,
      ⟨some 54, none, .fld 4 (.t 5)⟩,
      ⟨some 55, none, .load none (.t 54)⟩,
      ⟨some 56, none, .call (.f 21) [(.t 53), (.t 55)]⟩])
                        (.skip)))))))))))))))))))
            (J_law07_PackBack_j5)))

/-- attorney/attorneylaw07.PackBack -/
def J_law07_PackBack : AFn :=
  ⟨126, [.t 2], .seq (.ops [⟨some 2, none, .mv (.c (.bool false))⟩])
   (.keep [0] (.seq (.seq (.ops [⟨some 11, none, .call (.f 13) []⟩,
      ⟨some 12, none, .not (.t 11)⟩])
     (.keep [0, 12] (.cond (.t 12)
      (.seq (.ops [⟨some 2, none, .mv (.c (.bool false))⟩])
       (.ret))
      (.skip))))
    (.keep [0] (.seq (.seq (.ops [⟨some 13, none, .mv (.t 0)⟩,
      ⟨some 14, none, .call (.f 14) [(.t 13)]⟩])
      (.keep [0, 14] (.cond (.t 14)
       (.seq (.ops [⟨some 2, none, .mv (.c (.bool true))⟩])
        (.ret))
       (.skip))))
     (.keep [0] (.seq (.ops [⟨some 15, none, .build [(.int .i64 0), (.lst .clip 0 [])] []⟩,
      ⟨some 16, none, .box (.t 15) [(1, 5, 1)]⟩,
      ⟨some 3, none, .mv (.t 16)⟩])
      (.keep [0, 3] (.seq (.seq (.ops [⟨some 4, none, .mv (.c (.int .i64 0))⟩])
        (.keep [0, 3, 4] (.block 0 (.loop [0, 3, 4] (J_law07_PackBack_j6)))))
       (J_law07_PackBack_j4)))))))))⟩
theorem J_law07_PackBack_ok : chkFn Try.prog 5 J_law07_PackBack = true := by kernel_rfl

/- behind: Q -/
def J_law07_PackOne_j1 : ACode :=
  .keep [] (.seq (.ops [⟨some 4, none, .mv (.c (.bool true))⟩])
         (.ret))

/- behind: (kblock 1 (kseq P _ Q)) -/
def J_law07_PackOne_j2 : ACode :=
  .keep [0, 1, 5, 6, 7] (.seq (.ops [⟨some 83, none, .mv (.t 6)⟩,
      ⟨some 84, none, .call (.f 23) [(.t 83)]⟩,
      ⟨some 82, none, .mv (.t 84)⟩,
      ⟨some 85, none, .ext 0 (.t 82)⟩,
      ⟨some 86, none, .ext 1 (.t 82)⟩,
      ⟨some 13, none, .mv (.t 85)⟩,
      ⟨some 14, none, .mv (.t 86)⟩])
                 (.keep [0, 1, 5, 6, 7, 13, 14] (.seq (.seq (.ops [⟨some 87, none, .mv (.t 5)⟩,
      ⟨some 88, none, .call (.f 35) [(.t 87)]⟩,
      ⟨some 89, none, .bin .eql (.t 88) (.c (.int .i64 0))⟩])
                   (.keep [0, 1, 5, 6, 7, 13, 14, 89] (.cond (.t 89)
                    (.seq (.ops [⟨some 90, none, .mv (.t 14)⟩,
      ⟨some 91, none, .bin .neq (.t 90) (.c (.int .i64 0))⟩,
      ⟨some 92, none, .mv (.t 91)⟩,
      ⟨some 93, (some (92, false)), .mv (.t 5)⟩,
      ⟨some 94, (some (92, false)), .call (.f 37) [(.t 93)]⟩,
      ⟨some 95, (some (92, false)), .bin .neq (.t 94) (.c (.int .i64 0))⟩,
      ⟨some 96, none, .pick (.t 92) (.c (.bool true)) (.t 95)⟩,
      ⟨some 97, none, .mv (.t 96)⟩,
      ⟨some 98, (some (97, false)), .mv (.t 13)⟩,
      ⟨some 99, (some (97, false)), .mv (.t 0)⟩,
      ⟨some 100, (some (97, false)), .bin .eql (.t 98) (.t 99)⟩,
      ⟨some 101, none, .pick (.t 97) (.c (.bool true)) (.t 100)⟩,
      ⟨some 4, none, .mv (.t 101)⟩])
                     (.ret))
                    (.skip))))
                  (.keep [0, 1, 5, 6, 7, 13, 14] (.seq (.ops [⟨some 102, none, .mv (.t 14)⟩,
      ⟨some 103, none, .bin .neq (.t 102) (.c (.int .i64 0))⟩,
      ⟨some 104, none, .mv (.t 103)⟩,
      ⟨some 105, (some (104, false)), .mv (.t 13)⟩,
      ⟨some 106, (some (104, false)), .mv (.t 0)⟩,
      ⟨some 107, (some (104, false)), .mv (.t 0)⟩,
      ⟨some 108, (some (104, false)), .lens (.t 107)⟩,
      ⟨some 109, (some (104, false)), .mv (.t 5)⟩,
      ⟨some 110, (some (104, false)), .call (.f 35) [(.t 109)]⟩,
      ⟨some 111, (some (104, false)), .bin .sub (.t 108) (.t 110)⟩,
      ⟨some 112, (some (104, false)), .slcs (.t 106) none (some (.t 111))⟩,
      ⟨some 113, (some (104, false)), .bin .neq (.t 105) (.t 112)⟩,
      ⟨some 114, none, .pick (.t 104) (.c (.bool true)) (.t 113)⟩])
                   (.keep [0, 1, 5, 6, 7, 114] (.cond (.t 114)
                    (.seq (.ops [⟨some 4, none, .mv (.c (.bool false))⟩])
                     (.ret))
                    (.skip))))))))

/- behind: Q = kloop [0, 1, 5, 6, 7] I n (kblock 0 (kseq P (J_law07_PackOne_j1) Q)) -/
def J_law07_PackOne_j3 : ACode :=
  .seq (.seq (.ops [⟨some 24, none, .mv (.t 7)⟩,
      ⟨some 25, none, .mv (.t 1)⟩,
      ⟨some 26, none, .lenl (.t 25)⟩,
      ⟨some 27, none, .bin .lss (.t 24) (.t 26)⟩,
      ⟨some 28, none, .mv (.t 27)⟩,
      ⟨some 29, (some (28, true)), .mv (.t 7)⟩,
      ⟨some 30, (some (28, true)), .bin .lss (.t 29) (.c (.int .i64 100))⟩,
      ⟨some 31, none, .pick (.t 28) (.t 30) (.c (.bool false))⟩])
             (.keep [0, 1, 5, 6, 7, 31] (.cond (.t 31)
              (.skip)
              (.exit 0))))
            (.keep [0, 1, 5, 6, 7] (.seq (.block 1 (.seq (.ops [⟨some 34, none, .mv (.t 5)⟩,
      ⟨some 35, none, .call (.f 35) [(.t 34)]⟩,
      ⟨some 8, none, .mv (.t 35)⟩])
               (.keep [0, 1, 5, 6, 7, 8] (.seq (.seq (.ops [⟨some 36, none, .mv (.t 1)⟩,
      ⟨some 37, none, .mv (.t 7)⟩,
      ⟨some 38, none, .idxa 1 (.t 36) (.t 37)⟩,
      ⟨some 39, none, .load none (.t 38)⟩,
      ⟨some 40, none, .bin .rem (.t 39) (.c (.int .u8 4))⟩])
                 (.keep [0, 1, 5, 6, 7, 8, 40] (.block 2 (.seq (.ops [⟨some 42, none, .bin .eql (.t 40) (.c (.int .u8 0))⟩,
      ⟨some 41, none, .mv (.t 42)⟩])
                   (.keep [0, 1, 5, 6, 7, 8, 40, 41] (.cond (.t 41)
                    (.seq (.ops [⟨some 43, none, .mv (.t 5)⟩,
      ⟨some 44, none, .call (.f 26) [(.t 43), (.c (.int .i64 4611686018427387904))]⟩,
      ⟨some 9, none, .mv (.t 44)⟩])
                     (.keep [0, 1, 5, 6, 7, 8, 9] (.seq (.ops [⟨some 45, none, .mv (.t 5)⟩,
      ⟨some 46, none, .call (.f 35) [(.t 45)]⟩,
      ⟨some 47, none, .mv (.t 8)⟩,
      ⟨some 48, none, .bin .lss (.t 46) (.t 47)⟩])
                      (.keep [0, 1, 5, 6, 7, 9, 48] (.cond (.t 48)
                       (.ops [⟨some 49, none, .mv (.t 6)⟩,
      ⟨some 50, none, .mv (.t 9)⟩,
      ⟨some 51, none, .call (.f 15) [(.t 49), (.t 50)]⟩])
                       (.skip))))))
                    (.seq (.ops [⟨some 53, none, .bin .eql (.t 40) (.c (.int .u8 1))⟩,
      ⟨some 52, none, .mv (.t 53)⟩])
                     (.keep [0, 1, 5, 6, 7, 8, 40, 52] (.cond (.t 52)
                      (.seq (.ops [⟨some 54, none, .mv (.t 5)⟩,
      ⟨some 55, none, .call (.f 28) [(.t 54), (.c (.int .i64 1048576))]⟩,
      ⟨some 10, none, .mv (.t 55)⟩])
                       (.keep [0, 1, 5, 6, 7, 8, 10] (.seq (.ops [⟨some 56, none, .mv (.t 5)⟩,
      ⟨some 57, none, .call (.f 35) [(.t 56)]⟩,
      ⟨some 58, none, .mv (.t 8)⟩,
      ⟨some 59, none, .bin .lss (.t 57) (.t 58)⟩])
                        (.keep [0, 1, 5, 6, 7, 10, 59] (.cond (.t 59)
                         (.ops [⟨some 60, none, .mv (.t 6)⟩,
      ⟨some 61, none, .mv (.t 10)⟩,
      ⟨some 62, none, .call (.f 17) [(.t 60), (.t 61)]⟩])
                         (.skip))))))
                      (.seq (.ops [⟨some 64, none, .bin .eql (.t 40) (.c (.int .u8 2))⟩,
      ⟨some 63, none, .mv (.t 64)⟩])
                       (.keep [0, 1, 5, 6, 7, 40, 63] (.cond (.t 63)
                        (.seq (.ops [⟨some 65, none, .mv (.t 5)⟩,
      ⟨some 66, none, .call (.f 30) [(.t 65)]⟩,
      ⟨some 11, none, .mv (.t 66)⟩])
                         (.keep [0, 1, 5, 6, 7, 11] (.seq (.ops [⟨some 67, none, .mv (.t 11)⟩,
      ⟨some 68, none, .bin .neq (.t 67) (.c (.str ⟨#[]⟩))⟩])
                          (.keep [0, 1, 5, 6, 7, 11, 68] (.cond (.t 68)
                           (.ops [⟨some 69, none, .mv (.t 6)⟩,
      ⟨some 70, none, .mv (.t 11)⟩,
      ⟨some 71, none, .call (.f 19) [(.t 69), (.t 70)]⟩])
                           (.skip))))))
                        (.seq (.ops [⟨some 73, none, .bin .eql (.t 40) (.c (.int .u8 3))⟩,
      ⟨some 72, none, .mv (.t 73)⟩])
                         (.keep [0, 1, 5, 6, 7, 72] (.cond (.t 72)
                          (.seq (.ops [⟨some 74, none, .mv (.t 5)⟩,
      ⟨some 75, none, .call (.f 33) [(.t 74)]⟩,
      ⟨some 12, none, .mv (.t 75)⟩])
                           (.keep [0, 1, 5, 6, 7, 12] (.seq (.ops [⟨some 76, none, .mv (.t 12)⟩,
      ⟨some 77, none, .lenl (.t 76)⟩,
      ⟨some 78, none, .bin .gtr (.t 77) (.c (.int .i64 0))⟩])
                            (.keep [0, 1, 5, 6, 7, 12, 78] (.cond (.t 78)
                             (.ops [⟨some 79, none, .mv (.t 6)⟩,
      ⟨some 80, none, .mv (.t 12)⟩,
      ⟨some 81, none, .call (.f 21) [(.t 79), (.t 80)]⟩])
                             (.skip))))))
                          (.skip))))))))))))))))
                (J_law07_PackOne_j2)))))
             (.keep [0, 1, 5, 6, 7] (.ops [⟨some 32, none, .mv (.t 7)⟩,
      ⟨some 33, none, .bin .add (.t 32) (.c (.int .i64 1))⟩,
      ⟨some 7, none, .mv (.t 33)⟩]))))

/-- attorney/attorneylaw07.PackOne -/
def J_law07_PackOne : AFn :=
  ⟨115, [.t 4], .seq (.ops [⟨some 4, none, .mv (.c (.bool false))⟩])
   (.keep [0, 1] (.seq (.seq (.ops [⟨some 15, none, .call (.f 13) []⟩,
      ⟨some 16, none, .not (.t 15)⟩])
     (.keep [0, 1, 16] (.cond (.t 16)
      (.seq (.ops [⟨some 4, none, .mv (.c (.bool false))⟩])
       (.ret))
      (.skip))))
    (.keep [0, 1] (.seq (.seq (.ops [⟨some 17, none, .mv (.t 0)⟩,
      ⟨some 18, none, .lens (.t 17)⟩,
      ⟨some 19, none, .bin .gtr (.t 18) (.c (.int .i64 4096))⟩])
      (.keep [0, 1, 19] (.cond (.t 19)
       (.seq (.ops [⟨some 4, none, .mv (.c (.bool true))⟩])
        (.ret))
       (.skip))))
     (.keep [0, 1] (.seq (.ops [⟨some 20, none, .mv (.t 0)⟩,
      ⟨some 21, none, .call (.f 25) [(.t 20)]⟩,
      ⟨some 5, none, .mv (.t 21)⟩])
      (.keep [0, 1, 5] (.seq (.ops [⟨some 22, none, .build [(.int .i64 0), (.lst .clip 0 [])] []⟩,
      ⟨some 23, none, .box (.t 22) [(1, 5, 1)]⟩,
      ⟨some 6, none, .mv (.t 23)⟩])
       (.keep [0, 1, 5, 6] (.seq (.seq (.ops [⟨some 7, none, .mv (.c (.int .i64 0))⟩])
         (.keep [0, 1, 5, 6, 7] (.block 0 (.loop [0, 1, 5, 6, 7] (J_law07_PackOne_j3)))))
        (J_law07_PackOne_j1)))))))))))⟩
theorem J_law07_PackOne_ok : chkFn Try.prog 6 J_law07_PackOne = true := by kernel_rfl

/- behind: Q -/
def J_ref07_In_Num_j1 : ACode :=
  .keep [0] (.seq (.ops [⟨some 68, none, .mv (.t 0)⟩,
      ⟨some 69, none, .nilck (.t 68)⟩,
      ⟨some 70, none, .fld 2 (.t 69)⟩,
      ⟨none, none, .store 1 (.t 70) (.c (.bool true))⟩])
        (.keep [] (.seq (.ops [⟨some 4, none, .mv (.c (.int .i64 0))⟩])
         (.ret))))

/- behind: Q = kloop [0, 1, 5, 6, 7] I n (kblock 0 (kseq P (J_ref07_In_Num_j1) Q)) -/
def J_ref07_In_Num_j2 : ACode :=
  .seq (.seq (.ops [⟨some 13, none, .mv (.t 7)⟩,
      ⟨some 14, none, .bin .lss (.t 13) (.c (.int .i64 9))⟩])
            (.keep [0, 1, 5, 6, 7, 14] (.cond (.t 14)
             (.skip)
             (.exit 0))))
           (.keep [0, 1, 5, 6, 7] (.seq (.block 1 (.seq (.seq (.draw [0, 1, 5, 6, 7, 26] [⟨some 17, none, .mv (.t 0)⟩,
      ⟨some 18, none, .nilck (.t 17)⟩,
      ⟨some 19, none, .fld 1 (.t 18)⟩,
      ⟨some 20, none, .load none (.t 19)⟩,
      ⟨some 21, none, .mv (.t 0)⟩,
      ⟨some 22, none, .nilck (.t 21)⟩,
      ⟨some 23, none, .fld 0 (.t 22)⟩,
      ⟨some 24, none, .load none (.t 23)⟩,
      ⟨some 25, none, .lens (.t 24)⟩,
      ⟨some 26, none, .bin .geq (.t 20) (.t 25)⟩])
               (.keep [0, 1, 5, 6, 7, 26] (.cond (.t 26)
                (.exit 0)
                (.skip))))
              (.keep [0, 1, 5, 6, 7] (.seq (.draw [0, 1, 5, 6, 7, 8] [⟨some 27, none, .mv (.t 0)⟩,
      ⟨some 28, none, .nilck (.t 27)⟩,
      ⟨some 29, none, .fld 0 (.t 28)⟩,
      ⟨some 30, none, .load none (.t 29)⟩,
      ⟨some 31, none, .mv (.t 0)⟩,
      ⟨some 32, none, .nilck (.t 31)⟩,
      ⟨some 33, none, .fld 1 (.t 32)⟩,
      ⟨some 34, none, .load none (.t 33)⟩,
      ⟨some 35, none, .idxs (.t 30) (.t 34)⟩,
      ⟨some 36, none, .conv .i64 (.t 35)⟩,
      ⟨some 8, none, .mv (.t 36)⟩])
               (.keep [0, 1, 5, 6, 7, 8] (.seq (.ops [⟨some 37, none, .mv (.t 0)⟩,
      ⟨some 38, none, .nilck (.t 37)⟩,
      ⟨some 39, none, .fld 1 (.t 38)⟩,
      ⟨some 40, none, .load none (.t 39)⟩,
      ⟨some 41, none, .bin .add (.t 40) (.c (.int .i64 1))⟩,
      ⟨some 42, none, .nilck (.t 37)⟩,
      ⟨some 43, none, .fld 1 (.t 42)⟩,
      ⟨none, none, .store 1 (.t 43) (.t 41)⟩])
                (.keep [0, 1, 5, 6, 7, 8] (.seq (.seq (.ops [⟨some 44, none, .mv (.t 7)⟩,
      ⟨some 45, none, .bin .gtr (.t 44) (.c (.int .i64 0))⟩,
      ⟨some 46, none, .mv (.t 45)⟩,
      ⟨some 47, (some (46, true)), .mv (.t 8)⟩,
      ⟨some 48, (some (46, true)), .bin .eql (.t 47) (.c (.int .i64 0))⟩,
      ⟨some 49, none, .pick (.t 46) (.t 48) (.c (.bool false))⟩])
                  (.keep [0, 1, 5, 6, 7, 8, 49] (.cond (.t 49)
                   (.exit 0)
                   (.skip))))
                 (.keep [0, 1, 5, 6, 7, 8] (.seq (.ops [⟨some 50, none, .mv (.t 5)⟩,
      ⟨some 51, none, .mv (.t 8)⟩,
      ⟨some 52, none, .bin .rem (.t 51) (.c (.int .i64 128))⟩,
      ⟨some 53, none, .mv (.t 6)⟩,
      ⟨some 54, none, .ex (.binw .mul) [(.t 52), (.t 53)]⟩,
      ⟨some 55, none, .bin .add (.t 50) (.t 54)⟩,
      ⟨some 5, none, .mv (.t 55)⟩])
                  (.keep [0, 1, 5, 6, 7, 8] (.seq (.seq (.ops [⟨some 56, none, .mv (.t 8)⟩,
      ⟨some 57, none, .bin .lss (.t 56) (.c (.int .i64 128))⟩])
                    (.keep [0, 1, 5, 6, 7, 57] (.cond (.t 57)
                     (.seq (.seq (.ops [⟨some 58, none, .mv (.t 5)⟩,
      ⟨some 59, none, .mv (.t 1)⟩,
      ⟨some 60, none, .bin .gtr (.t 58) (.t 59)⟩,
      ⟨some 61, none, .mv (.t 60)⟩,
      ⟨some 62, (some (61, false)), .mv (.t 5)⟩,
      ⟨some 63, (some (61, false)), .bin .gtr (.t 62) (.c (.int .i64 4611686018427387904))⟩,
      ⟨some 64, none, .pick (.t 61) (.c (.bool true)) (.t 63)⟩])
                       (.keep [0, 5, 64] (.cond (.t 64)
                        (.exit 0)
                        (.skip))))
                      (.keep [5] (.seq (.ops [⟨some 65, none, .mv (.t 5)⟩,
      ⟨some 4, none, .mv (.t 65)⟩])
                       (.ret))))
                     (.skip))))
                   (.keep [0, 1, 5, 6, 7] (.ops [⟨some 66, none, .mv (.t 6)⟩,
      ⟨some 67, none, .ex (.binw .mul) [(.t 66), (.c (.int .i64 128))]⟩,
      ⟨some 6, none, .mv (.t 67)⟩]))))))))))))))
            (.keep [0, 1, 5, 6, 7] (.ops [⟨some 15, none, .mv (.t 7)⟩,
      ⟨some 16, none, .bin .add (.t 15) (.c (.int .i64 1))⟩,
      ⟨some 7, none, .mv (.t 16)⟩]))))

/-- (*attorney/attorneyref07.In).Num -/
def J_ref07_In_Num : AFn :=
  ⟨71, [.t 4], .seq (.ops [⟨some 4, none, .mv (.c (.int .i64 0))⟩])
   (.keep [0, 1] (.seq (.seq (.ops [⟨some 9, none, .mv (.t 0)⟩,
      ⟨some 10, none, .nilck (.t 9)⟩,
      ⟨some 11, none, .fld 2 (.t 10)⟩,
      ⟨some 12, none, .load none (.t 11)⟩])
     (.keep [0, 1, 12] (.cond (.t 12)
      (.seq (.ops [⟨some 4, none, .mv (.c (.int .i64 0))⟩])
       (.ret))
      (.skip))))
    (.keep [0, 1] (.seq (.ops [⟨some 5, none, .mv (.c (.int .i64 0))⟩])
     (.keep [0, 1, 5] (.seq (.ops [⟨some 6, none, .mv (.c (.int .i64 1))⟩])
      (.keep [0, 1, 5, 6] (.seq (.seq (.ops [⟨some 7, none, .mv (.c (.int .i64 0))⟩])
        (.keep [0, 1, 5, 6, 7] (.block 0 (.loop [0, 1, 5, 6, 7] (J_ref07_In_Num_j2)))))
       (J_ref07_In_Num_j1)))))))))⟩
theorem J_ref07_In_Num_ok : chkFn Try.prog 27 J_ref07_In_Num = true := by kernel_rfl

/-- (*attorney/attorneyref07.In).Text -/
def J_ref07_In_Text : AFn :=
  ⟨55, [.t 4], .seq (.ops [⟨some 4, none, .mv (.c (.str ⟨#[]⟩))⟩])
   (.keep [0, 1] (.seq (.ops [⟨some 7, none, .mv (.t 0)⟩,
      ⟨some 8, none, .mv (.t 1)⟩,
      ⟨some 9, none, .call (.f 27) [(.t 7), (.t 8)]⟩,
      ⟨some 5, none, .mv (.t 9)⟩])
    (.keep [0, 5] (.seq (.seq (.draw [0, 5, 27] [⟨some 10, none, .mv (.t 0)⟩,
      ⟨some 11, none, .nilck (.t 10)⟩,
      ⟨some 12, none, .fld 2 (.t 11)⟩,
      ⟨some 13, none, .load none (.t 12)⟩,
      ⟨some 14, none, .mv (.t 13)⟩,
      ⟨some 15, (some (14, false)), .mv (.t 5)⟩,
      ⟨some 16, (some (14, false)), .mv (.t 0)⟩,
      ⟨some 17, (some (14, false)), .nilck (.t 16)⟩,
      ⟨some 18, (some (14, false)), .fld 0 (.t 17)⟩,
      ⟨some 19, (some (14, false)), .load none (.t 18)⟩,
      ⟨some 20, (some (14, false)), .lens (.t 19)⟩,
      ⟨some 21, (some (14, false)), .mv (.t 0)⟩,
      ⟨some 22, (some (14, false)), .nilck (.t 21)⟩,
      ⟨some 23, (some (14, false)), .fld 1 (.t 22)⟩,
      ⟨some 24, (some (14, false)), .load none (.t 23)⟩,
      ⟨some 25, (some (14, false)), .bin .sub (.t 20) (.t 24)⟩,
      ⟨some 26, (some (14, false)), .bin .gtr (.t 15) (.t 25)⟩,
      ⟨some 27, none, .pick (.t 14) (.c (.bool true)) (.t 26)⟩])
      (.keep [0, 5, 27] (.cond (.t 27)
       (.seq (.ops [⟨some 28, none, .mv (.t 0)⟩,
      ⟨some 29, none, .nilck (.t 28)⟩,
      ⟨some 30, none, .fld 2 (.t 29)⟩,
      ⟨none, none, .store 1 (.t 30) (.c (.bool true))⟩])
        (.keep [] (.seq (.ops [⟨some 4, none, .mv (.c (.str ⟨#[]⟩))⟩])
         (.ret))))
       (.skip))))
     (.keep [0, 5] (.seq (.draw [0, 5, 6] [⟨some 31, none, .mv (.t 0)⟩,
      ⟨some 32, none, .nilck (.t 31)⟩,
      ⟨some 33, none, .fld 0 (.t 32)⟩,
      ⟨some 34, none, .load none (.t 33)⟩,
      ⟨some 35, none, .mv (.t 0)⟩,
      ⟨some 36, none, .nilck (.t 35)⟩,
      ⟨some 37, none, .fld 1 (.t 36)⟩,
      ⟨some 38, none, .load none (.t 37)⟩,
      ⟨some 39, none, .mv (.t 0)⟩,
      ⟨some 40, none, .nilck (.t 39)⟩,
      ⟨some 41, none, .fld 1 (.t 40)⟩,
      ⟨some 42, none, .load none (.t 41)⟩,
      ⟨some 43, none, .mv (.t 5)⟩,
      ⟨some 44, none, .bin .add (.t 42) (.t 43)⟩,
      ⟨some 45, none, .slcs (.t 34) (some (.t 38)) (some (.t 44))⟩,
      ⟨some 6, none, .mv (.t 45)⟩])
      (.keep [0, 5, 6] (.seq (.ops [⟨some 46, none, .mv (.t 0)⟩,
      ⟨some 47, none, .nilck (.t 46)⟩,
      ⟨some 48, none, .fld 1 (.t 47)⟩,
      ⟨some 49, none, .load none (.t 48)⟩,
      ⟨some 50, none, .mv (.t 5)⟩,
      ⟨some 51, none, .bin .add (.t 49) (.t 50)⟩,
      ⟨some 52, none, .nilck (.t 46)⟩,
      ⟨some 53, none, .fld 1 (.t 52)⟩,
      ⟨none, none, .store 1 (.t 53) (.t 51)⟩])
       (.keep [6] (.seq (.ops [⟨some 54, none, .mv (.t 6)⟩,
      ⟨some 4, none, .mv (.t 54)⟩])
        (.ret)))))))))))⟩
theorem J_ref07_In_Text_ok : chkFn Try.prog 29 J_ref07_In_Text = true := by kernel_rfl

/-- (*attorney/attorneyref07.In).Word -/
def J_ref07_In_Word : AFn :=
  ⟨99, [.t 2], .seq (.ops [⟨some 2, none, .mv (.c (.str ⟨#[]⟩))⟩])
   (.keep [0] (.seq (.seq (.draw [0, 20] [⟨some 5, none, .mv (.t 0)⟩,
      ⟨some 6, none, .nilck (.t 5)⟩,
      ⟨some 7, none, .fld 2 (.t 6)⟩,
      ⟨some 8, none, .load none (.t 7)⟩,
      ⟨some 9, none, .mv (.t 8)⟩,
      ⟨some 10, (some (9, false)), .mv (.t 0)⟩,
      ⟨some 11, (some (9, false)), .nilck (.t 10)⟩,
      ⟨some 12, (some (9, false)), .fld 1 (.t 11)⟩,
      ⟨some 13, (some (9, false)), .load none (.t 12)⟩,
      ⟨some 14, (some (9, false)), .mv (.t 0)⟩,
      ⟨some 15, (some (9, false)), .nilck (.t 14)⟩,
      ⟨some 16, (some (9, false)), .fld 0 (.t 15)⟩,
      ⟨some 17, (some (9, false)), .load none (.t 16)⟩,
      ⟨some 18, (some (9, false)), .lens (.t 17)⟩,
      ⟨some 19, (some (9, false)), .bin .geq (.t 13) (.t 18)⟩,
      ⟨some 20, none, .pick (.t 9) (.c (.bool true)) (.t 19)⟩])
     (.keep [0, 20] (.cond (.t 20)
      (.seq (.ops [⟨some 21, none, .mv (.t 0)⟩,
      ⟨some 22, none, .nilck (.t 21)⟩,
      ⟨some 23, none, .fld 2 (.t 22)⟩,
      ⟨none, none, .store 1 (.t 23) (.c (.bool true))⟩])
       (.keep [] (.seq (.ops [⟨some 2, none, .mv (.c (.str ⟨#[]⟩))⟩])
        (.ret))))
      (.skip))))
    (.keep [0] (.seq (.draw [0, 3] [⟨some 24, none, .mv (.t 0)⟩,
      ⟨some 25, none, .nilck (.t 24)⟩,
      ⟨some 26, none, .fld 0 (.t 25)⟩,
      ⟨some 27, none, .load none (.t 26)⟩,
      ⟨some 28, none, .mv (.t 0)⟩,
      ⟨some 29, none, .nilck (.t 28)⟩,
      ⟨some 30, none, .fld 1 (.t 29)⟩,
      ⟨some 31, none, .load none (.t 30)⟩,
      ⟨some 32, none, .idxs (.t 27) (.t 31)⟩,
      ⟨some 33, none, .conv .i64 (.t 32)⟩,
      ⟨some 34, none, .bin .mul (.c (.int .i64 2)) (.t 33)⟩,
      ⟨some 3, none, .mv (.t 34)⟩])
     (.keep [0, 3] (.seq (.seq (.draw [0, 3, 68] [⟨some 35, none, .mv (.t 0)⟩,
      ⟨some 36, none, .nilck (.t 35)⟩,
      ⟨some 37, none, .fld 1 (.t 36)⟩,
      ⟨some 38, none, .load none (.t 37)⟩,
      ⟨some 39, none, .bin .add (.t 38) (.c (.int .i64 1))⟩,
      ⟨some 40, none, .mv (.t 3)⟩,
      ⟨some 41, none, .bin .add (.t 39) (.t 40)⟩,
      ⟨some 42, none, .mv (.t 0)⟩,
      ⟨some 43, none, .nilck (.t 42)⟩,
      ⟨some 44, none, .fld 0 (.t 43)⟩,
      ⟨some 45, none, .load none (.t 44)⟩,
      ⟨some 46, none, .lens (.t 45)⟩,
      ⟨some 47, none, .bin .gtr (.t 41) (.t 46)⟩,
      ⟨some 48, none, .mv (.t 47)⟩,
      ⟨some 49, (some (48, false)), .mv (.t 0)⟩,
      ⟨some 50, (some (48, false)), .nilck (.t 49)⟩,
      ⟨some 51, (some (48, false)), .fld 0 (.t 50)⟩,
      ⟨some 52, (some (48, false)), .load none (.t 51)⟩,
      ⟨some 53, (some (48, false)), .mv (.t 0)⟩,
      ⟨some 54, (some (48, false)), .nilck (.t 53)⟩,
      ⟨some 55, (some (48, false)), .fld 1 (.t 54)⟩,
      ⟨some 56, (some (48, false)), .load none (.t 55)⟩,
      ⟨some 57, (some (48, false)), .bin .add (.t 56) (.c (.int .i64 1))⟩,
      ⟨some 58, (some (48, false)), .mv (.t 0)⟩,
      ⟨some 59, (some (48, false)), .nilck (.t 58)⟩,
      ⟨some 60, (some (48, false)), .fld 1 (.t 59)⟩,
      ⟨some 61, (some (48, false)), .load none (.t 60)⟩,
      ⟨some 62, (some (48, false)), .bin .add (.t 61) (.c (.int .i64 1))⟩,
      ⟨some 63, (some (48, false)), .mv (.t 3)⟩,
      ⟨some 64, (some (48, false)), .bin .add (.t 62) (.t 63)⟩,
      ⟨some 65, (some (48, false)), .slcs (.t 52) (some (.t 57)) (some (.t 64))⟩,
      ⟨some 66, (some (48, false)), .call (.f 63) [(.t 65)]⟩,
      ⟨some 67, (some (48, false)), .not (.t 66)⟩,
      ⟨some 68, none, .pick (.t 48) (.c (.bool true)) (.t 67)⟩])
       (.keep [0, 3, 68] (.cond (.t 68)
        (.seq (.ops [⟨some 69, none, .mv (.t 0)⟩,
      ⟨some 70, none, .nilck (.t 69)⟩,
      ⟨some 71, none, .fld 2 (.t 70)⟩,
      ⟨none, none, .store 1 (.t 71) (.c (.bool true))⟩])
         (.keep [] (.seq (.ops [⟨some 2, none, .mv (.c (.str ⟨#[]⟩))⟩])
          (.ret))))
        (.skip))))
      (.keep [0, 3] (.seq (.draw [0, 3, 4] [⟨some 72, none, .mv (.t 0)⟩,
      ⟨some 73, none, .nilck (.t 72)⟩,
      ⟨some 74, none, .fld 0 (.t 73)⟩,
      ⟨some 75, none, .load none (.t 74)⟩,
      ⟨some 76, none, .mv (.t 0)⟩,
      ⟨some 77, none, .nilck (.t 76)⟩,
      ⟨some 78, none, .fld 1 (.t 77)⟩,
      ⟨some 79, none, .load none (.t 78)⟩,
      ⟨some 80, none, .bin .add (.t 79) (.c (.int .i64 1))⟩,
      ⟨some 81, none, .mv (.t 0)⟩,
      ⟨some 82, none, .nilck (.t 81)⟩,
      ⟨some 83, none, .fld 1 (.t 82)⟩,
      ⟨some 84, none, .load none (.t 83)⟩,
      ⟨some 85, none, .bin .add (.t 84) (.c (.int .i64 1))⟩,
      ⟨some 86, none, .mv (.t 3)⟩,
      ⟨some 87, none, .bin .add (.t 85) (.t 86)⟩,
      ⟨some 88, none, .slcs (.t 75) (some (.t 80)) (some (.t 87))⟩,
      ⟨some 4, none, .mv (.t 88)⟩])
       (.keep [0, 3, 4] (.seq (.ops [⟨some 89, none, .mv (.t 0)⟩,
      ⟨some 90, none, .nilck (.t 89)⟩,
      ⟨some 91, none, .fld 1 (.t 90)⟩,
      ⟨some 92, none, .load none (.t 91)⟩,
      ⟨some 93, none, .mv (.t 3)⟩,
      ⟨some 94, none, .bin .add (.c (.int .i64 1)) (.t 93)⟩,
      ⟨some 95, none, .bin .add (.t 92) (.t 94)⟩,
      ⟨some 96, none, .nilck (.t 89)⟩,
      ⟨some 97, none, .fld 1 (.t 96)⟩,
      ⟨none, none, .store 1 (.t 97) (.t 95)⟩])
        (.keep [4] (.seq (.ops [⟨some 98, none, .mv (.t 4)⟩,
      ⟨some 2, none, .mv (.t 98)⟩])
         (.ret)))))))))))))⟩
theorem J_ref07_In_Word_ok : chkFn Try.prog 31 J_ref07_In_Word = true := by kernel_rfl

/- behind: Q -/
def J_ref07_In_Set_j1 : ACode :=
  .keep [0, 4] (.seq (.seq (.ops [⟨some 60, none, .mv (.t 0)⟩,
      ⟨some 61, none, .nilck (.t 60)⟩,
      ⟨some 62, none, .fld 2 (.t 61)⟩,
      ⟨some 63, none, .load none (.t 62)⟩,
      ⟨some 64, none, .mv (.t 63)⟩,
      ⟨some 65, (some (64, false)), .mv (.t 4)⟩,
      ⟨some 66, (some (64, false)), .call (.f 66) [(.t 65)]⟩,
      ⟨some 67, (some (64, false)), .not (.t 66)⟩,
      ⟨some 68, none, .pick (.t 64) (.c (.bool true)) (.t 67)⟩])
          (.keep [0, 4, 68] (.cond (.t 68)
           (.seq (.ops [⟨some 69, none, .mv (.t 0)⟩,
      ⟨some 70, none, .nilck (.t 69)⟩,
      ⟨some 71, none, .fld 2 (.t 70)⟩,
      ⟨none, none, .store 1 (.t 71) (.c (.bool true))⟩])
            (.keep [] (.seq (.ops [⟨some 2, none, .mv (.c (.lst .clip 0 []))⟩])
             (.ret))))
           (.skip))))
         (.keep [4] (.seq (.ops [⟨some 72, none, .mv (.t 4)⟩,
      ⟨some 2, none, .mv (.t 72)⟩])
          (.ret))))

/- behind: Q = kloop [0, 3, 4, 5] I n (kblock 0 (kseq P (J_ref07_In_Set_j1) Q)) -/
def J_ref07_In_Set_j2 : ACode :=
  .seq (.seq (.ops [⟨some 43, none, .mv (.t 5)⟩,
      ⟨some 44, none, .mv (.t 3)⟩,
      ⟨some 45, none, .bin .lss (.t 43) (.t 44)⟩,
      ⟨some 46, none, .mv (.t 45)⟩,
      ⟨some 47, (some (46, true)), .mv (.t 0)⟩,
      ⟨some 48, (some (46, true)), .nilck (.t 47)⟩,
      ⟨some 49, (some (46, true)), .fld 2 (.t 48)⟩,
      ⟨some 50, (some (46, true)), .load none (.t 49)⟩,
      ⟨some 51, (some (46, true)), .not (.t 50)⟩,
      ⟨some 52, none, .pick (.t 46) (.t 51) (.c (.bool false))⟩])
             (.keep [0, 3, 4, 5, 52] (.cond (.t 52)
              (.skip)
              (.exit 0))))
            (.keep [0, 3, 4, 5] (.seq (.block 1 (.ops [⟨some 55, none, .mvo 4⟩,
      ⟨some 56, none, .mv (.t 0)⟩,
      ⟨some 57, none, .call (.f 31) [(.t 56)]⟩,
      ⟨some 58, none, .bsl 35 1 1 [(.str ⟨#[]⟩)] [(0, 1, (.t 57))]⟩,
      ⟨some 59, none, .appo 35 1 16 55 (.t 58)⟩,
      ⟨some 4, none, .mvo 59⟩]))
             (.keep [0, 3, 4, 5] (.ops [⟨some 53, none, .mv (.t 5)⟩,
      ⟨some 54, none, .bin .add (.t 53) (.c (.int .i64 1))⟩,
      ⟨some 5, none, .mv (.t 54)⟩]))))

/-- (*attorney/attorneyref07.In).Set -/
def J_ref07_In_Set : AFn :=
  ⟨73, [.t 2], .seq (.ops [⟨some 2, none, .mv (.c (.lst .clip 0 []))⟩])
   (.keep [0] (.seq (.seq (.draw [0, 21] [⟨some 6, none, .mv (.t 0)⟩,
      ⟨some 7, none, .nilck (.t 6)⟩,
      ⟨some 8, none, .fld 2 (.t 7)⟩,
      ⟨some 9, none, .load none (.t 8)⟩,
      ⟨some 10, none, .mv (.t 9)⟩,
      ⟨some 11, (some (10, false)), .mv (.t 0)⟩,
      ⟨some 12, (some (10, false)), .nilck (.t 11)⟩,
      ⟨some 13, (some (10, false)), .fld 1 (.t 12)⟩,
      ⟨some 14, (some (10, false)), .load none (.t 13)⟩,
      ⟨some 15, (some (10, false)), .mv (.t 0)⟩,
      ⟨some 16, (some (10, false)), .nilck (.t 15)⟩,
      ⟨some 17, (some (10, false)), .fld 0 (.t 16)⟩,
      ⟨some 18, (some (10, false)), .load none (.t 17)⟩,
      ⟨some 19, (some (10, false)), .lens (.t 18)⟩,
      ⟨some 20, (some (10, false)), .bin .geq (.t 14) (.t 19)⟩,
      ⟨some 21, none, .pick (.t 10) (.c (.bool true)) (.t 20)⟩])
     (.keep [0, 21] (.cond (.t 21)
      (.seq (.ops [⟨some 22, none, .mv (.t 0)⟩,
      ⟨some 23, none, .nilck (.t 22)⟩,
      ⟨some 24, none, .fld 2 (.t 23)⟩,
      ⟨none, none, .store 1 (.t 24) (.c (.bool true))⟩])
       (.keep [] (.seq (.ops [⟨some 2, none, .mv (.c (.lst .clip 0 []))⟩])
        (.ret))))
      (.skip))))
    (.keep [0] (.seq (.draw [0, 3] [⟨some 25, none, .mv (.t 0)⟩,
      ⟨some 26, none, .nilck (.t 25)⟩,
      ⟨some 27, none, .fld 0 (.t 26)⟩,
      ⟨some 28, none, .load none (.t 27)⟩,
      ⟨some 29, none, .mv (.t 0)⟩,
      ⟨some 30, none, .nilck (.t 29)⟩,
      ⟨some 31, none, .fld 1 (.t 30)⟩,
      ⟨some 32, none, .load none (.t 31)⟩,
      ⟨some 33, none, .idxs (.t 28) (.t 32)⟩,
      ⟨some 34, none, .conv .i64 (.t 33)⟩,
      ⟨some 3, none, .mv (.t 34)⟩])
     (.keep [0, 3] (.seq (.ops [⟨some 35, none, .mv (.t 0)⟩,
      ⟨some 36, none, .nilck (.t 35)⟩,
      ⟨some 37, none, .fld 1 (.t 36)⟩,
      ⟨some 38, none, .load none (.t 37)⟩,
      ⟨some 39, none, .bin .add (.t 38) (.c (.int .i64 1))⟩,
      ⟨some 40, none, .nilck (.t 35)⟩,
      ⟨some 41, none, .fld 1 (.t 40)⟩,
      ⟨none, none, .store 1 (.t 41) (.t 39)⟩])
      (.keep [0, 3] (.seq (.ops [⟨some 42, none, .bsl 35 1 0 [] []⟩,
      ⟨some 4, none, .mvo 42⟩])
       (.keep [0, 3, 4] (.seq (.seq (.ops [⟨some 5, none, .mv (.c (.int .i64 0))⟩])
         (.keep [0, 3, 4, 5] (.block 0 (.loop [0, 3, 4, 5] (J_ref07_In_Set_j2)))))
        (J_ref07_In_Set_j1)))))))))))⟩
theorem J_ref07_In_Set_ok : chkFn Try.prog 34 J_ref07_In_Set = true := by kernel_rfl

/-- (*attorney/attorneyref07.In).Left -/
def J_ref07_In_Left : AFn :=
  ⟨17, [.t 2], .seq (.ops [⟨some 2, none, .mv (.c (.int .i64 0))⟩])
   (.keep [0] (.seq (.seq (.ops [⟨some 3, none, .mv (.t 0)⟩,
      ⟨some 4, none, .nilck (.t 3)⟩,
      ⟨some 5, none, .fld 2 (.t 4)⟩,
      ⟨some 6, none, .load none (.t 5)⟩])
     (.keep [0, 6] (.cond (.t 6)
      (.seq (.ops [⟨some 2, none, .mv (.c (.int .i64 0))⟩])
       (.ret))
      (.skip))))
    (.keep [0] (.seq (.draw [2] [⟨some 7, none, .mv (.t 0)⟩,
      ⟨some 8, none, .nilck (.t 7)⟩,
      ⟨some 9, none, .fld 0 (.t 8)⟩,
      ⟨some 10, none, .load none (.t 9)⟩,
      ⟨some 11, none, .lens (.t 10)⟩,
      ⟨some 12, none, .mv (.t 0)⟩,
      ⟨some 13, none, .nilck (.t 12)⟩,
      ⟨some 14, none, .fld 1 (.t 13)⟩,
      ⟨some 15, none, .load none (.t 14)⟩,
      ⟨some 16, none, .bin .sub (.t 11) (.t 15)⟩,
      ⟨some 2, none, .mv (.t 16)⟩])
     (.ret)))))⟩
theorem J_ref07_In_Left_ok : chkFn Try.prog 36 J_ref07_In_Left = true := by kernel_rfl

/-- (*attorney/attorneyref07.In).Done -/
def J_ref07_In_Done : AFn :=
  ⟨22, [.t 2], .seq (.ops [⟨some 2, none, .mv (.c (.int .i64 0))⟩])
   (.keep [0] (.seq (.seq (.draw [0, 18] [⟨some 3, none, .mv (.t 0)⟩,
      ⟨some 4, none, .nilck (.t 3)⟩,
      ⟨some 5, none, .fld 2 (.t 4)⟩,
      ⟨some 6, none, .load none (.t 5)⟩,
      ⟨some 7, none, .mv (.t 6)⟩,
      ⟨some 8, (some (7, false)), .mv (.t 0)⟩,
      ⟨some 9, (some (7, false)), .nilck (.t 8)⟩,
      ⟨some 10, (some (7, false)), .fld 1 (.t 9)⟩,
      ⟨some 11, (some (7, false)), .load none (.t 10)⟩,
      ⟨some 12, (some (7, false)), .mv (.t 0)⟩,
      ⟨some 13, (some (7, false)), .nilck (.t 12)⟩,
      ⟨some 14, (some (7, false)), .fld 0 (.t 13)⟩,
      ⟨some 15, (some (7, false)), .load none (.t 14)⟩,
      ⟨some 16, (some (7, false)), .lens (.t 15)⟩,
      ⟨some 17, (some (7, false)), .bin .lss (.t 11) (.t 16)⟩,
      ⟨some 18, none, .pick (.t 7) (.c (.bool true)) (.t 17)⟩])
     (.keep [0, 18] (.cond (.t 18)
      (.seq (.ops [⟨some 19, none, .mv (.t 0)⟩,
      ⟨some 20, none, .nilck (.t 19)⟩,
      ⟨some 21, none, .fld 2 (.t 20)⟩,
      ⟨none, none, .store 1 (.t 21) (.c (.bool true))⟩])
       (.keep [] (.seq (.ops [⟨some 2, none, .mv (.c (.int .i64 2))⟩])
        (.ret))))
      (.skip))))
    (.keep [] (.seq (.ops [⟨some 2, none, .mv (.c (.int .i64 0))⟩])
     (.ret)))))⟩
theorem J_ref07_In_Done_ok : chkFn Try.prog 38 J_ref07_In_Done = true := by kernel_rfl

end Go.Proofs.Ytdmhilhfdcmdiaa
