/- The functions' abstract code, written by a program (acode.py), and that it is theirs. -/
import Derived.Test.YtajpibdchgflnaaProg
import Derived.Test.YtajpibdchgflnaaAb13
namespace Go.Proofs.Ytajpibdchgflnaa
open Go.RowKit

/- behind: Q -/
def J_law03_SetMakes_j1 : ACode :=
  .keep [0, 1, 7, 8] (.seq (.ops [⟨some 143, none, .mv (.t 7)⟩,
      ⟨some 144, none, .mv (.t 0)⟩,
      ⟨some 145, none, .call (.f 20) [(.t 143), (.t 144)]⟩,
      ⟨some 146, none, .mv (.t 145)⟩,
      ⟨some 147, (some (146, true)), .mv (.t 8)⟩,
      ⟨some 148, (some (146, true)), .mv (.t 1)⟩,
      ⟨some 149, (some (146, true)), .call (.f 20) [(.t 147), (.t 148)]⟩,
      ⟨some 150, none, .pick (.t 146) (.t 149) (.c (.bool false))⟩,
      ⟨some 6, none, .mv (.t 150)⟩])
                       (.ret))

/- behind: Q = kloop [0, 1, 7, 8, 9, 135, 136] I n (kblock 0 (kseq P (J_law03_SetMakes_j1) Q)) -/
def J_law03_SetMakes_j2 : ACode :=
  .seq (.ops [⟨some 137, none, .bin .lss (.t 136) (.t 135)⟩])
                          (.keep [0, 1, 7, 8, 9, 135, 136, 137] (.seq (.cond (.t 137)
                            (.skip)
                            (.exit 0))
                           (.keep [0, 1, 7, 8, 9, 135, 136] (.seq (.block 1 (.seq (.ops [⟨some 138, none, .mv (.t 136)⟩,
      ⟨some 13, none, .mv (.t 138)⟩])
                              (.keep [0, 1, 7, 8, 9, 13, 135, 136] (.ops [⟨some 139, none, .mv (.t 9)⟩,
      ⟨some 140, none, .mv (.t 13)⟩,
      ⟨some 141, none, .idxa 1 (.t 139) (.t 140)⟩,
      ⟨none, none, .store 1 (.t 141) (.c (.str ⟨#[63]⟩))⟩]))))
                            (.keep [0, 1, 7, 8, 9, 135, 136] (.ops [⟨some 142, none, .bin .add (.t 136) (.c (.int .i64 1))⟩,
      ⟨some 136, none, .mv (.t 142)⟩]))))))

/-- attorney/attorneylaw03.SetMakes -/
def J_law03_SetMakes : AFn :=
  ⟨151, [.t 6], .seq (.ops [⟨some 6, none, .mv (.c (.bool false))⟩])
   (.keep [0, 1, 2] (.seq (.seq (.ops [⟨some 14, none, .call (.f 15) []⟩,
      ⟨some 15, none, .not (.t 14)⟩])
     (.keep [0, 1, 2, 15] (.cond (.t 15)
      (.seq (.ops [⟨some 6, none, .mv (.c (.bool false))⟩])
       (.ret))
      (.skip))))
    (.keep [0, 1, 2] (.seq (.seq (.ops [⟨some 16, none, .mv (.t 0)⟩,
      ⟨some 17, none, .mv (.t 1)⟩,
      ⟨some 18, none, .bsl 23 1 2 [(.lst .clip 0 []), (.lst .clip 0 [])] [(0, 1, (.t 16)), (1, 1, (.t 17))]⟩,
      ⟨some 19, none, .call (.f 16) [(.t 18)]⟩])
      (.keep [0, 1, 2, 19] (.cond (.t 19)
       (.seq (.ops [⟨some 6, none, .mv (.c (.bool true))⟩])
        (.ret))
       (.skip))))
     (.keep [0, 1, 2] (.seq (.ops [⟨some 20, none, .mv (.t 0)⟩,
      ⟨some 21, none, .call (.f 17) [(.t 20)]⟩,
      ⟨some 22, none, .mv (.t 1)⟩,
      ⟨some 23, none, .call (.f 17) [(.t 22)]⟩,
      ⟨some 7, none, .mv (.t 21)⟩,
      ⟨some 8, none, .mv (.t 23)⟩])
      (.keep [0, 1, 2, 7, 8] (.seq (.ops [⟨some 25, none, .mv (.t 7)⟩,
      ⟨some 26, none, .call (.f 18) [(.t 25)]⟩,
      ⟨some 24, none, .mv (.t 26)⟩,
      ⟨some 27, none, .ext 0 (.t 24)⟩,
      ⟨some 28, none, .ext 1 (.t 24)⟩,
      ⟨some 9, none, .mv (.t 27)⟩,
      ⟨some 10, none, .mv (.t 28)⟩])
       (.keep [0, 1, 2, 7, 8, 9, 10] (.seq (.ops [⟨some 30, none, .mv (.t 0)⟩,
      ⟨some 31, none, .call (.f 19) [(.t 30)]⟩,
      ⟨some 29, none, .mv (.t 31)⟩,
      ⟨some 32, none, .ext 0 (.t 29)⟩,
      ⟨some 33, none, .ext 1 (.t 29)⟩,
      ⟨some 11, none, .mv (.t 32)⟩,
      ⟨some 12, none, .mv (.t 33)⟩])
        (.keep [0, 1, 2, 7, 8, 9, 10, 11, 12] (.seq (.seq (.ops [⟨some 34, none, .mv (.t 10)⟩,
      ⟨some 35, none, .mv (.t 12)⟩,
      ⟨some 36, none, .bin .neq (.t 34) (.t 35)⟩,
      ⟨some 37, none, .mv (.t 36)⟩,
      ⟨some 38, (some (37, false)), .mv (.t 9)⟩,
      ⟨some 39, (some (37, false)), .mv (.t 11)⟩,
      ⟨some 40, (some (37, false)), .call (.f 20) [(.t 38), (.t 39)]⟩,
      ⟨some 41, (some (37, false)), .not (.t 40)⟩,
      ⟨some 42, none, .pick (.t 37) (.c (.bool true)) (.t 41)⟩,
      ⟨some 43, none, .mv (.t 42)⟩,
      ⟨some 44, (some (43, false)), .mv (.t 7)⟩,
      ⟨some 45, (some (43, false)), .call (.f 21) [(.t 44)]⟩,
      ⟨some 46, (some (43, false)), .mv (.t 0)⟩,
      ⟨some 47, (some (43, false)), .call (.f 22) [(.t 46)]⟩,
      ⟨some 48, (some (43, false)), .bbin true (.t 45) (.t 47)⟩,
      ⟨some 49, none, .pick (.t 43) (.c (.bool true)) (.t 48)⟩])
          (.keep [0, 1, 2, 7, 8, 49] (.cond (.t 49)
           (.seq (.ops [⟨some 6, none, .mv (.c (.bool false))⟩])
            (.ret))
           (.skip))))
         (.keep [0, 1, 2, 7, 8] (.seq (.ops [⟨some 51, none, .mv (.t 7)⟩,
      ⟨some 52, none, .mv (.t 8)⟩,
      ⟨some 53, none, .call (.f 23) [(.t 51), (.t 52)]⟩,
      ⟨some 50, none, .mv (.t 53)⟩,
      ⟨some 54, none, .ext 0 (.t 50)⟩,
      ⟨some 55, none, .ext 1 (.t 50)⟩,
      ⟨some 9, none, .mv (.t 54)⟩,
      ⟨some 10, none, .mv (.t 55)⟩])
          (.keep [0, 1, 2, 7, 8, 9, 10] (.seq (.ops [⟨some 57, none, .mv (.t 0)⟩,
      ⟨some 58, none, .mv (.t 1)⟩,
      ⟨some 59, none, .call (.f 24) [(.t 57), (.t 58)]⟩,
      ⟨some 56, none, .mv (.t 59)⟩,
      ⟨some 60, none, .ext 0 (.t 56)⟩,
      ⟨some 61, none, .ext 1 (.t 56)⟩,
      ⟨some 11, none, .mv (.t 60)⟩,
      ⟨some 12, none, .mv (.t 61)⟩])
           (.keep [0, 1, 2, 7, 8, 9, 10, 11, 12] (.seq (.seq (.ops [⟨some 62, none, .mv (.t 10)⟩,
      ⟨some 63, none, .mv (.t 12)⟩,
      ⟨some 64, none, .bin .neq (.t 62) (.t 63)⟩,
      ⟨some 65, none, .mv (.t 64)⟩,
      ⟨some 66, (some (65, false)), .mv (.t 9)⟩,
      ⟨some 67, (some (65, false)), .mv (.t 11)⟩,
      ⟨some 68, (some (65, false)), .call (.f 20) [(.t 66), (.t 67)]⟩,
      ⟨some 69, (some (65, false)), .not (.t 68)⟩,
      ⟨some 70, none, .pick (.t 65) (.c (.bool true)) (.t 69)⟩])
             (.keep [0, 1, 2, 7, 8, 70] (.cond (.t 70)
              (.seq (.ops [⟨some 6, none, .mv (.c (.bool false))⟩])
               (.ret))
              (.skip))))
            (.keep [0, 1, 2, 7, 8] (.seq (.ops [⟨some 72, none, .mv (.t 7)⟩,
      ⟨some 73, none, .mv (.t 8)⟩,
      ⟨some 74, none, .call (.f 25) [(.t 72), (.t 73)]⟩,
      ⟨some 71, none, .mv (.t 74)⟩,
      ⟨some 75, none, .ext 0 (.t 71)⟩,
      ⟨some 76, none, .ext 1 (.t 71)⟩,
      ⟨some 9, none, .mv (.t 75)⟩,
      ⟨some 10, none, .mv (.t 76)⟩])
             (.keep [0, 1, 2, 7, 8, 9, 10] (.seq (.ops [⟨some 78, none, .mv (.t 0)⟩,
      ⟨some 79, none, .mv (.t 1)⟩,
      ⟨some 80, none, .call (.f 26) [(.t 78), (.t 79)]⟩,
      ⟨some 77, none, .mv (.t 80)⟩,
      ⟨some 81, none, .ext 0 (.t 77)⟩,
      ⟨some 82, none, .ext 1 (.t 77)⟩,
      ⟨some 11, none, .mv (.t 81)⟩,
      ⟨some 12, none, .mv (.t 82)⟩])
              (.keep [0, 1, 2, 7, 8, 9, 10, 11, 12] (.seq (.seq (.ops [⟨some 83, none, .mv (.t 10)⟩,
      ⟨some 84, none, .mv (.t 12)⟩,
      ⟨some 85, none, .bin .neq (.t 83) (.t 84)⟩,
      ⟨some 86, none, .mv (.t 85)⟩,
      ⟨some 87, (some (86, false)), .mv (.t 9)⟩,
      ⟨some 88, (some (86, false)), .mv (.t 11)⟩,
      ⟨some 89, (some (86, false)), .call (.f 20) [(.t 87), (.t 88)]⟩,
      ⟨some 90, (some (86, false)), .not (.t 89)⟩,
      ⟨some 91, none, .pick (.t 86) (.c (.bool true)) (.t 90)⟩])
                (.keep [0, 1, 2, 7, 8, 91] (.cond (.t 91)
                 (.seq (.ops [⟨some 6, none, .mv (.c (.bool false))⟩])
                  (.ret))
                 (.skip))))
               (.keep [0, 1, 2, 7, 8] (.seq (.ops [⟨some 93, none, .mv (.t 7)⟩,
      ⟨some 94, none, .mv (.t 8)⟩,
      ⟨some 95, none, .call (.f 27) [(.t 93), (.t 94)]⟩,
      ⟨some 92, none, .mv (.t 95)⟩,
      ⟨some 96, none, .ext 0 (.t 92)⟩,
      ⟨some 97, none, .ext 1 (.t 92)⟩,
      ⟨some 9, none, .mv (.t 96)⟩,
      ⟨some 10, none, .mv (.t 97)⟩])
                (.keep [0, 1, 2, 7, 8, 9, 10] (.seq (.ops [⟨some 99, none, .mv (.t 0)⟩,
      ⟨some 100, none, .mv (.t 1)⟩,
      ⟨some 101, none, .call (.f 28) [(.t 99), (.t 100)]⟩,
      ⟨some 98, none, .mv (.t 101)⟩,
      ⟨some 102, none, .ext 0 (.t 98)⟩,
      ⟨some 103, none, .ext 1 (.t 98)⟩,
      ⟨some 11, none, .mv (.t 102)⟩,
      ⟨some 12, none, .mv (.t 103)⟩])
                 (.keep [0, 1, 2, 7, 8, 9, 10, 11, 12] (.seq (.seq (.ops [⟨some 104, none, .mv (.t 10)⟩,
      ⟨some 105, none, .mv (.t 12)⟩,
      ⟨some 106, none, .bin .neq (.t 104) (.t 105)⟩,
      ⟨some 107, none, .mv (.t 106)⟩,
      ⟨some 108, (some (107, false)), .mv (.t 9)⟩,
      ⟨some 109, (some (107, false)), .mv (.t 11)⟩,
      ⟨some 110, (some (107, false)), .call (.f 20) [(.t 108), (.t 109)]⟩,
      ⟨some 111, (some (107, false)), .not (.t 110)⟩,
      ⟨some 112, none, .pick (.t 107) (.c (.bool true)) (.t 111)⟩])
                   (.keep [0, 1, 2, 7, 8, 112] (.cond (.t 112)
                    (.seq (.ops [⟨some 6, none, .mv (.c (.bool false))⟩])
                     (.ret))
                    (.skip))))
                  (.keep [0, 1, 2, 7, 8] (.seq (.ops [⟨some 114, none, .mv (.t 7)⟩,
      ⟨some 115, none, .mv (.t 2)⟩,
      ⟨some 116, none, .call (.f 29) [(.t 114), (.t 115)]⟩,
      ⟨some 113, none, .mv (.t 116)⟩,
      ⟨some 117, none, .ext 0 (.t 113)⟩,
      ⟨some 118, none, .ext 1 (.t 113)⟩,
      ⟨some 9, none, .mv (.t 117)⟩,
      ⟨some 10, none, .mv (.t 118)⟩])
                   (.keep [0, 1, 2, 7, 8, 9, 10] (.seq (.ops [⟨some 120, none, .mv (.t 0)⟩,
      ⟨some 121, none, .mv (.t 2)⟩,
      ⟨some 122, none, .call (.f 30) [(.t 120), (.t 121)]⟩,
      ⟨some 119, none, .mv (.t 122)⟩,
      ⟨some 123, none, .ext 0 (.t 119)⟩,
      ⟨some 124, none, .ext 1 (.t 119)⟩,
      ⟨some 11, none, .mv (.t 123)⟩,
      ⟨some 12, none, .mv (.t 124)⟩])
                    (.keep [0, 1, 7, 8, 9, 10, 11, 12] (.seq (.seq (.ops [⟨some 125, none, .mv (.t 10)⟩,
      ⟨some 126, none, .mv (.t 12)⟩,
      ⟨some 127, none, .bin .neq (.t 125) (.t 126)⟩,
      ⟨some 128, none, .mv (.t 127)⟩,
      ⟨some 129, (some (128, false)), .mv (.t 9)⟩,
      ⟨some 130, (some (128, false)), .mv (.t 11)⟩,
      ⟨some 131, (some (128, false)), .call (.f 20) [(.t 129), (.t 130)]⟩,
      ⟨some 132, (some (128, false)), .not (.t 131)⟩,
      ⟨some 133, none, .pick (.t 128) (.c (.bool true)) (.t 132)⟩])
                      (.keep [0, 1, 7, 8, 9, 133] (.cond (.t 133)
                       (.seq (.ops [⟨some 6, none, .mv (.c (.bool false))⟩])
                        (.ret))
                       (.skip))))
                     (.keep [0, 1, 7, 8, 9] (.seq (.seq (.ops [⟨some 134, none, .mv (.t 9)⟩,
      ⟨some 135, none, .lenl (.t 134)⟩,
      ⟨some 136, none, .mv (.c (.int .i64 0))⟩])
                       (.keep [0, 1, 7, 8, 9, 135, 136] (.block 0 (.loop [0, 1, 7, 8, 9, 135, 136] (J_law03_SetMakes_j2)))))
                      (J_law03_SetMakes_j1)))))))))))))))))))))))))))))))))))))))⟩
theorem J_law03_SetMakes_ok : chkFn Try.prog 3 J_law03_SetMakes = true := by kernel_rfl

/-- attorney/attorneylaw03.SetTells -/
def J_law03_SetTells : AFn :=
  ⟨50, [.t 6], .seq (.ops [⟨some 6, none, .mv (.c (.bool false))⟩])
   (.keep [0, 1, 2] (.seq (.seq (.ops [⟨some 7, none, .call (.f 15) []⟩,
      ⟨some 8, none, .not (.t 7)⟩])
     (.keep [0, 1, 2, 8] (.cond (.t 8)
      (.seq (.ops [⟨some 6, none, .mv (.c (.bool false))⟩])
       (.ret))
      (.skip))))
    (.keep [0, 1, 2] (.seq (.seq (.ops [⟨some 9, none, .mv (.t 0)⟩,
      ⟨some 10, none, .mv (.t 1)⟩,
      ⟨some 11, none, .bsl 23 1 2 [(.lst .clip 0 []), (.lst .clip 0 [])] [(0, 1, (.t 9)), (1, 1, (.t 10))]⟩,
      ⟨some 12, none, .call (.f 16) [(.t 11)]⟩,
      ⟨some 13, none, .mv (.t 12)⟩,
      ⟨some 14, (some (13, false)), .mv (.t 2)⟩,
      ⟨some 15, (some (13, false)), .lens (.t 14)⟩,
      ⟨some 16, (some (13, false)), .bin .gtr (.t 15) (.c (.int .i64 100))⟩,
      ⟨some 17, none, .pick (.t 13) (.c (.bool true)) (.t 16)⟩])
      (.keep [0, 1, 2, 17] (.cond (.t 17)
       (.seq (.ops [⟨some 6, none, .mv (.c (.bool true))⟩])
        (.ret))
       (.skip))))
     (.keep [0, 1, 2] (.seq (.ops [⟨some 18, none, .mv (.t 0)⟩,
      ⟨some 19, none, .mv (.t 2)⟩,
      ⟨some 20, none, .call (.f 31) [(.t 18), (.t 19)]⟩,
      ⟨some 21, none, .mv (.t 0)⟩,
      ⟨some 22, none, .mv (.t 2)⟩,
      ⟨some 23, none, .call (.f 32) [(.t 21), (.t 22)]⟩,
      ⟨some 24, none, .bbin false (.t 20) (.t 23)⟩,
      ⟨some 25, none, .mv (.t 24)⟩,
      ⟨some 26, (some (25, true)), .mv (.t 0)⟩,
      ⟨some 27, (some (25, true)), .mv (.t 1)⟩,
      ⟨some 28, (some (25, true)), .call (.f 33) [(.t 26), (.t 27)]⟩,
      ⟨some 29, (some (25, true)), .mv (.t 0)⟩,
      ⟨some 30, (some (25, true)), .mv (.t 1)⟩,
      ⟨some 31, (some (25, true)), .call (.f 34) [(.t 29), (.t 30)]⟩,
      ⟨some 32, (some (25, true)), .bbin false (.t 28) (.t 31)⟩,
      ⟨some 33, none, .pick (.t 25) (.t 32) (.c (.bool false))⟩,
      ⟨some 34, none, .mv (.t 33)⟩,
      ⟨some 35, (some (34, true)), .mv (.t 0)⟩,
      ⟨some 36, (some (34, true)), .mv (.t 1)⟩,
      ⟨some 37, (some (34, true)), .call (.f 35) [(.t 35), (.t 36)]⟩,
      ⟨some 38, (some (34, true)), .mv (.t 0)⟩,
      ⟨some 39, (some (34, true)), .mv (.t 1)⟩,
      ⟨some 40, (some (34, true)), .call (.f 36) [(.t 38), (.t 39)]⟩,
      ⟨some 41, (some (34, true)), .bbin false (.t 37) (.t 40)⟩,
      ⟨some 42, none, .pick (.t 34) (.t 41) (.c (.bool false))⟩,
      ⟨some 43, none, .mv (.t 42)⟩,
      ⟨some 44, (some (43, true)), .mv (.t 0)⟩,
      ⟨some 45, (some (43, true)), .call (.f 37) [(.t 44)]⟩,
      ⟨some 46, (some (43, true)), .mv (.t 0)⟩,
      ⟨some 47, (some (43, true)), .call (.f 38) [(.t 46)]⟩,
      ⟨some 48, (some (43, true)), .bin .eql (.t 45) (.t 47)⟩,
      ⟨some 49, none, .pick (.t 43) (.t 48) (.c (.bool false))⟩,
      ⟨some 6, none, .mv (.t 49)⟩])
      (.ret)))))))⟩
theorem J_law03_SetTells_ok : chkFn Try.prog 4 J_law03_SetTells = true := by kernel_rfl

/-- attorney/attorneylaw03.SetAnd -/
def J_law03_SetAnd : AFn :=
  ⟨129, [.t 6], .seq (.ops [⟨some 6, none, .mv (.c (.bool false))⟩])
   (.keep [0, 1, 2] (.seq (.seq (.ops [⟨some 18, none, .call (.f 15) []⟩,
      ⟨some 19, none, .not (.t 18)⟩])
     (.keep [0, 1, 2, 19] (.cond (.t 19)
      (.seq (.ops [⟨some 6, none, .mv (.c (.bool false))⟩])
       (.ret))
      (.skip))))
    (.keep [0, 1, 2] (.seq (.seq (.ops [⟨some 20, none, .mv (.t 0)⟩,
      ⟨some 21, none, .mv (.t 1)⟩,
      ⟨some 22, none, .mv (.t 2)⟩,
      ⟨some 23, none, .bsl 23 1 3 [(.lst .clip 0 []), (.lst .clip 0 []), (.lst .clip 0 [])] [(0, 1, (.t 20)), (1, 1, (.t 21)), (2, 1, (.t 22))]⟩,
      ⟨some 24, none, .call (.f 16) [(.t 23)]⟩,
      ⟨some 25, none, .mv (.t 24)⟩,
      ⟨some 26, (some (25, false)), .mv (.t 0)⟩,
      ⟨some 27, (some (25, false)), .call (.f 21) [(.t 26)]⟩,
      ⟨some 28, (some (25, false)), .not (.t 27)⟩,
      ⟨some 29, none, .pick (.t 25) (.c (.bool true)) (.t 28)⟩,
      ⟨some 30, none, .mv (.t 29)⟩,
      ⟨some 31, (some (30, false)), .mv (.t 1)⟩,
      ⟨some 32, (some (30, false)), .call (.f 21) [(.t 31)]⟩,
      ⟨some 33, (some (30, false)), .not (.t 32)⟩,
      ⟨some 34, none, .pick (.t 30) (.c (.bool true)) (.t 33)⟩,
      ⟨some 35, none, .mv (.t 34)⟩,
      ⟨some 36, (some (35, false)), .mv (.t 2)⟩,
      ⟨some 37, (some (35, false)), .call (.f 21) [(.t 36)]⟩,
      ⟨some 38, (some (35, false)), .not (.t 37)⟩,
      ⟨some 39, none, .pick (.t 35) (.c (.bool true)) (.t 38)⟩])
      (.keep [0, 1, 2, 39] (.cond (.t 39)
       (.seq (.ops [⟨some 6, none, .mv (.c (.bool true))⟩])
        (.ret))
       (.skip))))
     (.keep [0, 1, 2] (.seq (.ops [⟨some 41, none, .mv (.t 0)⟩,
      ⟨some 42, none, .mv (.t 0)⟩,
      ⟨some 43, none, .call (.f 23) [(.t 41), (.t 42)]⟩,
      ⟨some 40, none, .mv (.t 43)⟩,
      ⟨some 44, none, .ext 0 (.t 40)⟩,
      ⟨some 45, none, .ext 1 (.t 40)⟩,
      ⟨some 7, none, .mv (.t 44)⟩,
      ⟨some 8, none, .mv (.t 45)⟩])
      (.keep [0, 1, 2, 7, 8] (.seq (.seq (.ops [⟨some 46, none, .mv (.t 8)⟩,
      ⟨some 47, none, .bin .neq (.t 46) (.c (.int .i64 0))⟩,
      ⟨some 48, none, .mv (.t 47)⟩,
      ⟨some 49, (some (48, false)), .mv (.t 7)⟩,
      ⟨some 50, (some (48, false)), .mv (.t 0)⟩,
      ⟨some 51, (some (48, false)), .call (.f 20) [(.t 49), (.t 50)]⟩,
      ⟨some 52, (some (48, false)), .not (.t 51)⟩,
      ⟨some 53, none, .pick (.t 48) (.c (.bool true)) (.t 52)⟩])
        (.keep [0, 1, 2, 53] (.cond (.t 53)
         (.seq (.ops [⟨some 6, none, .mv (.c (.bool false))⟩])
          (.ret))
         (.skip))))
       (.keep [0, 1, 2] (.seq (.ops [⟨some 55, none, .mv (.t 0)⟩,
      ⟨some 56, none, .mv (.t 1)⟩,
      ⟨some 57, none, .call (.f 23) [(.t 55), (.t 56)]⟩,
      ⟨some 54, none, .mv (.t 57)⟩,
      ⟨some 58, none, .ext 0 (.t 54)⟩,
      ⟨some 59, none, .ext 1 (.t 54)⟩,
      ⟨some 9, none, .mv (.t 58)⟩,
      ⟨some 8, none, .mv (.t 59)⟩])
        (.keep [0, 1, 2, 8, 9] (.seq (.ops [⟨some 61, none, .mv (.t 1)⟩,
      ⟨some 62, none, .mv (.t 0)⟩,
      ⟨some 63, none, .call (.f 23) [(.t 61), (.t 62)]⟩,
      ⟨some 60, none, .mv (.t 63)⟩,
      ⟨some 64, none, .ext 0 (.t 60)⟩,
      ⟨some 65, none, .ext 1 (.t 60)⟩,
      ⟨some 10, none, .mv (.t 64)⟩,
      ⟨some 11, none, .mv (.t 65)⟩])
         (.keep [0, 1, 2, 8, 9, 10, 11] (.seq (.seq (.ops [⟨some 66, none, .mv (.t 8)⟩,
      ⟨some 67, none, .mv (.t 11)⟩,
      ⟨some 68, none, .bin .neq (.t 66) (.t 67)⟩,
      ⟨some 69, none, .mv (.t 68)⟩,
      ⟨some 70, (some (69, false)), .mv (.t 9)⟩,
      ⟨some 71, (some (69, false)), .mv (.t 10)⟩,
      ⟨some 72, (some (69, false)), .call (.f 20) [(.t 70), (.t 71)]⟩,
      ⟨some 73, (some (69, false)), .not (.t 72)⟩,
      ⟨some 74, none, .pick (.t 69) (.c (.bool true)) (.t 73)⟩])
           (.keep [0, 1, 2, 8, 9, 74] (.cond (.t 74)
            (.seq (.ops [⟨some 6, none, .mv (.c (.bool false))⟩])
             (.ret))
            (.skip))))
          (.keep [0, 1, 2, 8, 9] (.seq (.seq (.ops [⟨some 75, none, .mv (.t 8)⟩,
      ⟨some 76, none, .bin .neq (.t 75) (.c (.int .i64 0))⟩])
            (.keep [0, 1, 2, 8, 9, 76] (.cond (.t 76)
             (.seq (.ops [⟨some 77, none, .mv (.t 8)⟩,
      ⟨some 78, none, .bin .eql (.t 77) (.c (.int .i64 3))⟩,
      ⟨some 6, none, .mv (.t 78)⟩])
              (.ret))
             (.skip))))
           (.keep [0, 1, 2, 9] (.seq (.seq (.ops [⟨some 79, none, .mv (.t 0)⟩,
      ⟨some 80, none, .mv (.t 9)⟩,
      ⟨some 81, none, .call (.f 33) [(.t 79), (.t 80)]⟩,
      ⟨some 82, none, .not (.t 81)⟩,
      ⟨some 83, none, .mv (.t 82)⟩,
      ⟨some 84, (some (83, false)), .mv (.t 1)⟩,
      ⟨some 85, (some (83, false)), .mv (.t 9)⟩,
      ⟨some 86, (some (83, false)), .call (.f 33) [(.t 84), (.t 85)]⟩,
      ⟨some 87, (some (83, false)), .not (.t 86)⟩,
      ⟨some 88, none, .pick (.t 83) (.c (.bool true)) (.t 87)⟩,
      ⟨some 89, none, .mv (.t 88)⟩,
      ⟨some 90, (some (89, false)), .mv (.t 9)⟩,
      ⟨some 91, (some (89, false)), .lenl (.t 90)⟩,
      ⟨some 92, (some (89, false)), .mv (.t 0)⟩,
      ⟨some 93, (some (89, false)), .lenl (.t 92)⟩,
      ⟨some 94, (some (89, false)), .mv (.t 1)⟩,
      ⟨some 95, (some (89, false)), .lenl (.t 94)⟩,
      ⟨some 96, (some (89, false)), .bin .add (.t 93) (.t 95)⟩,
      ⟨some 97, (some (89, false)), .bin .gtr (.t 91) (.t 96)⟩,
      ⟨some 98, none, .pick (.t 89) (.c (.bool true)) (.t 97)⟩])
             (.keep [0, 1, 2, 9, 98] (.cond (.t 98)
              (.seq (.ops [⟨some 6, none, .mv (.c (.bool false))⟩])
               (.ret))
              (.skip))))
            (.keep [0, 1, 2, 9] (.seq (.ops [⟨some 100, none, .mv (.t 1)⟩,
      ⟨some 101, none, .mv (.t 2)⟩,
      ⟨some 102, none, .call (.f 23) [(.t 100), (.t 101)]⟩,
      ⟨some 99, none, .mv (.t 102)⟩,
      ⟨some 103, none, .ext 0 (.t 99)⟩,
      ⟨some 104, none, .ext 1 (.t 99)⟩,
      ⟨some 12, none, .mv (.t 103)⟩,
      ⟨some 13, none, .mv (.t 104)⟩])
             (.keep [0, 2, 9, 12, 13] (.seq (.seq (.ops [⟨some 105, none, .mv (.t 13)⟩,
      ⟨some 106, none, .bin .neq (.t 105) (.c (.int .i64 0))⟩])
               (.keep [0, 2, 9, 12, 13, 106] (.cond (.t 106)
                (.seq (.ops [⟨some 107, none, .mv (.t 13)⟩,
      ⟨some 108, none, .bin .eql (.t 107) (.c (.int .i64 3))⟩,
      ⟨some 6, none, .mv (.t 108)⟩])
                 (.ret))
                (.skip))))
              (.keep [0, 2, 9, 12] (.seq (.ops [⟨some 110, none, .mv (.t 9)⟩,
      ⟨some 111, none, .mv (.t 2)⟩,
      ⟨some 112, none, .call (.f 23) [(.t 110), (.t 111)]⟩,
      ⟨some 109, none, .mv (.t 112)⟩,
      ⟨some 113, none, .ext 0 (.t 109)⟩,
      ⟨some 114, none, .ext 1 (.t 109)⟩,
      ⟨some 14, none, .mv (.t 113)⟩,
      ⟨some 15, none, .mv (.t 114)⟩])
               (.keep [0, 12, 14, 15] (.seq (.ops [⟨some 116, none, .mv (.t 0)⟩,
      ⟨some 117, none, .mv (.t 12)⟩,
      ⟨some 118, none, .call (.f 23) [(.t 116), (.t 117)]⟩,
      ⟨some 115, none, .mv (.t 118)⟩,
      ⟨some 119, none, .ext 0 (.t 115)⟩,
      ⟨some 120, none, .ext 1 (.t 115)⟩,
      ⟨some 16, none, .mv (.t 119)⟩,
      ⟨some 17, none, .mv (.t 120)⟩])
                (.keep [14, 15, 16, 17] (.seq (.ops [⟨some 121, none, .mv (.t 15)⟩,
      ⟨some 122, none, .mv (.t 17)⟩,
      ⟨some 123, none, .bin .eql (.t 121) (.t 122)⟩,
      ⟨some 124, none, .mv (.t 123)⟩,
      ⟨some 125, (some (124, true)), .mv (.t 14)⟩,
      ⟨some 126, (some (124, true)), .mv (.t 16)⟩,
      ⟨some 127, (some (124, true)), .call (.f 20) [(.t 125), (.t 126)]⟩,
      ⟨some 128, none, .pick (.t 124) (.t 127) (.c (.bool false))⟩,
      ⟨some 6, none, .mv (.t 128)⟩])
                 (.ret)))))))))))))))))))))))))))))⟩
theorem J_law03_SetAnd_ok : chkFn Try.prog 5 J_law03_SetAnd = true := by kernel_rfl

/- behind: Q -/
def J_law03_SetQuote_j1 : ACode :=
  .keep [0, 1, 2, 7, 8] (.seq (.ops [⟨some 85, none, .mv (.t 0)⟩,
      ⟨some 86, none, .mv (.t 2)⟩,
      ⟨some 87, none, .call (.f 25) [(.t 85), (.t 86)]⟩,
      ⟨some 84, none, .mv (.t 87)⟩,
      ⟨some 88, none, .ext 0 (.t 84)⟩,
      ⟨some 89, none, .ext 1 (.t 84)⟩,
      ⟨some 15, none, .mv (.t 88)⟩,
      ⟨some 16, none, .mv (.t 89)⟩])
         (.keep [0, 1, 2, 7, 8, 15, 16] (.seq (.ops [⟨some 91, none, .mv (.t 1)⟩,
      ⟨some 92, none, .mv (.t 2)⟩,
      ⟨some 93, none, .call (.f 23) [(.t 91), (.t 92)]⟩,
      ⟨some 90, none, .mv (.t 93)⟩,
      ⟨some 94, none, .ext 0 (.t 90)⟩,
      ⟨some 95, none, .ext 1 (.t 90)⟩,
      ⟨some 17, none, .mv (.t 94)⟩,
      ⟨some 18, none, .mv (.t 95)⟩])
          (.keep [0, 7, 8, 15, 16, 17, 18] (.seq (.seq (.ops [⟨some 96, none, .mv (.t 8)⟩,
      ⟨some 97, none, .bin .neq (.t 96) (.c (.int .i64 0))⟩,
      ⟨some 98, none, .mv (.t 97)⟩,
      ⟨some 99, (some (98, false)), .mv (.t 16)⟩,
      ⟨some 100, (some (98, false)), .bin .neq (.t 99) (.c (.int .i64 0))⟩,
      ⟨some 101, none, .pick (.t 98) (.c (.bool true)) (.t 100)⟩,
      ⟨some 102, none, .mv (.t 101)⟩,
      ⟨some 103, (some (102, false)), .mv (.t 18)⟩,
      ⟨some 104, (some (102, false)), .bin .neq (.t 103) (.c (.int .i64 0))⟩,
      ⟨some 105, none, .pick (.t 102) (.c (.bool true)) (.t 104)⟩])
            (.keep [0, 7, 15, 17, 105] (.cond (.t 105)
             (.seq (.ops [⟨some 6, none, .mv (.c (.bool true))⟩])
              (.ret))
             (.skip))))
           (.keep [0, 7, 15, 17] (.seq (.ops [⟨some 107, none, .mv (.t 0)⟩,
      ⟨some 108, none, .mv (.t 17)⟩,
      ⟨some 109, none, .call (.f 25) [(.t 107), (.t 108)]⟩,
      ⟨some 106, none, .mv (.t 109)⟩,
      ⟨some 110, none, .ext 0 (.t 106)⟩,
      ⟨some 111, none, .ext 1 (.t 106)⟩,
      ⟨some 19, none, .mv (.t 110)⟩,
      ⟨some 20, none, .mv (.t 111)⟩])
            (.keep [7, 15, 19, 20] (.seq (.ops [⟨some 113, none, .mv (.t 7)⟩,
      ⟨some 114, none, .mv (.t 15)⟩,
      ⟨some 115, none, .call (.f 23) [(.t 113), (.t 114)]⟩,
      ⟨some 112, none, .mv (.t 115)⟩,
      ⟨some 116, none, .ext 0 (.t 112)⟩,
      ⟨some 117, none, .ext 1 (.t 112)⟩,
      ⟨some 21, none, .mv (.t 116)⟩,
      ⟨some 22, none, .mv (.t 117)⟩])
             (.keep [19, 20, 21, 22] (.seq (.ops [⟨some 118, none, .mv (.t 20)⟩,
      ⟨some 119, none, .mv (.t 22)⟩,
      ⟨some 120, none, .bin .eql (.t 118) (.t 119)⟩,
      ⟨some 121, none, .mv (.t 120)⟩,
      ⟨some 122, (some (121, true)), .mv (.t 19)⟩,
      ⟨some 123, (some (121, true)), .mv (.t 21)⟩,
      ⟨some 124, (some (121, true)), .call (.f 20) [(.t 122), (.t 123)]⟩,
      ⟨some 125, none, .pick (.t 121) (.t 124) (.c (.bool false))⟩,
      ⟨some 6, none, .mv (.t 125)⟩])
              (.ret))))))))))))

/-- attorney/attorneylaw03.SetQuote -/
def J_law03_SetQuote : AFn :=
  ⟨126, [.t 6], .seq (.ops [⟨some 6, none, .mv (.c (.bool false))⟩])
   (.keep [0, 1, 2] (.seq (.seq (.ops [⟨some 23, none, .call (.f 15) []⟩,
      ⟨some 24, none, .not (.t 23)⟩])
     (.keep [0, 1, 2, 24] (.cond (.t 24)
      (.seq (.ops [⟨some 6, none, .mv (.c (.bool false))⟩])
       (.ret))
      (.skip))))
    (.keep [0, 1, 2] (.seq (.seq (.ops [⟨some 25, none, .mv (.t 0)⟩,
      ⟨some 26, none, .mv (.t 1)⟩,
      ⟨some 27, none, .mv (.t 2)⟩,
      ⟨some 28, none, .bsl 23 1 3 [(.lst .clip 0 []), (.lst .clip 0 []), (.lst .clip 0 [])] [(0, 1, (.t 25)), (1, 1, (.t 26)), (2, 1, (.t 27))]⟩,
      ⟨some 29, none, .call (.f 16) [(.t 28)]⟩,
      ⟨some 30, none, .mv (.t 29)⟩,
      ⟨some 31, (some (30, false)), .mv (.t 0)⟩,
      ⟨some 32, (some (30, false)), .call (.f 21) [(.t 31)]⟩,
      ⟨some 33, (some (30, false)), .not (.t 32)⟩,
      ⟨some 34, none, .pick (.t 30) (.c (.bool true)) (.t 33)⟩,
      ⟨some 35, none, .mv (.t 34)⟩,
      ⟨some 36, (some (35, false)), .mv (.t 1)⟩,
      ⟨some 37, (some (35, false)), .call (.f 21) [(.t 36)]⟩,
      ⟨some 38, (some (35, false)), .not (.t 37)⟩,
      ⟨some 39, none, .pick (.t 35) (.c (.bool true)) (.t 38)⟩,
      ⟨some 40, none, .mv (.t 39)⟩,
      ⟨some 41, (some (40, false)), .mv (.t 2)⟩,
      ⟨some 42, (some (40, false)), .call (.f 21) [(.t 41)]⟩,
      ⟨some 43, (some (40, false)), .not (.t 42)⟩,
      ⟨some 44, none, .pick (.t 40) (.c (.bool true)) (.t 43)⟩])
      (.keep [0, 1, 2, 44] (.cond (.t 44)
       (.seq (.ops [⟨some 6, none, .mv (.c (.bool true))⟩])
        (.ret))
       (.skip))))
     (.keep [0, 1, 2] (.seq (.ops [⟨some 46, none, .mv (.t 0)⟩,
      ⟨some 47, none, .mv (.t 1)⟩,
      ⟨some 48, none, .call (.f 25) [(.t 46), (.t 47)]⟩,
      ⟨some 45, none, .mv (.t 48)⟩,
      ⟨some 49, none, .ext 0 (.t 45)⟩,
      ⟨some 50, none, .ext 1 (.t 45)⟩,
      ⟨some 7, none, .mv (.t 49)⟩,
      ⟨some 8, none, .mv (.t 50)⟩])
      (.keep [0, 1, 2, 7, 8] (.seq (.ops [⟨some 52, none, .mv (.t 1)⟩,
      ⟨some 53, none, .mv (.t 2)⟩,
      ⟨some 54, none, .call (.f 25) [(.t 52), (.t 53)]⟩,
      ⟨some 51, none, .mv (.t 54)⟩,
      ⟨some 55, none, .ext 0 (.t 51)⟩,
      ⟨some 56, none, .ext 1 (.t 51)⟩,
      ⟨some 9, none, .mv (.t 55)⟩,
      ⟨some 10, none, .mv (.t 56)⟩])
       (.keep [0, 1, 2, 7, 8, 9, 10] (.seq (.seq (.ops [⟨some 57, none, .mv (.t 8)⟩,
      ⟨some 58, none, .bin .eql (.t 57) (.c (.int .i64 0))⟩,
      ⟨some 59, none, .mv (.t 58)⟩,
      ⟨some 60, (some (59, true)), .mv (.t 10)⟩,
      ⟨some 61, (some (59, true)), .bin .eql (.t 60) (.c (.int .i64 0))⟩,
      ⟨some 62, none, .pick (.t 59) (.t 61) (.c (.bool false))⟩])
         (.keep [0, 1, 2, 7, 8, 9, 62] (.cond (.t 62)
          (.seq (.ops [⟨some 64, none, .mv (.t 7)⟩,
      ⟨some 65, none, .mv (.t 2)⟩,
      ⟨some 66, none, .call (.f 25) [(.t 64), (.t 65)]⟩,
      ⟨some 63, none, .mv (.t 66)⟩,
      ⟨some 67, none, .ext 0 (.t 63)⟩,
      ⟨some 68, none, .ext 1 (.t 63)⟩,
      ⟨some 11, none, .mv (.t 67)⟩,
      ⟨some 12, none, .mv (.t 68)⟩])
           (.keep [0, 1, 2, 7, 8, 9, 11, 12] (.seq (.ops [⟨some 70, none, .mv (.t 0)⟩,
      ⟨some 71, none, .mv (.t 9)⟩,
      ⟨some 72, none, .call (.f 25) [(.t 70), (.t 71)]⟩,
      ⟨some 69, none, .mv (.t 72)⟩,
      ⟨some 73, none, .ext 0 (.t 69)⟩,
      ⟨some 74, none, .ext 1 (.t 69)⟩,
      ⟨some 13, none, .mv (.t 73)⟩,
      ⟨some 14, none, .mv (.t 74)⟩])
            (.keep [0, 1, 2, 7, 8, 11, 12, 13, 14] (.seq (.ops [⟨some 75, none, .mv (.t 12)⟩,
      ⟨some 76, none, .mv (.t 14)⟩,
      ⟨some 77, none, .bin .neq (.t 75) (.t 76)⟩,
      ⟨some 78, none, .mv (.t 77)⟩,
      ⟨some 79, (some (78, false)), .mv (.t 11)⟩,
      ⟨some 80, (some (78, false)), .mv (.t 13)⟩,
      ⟨some 81, (some (78, false)), .call (.f 20) [(.t 79), (.t 80)]⟩,
      ⟨some 82, (some (78, false)), .not (.t 81)⟩,
      ⟨some 83, none, .pick (.t 78) (.c (.bool true)) (.t 82)⟩])
             (.keep [0, 1, 2, 7, 8, 83] (.cond (.t 83)
              (.seq (.ops [⟨some 6, none, .mv (.c (.bool false))⟩])
               (.ret))
              (.skip))))))))
          (.skip))))
        (J_law03_SetQuote_j1)))))))))))⟩
theorem J_law03_SetQuote_ok : chkFn Try.prog 6 J_law03_SetQuote = true := by kernel_rfl

/- behind: Q -/
def J_law03_SetFor_j1 : ACode :=
  .keep [1, 5, 7] (.seq (.ops [⟨some 84, none, .bsl 25 1 1 [(.int .u16 0)] [(0, 1, (.c (.int .u16 1)))]⟩,
      ⟨some 85, none, .call (.f 39) [(.t 84)]⟩,
      ⟨some 86, none, .bsl 36 1 1 [(.str ⟨#[]⟩)] [(0, 1, (.t 85))]⟩,
      ⟨some 87, none, .mv (.t 1)⟩,
      ⟨some 88, none, .call (.f 25) [(.t 86), (.t 87)]⟩,
      ⟨some 83, none, .mv (.t 88)⟩,
      ⟨some 89, none, .ext 0 (.t 83)⟩,
      ⟨some 90, none, .ext 1 (.t 83)⟩,
      ⟨some 11, none, .mv (.t 89)⟩,
      ⟨some 12, none, .mv (.t 90)⟩])
           (.keep [5, 7, 11, 12] (.seq (.ops [⟨some 92, none, .mv (.t 7)⟩,
      ⟨some 93, none, .mv (.t 11)⟩,
      ⟨some 94, none, .call (.f 23) [(.t 92), (.t 93)]⟩,
      ⟨some 91, none, .mv (.t 94)⟩,
      ⟨some 95, none, .ext 0 (.t 91)⟩,
      ⟨some 96, none, .ext 1 (.t 91)⟩,
      ⟨some 13, none, .mv (.t 95)⟩,
      ⟨some 14, none, .mv (.t 96)⟩])
            (.keep [5, 12, 13, 14] (.seq (.ops [⟨some 97, none, .mv (.t 12)⟩,
      ⟨some 98, none, .bin .eql (.t 97) (.c (.int .i64 0))⟩,
      ⟨some 99, none, .mv (.t 98)⟩,
      ⟨some 100, (some (99, true)), .mv (.t 14)⟩,
      ⟨some 101, (some (99, true)), .bin .eql (.t 100) (.c (.int .i64 0))⟩,
      ⟨some 102, none, .pick (.t 99) (.t 101) (.c (.bool false))⟩,
      ⟨some 103, none, .mv (.t 102)⟩,
      ⟨some 104, (some (103, true)), .mv (.t 13)⟩,
      ⟨some 105, (some (103, true)), .mv (.t 5)⟩,
      ⟨some 106, (some (103, true)), .call (.f 20) [(.t 104), (.t 105)]⟩,
      ⟨some 107, none, .pick (.t 103) (.t 106) (.c (.bool false))⟩,
      ⟨some 4, none, .mv (.t 107)⟩])
             (.ret))))))

/- behind: Q = kloop [1, 5, 7, 67, 68] I n (kblock 0 (kseq P (J_law03_SetFor_j1) Q)) -/
def J_law03_SetFor_j2 : ACode :=
  .seq (.ops [⟨some 69, none, .bin .lss (.t 68) (.t 67)⟩])
              (.keep [1, 5, 7, 67, 68, 69] (.seq (.cond (.t 69)
                (.skip)
                (.exit 0))
               (.keep [1, 5, 7, 67, 68] (.seq (.block 1 (.seq (.ops [⟨some 70, none, .mv (.t 68)⟩,
      ⟨some 9, none, .mv (.t 70)⟩])
                  (.keep [1, 5, 7, 9, 67, 68] (.seq (.draw [1, 5, 7, 10, 67, 68] [⟨some 71, none, .bsl 25 1 1 [(.int .u16 0)] [(0, 1, (.c (.int .u16 1)))]⟩,
      ⟨some 72, none, .call (.f 39) [(.t 71)]⟩,
      ⟨some 73, none, .mv (.t 1)⟩,
      ⟨some 74, none, .mv (.t 9)⟩,
      ⟨some 75, none, .idxa 1 (.t 73) (.t 74)⟩,
      ⟨some 76, none, .load none (.t 75)⟩,
      ⟨some 77, none, .bin .add (.t 72) (.t 76)⟩,
      ⟨some 10, none, .mv (.t 77)⟩])
                   (.keep [1, 5, 7, 10, 67, 68] (.seq (.ops [⟨some 78, none, .mv (.t 5)⟩,
      ⟨some 79, none, .mv (.t 10)⟩,
      ⟨some 80, none, .call (.f 31) [(.t 78), (.t 79)]⟩,
      ⟨some 81, none, .not (.t 80)⟩])
                    (.keep [1, 5, 7, 67, 68, 81] (.cond (.t 81)
                     (.seq (.ops [⟨some 4, none, .mv (.c (.bool false))⟩])
                      (.ret))
                     (.skip)))))))))
                (.keep [1, 5, 7, 67, 68] (.ops [⟨some 82, none, .bin .add (.t 68) (.c (.int .i64 1))⟩,
      ⟨some 68, none, .mv (.t 82)⟩]))))))

/-- attorney/attorneylaw03.SetFor -/
def J_law03_SetFor : AFn :=
  ⟨108, [.t 4], .seq (.ops [⟨some 4, none, .mv (.c (.bool false))⟩])
   (.keep [0, 1] (.seq (.seq (.ops [⟨some 15, none, .call (.f 15) []⟩,
      ⟨some 16, none, .not (.t 15)⟩])
     (.keep [0, 1, 16] (.cond (.t 16)
      (.seq (.ops [⟨some 4, none, .mv (.c (.bool false))⟩])
       (.ret))
      (.skip))))
    (.keep [0, 1] (.seq (.seq (.ops [⟨some 17, none, .mv (.t 0)⟩,
      ⟨some 18, none, .mv (.t 1)⟩,
      ⟨some 19, none, .bsl 23 1 2 [(.lst .clip 0 []), (.lst .clip 0 [])] [(0, 1, (.t 17)), (1, 1, (.t 18))]⟩,
      ⟨some 20, none, .call (.f 16) [(.t 19)]⟩,
      ⟨some 21, none, .mv (.t 20)⟩,
      ⟨some 22, (some (21, false)), .mv (.t 0)⟩,
      ⟨some 23, (some (21, false)), .call (.f 21) [(.t 22)]⟩,
      ⟨some 24, (some (21, false)), .not (.t 23)⟩,
      ⟨some 25, none, .pick (.t 21) (.c (.bool true)) (.t 24)⟩,
      ⟨some 26, none, .mv (.t 25)⟩,
      ⟨some 27, (some (26, false)), .mv (.t 1)⟩,
      ⟨some 28, (some (26, false)), .call (.f 21) [(.t 27)]⟩,
      ⟨some 29, (some (26, false)), .not (.t 28)⟩,
      ⟨some 30, none, .pick (.t 26) (.c (.bool true)) (.t 29)⟩])
      (.keep [0, 1, 30] (.cond (.t 30)
       (.seq (.ops [⟨some 4, none, .mv (.c (.bool true))⟩])
        (.ret))
       (.skip))))
     (.keep [0, 1] (.seq (.ops [⟨some 32, none, .mv (.t 0)⟩,
      ⟨some 33, none, .mv (.t 1)⟩,
      ⟨some 34, none, .call (.f 27) [(.t 32), (.t 33)]⟩,
      ⟨some 31, none, .mv (.t 34)⟩,
      ⟨some 35, none, .ext 0 (.t 31)⟩,
      ⟨some 36, none, .ext 1 (.t 31)⟩,
      ⟨some 5, none, .mv (.t 35)⟩,
      ⟨some 6, none, .mv (.t 36)⟩])
      (.keep [0, 1, 5, 6] (.seq (.ops [⟨some 38, none, .mv (.t 0)⟩,
      ⟨some 39, none, .mv (.t 1)⟩,
      ⟨some 40, none, .call (.f 25) [(.t 38), (.t 39)]⟩,
      ⟨some 37, none, .mv (.t 40)⟩,
      ⟨some 41, none, .ext 0 (.t 37)⟩,
      ⟨some 42, none, .ext 1 (.t 37)⟩,
      ⟨some 7, none, .mv (.t 41)⟩,
      ⟨some 8, none, .mv (.t 42)⟩])
       (.keep [1, 5, 6, 7, 8] (.seq (.seq (.ops [⟨some 43, none, .mv (.t 6)⟩,
      ⟨some 44, none, .bin .neq (.t 43) (.c (.int .i64 0))⟩])
         (.keep [1, 5, 7, 8, 44] (.cond (.t 44)
          (.seq (.ops [⟨some 45, none, .mv (.t 5)⟩,
      ⟨some 46, none, .lenl (.t 45)⟩,
      ⟨some 47, none, .bin .eql (.t 46) (.c (.int .i64 0))⟩,
      ⟨some 4, none, .mv (.t 47)⟩])
           (.ret))
          (.skip))))
        (.keep [1, 5, 7, 8] (.seq (.seq (.ops [⟨some 48, none, .mv (.t 8)⟩,
      ⟨some 49, none, .bin .neq (.t 48) (.c (.int .i64 0))⟩,
      ⟨some 50, none, .mv (.t 49)⟩,
      ⟨some 51, (some (50, false)), .mv (.t 7)⟩,
      ⟨some 52, (some (50, false)), .mv (.t 5)⟩,
      ⟨some 53, (some (50, false)), .call (.f 33) [(.t 51), (.t 52)]⟩,
      ⟨some 54, (some (50, false)), .not (.t 53)⟩,
      ⟨some 55, none, .pick (.t 50) (.c (.bool true)) (.t 54)⟩,
      ⟨some 56, none, .mv (.t 55)⟩,
      ⟨some 57, (some (56, false)), .mv (.t 5)⟩,
      ⟨some 58, (some (56, false)), .lenl (.t 57)⟩,
      ⟨some 59, (some (56, false)), .mv (.t 7)⟩,
      ⟨some 60, (some (56, false)), .lenl (.t 59)⟩,
      ⟨some 61, (some (56, false)), .mv (.t 1)⟩,
      ⟨some 62, (some (56, false)), .lenl (.t 61)⟩,
      ⟨some 63, (some (56, false)), .bin .add (.t 60) (.t 62)⟩,
      ⟨some 64, (some (56, false)), .bin .gtr (.t 58) (.t 63)⟩,
      ⟨some 65, none, .pick (.t 56) (.c (.bool true)) (.t 64)⟩])
          (.keep [1, 5, 7, 65] (.cond (.t 65)
           (.seq (.ops [⟨some 4, none, .mv (.c (.bool false))⟩])
            (.ret))
           (.skip))))
         (.keep [1, 5, 7] (.seq (.seq (.ops [⟨some 66, none, .mv (.t 1)⟩,
      ⟨some 67, none, .lenl (.t 66)⟩,
      ⟨some 68, none, .mv (.c (.int .i64 0))⟩])
           (.keep [1, 5, 7, 67, 68] (.block 0 (.loop [1, 5, 7, 67, 68] (J_law03_SetFor_j2)))))
          (J_law03_SetFor_j1)))))))))))))))⟩
theorem J_law03_SetFor_ok : chkFn Try.prog 7 J_law03_SetFor = true := by kernel_rfl

/- behind: Q -/
def J_law03_SetOrder_j1 : ACode :=
  .keep [0, 7, 8] (.seq (.ops [⟨some 81, none, .mv (.t 8)⟩,
      ⟨some 82, none, .bin .neq (.t 81) (.c (.int .i64 0))⟩,
      ⟨some 83, none, .mv (.t 82)⟩,
      ⟨some 84, (some (83, false)), .mv (.t 7)⟩,
      ⟨some 85, (some (83, false)), .mv (.t 0)⟩,
      ⟨some 86, (some (83, false)), .call (.f 35) [(.t 84), (.t 85)]⟩,
      ⟨some 87, (some (83, false)), .mv (.t 86)⟩,
      ⟨some 88, (some (87, true)), .mv (.t 7)⟩,
      ⟨some 89, (some (87, true)), .call (.f 21) [(.t 88)]⟩,
      ⟨some 90, (some (83, false)), .pick (.t 87) (.t 89) (.c (.bool false))⟩,
      ⟨some 91, none, .pick (.t 83) (.c (.bool true)) (.t 90)⟩,
      ⟨some 4, none, .mv (.t 91)⟩])
            (.ret))

/- behind: Q = kloop [0, 7, 8, 11] I n (kblock 2 (kseq P (J_law03_SetOrder_j1) Q)) -/
def J_law03_SetOrder_j2 : ACode :=
  .seq (.seq (.ops [⟨some 64, none, .mv (.t 11)⟩,
      ⟨some 65, none, .mv (.t 7)⟩,
      ⟨some 66, none, .lenl (.t 65)⟩,
      ⟨some 67, none, .bin .lss (.t 64) (.t 66)⟩])
                (.keep [0, 7, 8, 11, 67] (.cond (.t 67)
                 (.skip)
                 (.exit 2))))
               (.keep [0, 7, 8, 11] (.seq (.block 3 (.seq (.draw [0, 7, 8, 11, 80] [⟨some 70, none, .mv (.t 7)⟩,
      ⟨some 71, none, .mv (.t 11)⟩,
      ⟨some 72, none, .bin .sub (.t 71) (.c (.int .i64 1))⟩,
      ⟨some 73, none, .idxa 1 (.t 70) (.t 72)⟩,
      ⟨some 74, none, .load none (.t 73)⟩,
      ⟨some 75, none, .mv (.t 7)⟩,
      ⟨some 76, none, .mv (.t 11)⟩,
      ⟨some 77, none, .idxa 1 (.t 75) (.t 76)⟩,
      ⟨some 78, none, .load none (.t 77)⟩,
      ⟨some 79, none, .call (.f 40) [(.t 74), (.t 78)]⟩,
      ⟨some 80, none, .not (.t 79)⟩])
                  (.keep [0, 7, 8, 11, 80] (.cond (.t 80)
                   (.seq (.ops [⟨some 4, none, .mv (.c (.bool false))⟩])
                    (.ret))
                   (.skip)))))
                (.keep [0, 7, 8, 11] (.ops [⟨some 68, none, .mv (.t 11)⟩,
      ⟨some 69, none, .bin .add (.t 68) (.c (.int .i64 1))⟩,
      ⟨some 11, none, .mv (.t 69)⟩]))))

/- behind: Q -/
def J_law03_SetOrder_j3 : ACode :=
  .keep [0, 5] (.seq (.ops [⟨some 46, none, .mv (.t 0)⟩,
      ⟨some 47, none, .call (.f 18) [(.t 46)]⟩,
      ⟨some 45, none, .mv (.t 47)⟩,
      ⟨some 48, none, .ext 0 (.t 45)⟩,
      ⟨some 49, none, .ext 1 (.t 45)⟩,
      ⟨some 7, none, .mv (.t 48)⟩,
      ⟨some 8, none, .mv (.t 49)⟩])
        (.keep [0, 5, 7, 8] (.seq (.ops [⟨some 51, none, .mv (.t 5)⟩,
      ⟨some 52, none, .call (.f 18) [(.t 51)]⟩,
      ⟨some 50, none, .mv (.t 52)⟩,
      ⟨some 53, none, .ext 0 (.t 50)⟩,
      ⟨some 54, none, .ext 1 (.t 50)⟩,
      ⟨some 9, none, .mv (.t 53)⟩,
      ⟨some 10, none, .mv (.t 54)⟩])
         (.keep [0, 7, 8, 9, 10] (.seq (.seq (.ops [⟨some 55, none, .mv (.t 8)⟩,
      ⟨some 56, none, .mv (.t 10)⟩,
      ⟨some 57, none, .bin .neq (.t 55) (.t 56)⟩,
      ⟨some 58, none, .mv (.t 57)⟩,
      ⟨some 59, (some (58, false)), .mv (.t 7)⟩,
      ⟨some 60, (some (58, false)), .mv (.t 9)⟩,
      ⟨some 61, (some (58, false)), .call (.f 20) [(.t 59), (.t 60)]⟩,
      ⟨some 62, (some (58, false)), .not (.t 61)⟩,
      ⟨some 63, none, .pick (.t 58) (.c (.bool true)) (.t 62)⟩])
           (.keep [0, 7, 8, 63] (.cond (.t 63)
            (.seq (.ops [⟨some 4, none, .mv (.c (.bool false))⟩])
             (.ret))
            (.skip))))
          (.keep [0, 7, 8] (.seq (.seq (.ops [⟨some 11, none, .mv (.c (.int .i64 1))⟩])
            (.keep [0, 7, 8, 11] (.block 2 (.loop [0, 7, 8, 11] (J_law03_SetOrder_j2)))))
           (J_law03_SetOrder_j1))))))))

/- behind: Q = kloop [0, 1, 5, 19, 20] I n (kblock 0 (kseq P (J_law03_SetOrder_j3) Q)) -/
def J_law03_SetOrder_j4 : ACode :=
  .seq (.ops [⟨some 21, none, .bin .lss (.t 20) (.t 19)⟩])
           (.keep [0, 1, 5, 19, 20, 21] (.seq (.cond (.t 21)
             (.skip)
             (.exit 0))
            (.keep [0, 1, 5, 19, 20] (.seq (.block 1 (.seq (.ops [⟨some 22, none, .mv (.t 20)⟩,
      ⟨some 6, none, .mv (.t 22)⟩])
               (.keep [0, 1, 5, 6, 19, 20] (.draw [0, 1, 5, 19, 20] [⟨some 23, none, .mvo 5⟩,
      ⟨some 24, none, .mv (.t 0)⟩,
      ⟨some 25, none, .mv (.t 6)⟩,
      ⟨some 26, none, .mv (.t 1)⟩,
      ⟨some 27, none, .conv .i64 (.t 26)⟩,
      ⟨some 28, none, .bin .add (.t 25) (.t 27)⟩,
      ⟨some 29, none, .mv (.t 0)⟩,
      ⟨some 30, none, .lenl (.t 29)⟩,
      ⟨some 31, none, .bin .rem (.t 28) (.t 30)⟩,
      ⟨some 32, none, .idxa 1 (.t 24) (.t 31)⟩,
      ⟨some 33, none, .load none (.t 32)⟩,
      ⟨some 34, none, .mv (.t 0)⟩,
      ⟨some 35, none, .mv (.t 0)⟩,
      ⟨some 36, none, .lenl (.t 35)⟩,
      ⟨some 37, none, .bin .sub (.t 36) (.c (.int .i64 1))⟩,
      ⟨some 38, none, .mv (.t 6)⟩,
      ⟨some 39, none, .bin .sub (.t 37) (.t 38)⟩,
      ⟨some 40, none, .idxa 1 (.t 34) (.t 39)⟩,
      ⟨some 41, none, .load none (.t 40)⟩,
      ⟨some 42, none, .bsl 36 1 2 [(.str ⟨#[]⟩), (.str ⟨#[]⟩)] [(0, 1, (.t 33)), (1, 1, (.t 41))]⟩,
      ⟨some 43, none, .appo 36 1 16 23 (.t 42)⟩,
      ⟨some 5, none, .mvo 43⟩]))))
             (.keep [0, 1, 5, 19, 20] (.ops [⟨some 44, none, .bin .add (.t 20) (.c (.int .i64 1))⟩,
      ⟨some 20, none, .mv (.t 44)⟩]))))))

/-- attorney/attorneylaw03.SetOrder -/
def J_law03_SetOrder : AFn :=
  ⟨92, [.t 4], .seq (.ops [⟨some 4, none, .mv (.c (.bool false))⟩])
   (.keep [0, 1] (.seq (.seq (.ops [⟨some 12, none, .call (.f 15) []⟩,
      ⟨some 13, none, .not (.t 12)⟩])
     (.keep [0, 1, 13] (.cond (.t 13)
      (.seq (.ops [⟨some 4, none, .mv (.c (.bool false))⟩])
       (.ret))
      (.skip))))
    (.keep [0, 1] (.seq (.seq (.ops [⟨some 14, none, .mv (.t 0)⟩,
      ⟨some 15, none, .bsl 23 1 1 [(.lst .clip 0 [])] [(0, 1, (.t 14))]⟩,
      ⟨some 16, none, .call (.f 16) [(.t 15)]⟩])
      (.keep [0, 1, 16] (.cond (.t 16)
       (.seq (.ops [⟨some 4, none, .mv (.c (.bool true))⟩])
        (.ret))
       (.skip))))
     (.keep [0, 1] (.seq (.ops [⟨some 17, none, .bsl 36 1 0 [] []⟩,
      ⟨some 5, none, .mvo 17⟩])
      (.keep [0, 1, 5] (.seq (.seq (.ops [⟨some 18, none, .mv (.t 0)⟩,
      ⟨some 19, none, .lenl (.t 18)⟩,
      ⟨some 20, none, .mv (.c (.int .i64 0))⟩])
        (.keep [0, 1, 5, 19, 20] (.block 0 (.loop [0, 1, 5, 19, 20] (J_law03_SetOrder_j4)))))
       (J_law03_SetOrder_j3)))))))))⟩
theorem J_law03_SetOrder_ok : chkFn Try.prog 8 J_law03_SetOrder = true := by kernel_rfl

/-- attorney/attorneylaw03.awake -/
def J_law03_awake : AFn :=
  ⟨148, [.t 0], .seq (.ops [⟨some 0, none, .mv (.c (.bool false))⟩])
   (.keep [] (.seq (.ops [⟨some 16, none, .bsl 25 1 1 [(.int .u16 0)] [(0, 1, (.c (.int .u16 8193)))]⟩,
      ⟨some 17, none, .call (.f 39) [(.t 16)]⟩,
      ⟨some 18, none, .bsl 25 1 1 [(.int .u16 0)] [(0, 1, (.c (.int .u16 8194)))]⟩,
      ⟨some 19, none, .call (.f 39) [(.t 18)]⟩,
      ⟨some 1, none, .mv (.t 17)⟩,
      ⟨some 2, none, .mv (.t 19)⟩])
    (.keep [1, 2] (.seq (.ops [⟨some 20, none, .mv (.t 1)⟩,
      ⟨some 21, none, .mv (.t 2)⟩,
      ⟨some 22, none, .bin .add (.t 20) (.t 21)⟩,
      ⟨some 3, none, .mv (.t 22)⟩])
     (.keep [1, 2, 3] (.seq (.ops [⟨some 24, none, .mv (.t 3)⟩,
      ⟨some 25, none, .mv (.t 1)⟩,
      ⟨some 26, none, .mv (.t 1)⟩,
      ⟨some 27, none, .bsl 36 1 3 [(.str ⟨#[]⟩), (.str ⟨#[]⟩), (.str ⟨#[]⟩)] [(0, 1, (.t 24)), (1, 1, (.t 25)), (2, 1, (.t 26))]⟩,
      ⟨some 28, none, .call (.f 18) [(.t 27)]⟩,
      ⟨some 23, none, .mv (.t 28)⟩,
      ⟨some 29, none, .ext 0 (.t 23)⟩,
      ⟨some 30, none, .ext 1 (.t 23)⟩,
      ⟨some 4, none, .mv (.t 29)⟩,
      ⟨some 5, none, .mv (.t 30)⟩])
      (.keep [1, 2, 3, 4, 5] (.seq (.ops [⟨some 32, none, .mv (.t 1)⟩,
      ⟨some 33, none, .mv (.t 2)⟩,
      ⟨some 34, none, .bsl 36 1 2 [(.str ⟨#[]⟩), (.str ⟨#[]⟩)] [(0, 1, (.t 32)), (1, 1, (.t 33))]⟩,
      ⟨some 35, none, .mv (.t 2)⟩,
      ⟨some 36, none, .bsl 36 1 1 [(.str ⟨#[]⟩)] [(0, 1, (.t 35))]⟩,
      ⟨some 37, none, .call (.f 25) [(.t 34), (.t 36)]⟩,
      ⟨some 31, none, .mv (.t 37)⟩,
      ⟨some 38, none, .ext 0 (.t 31)⟩,
      ⟨some 39, none, .ext 1 (.t 31)⟩,
      ⟨some 6, none, .mv (.t 38)⟩,
      ⟨some 7, none, .mv (.t 39)⟩])
       (.keep [1, 2, 3, 4, 5, 6, 7] (.seq (.ops [⟨some 41, none, .mv (.t 1)⟩,
      ⟨some 42, none, .bsl 36 1 1 [(.str ⟨#[]⟩)] [(0, 1, (.t 41))]⟩,
      ⟨some 43, none, .mv (.t 2)⟩,
      ⟨some 44, none, .bsl 36 1 1 [(.str ⟨#[]⟩)] [(0, 1, (.t 43))]⟩,
      ⟨some 45, none, .call (.f 27) [(.t 42), (.t 44)]⟩,
      ⟨some 40, none, .mv (.t 45)⟩,
      ⟨some 46, none, .ext 0 (.t 40)⟩,
      ⟨some 47, none, .ext 1 (.t 40)⟩,
      ⟨some 8, none, .mv (.t 46)⟩,
      ⟨some 9, none, .mv (.t 47)⟩])
        (.keep [1, 2, 3, 4, 5, 6, 7, 8, 9] (.seq (.ops [⟨some 49, none, .mv (.t 4)⟩,
      ⟨some 50, none, .call (.f 29) [(.t 49), (.c (.int .u16 8193))]⟩,
      ⟨some 48, none, .mv (.t 50)⟩,
      ⟨some 51, none, .ext 0 (.t 48)⟩,
      ⟨some 52, none, .ext 1 (.t 48)⟩,
      ⟨some 10, none, .mv (.t 51)⟩,
      ⟨some 11, none, .mv (.t 52)⟩])
         (.keep [1, 2, 3, 4, 5, 6, 7, 8, 9, 11] (.seq (.ops [⟨some 54, none, .mv (.t 1)⟩,
      ⟨some 55, none, .bsl 36 1 1 [(.str ⟨#[]⟩)] [(0, 1, (.t 54))]⟩,
      ⟨some 56, none, .mv (.t 2)⟩,
      ⟨some 57, none, .bsl 36 1 1 [(.str ⟨#[]⟩)] [(0, 1, (.t 56))]⟩,
      ⟨some 58, none, .call (.f 23) [(.t 55), (.t 57)]⟩,
      ⟨some 53, none, .mv (.t 58)⟩,
      ⟨some 59, none, .ext 0 (.t 53)⟩,
      ⟨some 60, none, .ext 1 (.t 53)⟩,
      ⟨some 12, none, .mv (.t 59)⟩,
      ⟨some 13, none, .mv (.t 60)⟩])
          (.keep [1, 2, 3, 4, 5, 6, 7, 8, 9, 11, 12, 13] (.seq (.ops [⟨some 62, none, .call (.f 18) [(.c (.lst .clip 0 []))]⟩,
      ⟨some 61, none, .mv (.t 62)⟩,
      ⟨some 63, none, .ext 0 (.t 61)⟩,
      ⟨some 64, none, .ext 1 (.t 61)⟩,
      ⟨some 14, none, .mv (.t 63)⟩,
      ⟨some 15, none, .mv (.t 64)⟩])
           (.keep [1, 2, 3, 4, 5, 6, 7, 8, 9, 11, 12, 13, 15] (.seq (.ops [⟨some 65, none, .mv (.t 4)⟩,
      ⟨some 66, none, .mv (.t 1)⟩,
      ⟨some 67, none, .mv (.t 3)⟩,
      ⟨some 68, none, .bsl 36 1 2 [(.str ⟨#[]⟩), (.str ⟨#[]⟩)] [(0, 1, (.t 66)), (1, 1, (.t 67))]⟩,
      ⟨some 69, none, .call (.f 20) [(.t 65), (.t 68)]⟩,
      ⟨some 70, none, .mv (.t 69)⟩,
      ⟨some 71, (some (70, true)), .mv (.t 5)⟩,
      ⟨some 72, (some (70, true)), .bin .eql (.t 71) (.c (.int .i64 0))⟩,
      ⟨some 73, none, .pick (.t 70) (.t 72) (.c (.bool false))⟩,
      ⟨some 74, none, .mv (.t 73)⟩,
      ⟨some 75, (some (74, true)), .mv (.t 6)⟩,
      ⟨some 76, (some (74, true)), .mv (.t 3)⟩,
      ⟨some 77, (some (74, true)), .mv (.t 2)⟩,
      ⟨some 78, (some (74, true)), .mv (.t 2)⟩,
      ⟨some 79, (some (74, true)), .bin .add (.t 77) (.t 78)⟩,
      ⟨some 80, (some (74, true)), .bsl 36 1 2 [(.str ⟨#[]⟩), (.str ⟨#[]⟩)] [(0, 1, (.t 76)), (1, 1, (.t 79))]⟩,
      ⟨some 81, (some (74, true)), .call (.f 20) [(.t 75), (.t 80)]⟩,
      ⟨some 82, none, .pick (.t 74) (.t 81) (.c (.bool false))⟩,
      ⟨some 83, none, .mv (.t 82)⟩,
      ⟨some 84, (some (83, true)), .mv (.t 7)⟩,
      ⟨some 85, (some (83, true)), .bin .eql (.t 84) (.c (.int .i64 0))⟩,
      ⟨some 86, none, .pick (.t 83) (.t 85) (.c (.bool false))⟩,
      ⟨some 87, none, .mv (.t 86)⟩,
      ⟨some 88, (some (87, true)), .mv (.t 8)⟩,
      ⟨some 89, (some (87, true)), .bsl 25 1 2 [(.int .u16 0), (.int .u16 0)] [(0, 1, (.c (.int .u16 1))), (1, 1, (.c (.int .u16 8194)))]⟩,
      ⟨some 90, (some (87, true)), .call (.f 39) [(.t 89)]⟩,
      ⟨some 91, (some (87, true)), .mv (.t 3)⟩,
      ⟨some 92, (some (87, true)), .bsl 36 1 2 [(.str ⟨#[]⟩), (.str ⟨#[]⟩)] [(0, 1, (.t 90)), (1, 1, (.t 91))]⟩,
      ⟨some 93, (some (87, true)), .call (.f 20) [(.t 88), (.t 92)]⟩,
      ⟨some 94, none, .pick (.t 87) (.t 93) (.c (.bool false))⟩,
      ⟨some 95, none, .mv (.t 94)⟩,
      ⟨some 96, (some (95, true)), .mv (.t 9)⟩,
      ⟨some 97, (some (95, true)), .bin .eql (.t 96) (.c (.int .i64 0))⟩,
      ⟨some 98, none, .pick (.t 95) (.t 97) (.c (.bool false))⟩,
      ⟨some 99, none, .mv (.t 98)⟩,
      ⟨some 100, (some (99, true)), .mv (.t 11)⟩,
      ⟨some 101, (some (99, true)), .bin .eql (.t 100) (.c (.int .i64 1))⟩,
      ⟨some 102, none, .pick (.t 99) (.t 101) (.c (.bool false))⟩,
      ⟨some 103, none, .mv (.t 102)⟩,
      ⟨some 104, (some (103, true)), .mv (.t 12)⟩,
      ⟨some 105, (some (103, true)), .mv (.t 1)⟩,
      ⟨some 106, (some (103, true)), .mv (.t 2)⟩,
      ⟨some 107, (some (103, true)), .bsl 36 1 2 [(.str ⟨#[]⟩), (.str ⟨#[]⟩)] [(0, 1, (.t 105)), (1, 1, (.t 106))]⟩,
      ⟨some 108, (some (103, true)), .call (.f 20) [(.t 104), (.t 107)]⟩,
      ⟨some 109, none, .pick (.t 103) (.t 108) (.c (.bool false))⟩,
      ⟨some 110, none, .mv (.t 109)⟩,
      ⟨some 111, (some (110, true)), .mv (.t 13)⟩,
      ⟨some 112, (some (110, true)), .bin .eql (.t 111) (.c (.int .i64 0))⟩,
      ⟨some 113, none, .pick (.t 110) (.t 112) (.c (.bool false))⟩,
      ⟨some 114, none, .mv (.t 113)⟩,
      ⟨some 115, (some (114, true)), .mv (.t 15)⟩,
      ⟨some 116, (some (114, true)), .bin .eql (.t 115) (.c (.int .i64 3))⟩,
      ⟨some 117, none, .pick (.t 114) (.t 116) (.c (.bool false))⟩,
      ⟨some 118, none, .mv (.t 117)⟩,
      ⟨some 119, (some (118, true)), .mv (.t 4)⟩,
      ⟨some 120, (some (118, true)), .call (.f 21) [(.t 119)]⟩,
      ⟨some 121, none, .pick (.t 118) (.t 120) (.c (.bool false))⟩,
      ⟨some 122, none, .mv (.t 121)⟩,
      ⟨some 123, (some (122, true)), .call (.f 21) [(.c (.lst .clip 0 []))]⟩,
      ⟨some 124, (some (122, true)), .not (.t 123)⟩,
      ⟨some 125, none, .pick (.t 122) (.t 124) (.c (.bool false))⟩,
      ⟨some 126, none, .mv (.t 125)⟩,
      ⟨some 127, (some (126, true)), .mv (.t 4)⟩,
      ⟨some 128, (some (126, true)), .mv (.t 3)⟩,
      ⟨some 129, (some (126, true)), .call (.f 31) [(.t 127), (.t 128)]⟩,
      ⟨some 130, none, .pick (.t 126) (.t 129) (.c (.bool false))⟩,
      ⟨some 131, none, .mv (.t 130)⟩,
      ⟨some 132, (some (131, true)), .mv (.t 1)⟩,
      ⟨some 133, (some (131, true)), .bsl 36 1 1 [(.str ⟨#[]⟩)] [(0, 1, (.t 132))]⟩,
      ⟨some 134, (some (131, true)), .mv (.t 4)⟩,
      ⟨some 135, (some (131, true)), .call (.f 33) [(.t 133), (.t 134)]⟩,
      ⟨some 136, none, .pick (.t 131) (.t 135) (.c (.bool false))⟩,
      ⟨some 137, none, .mv (.t 136)⟩,
      ⟨some 138, (some (137, true)), .mv (.t 4)⟩,
      ⟨some 139, (some (137, true)), .mv (.t 6)⟩,
      ⟨some 140, (some (137, true)), .call (.f 35) [(.t 138), (.t 139)]⟩,
      ⟨some 141, (some (137, true)), .not (.t 140)⟩,
      ⟨some 142, none, .pick (.t 137) (.t 141) (.c (.bool false))⟩,
      ⟨some 143, none, .mv (.t 142)⟩,
      ⟨some 144, (some (143, true)), .mv (.t 4)⟩,
      ⟨some 145, (some (143, true)), .call (.f 37) [(.t 144)]⟩,
      ⟨some 146, (some (143, true)), .bin .eql (.t 145) (.c (.int .i64 2))⟩,
      ⟨some 147, none, .pick (.t 143) (.t 146) (.c (.bool false))⟩,
      ⟨some 0, none, .mv (.t 147)⟩])
            (.ret)))))))))))))))))))⟩
theorem J_law03_awake_ok : chkFn Try.prog 15 J_law03_awake = true := by kernel_rfl

/- behind: Q -/
def J_law03_large_j1 : ACode :=
  .keep [] (.seq (.ops [⟨some 2, none, .mv (.c (.bool false))⟩])
     (.ret))

/- behind: Q -/
def J_law03_large_j2 : ACode :=
  .keep [0, 6, 7] (.ops [⟨some 34, none, .bin .add (.t 7) (.c (.int .i64 1))⟩,
      ⟨some 7, none, .mv (.t 34)⟩])

/- behind: Q = kloop [0, 3, 6, 7, 20, 21] I n (kblock 2 (kblock 1 (kseq P (J_law03_large_j2) Q))) -/
def J_law03_large_j3 : ACode :=
  .seq (.ops [⟨some 22, none, .bin .lss (.t 21) (.t 20)⟩])
                 (.keep [0, 3, 6, 7, 20, 21, 22] (.seq (.cond (.t 22)
                   (.skip)
                   (.exit 2))
                  (.keep [0, 3, 6, 7, 20, 21] (.seq (.block 3 (.seq (.ops [⟨some 23, none, .mv (.t 21)⟩,
      ⟨some 4, none, .mv (.t 23)⟩])
                     (.keep [0, 3, 4, 6, 7, 20, 21] (.seq (.ops [⟨some 24, none, .mv (.t 0)⟩,
      ⟨some 25, none, .mv (.t 3)⟩,
      ⟨some 26, none, .idxa 1 (.t 24) (.t 25)⟩,
      ⟨some 27, none, .load none (.t 26)⟩,
      ⟨some 28, none, .mv (.t 4)⟩,
      ⟨some 29, none, .idxa 1 (.t 27) (.t 28)⟩,
      ⟨some 30, none, .load none (.t 29)⟩,
      ⟨some 31, none, .lens (.t 30)⟩,
      ⟨some 32, none, .bin .gtr (.t 31) (.c (.int .i64 100))⟩])
                      (.keep [0, 3, 6, 7, 20, 21, 32] (.cond (.t 32)
                       (.seq (.ops [⟨some 2, none, .mv (.c (.bool true))⟩])
                        (.ret))
                       (.skip)))))))
                   (.keep [0, 3, 6, 7, 20, 21] (.ops [⟨some 33, none, .bin .add (.t 21) (.c (.int .i64 1))⟩,
      ⟨some 21, none, .mv (.t 33)⟩]))))))

/- behind: Q = kloop [0, 6, 7] I n (kblock 0 (kseq P (J_law03_large_j1) Q)) -/
def J_law03_large_j4 : ACode :=
  .seq (.ops [⟨some 8, none, .bin .lss (.t 7) (.t 6)⟩])
        (.keep [0, 6, 7, 8] (.seq (.cond (.t 8)
          (.skip)
          (.exit 0))
         (.keep [0, 6, 7] (.seq (.block 1 (.seq (.ops [⟨some 9, none, .mv (.t 7)⟩,
      ⟨some 3, none, .mv (.t 9)⟩])
            (.keep [0, 3, 6, 7] (.seq (.seq (.ops [⟨some 10, none, .mv (.t 0)⟩,
      ⟨some 11, none, .mv (.t 3)⟩,
      ⟨some 12, none, .idxa 1 (.t 10) (.t 11)⟩,
      ⟨some 13, none, .load none (.t 12)⟩,
      ⟨some 14, none, .lenl (.t 13)⟩,
      ⟨some 15, none, .bin .gtr (.t 14) (.c (.int .i64 60))⟩])
              (.keep [0, 3, 6, 7, 15] (.cond (.t 15)
               (.seq (.ops [⟨some 2, none, .mv (.c (.bool true))⟩])
                (.ret))
               (.skip))))
             (.keep [0, 3, 6, 7] (.seq (.ops [⟨some 16, none, .mv (.t 0)⟩,
      ⟨some 17, none, .mv (.t 3)⟩,
      ⟨some 18, none, .idxa 1 (.t 16) (.t 17)⟩,
      ⟨some 19, none, .load none (.t 18)⟩,
      ⟨some 20, none, .lenl (.t 19)⟩,
      ⟨some 21, none, .mv (.c (.int .i64 0))⟩])
              (.keep [0, 3, 6, 7, 20, 21] (.block 2 (.loop [0, 3, 6, 7, 20, 21] (J_law03_large_j3))))))))))
          (J_law03_large_j2)))))

/-- attorney/attorneylaw03.large -/
def J_law03_large : AFn :=
  ⟨35, [.t 2], .seq (.ops [⟨some 2, none, .mv (.c (.bool false))⟩])
   (.keep [0] (.seq (.seq (.ops [⟨some 5, none, .mv (.t 0)⟩,
      ⟨some 6, none, .lenl (.t 5)⟩,
      ⟨some 7, none, .mv (.c (.int .i64 0))⟩])
     (.keep [0, 6, 7] (.block 0 (.loop [0, 6, 7] (J_law03_large_j4)))))
    (J_law03_large_j1)))⟩
theorem J_law03_large_ok : chkFn Try.prog 16 J_law03_large = true := by kernel_rfl

/-- attorney/attorneylaw03.own -/
def J_law03_own : AFn :=
  ⟨6, [.t 2], .seq (.ops [⟨some 2, none, .mv (.c (.lst .clip 0 []))⟩])
   (.keep [0] (.seq (.ops [⟨some 3, none, .bsl 36 1 0 [] []⟩,
      ⟨some 4, none, .mv (.t 0)⟩,
      ⟨some 5, none, .appo 36 1 16 3 (.t 4)⟩,
      ⟨some 2, none, .mvo 5⟩])
    (.ret)))⟩
theorem J_law03_own_ok : chkFn Try.prog 17 J_law03_own = true := by kernel_rfl

/- behind: Q -/
def J_set_Of_j1 : ACode :=
  .keep [0] (.seq (.ops [⟨some 17, none, .mv (.t 0)⟩,
      ⟨some 18, none, .call (.f 57) [(.t 17)]⟩,
      ⟨some 6, none, .mv (.t 18)⟩])
     (.keep [6] (.seq (.ops [⟨some 19, none, .mv (.t 6)⟩,
      ⟨some 20, none, .call (.f 58) [(.t 19), (.f 59)]⟩])
      (.keep [6] (.seq (.ops [⟨some 21, none, .mv (.t 6)⟩,
      ⟨some 22, none, .call (.f 60) [(.t 21)]⟩,
      ⟨some 6, none, .mv (.t 22)⟩])
       (.keep [6] (.seq (.seq (.ops [⟨some 23, none, .mv (.t 6)⟩,
      ⟨some 24, none, .lenl (.t 23)⟩,
      ⟨some 25, none, .bin .lss (.t 24) (.c (.int .i64 1))⟩,
      ⟨some 26, none, .mv (.t 25)⟩,
      ⟨some 27, (some (26, false)), .mv (.t 6)⟩,
      ⟨some 28, (some (26, false)), .lenl (.t 27)⟩,
      ⟨some 29, (some (26, false)), .bin .gtr (.t 28) (.c (.int .i64 16))⟩,
      ⟨some 30, none, .pick (.t 26) (.c (.bool true)) (.t 29)⟩])
         (.keep [6, 30] (.cond (.t 30)
          (.seq (.ops [⟨some 2, none, .mv (.c (.lst .clip 0 []))⟩,
      ⟨some 3, none, .mv (.c (.int .i64 3))⟩])
           (.ret))
          (.skip))))
        (.keep [6] (.seq (.ops [⟨some 31, none, .mv (.t 6)⟩,
      ⟨some 32, none, .call (.f 61) [(.t 31)]⟩,
      ⟨some 2, none, .mv (.t 32)⟩,
      ⟨some 3, none, .mv (.c (.int .i64 0))⟩])
         (.ret))))))))))

/- behind: Q = kloop [0, 7, 8, 9] I n (kblock 0 (kseq P (J_set_Of_j1) Q)) -/
def J_set_Of_j2 : ACode :=
  .seq (.ops [⟨some 10, none, .bin .lss (.t 9) (.t 8)⟩])
        (.keep [0, 7, 8, 9, 10] (.seq (.cond (.t 10)
          (.skip)
          (.exit 0))
         (.keep [0, 7, 8, 9] (.seq (.block 1 (.seq (.ops [⟨some 11, none, .idxa 1 (.t 7) (.t 9)⟩,
      ⟨some 12, none, .load none (.t 11)⟩,
      ⟨some 5, none, .mv (.t 12)⟩])
            (.keep [0, 5, 7, 8, 9] (.seq (.ops [⟨some 13, none, .mv (.t 5)⟩,
      ⟨some 14, none, .call (.f 56) [(.t 13)]⟩,
      ⟨some 15, none, .not (.t 14)⟩])
             (.keep [0, 7, 8, 9, 15] (.cond (.t 15)
              (.seq (.ops [⟨some 2, none, .mv (.c (.lst .clip 0 []))⟩,
      ⟨some 3, none, .mv (.c (.int .i64 2))⟩])
               (.ret))
              (.skip)))))))
          (.keep [0, 7, 8, 9] (.ops [⟨some 16, none, .bin .add (.t 9) (.c (.int .i64 1))⟩,
      ⟨some 9, none, .mv (.t 16)⟩]))))))

/-- attorney/set.Of -/
def J_set_Of : AFn :=
  ⟨33, [.t 2, .t 3], .seq (.ops [⟨some 2, none, .mv (.c (.lst .clip 0 []))⟩,
      ⟨some 3, none, .mv (.c (.int .i64 0))⟩])
   (.keep [0] (.seq (.seq (.ops [⟨some 7, none, .mv (.t 0)⟩,
      ⟨some 8, none, .lenl (.t 7)⟩,
      ⟨some 9, none, .mv (.c (.int .i64 0))⟩])
     (.keep [0, 7, 8, 9] (.block 0 (.loop [0, 7, 8, 9] (J_set_Of_j2)))))
    (J_set_Of_j1)))⟩
theorem J_set_Of_ok : chkFn Try.prog 18 J_set_Of = true := by kernel_rfl

/- behind: Q -/
def J_ref03_Of_j1 : ACode :=
  .keep [0] (.seq (.ops [⟨some 17, none, .mv (.t 0)⟩,
      ⟨some 18, none, .call (.f 64) [(.t 17)]⟩,
      ⟨some 19, none, .call (.f 63) [(.t 18)]⟩,
      ⟨some 20, none, .ext 0 (.t 19)⟩,
      ⟨some 21, none, .ext 1 (.t 19)⟩,
      ⟨some 2, none, .mv (.t 20)⟩,
      ⟨some 3, none, .mv (.t 21)⟩])
     (.ret))

/- behind: Q = kloop [0, 4] I n (kblock 0 (kseq P (J_ref03_Of_j1) Q)) -/
def J_ref03_Of_j2 : ACode :=
  .seq (.seq (.ops [⟨some 5, none, .mv (.t 4)⟩,
      ⟨some 6, none, .mv (.t 0)⟩,
      ⟨some 7, none, .lenl (.t 6)⟩,
      ⟨some 8, none, .bin .lss (.t 5) (.t 7)⟩])
         (.keep [0, 4, 8] (.cond (.t 8)
          (.skip)
          (.exit 0))))
        (.keep [0, 4] (.seq (.block 1 (.seq (.ops [⟨some 11, none, .mv (.t 0)⟩,
      ⟨some 12, none, .mv (.t 4)⟩,
      ⟨some 13, none, .idxa 1 (.t 11) (.t 12)⟩,
      ⟨some 14, none, .load none (.t 13)⟩,
      ⟨some 15, none, .call (.f 62) [(.t 14)]⟩,
      ⟨some 16, none, .not (.t 15)⟩])
           (.keep [0, 4, 16] (.cond (.t 16)
            (.seq (.ops [⟨some 2, none, .mv (.c (.lst .clip 0 []))⟩,
      ⟨some 3, none, .mv (.c (.int .i64 2))⟩])
             (.ret))
            (.skip)))))
         (.keep [0, 4] (.ops [⟨some 9, none, .mv (.t 4)⟩,
      ⟨some 10, none, .bin .add (.t 9) (.c (.int .i64 1))⟩,
      ⟨some 4, none, .mv (.t 10)⟩]))))

/-- attorney/attorneyref03.Of -/
def J_ref03_Of : AFn :=
  ⟨22, [.t 2, .t 3], .seq (.ops [⟨some 2, none, .mv (.c (.lst .clip 0 []))⟩,
      ⟨some 3, none, .mv (.c (.int .i64 0))⟩])
   (.keep [0] (.seq (.seq (.ops [⟨some 4, none, .mv (.c (.int .i64 0))⟩])
     (.keep [0, 4] (.block 0 (.loop [0, 4] (J_ref03_Of_j2)))))
    (J_ref03_Of_j1)))⟩
theorem J_ref03_Of_ok : chkFn Try.prog 19 J_ref03_Of = true := by kernel_rfl

/- behind: Q -/
def J_ref03_Equal_j1 : ACode :=
  .keep [] (.seq (.ops [⟨some 4, none, .mv (.c (.bool true))⟩])
      (.ret))

/- behind: Q = kloop [0, 1, 5] I n (kblock 0 (kseq P (J_ref03_Equal_j1) Q)) -/
def J_ref03_Equal_j2 : ACode :=
  .seq (.seq (.ops [⟨some 11, none, .mv (.t 5)⟩,
      ⟨some 12, none, .mv (.t 0)⟩,
      ⟨some 13, none, .lenl (.t 12)⟩,
      ⟨some 14, none, .bin .lss (.t 11) (.t 13)⟩])
          (.keep [0, 1, 5, 14] (.cond (.t 14)
           (.skip)
           (.exit 0))))
         (.keep [0, 1, 5] (.seq (.block 1 (.seq (.draw [0, 1, 5, 25] [⟨some 17, none, .mv (.t 0)⟩,
      ⟨some 18, none, .mv (.t 5)⟩,
      ⟨some 19, none, .idxa 1 (.t 17) (.t 18)⟩,
      ⟨some 20, none, .load none (.t 19)⟩,
      ⟨some 21, none, .mv (.t 1)⟩,
      ⟨some 22, none, .mv (.t 5)⟩,
      ⟨some 23, none, .idxa 1 (.t 21) (.t 22)⟩,
      ⟨some 24, none, .load none (.t 23)⟩,
      ⟨some 25, none, .bin .neq (.t 20) (.t 24)⟩])
            (.keep [0, 1, 5, 25] (.cond (.t 25)
             (.seq (.ops [⟨some 4, none, .mv (.c (.bool false))⟩])
              (.ret))
             (.skip)))))
          (.keep [0, 1, 5] (.ops [⟨some 15, none, .mv (.t 5)⟩,
      ⟨some 16, none, .bin .add (.t 15) (.c (.int .i64 1))⟩,
      ⟨some 5, none, .mv (.t 16)⟩]))))

/-- attorney/attorneyref03.Equal -/
def J_ref03_Equal : AFn :=
  ⟨26, [.t 4], .seq (.ops [⟨some 4, none, .mv (.c (.bool false))⟩])
   (.keep [0, 1] (.seq (.seq (.ops [⟨some 6, none, .mv (.t 0)⟩,
      ⟨some 7, none, .lenl (.t 6)⟩,
      ⟨some 8, none, .mv (.t 1)⟩,
      ⟨some 9, none, .lenl (.t 8)⟩,
      ⟨some 10, none, .bin .neq (.t 7) (.t 9)⟩])
     (.keep [0, 1, 10] (.cond (.t 10)
      (.seq (.ops [⟨some 4, none, .mv (.c (.bool false))⟩])
       (.ret))
      (.skip))))
    (.keep [0, 1] (.seq (.seq (.ops [⟨some 5, none, .mv (.c (.int .i64 0))⟩])
      (.keep [0, 1, 5] (.block 0 (.loop [0, 1, 5] (J_ref03_Equal_j2)))))
     (J_ref03_Equal_j1)))))⟩
theorem J_ref03_Equal_ok : chkFn Try.prog 20 J_ref03_Equal = true := by kernel_rfl

/- behind: Q -/
def J_set_May_j1 : ACode :=
  .keep [] (.seq (.ops [⟨some 2, none, .mv (.c (.bool true))⟩])
      (.ret))

/- behind: Q = kloop [0, 13, 14, 15] I n (kblock 0 (kseq P (J_set_May_j1) Q)) -/
def J_set_May_j2 : ACode :=
  .seq (.ops [⟨some 16, none, .bin .lss (.t 15) (.t 14)⟩])
         (.keep [0, 13, 14, 15, 16] (.seq (.cond (.t 16)
           (.skip)
           (.exit 0))
          (.keep [0, 13, 14, 15] (.seq (.block 1 (.seq (.ops [⟨some 17, none, .mv (.t 15)⟩,
      ⟨some 18, none, .idxa 1 (.t 13) (.t 15)⟩,
      ⟨some 19, none, .load none (.t 18)⟩,
      ⟨some 3, none, .mv (.t 17)⟩,
      ⟨some 4, none, .mv (.t 19)⟩])
             (.keep [0, 3, 4, 13, 14, 15] (.seq (.seq (.ops [⟨some 20, none, .mv (.t 4)⟩,
      ⟨some 21, none, .call (.f 56) [(.t 20)]⟩,
      ⟨some 22, none, .not (.t 21)⟩])
               (.keep [0, 3, 4, 13, 14, 15, 22] (.cond (.t 22)
                (.seq (.ops [⟨some 2, none, .mv (.c (.bool false))⟩])
                 (.ret))
                (.skip))))
              (.keep [0, 3, 4, 13, 14, 15] (.seq (.ops [⟨some 23, none, .mv (.t 3)⟩,
      ⟨some 24, none, .bin .gtr (.t 23) (.c (.int .i64 0))⟩,
      ⟨some 25, none, .mv (.t 24)⟩,
      ⟨some 26, (some (25, true)), .mv (.t 0)⟩,
      ⟨some 27, (some (25, true)), .mv (.t 3)⟩,
      ⟨some 28, (some (25, true)), .bin .sub (.t 27) (.c (.int .i64 1))⟩,
      ⟨some 29, (some (25, true)), .idxa 1 (.t 26) (.t 28)⟩,
      ⟨some 30, (some (25, true)), .load none (.t 29)⟩,
      ⟨some 31, (some (25, true)), .mv (.t 4)⟩,
      ⟨some 32, (some (25, true)), .call (.f 65) [(.t 30), (.t 31)]⟩,
      ⟨some 33, (some (25, true)), .not (.t 32)⟩,
      ⟨some 34, none, .pick (.t 25) (.t 33) (.c (.bool false))⟩])
               (.keep [0, 13, 14, 15, 34] (.cond (.t 34)
                (.seq (.ops [⟨some 2, none, .mv (.c (.bool false))⟩])
                 (.ret))
                (.skip)))))))))
           (.keep [0, 13, 14, 15] (.ops [⟨some 35, none, .bin .add (.t 15) (.c (.int .i64 1))⟩,
      ⟨some 15, none, .mv (.t 35)⟩]))))))

/-- attorney/set.May -/
def J_set_May : AFn :=
  ⟨36, [.t 2], .seq (.ops [⟨some 2, none, .mv (.c (.bool false))⟩])
   (.keep [0] (.seq (.seq (.ops [⟨some 5, none, .mv (.t 0)⟩,
      ⟨some 6, none, .lenl (.t 5)⟩,
      ⟨some 7, none, .bin .lss (.t 6) (.c (.int .i64 1))⟩,
      ⟨some 8, none, .mv (.t 7)⟩,
      ⟨some 9, (some (8, false)), .mv (.t 0)⟩,
      ⟨some 10, (some (8, false)), .lenl (.t 9)⟩,
      ⟨some 11, (some (8, false)), .bin .gtr (.t 10) (.c (.int .i64 16))⟩,
      ⟨some 12, none, .pick (.t 8) (.c (.bool true)) (.t 11)⟩])
     (.keep [0, 12] (.cond (.t 12)
      (.seq (.ops [⟨some 2, none, .mv (.c (.bool false))⟩])
       (.ret))
      (.skip))))
    (.keep [0] (.seq (.seq (.ops [⟨some 13, none, .mv (.t 0)⟩,
      ⟨some 14, none, .lenl (.t 13)⟩,
      ⟨some 15, none, .mv (.c (.int .i64 0))⟩])
      (.keep [0, 13, 14, 15] (.block 0 (.loop [0, 13, 14, 15] (J_set_May_j2)))))
     (J_set_May_j1)))))⟩
theorem J_set_May_ok : chkFn Try.prog 21 J_set_May = true := by kernel_rfl

/- behind: Q -/
def J_ref03_May_j1 : ACode :=
  .keep [] (.seq (.ops [⟨some 2, none, .mv (.c (.bool true))⟩])
      (.ret))

/- behind: Q = kloop [0, 3] I n (kblock 0 (kseq P (J_ref03_May_j1) Q)) -/
def J_ref03_May_j2 : ACode :=
  .seq (.seq (.ops [⟨some 12, none, .mv (.t 3)⟩,
      ⟨some 13, none, .mv (.t 0)⟩,
      ⟨some 14, none, .lenl (.t 13)⟩,
      ⟨some 15, none, .bin .lss (.t 12) (.t 14)⟩])
          (.keep [0, 3, 15] (.cond (.t 15)
           (.skip)
           (.exit 0))))
         (.keep [0, 3] (.seq (.block 1 (.seq (.draw [0, 3, 40] [⟨some 18, none, .mv (.t 0)⟩,
      ⟨some 19, none, .mv (.t 3)⟩,
      ⟨some 20, none, .idxa 1 (.t 18) (.t 19)⟩,
      ⟨some 21, none, .load none (.t 20)⟩,
      ⟨some 22, none, .call (.f 62) [(.t 21)]⟩,
      ⟨some 23, none, .not (.t 22)⟩,
      ⟨some 24, none, .mv (.t 23)⟩,
      ⟨some 25, (some (24, false)), .mv (.t 3)⟩,
      ⟨some 26, (some (24, false)), .bin .gtr (.t 25) (.c (.int .i64 0))⟩,
      ⟨some 27, (some (24, false)), .mv (.t 26)⟩,
      ⟨some 28, (some (27, true)), .mv (.t 0)⟩,
      ⟨some 29, (some (27, true)), .mv (.t 3)⟩,
      ⟨some 30, (some (27, true)), .bin .sub (.t 29) (.c (.int .i64 1))⟩,
      ⟨some 31, (some (27, true)), .idxa 1 (.t 28) (.t 30)⟩,
      ⟨some 32, (some (27, true)), .load none (.t 31)⟩,
      ⟨some 33, (some (27, true)), .mv (.t 0)⟩,
      ⟨some 34, (some (27, true)), .mv (.t 3)⟩,
      ⟨some 35, (some (27, true)), .idxa 1 (.t 33) (.t 34)⟩,
      ⟨some 36, (some (27, true)), .load none (.t 35)⟩,
      ⟨some 37, (some (27, true)), .call (.f 40) [(.t 32), (.t 36)]⟩,
      ⟨some 38, (some (27, true)), .not (.t 37)⟩,
      ⟨some 39, (some (24, false)), .pick (.t 27) (.t 38) (.c (.bool false))⟩,
      ⟨some 40, none, .pick (.t 24) (.c (.bool true)) (.t 39)⟩])
            (.keep [0, 3, 40] (.cond (.t 40)
             (.seq (.ops [⟨some 2, none, .mv (.c (.bool false))⟩])
              (.ret))
             (.skip)))))
          (.keep [0, 3] (.ops [⟨some 16, none, .mv (.t 3)⟩,
      ⟨some 17, none, .bin .add (.t 16) (.c (.int .i64 1))⟩,
      ⟨some 3, none, .mv (.t 17)⟩]))))

/-- attorney/attorneyref03.May -/
def J_ref03_May : AFn :=
  ⟨41, [.t 2], .seq (.ops [⟨some 2, none, .mv (.c (.bool false))⟩])
   (.keep [0] (.seq (.seq (.ops [⟨some 4, none, .mv (.t 0)⟩,
      ⟨some 5, none, .lenl (.t 4)⟩,
      ⟨some 6, none, .bin .lss (.t 5) (.c (.int .i64 1))⟩,
      ⟨some 7, none, .mv (.t 6)⟩,
      ⟨some 8, (some (7, false)), .mv (.t 0)⟩,
      ⟨some 9, (some (7, false)), .lenl (.t 8)⟩,
      ⟨some 10, (some (7, false)), .bin .gtr (.t 9) (.c (.int .i64 16))⟩,
      ⟨some 11, none, .pick (.t 7) (.c (.bool true)) (.t 10)⟩])
     (.keep [0, 11] (.cond (.t 11)
      (.seq (.ops [⟨some 2, none, .mv (.c (.bool false))⟩])
       (.ret))
      (.skip))))
    (.keep [0] (.seq (.seq (.ops [⟨some 3, none, .mv (.c (.int .i64 0))⟩])
      (.keep [0, 3] (.block 0 (.loop [0, 3] (J_ref03_May_j2)))))
     (J_ref03_May_j1)))))⟩
theorem J_ref03_May_ok : chkFn Try.prog 22 J_ref03_May = true := by kernel_rfl

/-- attorney/set.And -/
def J_set_And : AFn :=
  ⟨21, [.t 4, .t 5], .seq (.ops [⟨some 4, none, .mv (.c (.lst .clip 0 []))⟩,
      ⟨some 5, none, .mv (.c (.int .i64 0))⟩])
   (.keep [0, 1] (.seq (.seq (.ops [⟨some 6, none, .mv (.t 0)⟩,
      ⟨some 7, none, .call (.f 21) [(.t 6)]⟩,
      ⟨some 8, none, .not (.t 7)⟩,
      ⟨some 9, none, .mv (.t 8)⟩,
      ⟨some 10, (some (9, false)), .mv (.t 1)⟩,
      ⟨some 11, (some (9, false)), .call (.f 21) [(.t 10)]⟩,
      ⟨some 12, (some (9, false)), .not (.t 11)⟩,
      ⟨some 13, none, .pick (.t 9) (.c (.bool true)) (.t 12)⟩])
     (.keep [0, 1, 13] (.cond (.t 13)
      (.seq (.ops [⟨some 4, none, .mv (.c (.lst .clip 0 []))⟩,
      ⟨some 5, none, .mv (.c (.int .i64 2))⟩])
       (.ret))
      (.skip))))
    (.keep [0, 1] (.seq (.ops [⟨some 14, none, .mv (.t 0)⟩,
      ⟨some 15, none, .mv (.t 1)⟩,
      ⟨some 16, none, .bsl 23 1 2 [(.lst .clip 0 []), (.lst .clip 0 [])] [(0, 1, (.t 14)), (1, 1, (.t 15))]⟩,
      ⟨some 17, none, .call (.f 66) [(.t 16)]⟩,
      ⟨some 18, none, .call (.f 18) [(.t 17)]⟩,
      ⟨some 19, none, .ext 0 (.t 18)⟩,
      ⟨some 20, none, .ext 1 (.t 18)⟩,
      ⟨some 4, none, .mv (.t 19)⟩,
      ⟨some 5, none, .mv (.t 20)⟩])
     (.ret)))))⟩
theorem J_set_And_ok : chkFn Try.prog 23 J_set_And = true := by kernel_rfl

/-- attorney/attorneyref03.And -/
def J_ref03_And : AFn :=
  ⟨23, [.t 4, .t 5], .seq (.ops [⟨some 4, none, .mv (.c (.lst .clip 0 []))⟩,
      ⟨some 5, none, .mv (.c (.int .i64 0))⟩])
   (.keep [0, 1] (.seq (.seq (.ops [⟨some 6, none, .mv (.t 0)⟩,
      ⟨some 7, none, .call (.f 22) [(.t 6)]⟩,
      ⟨some 8, none, .not (.t 7)⟩,
      ⟨some 9, none, .mv (.t 8)⟩,
      ⟨some 10, (some (9, false)), .mv (.t 1)⟩,
      ⟨some 11, (some (9, false)), .call (.f 22) [(.t 10)]⟩,
      ⟨some 12, (some (9, false)), .not (.t 11)⟩,
      ⟨some 13, none, .pick (.t 9) (.c (.bool true)) (.t 12)⟩])
     (.keep [0, 1, 13] (.cond (.t 13)
      (.seq (.ops [⟨some 4, none, .mv (.c (.lst .clip 0 []))⟩,
      ⟨some 5, none, .mv (.c (.int .i64 2))⟩])
       (.ret))
      (.skip))))
    (.keep [0, 1] (.seq (.ops [⟨some 14, none, .bsl 36 1 0 [] []⟩,
      ⟨some 15, none, .mv (.t 0)⟩,
      ⟨some 16, none, .appo 36 1 16 14 (.t 15)⟩,
      ⟨some 17, none, .mv (.t 1)⟩,
      ⟨some 18, none, .appo 36 1 16 16 (.t 17)⟩,
      ⟨some 19, none, .call (.f 64) [(.t 18)]⟩,
      ⟨some 20, none, .call (.f 63) [(.t 19)]⟩,
      ⟨some 21, none, .ext 0 (.t 20)⟩,
      ⟨some 22, none, .ext 1 (.t 20)⟩,
      ⟨some 4, none, .mv (.t 21)⟩,
      ⟨some 5, none, .mv (.t 22)⟩])
     (.ret)))))⟩
theorem J_ref03_And_ok : chkFn Try.prog 24 J_ref03_And = true := by kernel_rfl

/- behind: Q -/
def J_set_Quote_j1 : ACode :=
  .keep [6] (.seq (.ops [⟨some 30, none, .mv (.t 6)⟩,
      ⟨some 31, none, .call (.f 18) [(.t 30)]⟩,
      ⟨some 32, none, .ext 0 (.t 31)⟩,
      ⟨some 33, none, .ext 1 (.t 31)⟩,
      ⟨some 4, none, .mv (.t 32)⟩,
      ⟨some 5, none, .mv (.t 33)⟩])
       (.ret))

/- behind: Q = kloop [6, 20, 21, 22] I n (kblock 0 (kseq P (J_set_Quote_j1) Q)) -/
def J_set_Quote_j2 : ACode :=
  .seq (.ops [⟨some 23, none, .bin .lss (.t 22) (.t 21)⟩])
          (.keep [6, 20, 21, 22, 23] (.seq (.cond (.t 23)
            (.skip)
            (.exit 0))
           (.keep [6, 20, 21, 22] (.seq (.block 1 (.seq (.ops [⟨some 24, none, .idxa 1 (.t 20) (.t 22)⟩,
      ⟨some 25, none, .load none (.t 24)⟩,
      ⟨some 8, none, .mv (.t 25)⟩])
              (.keep [6, 8, 20, 21, 22] (.seq (.ops [⟨some 26, none, .mv (.t 8)⟩,
      ⟨some 27, none, .call (.f 69) [(.t 26)]⟩,
      ⟨some 28, none, .bin .gtr (.t 27) (.c (.int .i64 8))⟩])
               (.keep [6, 20, 21, 22, 28] (.cond (.t 28)
                (.seq (.ops [⟨some 4, none, .mv (.c (.lst .clip 0 []))⟩,
      ⟨some 5, none, .mv (.c (.int .i64 4))⟩])
                 (.ret))
                (.skip)))))))
            (.keep [6, 20, 21, 22] (.ops [⟨some 29, none, .bin .add (.t 22) (.c (.int .i64 1))⟩,
      ⟨some 22, none, .mv (.t 29)⟩]))))))

/-- attorney/set.Quote -/
def J_set_Quote : AFn :=
  ⟨34, [.t 4, .t 5], .seq (.ops [⟨some 4, none, .mv (.c (.lst .clip 0 []))⟩,
      ⟨some 5, none, .mv (.c (.int .i64 0))⟩])
   (.keep [0, 1] (.seq (.seq (.ops [⟨some 9, none, .mv (.t 0)⟩,
      ⟨some 10, none, .call (.f 21) [(.t 9)]⟩,
      ⟨some 11, none, .not (.t 10)⟩,
      ⟨some 12, none, .mv (.t 11)⟩,
      ⟨some 13, (some (12, false)), .mv (.t 1)⟩,
      ⟨some 14, (some (12, false)), .call (.f 21) [(.t 13)]⟩,
      ⟨some 15, (some (12, false)), .not (.t 14)⟩,
      ⟨some 16, none, .pick (.t 12) (.c (.bool true)) (.t 15)⟩])
     (.keep [0, 1, 16] (.cond (.t 16)
      (.seq (.ops [⟨some 4, none, .mv (.c (.lst .clip 0 []))⟩,
      ⟨some 5, none, .mv (.c (.int .i64 2))⟩])
       (.ret))
      (.skip))))
    (.keep [0, 1] (.seq (.ops [⟨some 17, none, .mv (.t 0)⟩,
      ⟨some 18, none, .mv (.t 1)⟩,
      ⟨some 19, none, .call (.f 67) [(.t 17), (.t 18), (.f 68)]⟩,
      ⟨some 6, none, .mv (.t 19)⟩])
     (.keep [6] (.seq (.seq (.ops [⟨some 20, none, .mv (.t 6)⟩,
      ⟨some 21, none, .lenl (.t 20)⟩,
      ⟨some 22, none, .mv (.c (.int .i64 0))⟩])
       (.keep [6, 20, 21, 22] (.block 0 (.loop [6, 20, 21, 22] (J_set_Quote_j2)))))
      (J_set_Quote_j1)))))))⟩
theorem J_set_Quote_ok : chkFn Try.prog 25 J_set_Quote = true := by kernel_rfl

/- behind: Q -/
def J_ref03_Quote_j1 : ACode :=
  .keep [6] (.seq (.ops [⟨some 52, none, .mv (.t 6)⟩,
      ⟨some 53, none, .call (.f 64) [(.t 52)]⟩,
      ⟨some 54, none, .call (.f 63) [(.t 53)]⟩,
      ⟨some 55, none, .ext 0 (.t 54)⟩,
      ⟨some 56, none, .ext 1 (.t 54)⟩,
      ⟨some 4, none, .mv (.t 55)⟩,
      ⟨some 5, none, .mv (.t 56)⟩])
       (.ret))

/- behind: Q -/
def J_ref03_Quote_j2 : ACode :=
  .keep [0, 1, 6, 7] (.ops [⟨some 24, none, .mv (.t 7)⟩,
      ⟨some 25, none, .bin .add (.t 24) (.c (.int .i64 1))⟩,
      ⟨some 7, none, .mv (.t 25)⟩])

/- behind: Q = kloop [0, 1, 6, 7, 8] I n (kblock 2 (kblock 1 (kseq P (J_ref03_Quote_j2) Q))) -/
def J_ref03_Quote_j3 : ACode :=
  .seq (.seq (.ops [⟨some 26, none, .mv (.t 8)⟩,
      ⟨some 27, none, .mv (.t 1)⟩,
      ⟨some 28, none, .lenl (.t 27)⟩,
      ⟨some 29, none, .bin .lss (.t 26) (.t 28)⟩])
                 (.keep [0, 1, 6, 7, 8, 29] (.cond (.t 29)
                  (.skip)
                  (.exit 2))))
                (.keep [0, 1, 6, 7, 8] (.seq (.block 3 (.seq (.draw [0, 1, 6, 7, 8, 9, 10] [⟨some 33, none, .mv (.t 0)⟩,
      ⟨some 34, none, .mv (.t 7)⟩,
      ⟨some 35, none, .idxa 1 (.t 33) (.t 34)⟩,
      ⟨some 36, none, .load none (.t 35)⟩,
      ⟨some 37, none, .mv (.t 1)⟩,
      ⟨some 38, none, .mv (.t 8)⟩,
      ⟨some 39, none, .idxa 1 (.t 37) (.t 38)⟩,
      ⟨some 40, none, .load none (.t 39)⟩,
      ⟨some 41, none, .bsl 36 1 2 [(.str ⟨#[]⟩), (.str ⟨#[]⟩)] [(0, 1, (.t 36)), (1, 1, (.t 40))]⟩,
      ⟨some 42, none, .call (.f 70) [(.t 41)]⟩,
      ⟨some 32, none, .mv (.t 42)⟩,
      ⟨some 43, none, .ext 0 (.t 32)⟩,
      ⟨some 44, none, .ext 1 (.t 32)⟩,
      ⟨some 9, none, .mv (.t 43)⟩,
      ⟨some 10, none, .mv (.t 44)⟩])
                   (.keep [0, 1, 6, 7, 8, 9, 10] (.seq (.seq (.ops [⟨some 45, none, .mv (.t 10)⟩,
      ⟨some 46, none, .bin .neq (.t 45) (.c (.int .i64 0))⟩])
                     (.keep [0, 1, 6, 7, 8, 9, 10, 46] (.cond (.t 46)
                      (.seq (.ops [⟨some 47, none, .mv (.t 10)⟩,
      ⟨some 4, none, .mv (.c (.lst .clip 0 []))⟩,
      ⟨some 5, none, .mv (.t 47)⟩])
                       (.ret))
                      (.skip))))
                    (.keep [0, 1, 6, 7, 8, 9] (.ops [⟨some 48, none, .mvo 6⟩,
      ⟨some 49, none, .mv (.t 9)⟩,
      ⟨some 50, none, .bsl 36 1 1 [(.str ⟨#[]⟩)] [(0, 1, (.t 49))]⟩,
      ⟨some 51, none, .appo 36 1 16 48 (.t 50)⟩,
      ⟨some 6, none, .mvo 51⟩]))))))
                 (.keep [0, 1, 6, 7, 8] (.ops [⟨some 30, none, .mv (.t 8)⟩,
      ⟨some 31, none, .bin .add (.t 30) (.c (.int .i64 1))⟩,
      ⟨some 8, none, .mv (.t 31)⟩]))))

/- behind: Q = kloop [0, 1, 6, 7] I n (kblock 0 (kseq P (J_ref03_Quote_j1) Q)) -/
def J_ref03_Quote_j4 : ACode :=
  .seq (.seq (.ops [⟨some 20, none, .mv (.t 7)⟩,
      ⟨some 21, none, .mv (.t 0)⟩,
      ⟨some 22, none, .lenl (.t 21)⟩,
      ⟨some 23, none, .bin .lss (.t 20) (.t 22)⟩])
           (.keep [0, 1, 6, 7, 23] (.cond (.t 23)
            (.skip)
            (.exit 0))))
          (.keep [0, 1, 6, 7] (.seq (.block 1 (.seq (.ops [⟨some 8, none, .mv (.c (.int .i64 0))⟩])
             (.keep [0, 1, 6, 7, 8] (.block 2 (.loop [0, 1, 6, 7, 8] (J_ref03_Quote_j3))))))
           (J_ref03_Quote_j2)))

/-- attorney/attorneyref03.Quote -/
def J_ref03_Quote : AFn :=
  ⟨57, [.t 4, .t 5], .seq (.ops [⟨some 4, none, .mv (.c (.lst .clip 0 []))⟩,
      ⟨some 5, none, .mv (.c (.int .i64 0))⟩])
   (.keep [0, 1] (.seq (.seq (.ops [⟨some 11, none, .mv (.t 0)⟩,
      ⟨some 12, none, .call (.f 22) [(.t 11)]⟩,
      ⟨some 13, none, .not (.t 12)⟩,
      ⟨some 14, none, .mv (.t 13)⟩,
      ⟨some 15, (some (14, false)), .mv (.t 1)⟩,
      ⟨some 16, (some (14, false)), .call (.f 22) [(.t 15)]⟩,
      ⟨some 17, (some (14, false)), .not (.t 16)⟩,
      ⟨some 18, none, .pick (.t 14) (.c (.bool true)) (.t 17)⟩])
     (.keep [0, 1, 18] (.cond (.t 18)
      (.seq (.ops [⟨some 4, none, .mv (.c (.lst .clip 0 []))⟩,
      ⟨some 5, none, .mv (.c (.int .i64 2))⟩])
       (.ret))
      (.skip))))
    (.keep [0, 1] (.seq (.ops [⟨some 19, none, .bsl 36 1 0 [] []⟩,
      ⟨some 6, none, .mvo 19⟩])
     (.keep [0, 1, 6] (.seq (.seq (.ops [⟨some 7, none, .mv (.c (.int .i64 0))⟩])
       (.keep [0, 1, 6, 7] (.block 0 (.loop [0, 1, 6, 7] (J_ref03_Quote_j4)))))
      (J_ref03_Quote_j1)))))))⟩
theorem J_ref03_Quote_ok : chkFn Try.prog 26 J_ref03_Quote = true := by kernel_rfl

/-- attorney/set.For -/
def J_set_For : AFn :=
  ⟨34, [.t 4, .t 5], .seq (.ops [⟨some 4, none, .mv (.c (.lst .clip 0 []))⟩,
      ⟨some 5, none, .mv (.c (.int .i64 0))⟩])
   (.keep [0, 1] (.seq (.ops [⟨some 10, none, .mv (.t 0)⟩,
      ⟨some 11, none, .mv (.t 1)⟩,
      ⟨some 12, none, .call (.f 25) [(.t 10), (.t 11)]⟩,
      ⟨some 9, none, .mv (.t 12)⟩,
      ⟨some 13, none, .ext 0 (.t 9)⟩,
      ⟨some 14, none, .ext 1 (.t 9)⟩,
      ⟨some 6, none, .mv (.t 13)⟩,
      ⟨some 7, none, .mv (.t 14)⟩])
    (.keep [1, 6, 7] (.seq (.seq (.ops [⟨some 15, none, .mv (.t 7)⟩,
      ⟨some 16, none, .bin .neq (.t 15) (.c (.int .i64 0))⟩])
      (.keep [1, 6, 7, 16] (.cond (.t 16)
       (.seq (.ops [⟨some 17, none, .mv (.t 7)⟩,
      ⟨some 4, none, .mv (.c (.lst .clip 0 []))⟩,
      ⟨some 5, none, .mv (.t 17)⟩])
        (.ret))
       (.skip))))
     (.keep [1, 6] (.seq (.ops [⟨some 19, none, .bsl 25 1 1 [(.int .u16 0)] [(0, 1, (.c (.int .u16 1)))]⟩,
      ⟨some 20, none, .call (.f 71) [(.t 19)]⟩,
      ⟨some 21, none, .bsl 36 1 1 [(.str ⟨#[]⟩)] [(0, 1, (.t 20))]⟩,
      ⟨some 22, none, .mv (.t 1)⟩,
      ⟨some 23, none, .call (.f 25) [(.t 21), (.t 22)]⟩,
      ⟨some 18, none, .mv (.t 23)⟩,
      ⟨some 24, none, .ext 0 (.t 18)⟩,
      ⟨some 25, none, .ext 1 (.t 18)⟩,
      ⟨some 8, none, .mv (.t 24)⟩,
      ⟨some 7, none, .mv (.t 25)⟩])
      (.keep [6, 7, 8] (.seq (.seq (.ops [⟨some 26, none, .mv (.t 7)⟩,
      ⟨some 27, none, .bin .neq (.t 26) (.c (.int .i64 0))⟩])
        (.keep [6, 7, 8, 27] (.cond (.t 27)
         (.seq (.ops [⟨some 28, none, .mv (.t 7)⟩,
      ⟨some 4, none, .mv (.c (.lst .clip 0 []))⟩,
      ⟨some 5, none, .mv (.t 28)⟩])
          (.ret))
         (.skip))))
       (.keep [6, 8] (.seq (.ops [⟨some 29, none, .mv (.t 6)⟩,
      ⟨some 30, none, .mv (.t 8)⟩,
      ⟨some 31, none, .call (.f 23) [(.t 29), (.t 30)]⟩,
      ⟨some 32, none, .ext 0 (.t 31)⟩,
      ⟨some 33, none, .ext 1 (.t 31)⟩,
      ⟨some 4, none, .mv (.t 32)⟩,
      ⟨some 5, none, .mv (.t 33)⟩])
        (.ret)))))))))))⟩
theorem J_set_For_ok : chkFn Try.prog 27 J_set_For = true := by kernel_rfl

/-- attorney/attorneyref03.For -/
def J_ref03_For : AFn :=
  ⟨35, [.t 4, .t 5], .seq (.ops [⟨some 4, none, .mv (.c (.lst .clip 0 []))⟩,
      ⟨some 5, none, .mv (.c (.int .i64 0))⟩])
   (.keep [0, 1] (.seq (.ops [⟨some 11, none, .mv (.t 0)⟩,
      ⟨some 12, none, .mv (.t 1)⟩,
      ⟨some 13, none, .call (.f 26) [(.t 11), (.t 12)]⟩,
      ⟨some 10, none, .mv (.t 13)⟩,
      ⟨some 14, none, .ext 0 (.t 10)⟩,
      ⟨some 15, none, .ext 1 (.t 10)⟩,
      ⟨some 6, none, .mv (.t 14)⟩,
      ⟨some 7, none, .mv (.t 15)⟩])
    (.keep [1, 6, 7] (.seq (.seq (.ops [⟨some 16, none, .mv (.t 7)⟩,
      ⟨some 17, none, .bin .neq (.t 16) (.c (.int .i64 0))⟩])
      (.keep [1, 6, 7, 17] (.cond (.t 17)
       (.seq (.ops [⟨some 18, none, .mv (.t 7)⟩,
      ⟨some 4, none, .mv (.c (.lst .clip 0 []))⟩,
      ⟨some 5, none, .mv (.t 18)⟩])
        (.ret))
       (.skip))))
     (.keep [1, 6] (.seq (.ops [⟨some 20, none, .bsl 25 1 1 [(.int .u16 0)] [(0, 1, (.c (.int .u16 1)))]⟩,
      ⟨some 21, none, .call (.f 39) [(.t 20)]⟩,
      ⟨some 22, none, .bsl 36 1 1 [(.str ⟨#[]⟩)] [(0, 1, (.t 21))]⟩,
      ⟨some 23, none, .mv (.t 1)⟩,
      ⟨some 24, none, .call (.f 26) [(.t 22), (.t 23)]⟩,
      ⟨some 19, none, .mv (.t 24)⟩,
      ⟨some 25, none, .ext 0 (.t 19)⟩,
      ⟨some 26, none, .ext 1 (.t 19)⟩,
      ⟨some 8, none, .mv (.t 25)⟩,
      ⟨some 9, none, .mv (.t 26)⟩])
      (.keep [6, 8, 9] (.seq (.seq (.ops [⟨some 27, none, .mv (.t 9)⟩,
      ⟨some 28, none, .bin .neq (.t 27) (.c (.int .i64 0))⟩])
        (.keep [6, 8, 9, 28] (.cond (.t 28)
         (.seq (.ops [⟨some 29, none, .mv (.t 9)⟩,
      ⟨some 4, none, .mv (.c (.lst .clip 0 []))⟩,
      ⟨some 5, none, .mv (.t 29)⟩])
          (.ret))
         (.skip))))
       (.keep [6, 8] (.seq (.ops [⟨some 30, none, .mv (.t 6)⟩,
      ⟨some 31, none, .mv (.t 8)⟩,
      ⟨some 32, none, .call (.f 24) [(.t 30), (.t 31)]⟩,
      ⟨some 33, none, .ext 0 (.t 32)⟩,
      ⟨some 34, none, .ext 1 (.t 32)⟩,
      ⟨some 4, none, .mv (.t 33)⟩,
      ⟨some 5, none, .mv (.t 34)⟩])
        (.ret)))))))))))⟩
theorem J_ref03_For_ok : chkFn Try.prog 28 J_ref03_For = true := by kernel_rfl

/-- attorney/set.As -/
def J_set_As : AFn :=
  ⟨21, [.t 4, .t 5], .seq (.ops [⟨some 4, none, .mv (.c (.lst .clip 0 []))⟩,
      ⟨some 5, none, .mv (.c (.int .i64 0))⟩])
   (.keep [0, 1] (.seq (.seq (.ops [⟨some 6, none, .mv (.t 0)⟩,
      ⟨some 7, none, .call (.f 21) [(.t 6)]⟩,
      ⟨some 8, none, .not (.t 7)⟩])
     (.keep [0, 1, 8] (.cond (.t 8)
      (.seq (.ops [⟨some 4, none, .mv (.c (.lst .clip 0 []))⟩,
      ⟨some 5, none, .mv (.c (.int .i64 2))⟩])
       (.ret))
      (.skip))))
    (.keep [0, 1] (.seq (.seq (.ops [⟨some 9, none, .mv (.t 1)⟩,
      ⟨some 10, none, .conv .i64 (.t 9)⟩,
      ⟨some 11, none, .bin .quo (.t 10) (.c (.int .i64 8192))⟩,
      ⟨some 12, none, .bin .neq (.t 11) (.c (.int .i64 5))⟩])
      (.keep [0, 1, 12] (.cond (.t 12)
       (.seq (.ops [⟨some 4, none, .mv (.c (.lst .clip 0 []))⟩,
      ⟨some 5, none, .mv (.c (.int .i64 1))⟩])
        (.ret))
       (.skip))))
     (.keep [0, 1] (.seq (.ops [⟨some 13, none, .mv (.t 0)⟩,
      ⟨some 14, none, .mv (.t 1)⟩,
      ⟨some 15, none, .bsl 25 1 1 [(.int .u16 0)] [(0, 1, (.t 14))]⟩,
      ⟨some 16, none, .call (.f 71) [(.t 15)]⟩,
      ⟨some 17, none, .bsl 36 1 1 [(.str ⟨#[]⟩)] [(0, 1, (.t 16))]⟩,
      ⟨some 18, none, .call (.f 25) [(.t 13), (.t 17)]⟩,
      ⟨some 19, none, .ext 0 (.t 18)⟩,
      ⟨some 20, none, .ext 1 (.t 18)⟩,
      ⟨some 4, none, .mv (.t 19)⟩,
      ⟨some 5, none, .mv (.t 20)⟩])
      (.ret)))))))⟩
theorem J_set_As_ok : chkFn Try.prog 29 J_set_As = true := by kernel_rfl

/-- attorney/attorneyref03.As -/
def J_ref03_As : AFn :=
  ⟨23, [.t 4, .t 5], .seq (.ops [⟨some 4, none, .mv (.c (.lst .clip 0 []))⟩,
      ⟨some 5, none, .mv (.c (.int .i64 0))⟩])
   (.keep [0, 1] (.seq (.seq (.ops [⟨some 6, none, .mv (.t 0)⟩,
      ⟨some 7, none, .call (.f 22) [(.t 6)]⟩,
      ⟨some 8, none, .not (.t 7)⟩])
     (.keep [0, 1, 8] (.cond (.t 8)
      (.seq (.ops [⟨some 4, none, .mv (.c (.lst .clip 0 []))⟩,
      ⟨some 5, none, .mv (.c (.int .i64 2))⟩])
       (.ret))
      (.skip))))
    (.keep [0, 1] (.seq (.seq (.ops [⟨some 9, none, .mv (.t 1)⟩,
      ⟨some 10, none, .bin .lss (.t 9) (.c (.int .u16 40960))⟩,
      ⟨some 11, none, .mv (.t 10)⟩,
      ⟨some 12, (some (11, false)), .mv (.t 1)⟩,
      ⟨some 13, (some (11, false)), .bin .geq (.t 12) (.c (.int .u16 49152))⟩,
      ⟨some 14, none, .pick (.t 11) (.c (.bool true)) (.t 13)⟩])
      (.keep [0, 1, 14] (.cond (.t 14)
       (.seq (.ops [⟨some 4, none, .mv (.c (.lst .clip 0 []))⟩,
      ⟨some 5, none, .mv (.c (.int .i64 1))⟩])
        (.ret))
       (.skip))))
     (.keep [0, 1] (.seq (.ops [⟨some 15, none, .mv (.t 0)⟩,
      ⟨some 16, none, .mv (.t 1)⟩,
      ⟨some 17, none, .bsl 25 1 1 [(.int .u16 0)] [(0, 1, (.t 16))]⟩,
      ⟨some 18, none, .call (.f 39) [(.t 17)]⟩,
      ⟨some 19, none, .bsl 36 1 1 [(.str ⟨#[]⟩)] [(0, 1, (.t 18))]⟩,
      ⟨some 20, none, .call (.f 26) [(.t 15), (.t 19)]⟩,
      ⟨some 21, none, .ext 0 (.t 20)⟩,
      ⟨some 22, none, .ext 1 (.t 20)⟩,
      ⟨some 4, none, .mv (.t 21)⟩,
      ⟨some 5, none, .mv (.t 22)⟩])
      (.ret)))))))⟩
theorem J_ref03_As_ok : chkFn Try.prog 30 J_ref03_As = true := by kernel_rfl

/-- attorney/set.Has -/
def J_set_Has : AFn :=
  ⟨8, [.t 4], .seq (.ops [⟨some 4, none, .mv (.c (.bool false))⟩])
   (.keep [0, 1] (.seq (.ops [⟨some 5, none, .mv (.t 0)⟩,
      ⟨some 6, none, .mv (.t 1)⟩,
      ⟨some 7, none, .call (.f 72) [(.t 5), (.t 6)]⟩,
      ⟨some 4, none, .mv (.t 7)⟩])
    (.ret)))⟩
theorem J_set_Has_ok : chkFn Try.prog 31 J_set_Has = true := by kernel_rfl

/- behind: Q -/
def J_ref03_Has_j1 : ACode :=
  .keep [] (.seq (.ops [⟨some 4, none, .mv (.c (.bool false))⟩])
     (.ret))

/- behind: Q = kloop [0, 1, 5] I n (kblock 0 (kseq P (J_ref03_Has_j1) Q)) -/
def J_ref03_Has_j2 : ACode :=
  .seq (.seq (.ops [⟨some 6, none, .mv (.t 5)⟩,
      ⟨some 7, none, .mv (.t 0)⟩,
      ⟨some 8, none, .lenl (.t 7)⟩,
      ⟨some 9, none, .bin .lss (.t 6) (.t 8)⟩])
         (.keep [0, 1, 5, 9] (.cond (.t 9)
          (.skip)
          (.exit 0))))
        (.keep [0, 1, 5] (.seq (.block 1 (.seq (.ops [⟨some 12, none, .mv (.t 0)⟩,
      ⟨some 13, none, .mv (.t 5)⟩,
      ⟨some 14, none, .idxa 1 (.t 12) (.t 13)⟩,
      ⟨some 15, none, .load none (.t 14)⟩,
      ⟨some 16, none, .mv (.t 1)⟩,
      ⟨some 17, none, .bin .eql (.t 15) (.t 16)⟩])
           (.keep [0, 1, 5, 17] (.cond (.t 17)
            (.seq (.ops [⟨some 4, none, .mv (.c (.bool true))⟩])
             (.ret))
            (.skip)))))
         (.keep [0, 1, 5] (.ops [⟨some 10, none, .mv (.t 5)⟩,
      ⟨some 11, none, .bin .add (.t 10) (.c (.int .i64 1))⟩,
      ⟨some 5, none, .mv (.t 11)⟩]))))

/-- attorney/attorneyref03.Has -/
def J_ref03_Has : AFn :=
  ⟨18, [.t 4], .seq (.ops [⟨some 4, none, .mv (.c (.bool false))⟩])
   (.keep [0, 1] (.seq (.seq (.ops [⟨some 5, none, .mv (.c (.int .i64 0))⟩])
     (.keep [0, 1, 5] (.block 0 (.loop [0, 1, 5] (J_ref03_Has_j2)))))
    (J_ref03_Has_j1)))⟩
theorem J_ref03_Has_ok : chkFn Try.prog 32 J_ref03_Has = true := by kernel_rfl

/- behind: Q -/
def J_ref03_Within_j1 : ACode :=
  .keep [] (.seq (.ops [⟨some 4, none, .mv (.c (.bool true))⟩])
     (.ret))

/- behind: Q = kloop [0, 1, 5] I n (kblock 0 (kseq P (J_ref03_Within_j1) Q)) -/
def J_ref03_Within_j2 : ACode :=
  .seq (.seq (.ops [⟨some 6, none, .mv (.t 5)⟩,
      ⟨some 7, none, .mv (.t 0)⟩,
      ⟨some 8, none, .lenl (.t 7)⟩,
      ⟨some 9, none, .bin .lss (.t 6) (.t 8)⟩])
         (.keep [0, 1, 5, 9] (.cond (.t 9)
          (.skip)
          (.exit 0))))
        (.keep [0, 1, 5] (.seq (.block 1 (.seq (.ops [⟨some 12, none, .mv (.t 1)⟩,
      ⟨some 13, none, .mv (.t 0)⟩,
      ⟨some 14, none, .mv (.t 5)⟩,
      ⟨some 15, none, .idxa 1 (.t 13) (.t 14)⟩,
      ⟨some 16, none, .load none (.t 15)⟩,
      ⟨some 17, none, .call (.f 32) [(.t 12), (.t 16)]⟩,
      ⟨some 18, none, .not (.t 17)⟩])
           (.keep [0, 1, 5, 18] (.cond (.t 18)
            (.seq (.ops [⟨some 4, none, .mv (.c (.bool false))⟩])
             (.ret))
            (.skip)))))
         (.keep [0, 1, 5] (.ops [⟨some 10, none, .mv (.t 5)⟩,
      ⟨some 11, none, .bin .add (.t 10) (.c (.int .i64 1))⟩,
      ⟨some 5, none, .mv (.t 11)⟩]))))

/-- attorney/attorneyref03.Within -/
def J_ref03_Within : AFn :=
  ⟨19, [.t 4], .seq (.ops [⟨some 4, none, .mv (.c (.bool false))⟩])
   (.keep [0, 1] (.seq (.seq (.ops [⟨some 5, none, .mv (.c (.int .i64 0))⟩])
     (.keep [0, 1, 5] (.block 0 (.loop [0, 1, 5] (J_ref03_Within_j2)))))
    (J_ref03_Within_j1)))⟩
theorem J_ref03_Within_ok : chkFn Try.prog 34 J_ref03_Within = true := by kernel_rfl

/-- attorney/set.Same -/
def J_set_Same : AFn :=
  ⟨13, [.t 4], .seq (.ops [⟨some 4, none, .mv (.c (.bool false))⟩])
   (.keep [0, 1] (.seq (.ops [⟨some 5, none, .mv (.t 0)⟩,
      ⟨some 6, none, .mv (.t 1)⟩,
      ⟨some 7, none, .call (.f 33) [(.t 5), (.t 6)]⟩,
      ⟨some 8, none, .mv (.t 7)⟩,
      ⟨some 9, (some (8, true)), .mv (.t 1)⟩,
      ⟨some 10, (some (8, true)), .mv (.t 0)⟩,
      ⟨some 11, (some (8, true)), .call (.f 33) [(.t 9), (.t 10)]⟩,
      ⟨some 12, none, .pick (.t 8) (.t 11) (.c (.bool false))⟩,
      ⟨some 4, none, .mv (.t 12)⟩])
    (.ret)))⟩
theorem J_set_Same_ok : chkFn Try.prog 35 J_set_Same = true := by kernel_rfl

/-- attorney/attorneyref03.Same -/
def J_ref03_Same : AFn :=
  ⟨13, [.t 4], .seq (.ops [⟨some 4, none, .mv (.c (.bool false))⟩])
   (.keep [0, 1] (.seq (.ops [⟨some 5, none, .mv (.t 0)⟩,
      ⟨some 6, none, .mv (.t 1)⟩,
      ⟨some 7, none, .call (.f 34) [(.t 5), (.t 6)]⟩,
      ⟨some 8, none, .mv (.t 7)⟩,
      ⟨some 9, (some (8, true)), .mv (.t 1)⟩,
      ⟨some 10, (some (8, true)), .mv (.t 0)⟩,
      ⟨some 11, (some (8, true)), .call (.f 34) [(.t 9), (.t 10)]⟩,
      ⟨some 12, none, .pick (.t 8) (.t 11) (.c (.bool false))⟩,
      ⟨some 4, none, .mv (.t 12)⟩])
    (.ret)))⟩
theorem J_ref03_Same_ok : chkFn Try.prog 36 J_ref03_Same = true := by kernel_rfl

/- behind: Q -/
def J_set_Heavy_j1 : ACode :=
  .keep [3] (.seq (.ops [⟨some 17, none, .mv (.t 3)⟩,
      ⟨some 2, none, .mv (.t 17)⟩])
      (.ret))

/- behind: Q = kloop [3, 6, 7, 8] I n (kblock 0 (kseq P (J_set_Heavy_j1) Q)) -/
def J_set_Heavy_j2 : ACode :=
  .seq (.ops [⟨some 9, none, .bin .lss (.t 8) (.t 7)⟩])
         (.keep [3, 6, 7, 8, 9] (.seq (.cond (.t 9)
           (.skip)
           (.exit 0))
          (.keep [3, 6, 7, 8] (.seq (.block 1 (.seq (.ops [⟨some 10, none, .idxa 1 (.t 6) (.t 8)⟩,
      ⟨some 11, none, .load none (.t 10)⟩,
      ⟨some 5, none, .mv (.t 11)⟩])
             (.keep [3, 5, 6, 7, 8] (.ops [⟨some 12, none, .mv (.t 3)⟩,
      ⟨some 13, none, .mv (.t 5)⟩,
      ⟨some 14, none, .call (.f 69) [(.t 13)]⟩,
      ⟨some 15, none, .mx (.t 12) (.t 14)⟩,
      ⟨some 3, none, .mv (.t 15)⟩]))))
           (.keep [3, 6, 7, 8] (.ops [⟨some 16, none, .bin .add (.t 8) (.c (.int .i64 1))⟩,
      ⟨some 8, none, .mv (.t 16)⟩]))))))

/-- attorney/set.Heavy -/
def J_set_Heavy : AFn :=
  ⟨18, [.t 2], .seq (.ops [⟨some 2, none, .mv (.c (.int .i64 0))⟩])
   (.keep [0] (.seq (.ops [⟨some 3, none, .mv (.c (.int .i64 0))⟩])
    (.keep [0, 3] (.seq (.seq (.ops [⟨some 6, none, .mv (.t 0)⟩,
      ⟨some 7, none, .lenl (.t 6)⟩,
      ⟨some 8, none, .mv (.c (.int .i64 0))⟩])
      (.keep [3, 6, 7, 8] (.block 0 (.loop [3, 6, 7, 8] (J_set_Heavy_j2)))))
     (J_set_Heavy_j1)))))⟩
theorem J_set_Heavy_ok : chkFn Try.prog 37 J_set_Heavy = true := by kernel_rfl

/- behind: Q -/
def J_ref03_Heavy_j1 : ACode :=
  .keep [3] (.seq (.ops [⟨some 25, none, .mv (.t 3)⟩,
      ⟨some 2, none, .mv (.t 25)⟩])
      (.ret))

/- behind: Q -/
def J_ref03_Heavy_j2 : ACode :=
  .keep [0, 3, 4] (.ops [⟨some 9, none, .mv (.t 4)⟩,
      ⟨some 10, none, .bin .add (.t 9) (.c (.int .i64 1))⟩,
      ⟨some 4, none, .mv (.t 10)⟩])

/- behind: Q = kloop [0, 3, 4] I n (kblock 0 (kseq P (J_ref03_Heavy_j1) Q)) -/
def J_ref03_Heavy_j3 : ACode :=
  .seq (.seq (.ops [⟨some 5, none, .mv (.t 4)⟩,
      ⟨some 6, none, .mv (.t 0)⟩,
      ⟨some 7, none, .lenl (.t 6)⟩,
      ⟨some 8, none, .bin .lss (.t 5) (.t 7)⟩])
          (.keep [0, 3, 4, 8] (.cond (.t 8)
           (.skip)
           (.exit 0))))
         (.keep [0, 3, 4] (.seq (.block 1 (.seq (.ops [⟨some 11, none, .mv (.t 0)⟩,
      ⟨some 12, none, .mv (.t 4)⟩,
      ⟨some 13, none, .idxa 1 (.t 11) (.t 12)⟩,
      ⟨some 14, none, .load none (.t 13)⟩,
      ⟨some 15, none, .call (.f 73) [(.t 14)]⟩,
      ⟨some 16, none, .lenl (.t 15)⟩,
      ⟨some 17, none, .mv (.t 3)⟩,
      ⟨some 18, none, .bin .gtr (.t 16) (.t 17)⟩])
            (.keep [0, 3, 4, 18] (.cond (.t 18)
             (.ops [⟨some 19, none, .mv (.t 0)⟩,
      ⟨some 20, none, .mv (.t 4)⟩,
      ⟨some 21, none, .idxa 1 (.t 19) (.t 20)⟩,
      ⟨some 22, none, .load none (.t 21)⟩,
      ⟨some 23, none, .call (.f 73) [(.t 22)]⟩,
      ⟨some 24, none, .lenl (.t 23)⟩,
      ⟨some 3, none, .mv (.t 24)⟩])
             (.skip)))))
          (J_ref03_Heavy_j2)))

/-- attorney/attorneyref03.Heavy -/
def J_ref03_Heavy : AFn :=
  ⟨26, [.t 2], .seq (.ops [⟨some 2, none, .mv (.c (.int .i64 0))⟩])
   (.keep [0] (.seq (.ops [⟨some 3, none, .mv (.c (.int .i64 0))⟩])
    (.keep [0, 3] (.seq (.seq (.ops [⟨some 4, none, .mv (.c (.int .i64 0))⟩])
      (.keep [0, 3, 4] (.block 0 (.loop [0, 3, 4] (J_ref03_Heavy_j3)))))
     (J_ref03_Heavy_j1)))))⟩
theorem J_ref03_Heavy_ok : chkFn Try.prog 38 J_ref03_Heavy = true := by kernel_rfl

/- behind: Q -/
def J_ref02_Of_j1 : ACode :=
  .keep [3] (.seq (.ops [⟨some 27, none, .mv (.t 3)⟩,
      ⟨some 28, none, .b2s (.t 27)⟩,
      ⟨some 2, none, .mv (.t 28)⟩])
      (.ret))

/- behind: Q = kloop [0, 3, 4] I n (kblock 0 (kseq P (J_ref02_Of_j1) Q)) -/
def J_ref02_Of_j2 : ACode :=
  .seq (.seq (.ops [⟨some 6, none, .mv (.t 4)⟩,
      ⟨some 7, none, .mv (.t 0)⟩,
      ⟨some 8, none, .lenl (.t 7)⟩,
      ⟨some 9, none, .bin .lss (.t 6) (.t 8)⟩])
          (.keep [0, 3, 4, 9] (.cond (.t 9)
           (.skip)
           (.exit 0))))
         (.keep [0, 3, 4] (.seq (.block 1 (.draw [0, 3, 4] [⟨some 12, none, .mvo 3⟩,
      ⟨some 13, none, .mv (.t 0)⟩,
      ⟨some 14, none, .mv (.t 4)⟩,
      ⟨some 15, none, .idxa 1 (.t 13) (.t 14)⟩,
      ⟨some 16, none, .load none (.t 15)⟩,
      ⟨some 17, none, .bin .quo (.t 16) (.c (.int .u16 256))⟩,
      ⟨some 18, none, .conv .u8 (.t 17)⟩,
      ⟨some 19, none, .mv (.t 0)⟩,
      ⟨some 20, none, .mv (.t 4)⟩,
      ⟨some 21, none, .idxa 1 (.t 19) (.t 20)⟩,
      ⟨some 22, none, .load none (.t 21)⟩,
      ⟨some 23, none, .bin .rem (.t 22) (.c (.int .u16 256))⟩,
      ⟨some 24, none, .conv .u8 (.t 23)⟩,
      ⟨some 25, none, .bsl 5 1 2 [(.int .u8 0), (.int .u8 0)] [(0, 1, (.t 18)), (1, 1, (.t 24))]⟩,
      ⟨some 26, none, .appo 5 1 1 12 (.t 25)⟩,
      ⟨some 3, none, .mvo 26⟩]))
          (.keep [0, 3, 4] (.ops [⟨some 10, none, .mv (.t 4)⟩,
      ⟨some 11, none, .bin .add (.t 10) (.c (.int .i64 1))⟩,
      ⟨some 4, none, .mv (.t 11)⟩]))))

/-- attorney/attorneyref02.Of -/
def J_ref02_Of : AFn :=
  ⟨29, [.t 2], .seq (.ops [⟨some 2, none, .mv (.c (.str ⟨#[]⟩))⟩])
   (.keep [0] (.seq (.ops [⟨some 5, none, .bsl 5 1 0 [] []⟩,
      ⟨some 3, none, .mvo 5⟩])
    (.keep [0, 3] (.seq (.seq (.ops [⟨some 4, none, .mv (.c (.int .i64 0))⟩])
      (.keep [0, 3, 4] (.block 0 (.loop [0, 3, 4] (J_ref02_Of_j2)))))
     (J_ref02_Of_j1)))))⟩
theorem J_ref02_Of_ok : chkFn Try.prog 39 J_ref02_Of = true := by kernel_rfl

/- behind: Q -/
def J_ref02_Less_j1 : ACode :=
  .keep [] (.seq (.ops [⟨some 4, none, .mv (.c (.bool false))⟩])
      (.ret))

/- behind: Q = kloop [0, 1, 5] I n (kblock 0 (kseq P (J_ref02_Less_j1) Q)) -/
def J_ref02_Less_j2 : ACode :=
  .seq (.seq (.ops [⟨some 16, none, .mv (.t 5)⟩,
      ⟨some 17, none, .mv (.t 0)⟩,
      ⟨some 18, none, .lens (.t 17)⟩,
      ⟨some 19, none, .bin .lss (.t 16) (.t 18)⟩])
          (.keep [0, 1, 5, 19] (.cond (.t 19)
           (.skip)
           (.exit 0))))
         (.keep [0, 1, 5] (.seq (.block 1 (.seq (.draw [0, 1, 5, 28] [⟨some 22, none, .mv (.t 0)⟩,
      ⟨some 23, none, .mv (.t 5)⟩,
      ⟨some 24, none, .idxs (.t 22) (.t 23)⟩,
      ⟨some 25, none, .mv (.t 1)⟩,
      ⟨some 26, none, .mv (.t 5)⟩,
      ⟨some 27, none, .idxs (.t 25) (.t 26)⟩,
      ⟨some 28, none, .bin .neq (.t 24) (.t 27)⟩])
            (.keep [0, 1, 5, 28] (.cond (.t 28)
             (.seq (.draw [4] [⟨some 29, none, .mv (.t 0)⟩,
      ⟨some 30, none, .mv (.t 5)⟩,
      ⟨some 31, none, .idxs (.t 29) (.t 30)⟩,
      ⟨some 32, none, .mv (.t 1)⟩,
      ⟨some 33, none, .mv (.t 5)⟩,
      ⟨some 34, none, .idxs (.t 32) (.t 33)⟩,
      ⟨some 35, none, .bin .lss (.t 31) (.t 34)⟩,
      ⟨some 4, none, .mv (.t 35)⟩])
              (.ret))
             (.skip)))))
          (.keep [0, 1, 5] (.ops [⟨some 20, none, .mv (.t 5)⟩,
      ⟨some 21, none, .bin .add (.t 20) (.c (.int .i64 1))⟩,
      ⟨some 5, none, .mv (.t 21)⟩]))))

/-- attorney/attorneyref02.Less -/
def J_ref02_Less : AFn :=
  ⟨36, [.t 4], .seq (.ops [⟨some 4, none, .mv (.c (.bool false))⟩])
   (.keep [0, 1] (.seq (.seq (.ops [⟨some 6, none, .mv (.t 0)⟩,
      ⟨some 7, none, .lens (.t 6)⟩,
      ⟨some 8, none, .mv (.t 1)⟩,
      ⟨some 9, none, .lens (.t 8)⟩,
      ⟨some 10, none, .bin .neq (.t 7) (.t 9)⟩])
     (.keep [0, 1, 10] (.cond (.t 10)
      (.seq (.ops [⟨some 11, none, .mv (.t 0)⟩,
      ⟨some 12, none, .lens (.t 11)⟩,
      ⟨some 13, none, .mv (.t 1)⟩,
      ⟨some 14, none, .lens (.t 13)⟩,
      ⟨some 15, none, .bin .lss (.t 12) (.t 14)⟩,
      ⟨some 4, none, .mv (.t 15)⟩])
       (.ret))
      (.skip))))
    (.keep [0, 1] (.seq (.seq (.ops [⟨some 5, none, .mv (.c (.int .i64 0))⟩])
      (.keep [0, 1, 5] (.block 0 (.loop [0, 1, 5] (J_ref02_Less_j2)))))
     (J_ref02_Less_j1)))))⟩
theorem J_ref02_Less_ok : chkFn Try.prog 40 J_ref02_Less = true := by kernel_rfl

/- behind: Q -/
def J_word_May_j1 : ACode :=
  .keep [] (.seq (.ops [⟨some 2, none, .mv (.c (.bool true))⟩])
      (.ret))

/- behind: Q = kloop [0, 17, 18] I n (kblock 0 (kseq P (J_word_May_j1) Q)) -/
def J_word_May_j2 : ACode :=
  .seq (.ops [⟨some 19, none, .bin .lss (.t 18) (.t 17)⟩])
         (.keep [0, 17, 18, 19] (.seq (.cond (.t 19)
           (.skip)
           (.exit 0))
          (.keep [0, 17, 18] (.seq (.block 1 (.seq (.ops [⟨some 20, none, .mv (.t 18)⟩,
      ⟨some 3, none, .mv (.t 20)⟩])
             (.keep [0, 3, 17, 18] (.seq (.ops [⟨some 21, none, .mv (.t 0)⟩,
      ⟨some 22, none, .mv (.t 3)⟩,
      ⟨some 23, none, .call (.f 98) [(.t 21), (.t 22)]⟩,
      ⟨some 24, none, .bin .eql (.t 23) (.c (.int .u16 0))⟩])
              (.keep [0, 17, 18, 24] (.cond (.t 24)
               (.seq (.ops [⟨some 2, none, .mv (.c (.bool false))⟩])
                (.ret))
               (.skip)))))))
           (.keep [0, 17, 18] (.ops [⟨some 25, none, .bin .add (.t 18) (.c (.int .i64 1))⟩,
      ⟨some 18, none, .mv (.t 25)⟩]))))))

/-- attorney/word.May -/
def J_word_May : AFn :=
  ⟨26, [.t 2], .seq (.ops [⟨some 2, none, .mv (.c (.bool false))⟩])
   (.keep [0] (.seq (.seq (.ops [⟨some 4, none, .mv (.t 0)⟩,
      ⟨some 5, none, .call (.f 97) [(.t 4)]⟩,
      ⟨some 6, none, .mv (.t 5)⟩,
      ⟨some 7, (some (6, false)), .mv (.t 0)⟩,
      ⟨some 8, (some (6, false)), .call (.f 69) [(.t 7)]⟩,
      ⟨some 9, (some (6, false)), .bin .lss (.t 8) (.c (.int .i64 1))⟩,
      ⟨some 10, none, .pick (.t 6) (.c (.bool true)) (.t 9)⟩,
      ⟨some 11, none, .mv (.t 10)⟩,
      ⟨some 12, (some (11, false)), .mv (.t 0)⟩,
      ⟨some 13, (some (11, false)), .call (.f 69) [(.t 12)]⟩,
      ⟨some 14, (some (11, false)), .bin .gtr (.t 13) (.c (.int .i64 8))⟩,
      ⟨some 15, none, .pick (.t 11) (.c (.bool true)) (.t 14)⟩])
     (.keep [0, 15] (.cond (.t 15)
      (.seq (.ops [⟨some 2, none, .mv (.c (.bool false))⟩])
       (.ret))
      (.skip))))
    (.keep [0] (.seq (.seq (.ops [⟨some 16, none, .mv (.t 0)⟩,
      ⟨some 17, none, .call (.f 69) [(.t 16)]⟩,
      ⟨some 18, none, .mv (.c (.int .i64 0))⟩])
      (.keep [0, 17, 18] (.block 0 (.loop [0, 17, 18] (J_word_May_j2)))))
     (J_word_May_j1)))))⟩
theorem J_word_May_ok : chkFn Try.prog 56 J_word_May = true := by kernel_rfl

/-- slices.Clone[[]attorney/api.Word,attorney/api.Word] -/
def J_slices_Clone_api_Word_api_Word : AFn :=
  ⟨8, [.t 2], .seq (.ops [⟨some 2, none, .mv (.c (.lst .clip 0 []))⟩])
   (.keep [0] (.seq (.seq (.ops [⟨some 3, none, .mv (.t 0)⟩,
      ⟨some 4, none, .bin .eql (.t 3) (.c (.lst .clip 0 []))⟩])
     (.keep [0, 4] (.cond (.t 4)
      (.seq (.ops [⟨some 2, none, .mv (.c (.lst .clip 0 []))⟩])
       (.ret))
      (.skip))))
    (.keep [0] (.seq (.ops [⟨some 5, none, .bsl 36 1 0 [] []⟩,
      ⟨some 6, none, .mv (.t 0)⟩,
      ⟨some 7, none, .appo 36 1 16 5 (.t 6)⟩,
      ⟨some 2, none, .mvo 7⟩])
     (.ret)))))⟩
theorem J_slices_Clone_api_Word_api_Word_ok : chkFn Try.prog 57 J_slices_Clone_api_Word_api_Word = true := by kernel_rfl

/-- slices.SortFunc[[]attorney/api.Word,attorney/api.Word] -/
def J_slices_SortFunc_api_Word_api_Word : AFn :=
  ⟨14, [], .seq (.ops [⟨some 5, none, .mv (.t 0)⟩,
      ⟨some 6, none, .lenl (.t 5)⟩,
      ⟨some 4, none, .mv (.t 6)⟩])
   (.keep [0, 1, 4] (.ops [⟨some 7, none, .mv (.t 0)⟩,
      ⟨some 8, none, .mv (.t 4)⟩,
      ⟨some 9, none, .mv (.t 4)⟩,
      ⟨some 10, none, .conv .u64 (.t 9)⟩,
      ⟨some 11, none, .call (.f 100) [(.t 10)]⟩,
      ⟨some 12, none, .mv (.t 1)⟩,
      ⟨some 13, none, .call (.f 99) [(.t 7), (.c (.int .i64 0)), (.t 8), (.t 11), (.t 12)]⟩]))⟩
theorem J_slices_SortFunc_api_Word_api_Word_ok : chkFn Try.prog 58 J_slices_SortFunc_api_Word_api_Word = true := by kernel_rfl

/-- attorney/set.compare -/
def J_set_compare : AFn :=
  ⟨11, [.t 4], .seq (.ops [⟨some 4, none, .mv (.c (.int .i64 0))⟩])
   (.keep [0, 1] (.seq (.seq (.ops [⟨some 5, none, .mv (.t 0)⟩,
      ⟨some 6, none, .mv (.t 1)⟩,
      ⟨some 7, none, .call (.f 65) [(.t 5), (.t 6)]⟩])
     (.keep [0, 1, 7] (.cond (.t 7)
      (.seq (.ops [⟨some 4, none, .mv (.c (.int .i64 (-1)))⟩])
       (.ret))
      (.skip))))
    (.keep [0, 1] (.seq (.seq (.ops [⟨some 8, none, .mv (.t 1)⟩,
      ⟨some 9, none, .mv (.t 0)⟩,
      ⟨some 10, none, .call (.f 65) [(.t 8), (.t 9)]⟩])
      (.keep [10] (.cond (.t 10)
       (.seq (.ops [⟨some 4, none, .mv (.c (.int .i64 1))⟩])
        (.ret))
       (.skip))))
     (.keep [] (.seq (.ops [⟨some 4, none, .mv (.c (.int .i64 0))⟩])
      (.ret)))))))⟩
theorem J_set_compare_ok : chkFn Try.prog 59 J_set_compare = true := by kernel_rfl

/-- slices.Clip[[]attorney/api.Word,attorney/api.Word] -/
def J_slices_Clip_api_Word_api_Word : AFn :=
  ⟨9, [.t 2], .seq (.ops [⟨some 2, none, .mv (.c (.lst .clip 0 []))⟩])
   (.keep [0] (.seq (.ops [⟨some 3, none, .mv (.t 0)⟩,
      ⟨some 4, none, .mv (.t 0)⟩,
      ⟨some 5, none, .lenl (.t 4)⟩,
      ⟨some 6, none, .mv (.t 0)⟩,
      ⟨some 7, none, .lenl (.t 6)⟩,
      ⟨some 8, none, .slcl 1 (.t 3) none (some (.t 5)) (some (.t 7))⟩,
      ⟨some 2, none, .mv (.t 8)⟩])
    (.ret)))⟩
theorem J_slices_Clip_api_Word_api_Word_ok : chkFn Try.prog 61 J_slices_Clip_api_Word_api_Word = true := by kernel_rfl

/- behind: Q -/
def J_ref02_May_j1 : ACode :=
  .keep [0, 3] (.seq (.ops [⟨some 18, none, .mv (.t 0)⟩,
      ⟨some 19, none, .lens (.t 18)⟩,
      ⟨some 20, none, .bin .rem (.t 19) (.c (.int .i64 2))⟩,
      ⟨some 21, none, .bin .eql (.t 20) (.c (.int .i64 0))⟩,
      ⟨some 22, none, .mv (.t 21)⟩,
      ⟨some 23, (some (22, true)), .mv (.t 3)⟩,
      ⟨some 24, (some (22, true)), .lenl (.t 23)⟩,
      ⟨some 25, (some (22, true)), .bin .geq (.t 24) (.c (.int .i64 1))⟩,
      ⟨some 26, none, .pick (.t 22) (.t 25) (.c (.bool false))⟩,
      ⟨some 27, none, .mv (.t 26)⟩,
      ⟨some 28, (some (27, true)), .mv (.t 3)⟩,
      ⟨some 29, (some (27, true)), .lenl (.t 28)⟩,
      ⟨some 30, (some (27, true)), .bin .leq (.t 29) (.c (.int .i64 8))⟩,
      ⟨some 31, none, .pick (.t 27) (.t 30) (.c (.bool false))⟩,
      ⟨some 2, none, .mv (.t 31)⟩])
      (.ret))

/- behind: Q = kloop [0, 3, 4] I n (kblock 0 (kseq P (J_ref02_May_j1) Q)) -/
def J_ref02_May_j2 : ACode :=
  .seq (.seq (.ops [⟨some 7, none, .mv (.t 4)⟩,
      ⟨some 8, none, .mv (.t 3)⟩,
      ⟨some 9, none, .lenl (.t 8)⟩,
      ⟨some 10, none, .bin .lss (.t 7) (.t 9)⟩])
          (.keep [0, 3, 4, 10] (.cond (.t 10)
           (.skip)
           (.exit 0))))
         (.keep [0, 3, 4] (.seq (.block 1 (.seq (.ops [⟨some 13, none, .mv (.t 3)⟩,
      ⟨some 14, none, .mv (.t 4)⟩,
      ⟨some 15, none, .idxa 1 (.t 13) (.t 14)⟩,
      ⟨some 16, none, .load none (.t 15)⟩,
      ⟨some 17, none, .bin .eql (.t 16) (.c (.int .u16 0))⟩])
            (.keep [0, 3, 4, 17] (.cond (.t 17)
             (.seq (.ops [⟨some 2, none, .mv (.c (.bool false))⟩])
              (.ret))
             (.skip)))))
          (.keep [0, 3, 4] (.ops [⟨some 11, none, .mv (.t 4)⟩,
      ⟨some 12, none, .bin .add (.t 11) (.c (.int .i64 1))⟩,
      ⟨some 4, none, .mv (.t 12)⟩]))))

/-- attorney/attorneyref02.May -/
def J_ref02_May : AFn :=
  ⟨32, [.t 2], .seq (.ops [⟨some 2, none, .mv (.c (.bool false))⟩])
   (.keep [0] (.seq (.ops [⟨some 5, none, .mv (.t 0)⟩,
      ⟨some 6, none, .call (.f 73) [(.t 5)]⟩,
      ⟨some 3, none, .mv (.t 6)⟩])
    (.keep [0, 3] (.seq (.seq (.ops [⟨some 4, none, .mv (.c (.int .i64 0))⟩])
      (.keep [0, 3, 4] (.block 0 (.loop [0, 3, 4] (J_ref02_May_j2)))))
     (J_ref02_May_j1)))))⟩
theorem J_ref02_May_ok : chkFn Try.prog 62 J_ref02_May = true := by kernel_rfl

/-- attorney/attorneyref03.bound -/
def J_ref03_bound : AFn :=
  ⟨13, [.t 2, .t 3], .seq (.ops [⟨some 2, none, .mv (.c (.lst .clip 0 []))⟩,
      ⟨some 3, none, .mv (.c (.int .i64 0))⟩])
   (.keep [0] (.seq (.seq (.ops [⟨some 4, none, .mv (.t 0)⟩,
      ⟨some 5, none, .lenl (.t 4)⟩,
      ⟨some 6, none, .bin .lss (.t 5) (.c (.int .i64 1))⟩,
      ⟨some 7, none, .mv (.t 6)⟩,
      ⟨some 8, (some (7, false)), .mv (.t 0)⟩,
      ⟨some 9, (some (7, false)), .lenl (.t 8)⟩,
      ⟨some 10, (some (7, false)), .bin .gtr (.t 9) (.c (.int .i64 16))⟩,
      ⟨some 11, none, .pick (.t 7) (.c (.bool true)) (.t 10)⟩])
     (.keep [0, 11] (.cond (.t 11)
      (.seq (.ops [⟨some 2, none, .mv (.c (.lst .clip 0 []))⟩,
      ⟨some 3, none, .mv (.c (.int .i64 3))⟩])
       (.ret))
      (.skip))))
    (.keep [0] (.seq (.ops [⟨some 12, none, .mv (.t 0)⟩,
      ⟨some 2, none, .mv (.t 12)⟩,
      ⟨some 3, none, .mv (.c (.int .i64 0))⟩])
     (.ret)))))⟩
theorem J_ref03_bound_ok : chkFn Try.prog 63 J_ref03_bound = true := by kernel_rfl

/- behind: (kblock 1 Q) -/
def J_ref03_Right_j1 : ACode :=
  .keep [0, 3, 4, 5] (.seq (.seq (.ops [⟨some 48, none, .mv (.t 5)⟩,
      ⟨some 49, none, .not (.t 48)⟩])
            (.keep [0, 3, 4, 49] (.cond (.t 49)
             (.seq (.ops [⟨some 50, none, .mv (.t 3)⟩,
      ⟨some 2, none, .mv (.t 50)⟩])
              (.ret))
             (.skip))))
           (.keep [0, 3, 4] (.ops [⟨some 51, none, .mvo 3⟩,
      ⟨some 52, none, .mv (.t 4)⟩,
      ⟨some 53, none, .bsl 36 1 1 [(.str ⟨#[]⟩)] [(0, 1, (.t 52))]⟩,
      ⟨some 54, none, .appo 36 1 16 51 (.t 53)⟩,
      ⟨some 3, none, .mvo 54⟩])))

/- behind: Q -/
def J_ref03_Right_j2 : ACode :=
  .keep [0, 3, 4, 5, 6] (.ops [⟨some 13, none, .mv (.t 6)⟩,
      ⟨some 14, none, .bin .add (.t 13) (.c (.int .i64 1))⟩,
      ⟨some 6, none, .mv (.t 14)⟩])

/- behind: Q = kloop [0, 3, 4, 5, 6] I n (kblock 2 (kseq P (J_ref03_Right_j1) (kblock 1 Q))) -/
def J_ref03_Right_j3 : ACode :=
  .seq (.seq (.ops [⟨some 9, none, .mv (.t 6)⟩,
      ⟨some 10, none, .mv (.t 0)⟩,
      ⟨some 11, none, .lenl (.t 10)⟩,
      ⟨some 12, none, .bin .lss (.t 9) (.t 11)⟩])
               (.keep [0, 3, 4, 5, 6, 12] (.cond (.t 12)
                (.skip)
                (.exit 2))))
              (.keep [0, 3, 4, 5, 6] (.seq (.block 3 (.seq (.draw [0, 3, 4, 5, 6, 7] [⟨some 15, none, .mv (.t 3)⟩,
      ⟨some 16, none, .lenl (.t 15)⟩,
      ⟨some 17, none, .bin .eql (.t 16) (.c (.int .i64 0))⟩,
      ⟨some 18, none, .mv (.t 17)⟩,
      ⟨some 19, (some (18, false)), .mv (.t 3)⟩,
      ⟨some 20, (some (18, false)), .mv (.t 3)⟩,
      ⟨some 21, (some (18, false)), .lenl (.t 20)⟩,
      ⟨some 22, (some (18, false)), .bin .sub (.t 21) (.c (.int .i64 1))⟩,
      ⟨some 23, (some (18, false)), .idxa 1 (.t 19) (.t 22)⟩,
      ⟨some 24, (some (18, false)), .load none (.t 23)⟩,
      ⟨some 25, (some (18, false)), .mv (.t 0)⟩,
      ⟨some 26, (some (18, false)), .mv (.t 6)⟩,
      ⟨some 27, (some (18, false)), .idxa 1 (.t 25) (.t 26)⟩,
      ⟨some 28, (some (18, false)), .load none (.t 27)⟩,
      ⟨some 29, (some (18, false)), .call (.f 40) [(.t 24), (.t 28)]⟩,
      ⟨some 30, none, .pick (.t 18) (.c (.bool true)) (.t 29)⟩,
      ⟨some 7, none, .mv (.t 30)⟩])
                 (.keep [0, 3, 4, 5, 6, 7] (.seq (.ops [⟨some 31, none, .mv (.t 7)⟩,
      ⟨some 32, none, .mv (.t 31)⟩,
      ⟨some 33, (some (32, true)), .mv (.t 5)⟩,
      ⟨some 34, (some (32, true)), .not (.t 33)⟩,
      ⟨some 35, (some (32, true)), .mv (.t 34)⟩,
      ⟨some 36, (some (35, false)), .mv (.t 0)⟩,
      ⟨some 37, (some (35, false)), .mv (.t 6)⟩,
      ⟨some 38, (some (35, false)), .idxa 1 (.t 36) (.t 37)⟩,
      ⟨some 39, (some (35, false)), .load none (.t 38)⟩,
      ⟨some 40, (some (35, false)), .mv (.t 4)⟩,
      ⟨some 41, (some (35, false)), .call (.f 40) [(.t 39), (.t 40)]⟩,
      ⟨some 42, (some (32, true)), .pick (.t 35) (.c (.bool true)) (.t 41)⟩,
      ⟨some 43, none, .pick (.t 32) (.t 42) (.c (.bool false))⟩])
                  (.keep [0, 3, 4, 5, 6, 43] (.cond (.t 43)
                   (.seq (.ops [⟨some 44, none, .mv (.t 0)⟩,
      ⟨some 45, none, .mv (.t 6)⟩,
      ⟨some 46, none, .idxa 1 (.t 44) (.t 45)⟩,
      ⟨some 47, none, .load none (.t 46)⟩,
      ⟨some 4, none, .mv (.t 47)⟩])
                    (.keep [0, 3, 4, 6] (.ops [⟨some 5, none, .mv (.c (.bool true))⟩])))
                   (.skip)))))))
               (J_ref03_Right_j2)))

/- behind: Q = kloop [0, 3] I n (kblock 0 Q) -/
def J_ref03_Right_j4 : ACode :=
  .block 1 (.seq (.ops [⟨some 4, none, .mv (.c (.str ⟨#[]⟩))⟩])
        (.keep [0, 3, 4] (.seq (.ops [⟨some 5, none, .mv (.c (.bool false))⟩])
         (.keep [0, 3, 4, 5] (.seq (.seq (.ops [⟨some 6, none, .mv (.c (.int .i64 0))⟩])
           (.keep [0, 3, 4, 5, 6] (.block 2 (.loop [0, 3, 4, 5, 6] (J_ref03_Right_j3)))))
          (J_ref03_Right_j1))))))

/-- attorney/attorneyref03.Right -/
def J_ref03_Right : AFn :=
  ⟨55, [.t 2], .seq (.ops [⟨some 2, none, .mv (.c (.lst .clip 0 []))⟩])
   (.keep [0] (.seq (.ops [⟨some 8, none, .bsl 36 1 0 [] []⟩,
      ⟨some 3, none, .mvo 8⟩])
    (.keep [0, 3] (.block 0 (.loop [0, 3] (J_ref03_Right_j4))))))⟩
theorem J_ref03_Right_ok : chkFn Try.prog 64 J_ref03_Right = true := by kernel_rfl

/-- attorney/word.Less -/
def J_word_Less : AFn :=
  ⟨18, [.t 4], .seq (.ops [⟨some 4, none, .mv (.c (.bool false))⟩])
   (.keep [0, 1] (.seq (.seq (.ops [⟨some 5, none, .mv (.t 0)⟩,
      ⟨some 6, none, .lens (.t 5)⟩,
      ⟨some 7, none, .mv (.t 1)⟩,
      ⟨some 8, none, .lens (.t 7)⟩,
      ⟨some 9, none, .bin .neq (.t 6) (.t 8)⟩])
     (.keep [0, 1, 9] (.cond (.t 9)
      (.seq (.ops [⟨some 10, none, .mv (.t 0)⟩,
      ⟨some 11, none, .lens (.t 10)⟩,
      ⟨some 12, none, .mv (.t 1)⟩,
      ⟨some 13, none, .lens (.t 12)⟩,
      ⟨some 14, none, .bin .lss (.t 11) (.t 13)⟩,
      ⟨some 4, none, .mv (.t 14)⟩])
       (.ret))
      (.skip))))
    (.keep [0, 1] (.seq (.ops [⟨some 15, none, .mv (.t 0)⟩,
      ⟨some 16, none, .mv (.t 1)⟩,
      ⟨some 17, none, .bin .lss (.t 15) (.t 16)⟩,
      ⟨some 4, none, .mv (.t 17)⟩])
     (.ret)))))⟩
theorem J_word_Less_ok : chkFn Try.prog 65 J_word_Less = true := by kernel_rfl

/- behind: Q -/
def J_set_collect_api_Word_api_Word_j1 : ACode :=
  .keep [7] (.seq (.ops [⟨some 39, none, .mv (.t 7)⟩,
      ⟨some 6, none, .mv (.t 39)⟩])
      (.ret))

/- behind: Q -/
def J_set_collect_api_Word_api_Word_j2 : ACode :=
  .keep [1, 2, 7, 18, 19, 20] (.ops [⟨some 38, none, .bin .add (.t 20) (.c (.int .i64 1))⟩,
      ⟨some 20, none, .mv (.t 38)⟩])

/- behind: Q = kloop [1, 2, 7, 9, 18, 19, 20, 24, 25, 26] I n (kblock 2 (kblock 1 (kseq P (J_set_collect_api_Word_api_Word_j2) Q))) -/
def J_set_collect_api_Word_api_Word_j3 : ACode :=
  .seq (.ops [⟨some 27, none, .bin .lss (.t 26) (.t 25)⟩])
                 (.keep [1, 2, 7, 9, 18, 19, 20, 24, 25, 26, 27] (.seq (.cond (.t 27)
                   (.skip)
                   (.exit 2))
                  (.keep [1, 2, 7, 9, 18, 19, 20, 24, 25, 26] (.seq (.block 3 (.seq (.ops [⟨some 28, none, .idxa 1 (.t 24) (.t 26)⟩,
      ⟨some 29, none, .load none (.t 28)⟩,
      ⟨some 11, none, .mv (.t 29)⟩])
                     (.keep [1, 2, 7, 9, 11, 18, 19, 20, 24, 25, 26] (.ops [⟨some 30, none, .mvo 7⟩,
      ⟨some 31, none, .mv (.t 2)⟩,
      ⟨some 32, none, .mv (.t 9)⟩,
      ⟨some 33, none, .mv (.t 11)⟩,
      ⟨some 34, none, .call (.t 31) [(.t 32), (.t 33)]⟩,
      ⟨some 35, none, .bsl 36 1 1 [(.str ⟨#[]⟩)] [(0, 1, (.t 34))]⟩,
      ⟨some 36, none, .appo 36 1 16 30 (.t 35)⟩,
      ⟨some 7, none, .mvo 36⟩]))))
                   (.keep [1, 2, 7, 9, 18, 19, 20, 24, 25, 26] (.ops [⟨some 37, none, .bin .add (.t 26) (.c (.int .i64 1))⟩,
      ⟨some 26, none, .mv (.t 37)⟩]))))))

/- behind: Q = kloop [1, 2, 7, 18, 19, 20] I n (kblock 0 (kseq P (J_set_collect_api_Word_api_Word_j1) Q)) -/
def J_set_collect_api_Word_api_Word_j4 : ACode :=
  .seq (.ops [⟨some 21, none, .bin .lss (.t 20) (.t 19)⟩])
         (.keep [1, 2, 7, 18, 19, 20, 21] (.seq (.cond (.t 21)
           (.skip)
           (.exit 0))
          (.keep [1, 2, 7, 18, 19, 20] (.seq (.block 1 (.seq (.ops [⟨some 22, none, .idxa 1 (.t 18) (.t 20)⟩,
      ⟨some 23, none, .load none (.t 22)⟩,
      ⟨some 9, none, .mv (.t 23)⟩])
             (.keep [1, 2, 7, 9, 18, 19, 20] (.seq (.ops [⟨some 24, none, .mv (.t 1)⟩,
      ⟨some 25, none, .lenl (.t 24)⟩,
      ⟨some 26, none, .mv (.c (.int .i64 0))⟩])
              (.keep [1, 2, 7, 9, 18, 19, 20, 24, 25, 26] (.block 2 (.loop [1, 2, 7, 9, 18, 19, 20, 24, 25, 26] (J_set_collect_api_Word_api_Word_j3))))))))
           (J_set_collect_api_Word_api_Word_j2)))))

/-- attorney/set.collect[attorney/api.Word,attorney/api.Word] -/
def J_set_collect_api_Word_api_Word : AFn :=
  ⟨40, [.t 6], .seq (.ops [⟨some 6, none, .mv (.c (.lst .clip 0 []))⟩])
   (.keep [0, 1, 2] (.seq (.ops [⟨some 12, none, .mv (.t 0)⟩,
      ⟨some 13, none, .lenl (.t 12)⟩,
      ⟨some 14, none, .mv (.t 1)⟩,
      ⟨some 15, none, .lenl (.t 14)⟩,
      ⟨some 16, none, .bin .mul (.t 13) (.t 15)⟩,
      ⟨some 17, none, .mk0 36 1 16 (.t 16)⟩,
      ⟨some 7, none, .mvo 17⟩])
    (.keep [0, 1, 2, 7] (.seq (.seq (.ops [⟨some 18, none, .mv (.t 0)⟩,
      ⟨some 19, none, .lenl (.t 18)⟩,
      ⟨some 20, none, .mv (.c (.int .i64 0))⟩])
      (.keep [1, 2, 7, 18, 19, 20] (.block 0 (.loop [1, 2, 7, 18, 19, 20] (J_set_collect_api_Word_api_Word_j4)))))
     (J_set_collect_api_Word_api_Word_j1)))))⟩
theorem J_set_collect_api_Word_api_Word_ok : chkFn Try.prog 67 J_set_collect_api_Word_api_Word = true := by kernel_rfl

/-- attorney/set.Quote$1 -/
def J_set_Quote_1 : AFn :=
  ⟨8, [.t 4], .seq (.ops [⟨some 4, none, .mv (.c (.str ⟨#[]⟩))⟩])
   (.keep [0, 1] (.seq (.ops [⟨some 5, none, .mv (.t 0)⟩,
      ⟨some 6, none, .mv (.t 1)⟩,
      ⟨some 7, none, .bin .add (.t 5) (.t 6)⟩,
      ⟨some 4, none, .mv (.t 7)⟩])
    (.ret)))⟩
theorem J_set_Quote_1_ok : chkFn Try.prog 68 J_set_Quote_1 = true := by kernel_rfl

/-- attorney/word.Len -/
def J_word_Len : AFn :=
  ⟨6, [.t 2], .seq (.ops [⟨some 2, none, .mv (.c (.int .i64 0))⟩])
   (.keep [0] (.seq (.ops [⟨some 3, none, .mv (.t 0)⟩,
      ⟨some 4, none, .lens (.t 3)⟩,
      ⟨some 5, none, .bin .quo (.t 4) (.c (.int .i64 2))⟩,
      ⟨some 2, none, .mv (.t 5)⟩])
    (.ret)))⟩
theorem J_word_Len_ok : chkFn Try.prog 69 J_word_Len = true := by kernel_rfl

/- behind: Q -/
def J_ref02_Cat_j1 : ACode :=
  .keep [4] (.seq (.ops [⟨some 37, none, .mv (.t 4)⟩,
      ⟨some 38, none, .call (.f 39) [(.t 37)]⟩,
      ⟨some 2, none, .mv (.t 38)⟩,
      ⟨some 3, none, .mv (.c (.int .i64 0))⟩])
       (.ret))

/- behind: Q = kloop [0, 4, 6] I n (kblock 2 (kseq P (J_ref02_Cat_j1) Q)) -/
def J_ref02_Cat_j2 : ACode :=
  .seq (.seq (.ops [⟨some 21, none, .mv (.t 6)⟩,
      ⟨some 22, none, .mv (.t 0)⟩,
      ⟨some 23, none, .lenl (.t 22)⟩,
      ⟨some 24, none, .bin .lss (.t 21) (.t 23)⟩])
           (.keep [0, 4, 6, 24] (.cond (.t 24)
            (.skip)
            (.exit 2))))
          (.keep [0, 4, 6] (.seq (.block 3 (.seq (.ops [⟨some 27, none, .mvo 4⟩,
      ⟨some 28, none, .mv (.t 0)⟩,
      ⟨some 29, none, .mv (.t 6)⟩,
      ⟨some 30, none, .idxa 1 (.t 28) (.t 29)⟩,
      ⟨some 31, none, .load none (.t 30)⟩,
      ⟨some 32, none, .call (.f 73) [(.t 31)]⟩,
      ⟨some 33, none, .appo 25 1 2 27 (.t 32)⟩,
      ⟨some 4, none, .mvo 33⟩])
             (.keep [0, 4, 6] (.seq (.ops [⟨some 34, none, .mv (.t 4)⟩,
      ⟨some 35, none, .lenl (.t 34)⟩,
      ⟨some 36, none, .bin .gtr (.t 35) (.c (.int .i64 8))⟩])
              (.keep [0, 4, 6, 36] (.cond (.t 36)
               (.seq (.ops [⟨some 2, none, .mv (.c (.str ⟨#[]⟩))⟩,
      ⟨some 3, none, .mv (.c (.int .i64 4))⟩])
                (.ret))
               (.skip)))))))
           (.keep [0, 4, 6] (.ops [⟨some 25, none, .mv (.t 6)⟩,
      ⟨some 26, none, .bin .add (.t 25) (.c (.int .i64 1))⟩,
      ⟨some 6, none, .mv (.t 26)⟩]))))

/- behind: Q -/
def J_ref02_Cat_j3 : ACode :=
  .keep [0, 4] (.seq (.seq (.ops [⟨some 6, none, .mv (.c (.int .i64 0))⟩])
       (.keep [0, 4, 6] (.block 2 (.loop [0, 4, 6] (J_ref02_Cat_j2)))))
      (J_ref02_Cat_j1))

/- behind: Q = kloop [0, 4, 5] I n (kblock 0 (kseq P (J_ref02_Cat_j3) Q)) -/
def J_ref02_Cat_j4 : ACode :=
  .seq (.seq (.ops [⟨some 8, none, .mv (.t 5)⟩,
      ⟨some 9, none, .mv (.t 0)⟩,
      ⟨some 10, none, .lenl (.t 9)⟩,
      ⟨some 11, none, .bin .lss (.t 8) (.t 10)⟩])
          (.keep [0, 4, 5, 11] (.cond (.t 11)
           (.skip)
           (.exit 0))))
         (.keep [0, 4, 5] (.seq (.block 1 (.seq (.ops [⟨some 14, none, .mv (.t 0)⟩,
      ⟨some 15, none, .mv (.t 5)⟩,
      ⟨some 16, none, .idxa 1 (.t 14) (.t 15)⟩,
      ⟨some 17, none, .load none (.t 16)⟩,
      ⟨some 18, none, .lens (.t 17)⟩,
      ⟨some 19, none, .bin .rem (.t 18) (.c (.int .i64 2))⟩,
      ⟨some 20, none, .bin .eql (.t 19) (.c (.int .i64 1))⟩])
            (.keep [0, 4, 5, 20] (.cond (.t 20)
             (.seq (.ops [⟨some 2, none, .mv (.c (.str ⟨#[]⟩))⟩,
      ⟨some 3, none, .mv (.c (.int .i64 2))⟩])
              (.ret))
             (.skip)))))
          (.keep [0, 4, 5] (.ops [⟨some 12, none, .mv (.t 5)⟩,
      ⟨some 13, none, .bin .add (.t 12) (.c (.int .i64 1))⟩,
      ⟨some 5, none, .mv (.t 13)⟩]))))

/-- attorney/attorneyref02.Cat -/
def J_ref02_Cat : AFn :=
  ⟨39, [.t 2, .t 3], .seq (.ops [⟨some 2, none, .mv (.c (.str ⟨#[]⟩))⟩,
      ⟨some 3, none, .mv (.c (.int .i64 0))⟩])
   (.keep [0] (.seq (.ops [⟨some 7, none, .bsl 25 1 0 [] []⟩,
      ⟨some 4, none, .mvo 7⟩])
    (.keep [0, 4] (.seq (.seq (.ops [⟨some 5, none, .mv (.c (.int .i64 0))⟩])
      (.keep [0, 4, 5] (.block 0 (.loop [0, 4, 5] (J_ref02_Cat_j4)))))
     (J_ref02_Cat_j3)))))⟩
theorem J_ref02_Cat_ok : chkFn Try.prog 70 J_ref02_Cat = true := by kernel_rfl

/- behind: Q -/
def J_word_Of_j1 : ACode :=
  .keep [3] (.seq (.ops [⟨some 25, none, .mv (.t 3)⟩,
      ⟨some 26, none, .b2s (.t 25)⟩,
      ⟨some 2, none, .mv (.t 26)⟩])
      (.ret))

/- behind: Q = kloop [3, 10, 11, 12] I n (kblock 0 (kseq P (J_word_Of_j1) Q)) -/
def J_word_Of_j2 : ACode :=
  .seq (.ops [⟨some 13, none, .bin .lss (.t 12) (.t 11)⟩])
         (.keep [3, 10, 11, 12, 13] (.seq (.cond (.t 13)
           (.skip)
           (.exit 0))
          (.keep [3, 10, 11, 12] (.seq (.block 1 (.seq (.ops [⟨some 14, none, .idxa 1 (.t 10) (.t 12)⟩,
      ⟨some 15, none, .load none (.t 14)⟩,
      ⟨some 5, none, .mv (.t 15)⟩])
             (.keep [3, 5, 10, 11, 12] (.ops [⟨some 16, none, .mvo 3⟩,
      ⟨some 17, none, .mv (.t 5)⟩,
      ⟨some 18, none, .bin .shr (.t 17) (.c (.int .u64 8))⟩,
      ⟨some 19, none, .conv .u8 (.t 18)⟩,
      ⟨some 20, none, .mv (.t 5)⟩,
      ⟨some 21, none, .conv .u8 (.t 20)⟩,
      ⟨some 22, none, .bsl 5 1 2 [(.int .u8 0), (.int .u8 0)] [(0, 1, (.t 19)), (1, 1, (.t 21))]⟩,
      ⟨some 23, none, .appo 5 1 1 16 (.t 22)⟩,
      ⟨some 3, none, .mvo 23⟩]))))
           (.keep [3, 10, 11, 12] (.ops [⟨some 24, none, .bin .add (.t 12) (.c (.int .i64 1))⟩,
      ⟨some 12, none, .mv (.t 24)⟩]))))))

/-- attorney/word.Of -/
def J_word_Of : AFn :=
  ⟨27, [.t 2], .seq (.ops [⟨some 2, none, .mv (.c (.str ⟨#[]⟩))⟩])
   (.keep [0] (.seq (.ops [⟨some 6, none, .mv (.t 0)⟩,
      ⟨some 7, none, .lenl (.t 6)⟩,
      ⟨some 8, none, .bin .mul (.c (.int .i64 2)) (.t 7)⟩,
      ⟨some 9, none, .mk0 5 1 1 (.t 8)⟩,
      ⟨some 3, none, .mvo 9⟩])
    (.keep [0, 3] (.seq (.seq (.ops [⟨some 10, none, .mv (.t 0)⟩,
      ⟨some 11, none, .lenl (.t 10)⟩,
      ⟨some 12, none, .mv (.c (.int .i64 0))⟩])
      (.keep [3, 10, 11, 12] (.block 0 (.loop [3, 10, 11, 12] (J_word_Of_j2)))))
     (J_word_Of_j1)))))⟩
theorem J_word_Of_ok : chkFn Try.prog 71 J_word_Of = true := by kernel_rfl

/-- slices.Contains[attorney/api.Set,attorney/api.Word] -/
def J_slices_Contains_api_Set_api_Word : AFn :=
  ⟨9, [.t 4], .seq (.ops [⟨some 4, none, .mv (.c (.bool false))⟩])
   (.keep [0, 1] (.seq (.ops [⟨some 5, none, .mv (.t 0)⟩,
      ⟨some 6, none, .mv (.t 1)⟩,
      ⟨some 7, none, .call (.f 102) [(.t 5), (.t 6)]⟩,
      ⟨some 8, none, .bin .geq (.t 7) (.c (.int .i64 0))⟩,
      ⟨some 4, none, .mv (.t 8)⟩])
    (.ret)))⟩
theorem J_slices_Contains_api_Set_api_Word_ok : chkFn Try.prog 72 J_slices_Contains_api_Set_api_Word = true := by kernel_rfl

/- behind: Q -/
def J_ref02_Atoms_j1 : ACode :=
  .keep [3] (.seq (.ops [⟨some 27, none, .mv (.t 3)⟩,
      ⟨some 2, none, .mv (.t 27)⟩])
      (.ret))

/- behind: Q = kloop [0, 3, 4] I n (kblock 0 (kseq P (J_ref02_Atoms_j1) Q)) -/
def J_ref02_Atoms_j2 : ACode :=
  .seq (.seq (.ops [⟨some 6, none, .mv (.t 4)⟩,
      ⟨some 7, none, .bin .add (.t 6) (.c (.int .i64 1))⟩,
      ⟨some 8, none, .mv (.t 0)⟩,
      ⟨some 9, none, .lens (.t 8)⟩,
      ⟨some 10, none, .bin .lss (.t 7) (.t 9)⟩])
          (.keep [0, 3, 4, 10] (.cond (.t 10)
           (.skip)
           (.exit 0))))
         (.keep [0, 3, 4] (.seq (.block 1 (.draw [0, 3, 4] [⟨some 13, none, .mvo 3⟩,
      ⟨some 14, none, .mv (.t 0)⟩,
      ⟨some 15, none, .mv (.t 4)⟩,
      ⟨some 16, none, .idxs (.t 14) (.t 15)⟩,
      ⟨some 17, none, .conv .u16 (.t 16)⟩,
      ⟨some 18, none, .bin .mul (.t 17) (.c (.int .u16 256))⟩,
      ⟨some 19, none, .mv (.t 0)⟩,
      ⟨some 20, none, .mv (.t 4)⟩,
      ⟨some 21, none, .bin .add (.t 20) (.c (.int .i64 1))⟩,
      ⟨some 22, none, .idxs (.t 19) (.t 21)⟩,
      ⟨some 23, none, .conv .u16 (.t 22)⟩,
      ⟨some 24, none, .bin .add (.t 18) (.t 23)⟩,
      ⟨some 25, none, .bsl 25 1 1 [(.int .u16 0)] [(0, 1, (.t 24))]⟩,
      ⟨some 26, none, .appo 25 1 2 13 (.t 25)⟩,
      ⟨some 3, none, .mvo 26⟩]))
          (.keep [0, 3, 4] (.ops [⟨some 11, none, .mv (.t 4)⟩,
      ⟨some 12, none, .bin .add (.t 11) (.c (.int .i64 2))⟩,
      ⟨some 4, none, .mv (.t 12)⟩]))))

/-- attorney/attorneyref02.Atoms -/
def J_ref02_Atoms : AFn :=
  ⟨28, [.t 2], .seq (.ops [⟨some 2, none, .mv (.c (.lst .clip 0 []))⟩])
   (.keep [0] (.seq (.ops [⟨some 5, none, .bsl 25 1 0 [] []⟩,
      ⟨some 3, none, .mvo 5⟩])
    (.keep [0, 3] (.seq (.seq (.ops [⟨some 4, none, .mv (.c (.int .i64 0))⟩])
      (.keep [0, 3, 4] (.block 0 (.loop [0, 3, 4] (J_ref02_Atoms_j2)))))
     (J_ref02_Atoms_j1)))))⟩
theorem J_ref02_Atoms_ok : chkFn Try.prog 73 J_ref02_Atoms = true := by kernel_rfl

/- behind: Q -/
def J_slices_Equal_api_Set_api_Word_j1 : ACode :=
  .keep [] (.seq (.ops [⟨some 4, none, .mv (.c (.bool true))⟩])
      (.ret))

/- behind: Q = kloop [0, 1, 12, 13] I n (kblock 0 (kseq P (J_slices_Equal_api_Set_api_Word_j1) Q)) -/
def J_slices_Equal_api_Set_api_Word_j2 : ACode :=
  .seq (.ops [⟨some 14, none, .bin .lss (.t 13) (.t 12)⟩])
         (.keep [0, 1, 12, 13, 14] (.seq (.cond (.t 14)
           (.skip)
           (.exit 0))
          (.keep [0, 1, 12, 13] (.seq (.block 1 (.seq (.ops [⟨some 15, none, .mv (.t 13)⟩,
      ⟨some 5, none, .mv (.t 15)⟩])
             (.keep [0, 1, 5, 12, 13] (.seq (.draw [0, 1, 12, 13, 24] [⟨some 16, none, .mv (.t 0)⟩,
      ⟨some 17, none, .mv (.t 5)⟩,
      ⟨some 18, none, .idxa 1 (.t 16) (.t 17)⟩,
      ⟨some 19, none, .load none (.t 18)⟩,
      ⟨some 20, none, .mv (.t 1)⟩,
      ⟨some 21, none, .mv (.t 5)⟩,
      ⟨some 22, none, .idxa 1 (.t 20) (.t 21)⟩,
      ⟨some 23, none, .load none (.t 22)⟩,
      ⟨some 24, none, .bin .neq (.t 19) (.t 23)⟩])
              (.keep [0, 1, 12, 13, 24] (.cond (.t 24)
               (.seq (.ops [⟨some 4, none, .mv (.c (.bool false))⟩])
                (.ret))
               (.skip)))))))
           (.keep [0, 1, 12, 13] (.ops [⟨some 25, none, .bin .add (.t 13) (.c (.int .i64 1))⟩,
      ⟨some 13, none, .mv (.t 25)⟩]))))))

/-- slices.Equal[attorney/api.Set,attorney/api.Word] -/
def J_slices_Equal_api_Set_api_Word : AFn :=
  ⟨26, [.t 4], .seq (.ops [⟨some 4, none, .mv (.c (.bool false))⟩])
   (.keep [0, 1] (.seq (.seq (.ops [⟨some 6, none, .mv (.t 0)⟩,
      ⟨some 7, none, .lenl (.t 6)⟩,
      ⟨some 8, none, .mv (.t 1)⟩,
      ⟨some 9, none, .lenl (.t 8)⟩,
      ⟨some 10, none, .bin .neq (.t 7) (.t 9)⟩])
     (.keep [0, 1, 10] (.cond (.t 10)
      (.seq (.ops [⟨some 4, none, .mv (.c (.bool false))⟩])
       (.ret))
      (.skip))))
    (.keep [0, 1] (.seq (.seq (.ops [⟨some 11, none, .mv (.t 0)⟩,
      ⟨some 12, none, .lenl (.t 11)⟩,
      ⟨some 13, none, .mv (.c (.int .i64 0))⟩])
      (.keep [0, 1, 12, 13] (.block 0 (.loop [0, 1, 12, 13] (J_slices_Equal_api_Set_api_Word_j2)))))
     (J_slices_Equal_api_Set_api_Word_j1)))))⟩
theorem J_slices_Equal_api_Set_api_Word_ok : chkFn Try.prog 96 J_slices_Equal_api_Set_api_Word = true := by kernel_rfl

/-- attorney/word.odd -/
def J_word_odd : AFn :=
  ⟨7, [.t 2], .seq (.ops [⟨some 2, none, .mv (.c (.bool false))⟩])
   (.keep [0] (.seq (.ops [⟨some 3, none, .mv (.t 0)⟩,
      ⟨some 4, none, .lens (.t 3)⟩,
      ⟨some 5, none, .bin .rem (.t 4) (.c (.int .i64 2))⟩,
      ⟨some 6, none, .bin .neq (.t 5) (.c (.int .i64 0))⟩,
      ⟨some 2, none, .mv (.t 6)⟩])
    (.ret)))⟩
theorem J_word_odd_ok : chkFn Try.prog 97 J_word_odd = true := by kernel_rfl

/-- attorney/word.At -/
def J_word_At : AFn :=
  ⟨26, [.t 4], .seq (.ops [⟨some 4, none, .mv (.c (.int .u16 0))⟩])
   (.keep [0, 1] (.seq (.seq (.ops [⟨some 5, none, .mv (.t 1)⟩,
      ⟨some 6, none, .bin .lss (.t 5) (.c (.int .i64 0))⟩,
      ⟨some 7, none, .mv (.t 6)⟩,
      ⟨some 8, (some (7, false)), .mv (.t 1)⟩,
      ⟨some 9, (some (7, false)), .mv (.t 0)⟩,
      ⟨some 10, (some (7, false)), .call (.f 69) [(.t 9)]⟩,
      ⟨some 11, (some (7, false)), .bin .geq (.t 8) (.t 10)⟩,
      ⟨some 12, none, .pick (.t 7) (.c (.bool true)) (.t 11)⟩])
     (.keep [0, 1, 12] (.cond (.t 12)
      (.seq (.ops [⟨some 4, none, .mv (.c (.int .u16 0))⟩])
       (.ret))
      (.skip))))
    (.keep [0, 1] (.seq (.draw [4] [⟨some 13, none, .mv (.t 0)⟩,
      ⟨some 14, none, .mv (.t 1)⟩,
      ⟨some 15, none, .bin .mul (.c (.int .i64 2)) (.t 14)⟩,
      ⟨some 16, none, .idxs (.t 13) (.t 15)⟩,
      ⟨some 17, none, .conv .u16 (.t 16)⟩,
      ⟨some 18, none, .bin .shl (.t 17) (.c (.int .u64 8))⟩,
      ⟨some 19, none, .mv (.t 0)⟩,
      ⟨some 20, none, .mv (.t 1)⟩,
      ⟨some 21, none, .bin .mul (.c (.int .i64 2)) (.t 20)⟩,
      ⟨some 22, none, .bin .add (.t 21) (.c (.int .i64 1))⟩,
      ⟨some 23, none, .idxs (.t 19) (.t 22)⟩,
      ⟨some 24, none, .conv .u16 (.t 23)⟩,
      ⟨some 25, none, .bin .or (.t 18) (.t 24)⟩,
      ⟨some 4, none, .mv (.t 25)⟩])
     (.ret)))))⟩
theorem J_word_At_ok : chkFn Try.prog 98 J_word_At = true := by kernel_rfl

/- behind: (kblock 1 Q) -/
def J_slices_pdqsortCmpFunc_api_Word_j1 : ACode :=
  .keep [0, 1, 2, 3, 4, 10, 11, 12, 13] (.seq (.seq (.draw [0, 1, 2, 3, 4, 10, 11, 12, 13, 97] [⟨some 81, none, .mv (.t 1)⟩,
      ⟨some 82, none, .bin .gtr (.t 81) (.c (.int .i64 0))⟩,
      ⟨some 83, none, .mv (.t 82)⟩,
      ⟨some 84, (some (83, true)), .mv (.t 4)⟩,
      ⟨some 85, (some (83, true)), .mv (.t 0)⟩,
      ⟨some 86, (some (83, true)), .mv (.t 1)⟩,
      ⟨some 87, (some (83, true)), .bin .sub (.t 86) (.c (.int .i64 1))⟩,
      ⟨some 88, (some (83, true)), .idxa 1 (.t 85) (.t 87)⟩,
      ⟨some 89, (some (83, true)), .load none (.t 88)⟩,
      ⟨some 90, (some (83, true)), .mv (.t 0)⟩,
      ⟨some 91, (some (83, true)), .mv (.t 13)⟩,
      ⟨some 92, (some (83, true)), .idxa 1 (.t 90) (.t 91)⟩,
      ⟨some 93, (some (83, true)), .load none (.t 92)⟩,
      ⟨some 94, (some (83, true)), .call (.t 84) [(.t 89), (.t 93)]⟩,
      ⟨some 95, (some (83, true)), .bin .lss (.t 94) (.c (.int .i64 0))⟩,
      ⟨some 96, (some (83, true)), .not (.t 95)⟩,
      ⟨some 97, none, .pick (.t 83) (.t 96) (.c (.bool false))⟩])
                (.keep [0, 1, 2, 3, 4, 10, 11, 12, 13, 97] (.cond (.t 97)
                 (.seq (.ops [⟨some 98, none, .mv (.t 0)⟩,
      ⟨some 99, none, .mv (.t 1)⟩,
      ⟨some 100, none, .mv (.t 2)⟩,
      ⟨some 101, none, .mv (.t 13)⟩,
      ⟨some 102, none, .mv (.t 4)⟩,
      ⟨some 103, none, .call (.f 119) [(.t 98), (.t 99), (.t 100), (.t 101), (.t 102)]⟩,
      ⟨some 15, none, .mv (.t 103)⟩])
                  (.keep [0, 2, 3, 4, 10, 11, 15] (.seq (.ops [⟨some 104, none, .mv (.t 15)⟩,
      ⟨some 1, none, .mv (.t 104)⟩])
                   (.exit 1))))
                 (.skip))))
               (.keep [0, 1, 2, 3, 4, 12, 13] (.seq (.ops [⟨some 106, none, .mv (.t 0)⟩,
      ⟨some 107, none, .mv (.t 1)⟩,
      ⟨some 108, none, .mv (.t 2)⟩,
      ⟨some 109, none, .mv (.t 13)⟩,
      ⟨some 110, none, .mv (.t 4)⟩,
      ⟨some 111, none, .call (.f 120) [(.t 106), (.t 107), (.t 108), (.t 109), (.t 110)]⟩,
      ⟨some 105, none, .mv (.t 111)⟩,
      ⟨some 112, none, .ext 0 (.t 105)⟩,
      ⟨some 113, none, .ext 1 (.t 105)⟩,
      ⟨some 16, none, .mv (.t 112)⟩,
      ⟨some 17, none, .mv (.t 113)⟩])
                (.keep [0, 1, 2, 3, 4, 12, 16, 17] (.seq (.ops [⟨some 114, none, .mv (.t 17)⟩,
      ⟨some 11, none, .mv (.t 114)⟩])
                 (.keep [0, 1, 2, 3, 4, 11, 12, 16] (.seq (.ops [⟨some 115, none, .mv (.t 16)⟩,
      ⟨some 116, none, .mv (.t 1)⟩,
      ⟨some 117, none, .bin .sub (.t 115) (.t 116)⟩,
      ⟨some 118, none, .mv (.t 2)⟩,
      ⟨some 119, none, .mv (.t 16)⟩,
      ⟨some 120, none, .bin .sub (.t 118) (.t 119)⟩,
      ⟨some 18, none, .mv (.t 117)⟩,
      ⟨some 19, none, .mv (.t 120)⟩])
                  (.keep [0, 1, 2, 3, 4, 11, 12, 16, 18, 19] (.seq (.ops [⟨some 121, none, .mv (.t 12)⟩,
      ⟨some 122, none, .bin .quo (.t 121) (.c (.int .i64 8))⟩,
      ⟨some 20, none, .mv (.t 122)⟩])
                   (.keep [0, 1, 2, 3, 4, 11, 16, 18, 19, 20] (.seq (.ops [⟨some 123, none, .mv (.t 18)⟩,
      ⟨some 124, none, .mv (.t 19)⟩,
      ⟨some 125, none, .bin .lss (.t 123) (.t 124)⟩])
                    (.keep [0, 1, 2, 3, 4, 11, 16, 18, 19, 20, 125] (.cond (.t 125)
                     (.seq (.ops [⟨some 126, none, .mv (.t 18)⟩,
      ⟨some 127, none, .mv (.t 20)⟩,
      ⟨some 128, none, .bin .geq (.t 126) (.t 127)⟩,
      ⟨some 10, none, .mv (.t 128)⟩])
                      (.keep [0, 1, 2, 3, 4, 10, 11, 16] (.seq (.ops [⟨some 129, none, .mv (.t 0)⟩,
      ⟨some 130, none, .mv (.t 1)⟩,
      ⟨some 131, none, .mv (.t 16)⟩,
      ⟨some 132, none, .mv (.t 3)⟩,
      ⟨some 133, none, .mv (.t 4)⟩,
      ⟨some 134, none, .call (.f 99) [(.t 129), (.t 130), (.t 131), (.t 132), (.t 133)]⟩])
                       (.keep [0, 2, 3, 4, 10, 11, 16] (.ops [⟨some 135, none, .mv (.t 16)⟩,
      ⟨some 136, none, .bin .add (.t 135) (.c (.int .i64 1))⟩,
      ⟨some 1, none, .mv (.t 136)⟩])))))
                     (.seq (.ops [⟨some 137, none, .mv (.t 19)⟩,
      ⟨some 138, none, .mv (.t 20)⟩,
      ⟨some 139, none, .bin .geq (.t 137) (.t 138)⟩,
      ⟨some 10, none, .mv (.t 139)⟩])
                      (.keep [0, 1, 2, 3, 4, 10, 11, 16] (.seq (.ops [⟨some 140, none, .mv (.t 0)⟩,
      ⟨some 141, none, .mv (.t 16)⟩,
      ⟨some 142, none, .bin .add (.t 141) (.c (.int .i64 1))⟩,
      ⟨some 143, none, .mv (.t 2)⟩,
      ⟨some 144, none, .mv (.t 3)⟩,
      ⟨some 145, none, .mv (.t 4)⟩,
      ⟨some 146, none, .call (.f 99) [(.t 140), (.t 142), (.t 143), (.t 144), (.t 145)]⟩])
                       (.keep [0, 1, 3, 4, 10, 11, 16] (.ops [⟨some 147, none, .mv (.t 16)⟩,
      ⟨some 2, none, .mv (.t 147)⟩]))))))))))))))))))

/- behind: (kblock 1 Q) -/
def J_slices_pdqsortCmpFunc_api_Word_j2 : ACode :=
  .keep [0, 1, 2, 3, 4, 10, 11, 12, 13, 14] (.seq (.seq (.ops [⟨some 68, none, .mv (.t 10)⟩,
      ⟨some 69, none, .mv (.t 68)⟩,
      ⟨some 70, (some (69, true)), .mv (.t 11)⟩,
      ⟨some 71, none, .pick (.t 69) (.t 70) (.c (.bool false))⟩,
      ⟨some 72, none, .mv (.t 71)⟩,
      ⟨some 73, (some (72, true)), .mv (.t 14)⟩,
      ⟨some 74, (some (72, true)), .bin .eql (.t 73) (.c (.int .i64 1))⟩,
      ⟨some 75, none, .pick (.t 72) (.t 74) (.c (.bool false))⟩])
               (.keep [0, 1, 2, 3, 4, 10, 11, 12, 13, 75] (.cond (.t 75)
                (.seq (.ops [⟨some 76, none, .mv (.t 0)⟩,
      ⟨some 77, none, .mv (.t 1)⟩,
      ⟨some 78, none, .mv (.t 2)⟩,
      ⟨some 79, none, .mv (.t 4)⟩,
      ⟨some 80, none, .call (.f 118) [(.t 76), (.t 77), (.t 78), (.t 79)]⟩])
                 (.keep [0, 1, 2, 3, 4, 10, 11, 12, 13, 80] (.cond (.t 80)
                  (.ret)
                  (.skip))))
                (.skip))))
              (J_slices_pdqsortCmpFunc_api_Word_j1))

/- behind: (kblock 1 Q) -/
def J_slices_pdqsortCmpFunc_api_Word_j3 : ACode :=
  .keep [0, 1, 2, 3, 4, 10, 11, 12] (.seq (.ops [⟨some 48, none, .mv (.t 0)⟩,
      ⟨some 49, none, .mv (.t 1)⟩,
      ⟨some 50, none, .mv (.t 2)⟩,
      ⟨some 51, none, .mv (.t 4)⟩,
      ⟨some 52, none, .call (.f 116) [(.t 48), (.t 49), (.t 50), (.t 51)]⟩,
      ⟨some 47, none, .mv (.t 52)⟩,
      ⟨some 53, none, .ext 0 (.t 47)⟩,
      ⟨some 54, none, .ext 1 (.t 47)⟩,
      ⟨some 13, none, .mv (.t 53)⟩,
      ⟨some 14, none, .mv (.t 54)⟩])
            (.keep [0, 1, 2, 3, 4, 10, 11, 12, 13, 14] (.seq (.seq (.ops [⟨some 55, none, .mv (.t 14)⟩,
      ⟨some 56, none, .bin .eql (.t 55) (.c (.int .i64 2))⟩])
              (.keep [0, 1, 2, 3, 4, 10, 11, 12, 13, 14, 56] (.cond (.t 56)
               (.seq (.ops [⟨some 57, none, .mv (.t 0)⟩,
      ⟨some 58, none, .mv (.t 1)⟩,
      ⟨some 59, none, .mv (.t 2)⟩,
      ⟨some 60, none, .mv (.t 4)⟩,
      ⟨some 61, none, .call (.f 117) [(.t 57), (.t 58), (.t 59), (.t 60)]⟩])
                (.keep [0, 1, 2, 3, 4, 10, 11, 12, 13] (.seq (.ops [⟨some 62, none, .mv (.t 2)⟩,
      ⟨some 63, none, .bin .sub (.t 62) (.c (.int .i64 1))⟩,
      ⟨some 64, none, .mv (.t 13)⟩,
      ⟨some 65, none, .mv (.t 1)⟩,
      ⟨some 66, none, .bin .sub (.t 64) (.t 65)⟩,
      ⟨some 67, none, .bin .sub (.t 63) (.t 66)⟩,
      ⟨some 13, none, .mv (.t 67)⟩])
                 (.keep [0, 1, 2, 3, 4, 10, 11, 12, 13] (.ops [⟨some 14, none, .mv (.c (.int .i64 1))⟩])))))
               (.skip))))
             (J_slices_pdqsortCmpFunc_api_Word_j2))))

/- behind: Q = kloop [0, 1, 2, 3, 4, 10, 11] I n (kblock 0 Q) -/
def J_slices_pdqsortCmpFunc_api_Word_j4 : ACode :=
  .block 1 (.seq (.ops [⟨some 21, none, .mv (.t 2)⟩,
      ⟨some 22, none, .mv (.t 1)⟩,
      ⟨some 23, none, .bin .sub (.t 21) (.t 22)⟩,
      ⟨some 12, none, .mv (.t 23)⟩])
        (.keep [0, 1, 2, 3, 4, 10, 11, 12] (.seq (.seq (.ops [⟨some 24, none, .mv (.t 12)⟩,
      ⟨some 25, none, .bin .leq (.t 24) (.c (.int .i64 12))⟩])
          (.keep [0, 1, 2, 3, 4, 10, 11, 12, 25] (.cond (.t 25)
           (.seq (.ops [⟨some 26, none, .mv (.t 0)⟩,
      ⟨some 27, none, .mv (.t 1)⟩,
      ⟨some 28, none, .mv (.t 2)⟩,
      ⟨some 29, none, .mv (.t 4)⟩,
      ⟨some 30, none, .call (.f 113) [(.t 26), (.t 27), (.t 28), (.t 29)]⟩])
            (.ret))
           (.skip))))
         (.keep [0, 1, 2, 3, 4, 10, 11, 12] (.seq (.seq (.ops [⟨some 31, none, .mv (.t 3)⟩,
      ⟨some 32, none, .bin .eql (.t 31) (.c (.int .i64 0))⟩])
           (.keep [0, 1, 2, 3, 4, 10, 11, 12, 32] (.cond (.t 32)
            (.seq (.ops [⟨some 33, none, .mv (.t 0)⟩,
      ⟨some 34, none, .mv (.t 1)⟩,
      ⟨some 35, none, .mv (.t 2)⟩,
      ⟨some 36, none, .mv (.t 4)⟩,
      ⟨some 37, none, .call (.f 114) [(.t 33), (.t 34), (.t 35), (.t 36)]⟩])
             (.ret))
            (.skip))))
          (.keep [0, 1, 2, 3, 4, 10, 11, 12] (.seq (.seq (.ops [⟨some 38, none, .mv (.t 10)⟩,
      ⟨some 39, none, .not (.t 38)⟩])
            (.keep [0, 1, 2, 3, 4, 10, 11, 12, 39] (.cond (.t 39)
             (.seq (.ops [⟨some 40, none, .mv (.t 0)⟩,
      ⟨some 41, none, .mv (.t 1)⟩,
      ⟨some 42, none, .mv (.t 2)⟩,
      ⟨some 43, none, .mv (.t 4)⟩,
      ⟨some 44, none, .call (.f 115) [(.t 40), (.t 41), (.t 42), (.t 43)]⟩])
              (.keep [0, 1, 2, 3, 4, 10, 11, 12] (.ops [⟨some 45, none, .mv (.t 3)⟩,
      ⟨some 46, none, .bin .sub (.t 45) (.c (.int .i64 1))⟩,
      ⟨some 3, none, .mv (.t 46)⟩])))
             (.skip))))
           (J_slices_pdqsortCmpFunc_api_Word_j3))))))))

/-- slices.pdqsortCmpFunc[attorney/api.Word] -/
def J_slices_pdqsortCmpFunc_api_Word : AFn :=
  ⟨148, [], .seq (.ops [⟨some 10, none, .mv (.c (.bool true))⟩])
   (.keep [0, 1, 2, 3, 4, 10] (.seq (.ops [⟨some 11, none, .mv (.c (.bool true))⟩])
    (.keep [0, 1, 2, 3, 4, 10, 11] (.block 0 (.loop [0, 1, 2, 3, 4, 10, 11] (J_slices_pdqsortCmpFunc_api_Word_j4))))))⟩
theorem J_slices_pdqsortCmpFunc_api_Word_ok : chkFn Try.prog 99 J_slices_pdqsortCmpFunc_api_Word = true := by kernel_rfl

/- behind: Q -/
def J_slices_Index_api_Set_api_Word_j1 : ACode :=
  .keep [] (.seq (.ops [⟨some 4, none, .mv (.c (.int .i64 (-1)))⟩])
     (.ret))

/- behind: Q = kloop [0, 1, 7, 8] I n (kblock 0 (kseq P (J_slices_Index_api_Set_api_Word_j1) Q)) -/
def J_slices_Index_api_Set_api_Word_j2 : ACode :=
  .seq (.ops [⟨some 9, none, .bin .lss (.t 8) (.t 7)⟩])
        (.keep [0, 1, 7, 8, 9] (.seq (.cond (.t 9)
          (.skip)
          (.exit 0))
         (.keep [0, 1, 7, 8] (.seq (.block 1 (.seq (.ops [⟨some 10, none, .mv (.t 8)⟩,
      ⟨some 5, none, .mv (.t 10)⟩])
            (.keep [0, 1, 5, 7, 8] (.seq (.ops [⟨some 11, none, .mv (.t 1)⟩,
      ⟨some 12, none, .mv (.t 0)⟩,
      ⟨some 13, none, .mv (.t 5)⟩,
      ⟨some 14, none, .idxa 1 (.t 12) (.t 13)⟩,
      ⟨some 15, none, .load none (.t 14)⟩,
      ⟨some 16, none, .bin .eql (.t 11) (.t 15)⟩])
             (.keep [0, 1, 5, 7, 8, 16] (.cond (.t 16)
              (.seq (.ops [⟨some 17, none, .mv (.t 5)⟩,
      ⟨some 4, none, .mv (.t 17)⟩])
               (.ret))
              (.skip)))))))
          (.keep [0, 1, 7, 8] (.ops [⟨some 18, none, .bin .add (.t 8) (.c (.int .i64 1))⟩,
      ⟨some 8, none, .mv (.t 18)⟩]))))))

/-- slices.Index[attorney/api.Set,attorney/api.Word] -/
def J_slices_Index_api_Set_api_Word : AFn :=
  ⟨19, [.t 4], .seq (.ops [⟨some 4, none, .mv (.c (.int .i64 0))⟩])
   (.keep [0, 1] (.seq (.seq (.ops [⟨some 6, none, .mv (.t 0)⟩,
      ⟨some 7, none, .lenl (.t 6)⟩,
      ⟨some 8, none, .mv (.c (.int .i64 0))⟩])
     (.keep [0, 1, 7, 8] (.block 0 (.loop [0, 1, 7, 8] (J_slices_Index_api_Set_api_Word_j2)))))
    (J_slices_Index_api_Set_api_Word_j1)))⟩
theorem J_slices_Index_api_Set_api_Word_ok : chkFn Try.prog 102 J_slices_Index_api_Set_api_Word = true := by kernel_rfl

/-- slices.Contains[[]int,int] -/
def J_slices_Contains_int_int : AFn :=
  ⟨9, [.t 4], .seq (.ops [⟨some 4, none, .mv (.c (.bool false))⟩])
   (.keep [0, 1] (.seq (.ops [⟨some 5, none, .mv (.t 0)⟩,
      ⟨some 6, none, .mv (.t 1)⟩,
      ⟨some 7, none, .call (.f 123) [(.t 5), (.t 6)]⟩,
      ⟨some 8, none, .bin .geq (.t 7) (.c (.int .i64 0))⟩,
      ⟨some 4, none, .mv (.t 8)⟩])
    (.ret)))⟩
theorem J_slices_Contains_int_int_ok : chkFn Try.prog 105 J_slices_Contains_int_int = true := by kernel_rfl

/- behind: Q -/
def J_slices_insertionSortCmpFunc_api_Word_j1 : ACode :=
  .keep [0, 1, 2, 3, 8] (.ops [⟨some 15, none, .mv (.t 8)⟩,
      ⟨some 16, none, .bin .add (.t 15) (.c (.int .i64 1))⟩,
      ⟨some 8, none, .mv (.t 16)⟩])

/- behind: Q = kloop [0, 1, 2, 3, 8, 9] I n (kblock 2 (kblock 1 (kseq P (J_slices_insertionSortCmpFunc_api_Word_j1) Q))) -/
def J_slices_insertionSortCmpFunc_api_Word_j2 : ACode :=
  .seq (.seq (.draw [0, 1, 2, 3, 8, 9, 34] [⟨some 18, none, .mv (.t 9)⟩,
      ⟨some 19, none, .mv (.t 1)⟩,
      ⟨some 20, none, .bin .gtr (.t 18) (.t 19)⟩,
      ⟨some 21, none, .mv (.t 20)⟩,
      ⟨some 22, (some (21, true)), .mv (.t 3)⟩,
      ⟨some 23, (some (21, true)), .mv (.t 0)⟩,
      ⟨some 24, (some (21, true)), .mv (.t 9)⟩,
      ⟨some 25, (some (21, true)), .idxa 1 (.t 23) (.t 24)⟩,
      ⟨some 26, (some (21, true)), .load none (.t 25)⟩,
      ⟨some 27, (some (21, true)), .mv (.t 0)⟩,
      ⟨some 28, (some (21, true)), .mv (.t 9)⟩,
      ⟨some 29, (some (21, true)), .bin .sub (.t 28) (.c (.int .i64 1))⟩,
      ⟨some 30, (some (21, true)), .idxa 1 (.t 27) (.t 29)⟩,
      ⟨some 31, (some (21, true)), .load none (.t 30)⟩,
      ⟨some 32, (some (21, true)), .call (.t 22) [(.t 26), (.t 31)]⟩,
      ⟨some 33, (some (21, true)), .bin .lss (.t 32) (.c (.int .i64 0))⟩,
      ⟨some 34, none, .pick (.t 21) (.t 33) (.c (.bool false))⟩])
             (.keep [0, 1, 2, 3, 8, 9, 34] (.cond (.t 34)
              (.skip)
              (.exit 2))))
            (.keep [0, 1, 2, 3, 8, 9] (.seq (.block 3 (.draw [0, 1, 2, 3, 8, 9] [⟨some 37, none, .mv (.t 0)⟩,
      ⟨some 38, none, .mv (.t 9)⟩,
      ⟨some 39, none, .mv (.t 0)⟩,
      ⟨some 40, none, .mv (.t 9)⟩,
      ⟨some 41, none, .bin .sub (.t 40) (.c (.int .i64 1))⟩,
      ⟨some 42, none, .mv (.t 0)⟩,
      ⟨some 43, none, .mv (.t 9)⟩,
      ⟨some 44, none, .bin .sub (.t 43) (.c (.int .i64 1))⟩,
      ⟨some 45, none, .idxa 1 (.t 42) (.t 44)⟩,
      ⟨some 46, none, .load none (.t 45)⟩,
      ⟨some 47, none, .mv (.t 0)⟩,
      ⟨some 48, none, .mv (.t 9)⟩,
      ⟨some 49, none, .idxa 1 (.t 47) (.t 48)⟩,
      ⟨some 50, none, .load none (.t 49)⟩,
      ⟨some 51, none, .idxa 1 (.t 37) (.t 38)⟩,
      ⟨none, none, .store 1 (.t 51) (.t 46)⟩,
      ⟨some 52, none, .idxa 1 (.t 39) (.t 41)⟩,
      ⟨none, none, .store 1 (.t 52) (.t 50)⟩]))
             (.keep [0, 1, 2, 3, 8, 9] (.ops [⟨some 35, none, .mv (.t 9)⟩,
      ⟨some 36, none, .bin .sub (.t 35) (.c (.int .i64 1))⟩,
      ⟨some 9, none, .mv (.t 36)⟩]))))

/- behind: Q = kloop [0, 1, 2, 3, 8] I n (kblock 0 Q) -/
def J_slices_insertionSortCmpFunc_api_Word_j3 : ACode :=
  .seq (.seq (.ops [⟨some 12, none, .mv (.t 8)⟩,
      ⟨some 13, none, .mv (.t 2)⟩,
      ⟨some 14, none, .bin .lss (.t 12) (.t 13)⟩])
       (.keep [0, 1, 2, 3, 8, 14] (.cond (.t 14)
        (.skip)
        (.exit 0))))
      (.keep [0, 1, 2, 3, 8] (.seq (.block 1 (.seq (.ops [⟨some 17, none, .mv (.t 8)⟩,
      ⟨some 9, none, .mv (.t 17)⟩])
         (.keep [0, 1, 2, 3, 8, 9] (.block 2 (.loop [0, 1, 2, 3, 8, 9] (J_slices_insertionSortCmpFunc_api_Word_j2))))))
       (J_slices_insertionSortCmpFunc_api_Word_j1)))

/-- slices.insertionSortCmpFunc[attorney/api.Word] -/
def J_slices_insertionSortCmpFunc_api_Word : AFn :=
  ⟨53, [], .seq (.ops [⟨some 10, none, .mv (.t 1)⟩,
      ⟨some 11, none, .bin .add (.t 10) (.c (.int .i64 1))⟩,
      ⟨some 8, none, .mv (.t 11)⟩])
   (.keep [0, 1, 2, 3, 8] (.block 0 (.loop [0, 1, 2, 3, 8] (J_slices_insertionSortCmpFunc_api_Word_j3))))⟩
theorem J_slices_insertionSortCmpFunc_api_Word_ok : chkFn Try.prog 113 J_slices_insertionSortCmpFunc_api_Word = true := by kernel_rfl

/- behind: Q = kloop [0, 3, 8, 9, 12] I n (kblock 2 Q) -/
def J_slices_heapSortCmpFunc_api_Word_j1 : ACode :=
  .seq (.seq (.ops [⟨some 32, none, .mv (.t 12)⟩,
      ⟨some 33, none, .bin .geq (.t 32) (.c (.int .i64 0))⟩])
           (.keep [0, 3, 8, 9, 12, 33] (.cond (.t 33)
            (.skip)
            (.exit 2))))
          (.keep [0, 3, 8, 9, 12] (.seq (.block 3 (.seq (.draw [0, 3, 8, 9, 12] [⟨some 36, none, .mv (.t 0)⟩,
      ⟨some 37, none, .mv (.t 8)⟩,
      ⟨some 38, none, .mv (.t 0)⟩,
      ⟨some 39, none, .mv (.t 8)⟩,
      ⟨some 40, none, .mv (.t 12)⟩,
      ⟨some 41, none, .bin .add (.t 39) (.t 40)⟩,
      ⟨some 42, none, .mv (.t 0)⟩,
      ⟨some 43, none, .mv (.t 8)⟩,
      ⟨some 44, none, .mv (.t 12)⟩,
      ⟨some 45, none, .bin .add (.t 43) (.t 44)⟩,
      ⟨some 46, none, .idxa 1 (.t 42) (.t 45)⟩,
      ⟨some 47, none, .load none (.t 46)⟩,
      ⟨some 48, none, .mv (.t 0)⟩,
      ⟨some 49, none, .mv (.t 8)⟩,
      ⟨some 50, none, .idxa 1 (.t 48) (.t 49)⟩,
      ⟨some 51, none, .load none (.t 50)⟩,
      ⟨some 52, none, .idxa 1 (.t 36) (.t 37)⟩,
      ⟨none, none, .store 1 (.t 52) (.t 47)⟩,
      ⟨some 53, none, .idxa 1 (.t 38) (.t 41)⟩,
      ⟨none, none, .store 1 (.t 53) (.t 51)⟩])
             (.keep [0, 3, 8, 9, 12] (.ops [⟨some 54, none, .mv (.t 0)⟩,
      ⟨some 55, none, .mv (.t 9)⟩,
      ⟨some 56, none, .mv (.t 12)⟩,
      ⟨some 57, none, .mv (.t 8)⟩,
      ⟨some 58, none, .mv (.t 3)⟩,
      ⟨some 59, none, .call (.f 125) [(.t 54), (.t 55), (.t 56), (.t 57), (.t 58)]⟩]))))
           (.keep [0, 3, 8, 9, 12] (.ops [⟨some 34, none, .mv (.t 12)⟩,
      ⟨some 35, none, .bin .sub (.t 34) (.c (.int .i64 1))⟩,
      ⟨some 12, none, .mv (.t 35)⟩]))))

/- behind: Q -/
def J_slices_heapSortCmpFunc_api_Word_j2 : ACode :=
  .keep [0, 3, 8, 9, 10] (.seq (.ops [⟨some 30, none, .mv (.t 10)⟩,
      ⟨some 31, none, .bin .sub (.t 30) (.c (.int .i64 1))⟩,
      ⟨some 12, none, .mv (.t 31)⟩])
       (.keep [0, 3, 8, 9, 12] (.block 2 (.loop [0, 3, 8, 9, 12] (J_slices_heapSortCmpFunc_api_Word_j1)))))

/- behind: Q = kloop [0, 3, 8, 9, 10, 11] I n (kblock 0 (kseq P (J_slices_heapSortCmpFunc_api_Word_j2) Q)) -/
def J_slices_heapSortCmpFunc_api_Word_j3 : ACode :=
  .seq (.seq (.ops [⟨some 20, none, .mv (.t 11)⟩,
      ⟨some 21, none, .bin .geq (.t 20) (.c (.int .i64 0))⟩])
           (.keep [0, 3, 8, 9, 10, 11, 21] (.cond (.t 21)
            (.skip)
            (.exit 0))))
          (.keep [0, 3, 8, 9, 10, 11] (.seq (.block 1 (.ops [⟨some 24, none, .mv (.t 0)⟩,
      ⟨some 25, none, .mv (.t 11)⟩,
      ⟨some 26, none, .mv (.t 10)⟩,
      ⟨some 27, none, .mv (.t 8)⟩,
      ⟨some 28, none, .mv (.t 3)⟩,
      ⟨some 29, none, .call (.f 125) [(.t 24), (.t 25), (.t 26), (.t 27), (.t 28)]⟩]))
           (.keep [0, 3, 8, 9, 10, 11] (.ops [⟨some 22, none, .mv (.t 11)⟩,
      ⟨some 23, none, .bin .sub (.t 22) (.c (.int .i64 1))⟩,
      ⟨some 11, none, .mv (.t 23)⟩]))))

/-- slices.heapSortCmpFunc[attorney/api.Word] -/
def J_slices_heapSortCmpFunc_api_Word : AFn :=
  ⟨60, [], .seq (.ops [⟨some 13, none, .mv (.t 1)⟩,
      ⟨some 8, none, .mv (.t 13)⟩])
   (.keep [0, 1, 2, 3, 8] (.seq (.ops [⟨some 9, none, .mv (.c (.int .i64 0))⟩])
    (.keep [0, 1, 2, 3, 8, 9] (.seq (.ops [⟨some 14, none, .mv (.t 2)⟩,
      ⟨some 15, none, .mv (.t 1)⟩,
      ⟨some 16, none, .bin .sub (.t 14) (.t 15)⟩,
      ⟨some 10, none, .mv (.t 16)⟩])
     (.keep [0, 3, 8, 9, 10] (.seq (.seq (.ops [⟨some 17, none, .mv (.t 10)⟩,
      ⟨some 18, none, .bin .sub (.t 17) (.c (.int .i64 1))⟩,
      ⟨some 19, none, .bin .quo (.t 18) (.c (.int .i64 2))⟩,
      ⟨some 11, none, .mv (.t 19)⟩])
       (.keep [0, 3, 8, 9, 10, 11] (.block 0 (.loop [0, 3, 8, 9, 10, 11] (J_slices_heapSortCmpFunc_api_Word_j3)))))
      (J_slices_heapSortCmpFunc_api_Word_j2)))))))⟩
theorem J_slices_heapSortCmpFunc_api_Word_ok : chkFn Try.prog 114 J_slices_heapSortCmpFunc_api_Word = true := by kernel_rfl

/- behind: (kblock 1 (kseq P _ Q)) -/
def J_slices_breakPatternsCmpFunc_api_Word_j1 : ACode :=
  .keep [0, 1, 8, 9, 10, 11, 12] (.draw [0, 1, 8, 9, 10, 11] [⟨some 49, none, .mv (.t 0)⟩,
      ⟨some 50, none, .mv (.t 11)⟩,
      ⟨some 51, none, .mv (.t 0)⟩,
      ⟨some 52, none, .mv (.t 1)⟩,
      ⟨some 53, none, .mv (.t 12)⟩,
      ⟨some 54, none, .bin .add (.t 52) (.t 53)⟩,
      ⟨some 55, none, .mv (.t 0)⟩,
      ⟨some 56, none, .mv (.t 1)⟩,
      ⟨some 57, none, .mv (.t 12)⟩,
      ⟨some 58, none, .bin .add (.t 56) (.t 57)⟩,
      ⟨some 59, none, .idxa 1 (.t 55) (.t 58)⟩,
      ⟨some 60, none, .load none (.t 59)⟩,
      ⟨some 61, none, .mv (.t 0)⟩,
      ⟨some 62, none, .mv (.t 11)⟩,
      ⟨some 63, none, .idxa 1 (.t 61) (.t 62)⟩,
      ⟨some 64, none, .load none (.t 63)⟩,
      ⟨some 65, none, .idxa 1 (.t 49) (.t 50)⟩,
      ⟨none, none, .store 1 (.t 65) (.t 60)⟩,
      ⟨some 66, none, .idxa 1 (.t 51) (.t 54)⟩,
      ⟨none, none, .store 1 (.t 66) (.t 64)⟩])

/- behind: Q = kloop [0, 1, 8, 9, 10, 11] I n (kblock 0 Q) -/
def J_slices_breakPatternsCmpFunc_api_Word_j2 : ACode :=
  .seq (.seq (.ops [⟨some 28, none, .mv (.t 11)⟩,
      ⟨some 29, none, .mv (.t 1)⟩,
      ⟨some 30, none, .mv (.t 8)⟩,
      ⟨some 31, none, .bin .quo (.t 30) (.c (.int .i64 4))⟩,
      ⟨some 32, none, .bin .mul (.t 31) (.c (.int .i64 2))⟩,
      ⟨some 33, none, .bin .add (.t 29) (.t 32)⟩,
      ⟨some 34, none, .bin .add (.t 33) (.c (.int .i64 1))⟩,
      ⟨some 35, none, .bin .leq (.t 28) (.t 34)⟩])
            (.keep [0, 1, 8, 9, 10, 11, 35] (.cond (.t 35)
             (.skip)
             (.exit 0))))
           (.keep [0, 1, 8, 9, 10, 11] (.seq (.block 1 (.seq (.ops [⟨some 38, none, .call (.f 127) [(.t 9)]⟩,
      ⟨some 39, none, .mv (.t 10)⟩,
      ⟨some 40, none, .bin .sub (.t 39) (.c (.int .u64 1))⟩,
      ⟨some 41, none, .bin .and (.t 38) (.t 40)⟩,
      ⟨some 42, none, .conv .i64 (.t 41)⟩,
      ⟨some 12, none, .mv (.t 42)⟩])
              (.keep [0, 1, 8, 9, 10, 11, 12] (.seq (.seq (.ops [⟨some 43, none, .mv (.t 12)⟩,
      ⟨some 44, none, .mv (.t 8)⟩,
      ⟨some 45, none, .bin .geq (.t 43) (.t 44)⟩])
                (.keep [0, 1, 8, 9, 10, 11, 12, 45] (.cond (.t 45)
                 (.ops [⟨some 46, none, .mv (.t 12)⟩,
      ⟨some 47, none, .mv (.t 8)⟩,
      ⟨some 48, none, .bin .sub (.t 46) (.t 47)⟩,
      ⟨some 12, none, .mv (.t 48)⟩])
                 (.skip))))
               (J_slices_breakPatternsCmpFunc_api_Word_j1)))))
            (.keep [0, 1, 8, 9, 10, 11] (.ops [⟨some 36, none, .mv (.t 11)⟩,
      ⟨some 37, none, .bin .add (.t 36) (.c (.int .i64 1))⟩,
      ⟨some 11, none, .mv (.t 37)⟩]))))

/-- slices.breakPatternsCmpFunc[attorney/api.Word] -/
def J_slices_breakPatternsCmpFunc_api_Word : AFn :=
  ⟨67, [], .seq (.ops [⟨some 13, none, .mv (.t 2)⟩,
      ⟨some 14, none, .mv (.t 1)⟩,
      ⟨some 15, none, .bin .sub (.t 13) (.t 14)⟩,
      ⟨some 8, none, .mv (.t 15)⟩])
   (.keep [0, 1, 8] (.seq (.ops [⟨some 16, none, .mv (.t 8)⟩,
      ⟨some 17, none, .bin .geq (.t 16) (.c (.int .i64 8))⟩])
    (.keep [0, 1, 8, 17] (.cond (.t 17)
     (.seq (.ops [⟨some 18, none, .mv (.t 8)⟩,
      ⟨some 19, none, .conv .u64 (.t 18)⟩,
      ⟨some 9, none, .new [(.int .u64 0)] []⟩,
      ⟨none, none, .store 1 (.t 9) (.t 19)⟩])
      (.keep [0, 1, 8, 9] (.seq (.ops [⟨some 20, none, .mv (.t 8)⟩,
      ⟨some 21, none, .call (.f 126) [(.t 20)]⟩,
      ⟨some 10, none, .mv (.t 21)⟩])
       (.keep [0, 1, 8, 9, 10] (.seq (.ops [⟨some 22, none, .mv (.t 1)⟩,
      ⟨some 23, none, .mv (.t 8)⟩,
      ⟨some 24, none, .bin .quo (.t 23) (.c (.int .i64 4))⟩,
      ⟨some 25, none, .bin .mul (.t 24) (.c (.int .i64 2))⟩,
      ⟨some 26, none, .bin .add (.t 22) (.t 25)⟩,
      ⟨some 27, none, .bin .sub (.t 26) (.c (.int .i64 1))⟩,
      ⟨some 11, none, .mv (.t 27)⟩])
        (.keep [0, 1, 8, 9, 10, 11] (.block 0 (.loop [0, 1, 8, 9, 10, 11] (J_slices_breakPatternsCmpFunc_api_Word_j2)))))))))
     (.skip)))))⟩
theorem J_slices_breakPatternsCmpFunc_api_Word_ok : chkFn Try.prog 115 J_slices_breakPatternsCmpFunc_api_Word = true := by kernel_rfl

/- behind: Q -/
def J_slices_choosePivotCmpFunc_api_Word_j1 : ACode :=
  .keep [11, 13] (.seq (.ops [⟨some 55, none, .load none (.t 11)⟩])
          (.keep [13, 55] (.block 0 (.seq (.ops [⟨some 58, none, .bin .eql (.t 55) (.c (.int .i64 0))⟩,
      ⟨some 57, none, .mv (.t 58)⟩])
            (.keep [13, 55, 57] (.cond (.t 57)
             (.seq (.ops [⟨some 59, none, .mv (.t 13)⟩,
      ⟨some 8, none, .mv (.t 59)⟩,
      ⟨some 9, none, .mv (.c (.int .i64 1))⟩])
              (.ret))
             (.seq (.ops [⟨some 61, none, .bin .eql (.t 55) (.c (.int .i64 12))⟩,
      ⟨some 60, none, .mv (.t 61)⟩])
              (.keep [13, 60] (.cond (.t 60)
               (.seq (.ops [⟨some 62, none, .mv (.t 13)⟩,
      ⟨some 8, none, .mv (.t 62)⟩,
      ⟨some 9, none, .mv (.c (.int .i64 2))⟩])
                (.ret))
               (.seq (.ops [⟨some 56, none, .mv (.t 13)⟩,
      ⟨some 8, none, .mv (.t 56)⟩,
      ⟨some 9, none, .mv (.c (.int .i64 0))⟩])
                (.ret)))))))))))

/- behind: (kseq P (J_slices_choosePivotCmpFunc_api_Word_j1) Q) -/
def J_slices_choosePivotCmpFunc_api_Word_j2 : ACode :=
  .keep [0, 3, 11, 12, 13, 14] (.ops [⟨some 49, none, .mv (.t 0)⟩,
      ⟨some 50, none, .mv (.t 12)⟩,
      ⟨some 51, none, .mv (.t 13)⟩,
      ⟨some 52, none, .mv (.t 14)⟩,
      ⟨some 53, none, .mv (.t 3)⟩,
      ⟨some 54, none, .call (.f 129) [(.t 49), (.t 50), (.t 51), (.t 52), (.t 11), (.t 53)]⟩,
      ⟨some 13, none, .mv (.t 54)⟩])

/-- slices.choosePivotCmpFunc[attorney/api.Word] -/
def J_slices_choosePivotCmpFunc_api_Word : AFn :=
  ⟨63, [.t 8, .t 9], .seq (.ops [⟨some 8, none, .mv (.c (.int .i64 0))⟩,
      ⟨some 9, none, .mv (.c (.int .i64 0))⟩])
   (.keep [0, 1, 2, 3] (.seq (.ops [⟨some 15, none, .mv (.t 2)⟩,
      ⟨some 16, none, .mv (.t 1)⟩,
      ⟨some 17, none, .bin .sub (.t 15) (.t 16)⟩,
      ⟨some 10, none, .mv (.t 17)⟩])
    (.keep [0, 1, 3, 10] (.seq (.ops [⟨some 11, none, .new [(.int .i64 0)] []⟩])
     (.keep [0, 1, 3, 10, 11] (.seq (.ops [⟨some 18, none, .mv (.t 1)⟩,
      ⟨some 19, none, .mv (.t 10)⟩,
      ⟨some 20, none, .bin .quo (.t 19) (.c (.int .i64 4))⟩,
      ⟨some 21, none, .bin .mul (.t 20) (.c (.int .i64 1))⟩,
      ⟨some 22, none, .bin .add (.t 18) (.t 21)⟩,
      ⟨some 12, none, .mv (.t 22)⟩])
      (.keep [0, 1, 3, 10, 11, 12] (.seq (.ops [⟨some 23, none, .mv (.t 1)⟩,
      ⟨some 24, none, .mv (.t 10)⟩,
      ⟨some 25, none, .bin .quo (.t 24) (.c (.int .i64 4))⟩,
      ⟨some 26, none, .bin .mul (.t 25) (.c (.int .i64 2))⟩,
      ⟨some 27, none, .bin .add (.t 23) (.t 26)⟩,
      ⟨some 13, none, .mv (.t 27)⟩])
       (.keep [0, 1, 3, 10, 11, 12, 13] (.seq (.ops [⟨some 28, none, .mv (.t 1)⟩,
      ⟨some 29, none, .mv (.t 10)⟩,
      ⟨some 30, none, .bin .quo (.t 29) (.c (.int .i64 4))⟩,
      ⟨some 31, none, .bin .mul (.t 30) (.c (.int .i64 3))⟩,
      ⟨some 32, none, .bin .add (.t 28) (.t 31)⟩,
      ⟨some 14, none, .mv (.t 32)⟩])
        (.keep [0, 3, 10, 11, 12, 13, 14] (.seq (.seq (.ops [⟨some 33, none, .mv (.t 10)⟩,
      ⟨some 34, none, .bin .geq (.t 33) (.c (.int .i64 8))⟩])
          (.keep [0, 3, 10, 11, 12, 13, 14, 34] (.cond (.t 34)
           (.seq (.seq (.ops [⟨some 35, none, .mv (.t 10)⟩,
      ⟨some 36, none, .bin .geq (.t 35) (.c (.int .i64 50))⟩])
             (.keep [0, 3, 11, 12, 13, 14, 36] (.cond (.t 36)
              (.seq (.ops [⟨some 37, none, .mv (.t 0)⟩,
      ⟨some 38, none, .mv (.t 12)⟩,
      ⟨some 39, none, .mv (.t 3)⟩,
      ⟨some 40, none, .call (.f 128) [(.t 37), (.t 38), (.t 11), (.t 39)]⟩,
      ⟨some 12, none, .mv (.t 40)⟩])
               (.keep [0, 3, 11, 12, 13, 14] (.seq (.ops [⟨some 41, none, .mv (.t 0)⟩,
      ⟨some 42, none, .mv (.t 13)⟩,
      ⟨some 43, none, .mv (.t 3)⟩,
      ⟨some 44, none, .call (.f 128) [(.t 41), (.t 42), (.t 11), (.t 43)]⟩,
      ⟨some 13, none, .mv (.t 44)⟩])
                (.keep [0, 3, 11, 12, 13, 14] (.ops [⟨some 45, none, .mv (.t 0)⟩,
      ⟨some 46, none, .mv (.t 14)⟩,
      ⟨some 47, none, .mv (.t 3)⟩,
      ⟨some 48, none, .call (.f 128) [(.t 45), (.t 46), (.t 11), (.t 47)]⟩,
      ⟨some 14, none, .mv (.t 48)⟩])))))
              (.skip))))
            (J_slices_choosePivotCmpFunc_api_Word_j2))
           (.skip))))
         (J_slices_choosePivotCmpFunc_api_Word_j1)))))))))))))⟩
theorem J_slices_choosePivotCmpFunc_api_Word_ok : chkFn Try.prog 116 J_slices_choosePivotCmpFunc_api_Word = true := by kernel_rfl

/- behind: Q = kloop [0, 8, 9] I n (kblock 0 Q) -/
def J_slices_reverseRangeCmpFunc_api_Word_j1 : ACode :=
  .seq (.seq (.ops [⟨some 13, none, .mv (.t 8)⟩,
      ⟨some 14, none, .mv (.t 9)⟩,
      ⟨some 15, none, .bin .lss (.t 13) (.t 14)⟩])
        (.keep [0, 8, 9, 15] (.cond (.t 15)
         (.skip)
         (.exit 0))))
       (.keep [0, 8, 9] (.block 1 (.seq (.draw [0, 8, 9] [⟨some 16, none, .mv (.t 0)⟩,
      ⟨some 17, none, .mv (.t 8)⟩,
      ⟨some 18, none, .mv (.t 0)⟩,
      ⟨some 19, none, .mv (.t 9)⟩,
      ⟨some 20, none, .mv (.t 0)⟩,
      ⟨some 21, none, .mv (.t 9)⟩,
      ⟨some 22, none, .idxa 1 (.t 20) (.t 21)⟩,
      ⟨some 23, none, .load none (.t 22)⟩,
      ⟨some 24, none, .mv (.t 0)⟩,
      ⟨some 25, none, .mv (.t 8)⟩,
      ⟨some 26, none, .idxa 1 (.t 24) (.t 25)⟩,
      ⟨some 27, none, .load none (.t 26)⟩,
      ⟨some 28, none, .idxa 1 (.t 16) (.t 17)⟩,
      ⟨none, none, .store 1 (.t 28) (.t 23)⟩,
      ⟨some 29, none, .idxa 1 (.t 18) (.t 19)⟩,
      ⟨none, none, .store 1 (.t 29) (.t 27)⟩])
         (.keep [0, 8, 9] (.seq (.ops [⟨some 30, none, .mv (.t 8)⟩,
      ⟨some 31, none, .bin .add (.t 30) (.c (.int .i64 1))⟩,
      ⟨some 8, none, .mv (.t 31)⟩])
          (.keep [0, 8, 9] (.ops [⟨some 32, none, .mv (.t 9)⟩,
      ⟨some 33, none, .bin .sub (.t 32) (.c (.int .i64 1))⟩,
      ⟨some 9, none, .mv (.t 33)⟩])))))))

/-- slices.reverseRangeCmpFunc[attorney/api.Word] -/
def J_slices_reverseRangeCmpFunc_api_Word : AFn :=
  ⟨34, [], .seq (.ops [⟨some 10, none, .mv (.t 1)⟩,
      ⟨some 8, none, .mv (.t 10)⟩])
   (.keep [0, 2, 8] (.seq (.ops [⟨some 11, none, .mv (.t 2)⟩,
      ⟨some 12, none, .bin .sub (.t 11) (.c (.int .i64 1))⟩,
      ⟨some 9, none, .mv (.t 12)⟩])
    (.keep [0, 8, 9] (.block 0 (.loop [0, 8, 9] (J_slices_reverseRangeCmpFunc_api_Word_j1))))))⟩
theorem J_slices_reverseRangeCmpFunc_api_Word_ok : chkFn Try.prog 117 J_slices_reverseRangeCmpFunc_api_Word = true := by kernel_rfl

/- behind: Q -/
def J_slices_partialInsertionSortCmpFunc_api_Word_j1 : ACode :=
  .keep [] (.seq (.ops [⟨some 8, none, .mv (.c (.bool false))⟩])
      (.ret))

/- behind: Q -/
def J_slices_partialInsertionSortCmpFunc_api_Word_j2 : ACode :=
  .keep [0, 1, 2, 3, 9, 10] (.ops [⟨some 17, none, .mv (.t 10)⟩,
      ⟨some 18, none, .bin .add (.t 17) (.c (.int .i64 1))⟩,
      ⟨some 10, none, .mv (.t 18)⟩])

/- behind: Q = kloop [0, 1, 2, 3, 9, 10, 12] I n (kblock 6 (kblock 1 (kseq P (J_slices_partialInsertionSortCmpFunc_api_Word_j2) Q))) -/
def J_slices_partialInsertionSortCmpFunc_api_Word_j3 : ACode :=
  .seq (.seq (.ops [⟨some 107, none, .mv (.t 12)⟩,
      ⟨some 108, none, .mv (.t 2)⟩,
      ⟨some 109, none, .bin .lss (.t 107) (.t 108)⟩])
                       (.keep [0, 1, 2, 3, 9, 10, 12, 109] (.cond (.t 109)
                        (.skip)
                        (.exit 6))))
                      (.keep [0, 1, 2, 3, 9, 10, 12] (.seq (.block 7 (.seq (.seq (.draw [0, 1, 2, 3, 9, 10, 12, 124] [⟨some 112, none, .mv (.t 3)⟩,
      ⟨some 113, none, .mv (.t 0)⟩,
      ⟨some 114, none, .mv (.t 12)⟩,
      ⟨some 115, none, .idxa 1 (.t 113) (.t 114)⟩,
      ⟨some 116, none, .load none (.t 115)⟩,
      ⟨some 117, none, .mv (.t 0)⟩,
      ⟨some 118, none, .mv (.t 12)⟩,
      ⟨some 119, none, .bin .sub (.t 118) (.c (.int .i64 1))⟩,
      ⟨some 120, none, .idxa 1 (.t 117) (.t 119)⟩,
      ⟨some 121, none, .load none (.t 120)⟩,
      ⟨some 122, none, .call (.t 112) [(.t 116), (.t 121)]⟩,
      ⟨some 123, none, .bin .lss (.t 122) (.c (.int .i64 0))⟩,
      ⟨some 124, none, .not (.t 123)⟩])
                          (.keep [0, 1, 2, 3, 9, 10, 12, 124] (.cond (.t 124)
                           (.exit 6)
                           (.skip))))
                         (.keep [0, 1, 2, 3, 9, 10, 12] (.draw [0, 1, 2, 3, 9, 10, 12] [⟨some 125, none, .mv (.t 0)⟩,
      ⟨some 126, none, .mv (.t 12)⟩,
      ⟨some 127, none, .mv (.t 0)⟩,
      ⟨some 128, none, .mv (.t 12)⟩,
      ⟨some 129, none, .bin .sub (.t 128) (.c (.int .i64 1))⟩,
      ⟨some 130, none, .mv (.t 0)⟩,
      ⟨some 131, none, .mv (.t 12)⟩,
      ⟨some 132, none, .bin .sub (.t 131) (.c (.int .i64 1))⟩,
      ⟨some 133, none, .idxa 1 (.t 130) (.t 132)⟩,
      ⟨some 134, none, .load none (.t 133)⟩,
      ⟨some 135, none, .mv (.t 0)⟩,
      ⟨some 136, none, .mv (.t 12)⟩,
      ⟨some 137, none, .idxa 1 (.t 135) (.t 136)⟩,
      ⟨some 138, none, .load none (.t 137)⟩,
      ⟨some 139, none, .idxa 1 (.t 125) (.t 126)⟩,
      ⟨none, none, .store 1 (.t 139) (.t 134)⟩,
      ⟨some 140, none, .idxa 1 (.t 127) (.t 129)⟩,
      ⟨none, none, .store 1 (.t 140) (.t 138)⟩]))))
                       (.keep [0, 1, 2, 3, 9, 10, 12] (.ops [⟨some 110, none, .mv (.t 12)⟩,
      ⟨some 111, none, .bin .add (.t 110) (.c (.int .i64 1))⟩,
      ⟨some 12, none, .mv (.t 111)⟩]))))

/- behind: (kblock 1 (kseq P (J_slices_partialInsertionSortCmpFunc_api_Word_j2) Q)) -/
def J_slices_partialInsertionSortCmpFunc_api_Word_j4 : ACode :=
  .keep [0, 1, 2, 3, 9, 10] (.seq (.ops [⟨some 101, none, .mv (.t 2)⟩,
      ⟨some 102, none, .mv (.t 9)⟩,
      ⟨some 103, none, .bin .sub (.t 101) (.t 102)⟩,
      ⟨some 104, none, .bin .geq (.t 103) (.c (.int .i64 2))⟩])
                 (.keep [0, 1, 2, 3, 9, 10, 104] (.cond (.t 104)
                  (.seq (.ops [⟨some 105, none, .mv (.t 9)⟩,
      ⟨some 106, none, .bin .add (.t 105) (.c (.int .i64 1))⟩,
      ⟨some 12, none, .mv (.t 106)⟩])
                   (.keep [0, 1, 2, 3, 9, 10, 12] (.block 6 (.loop [0, 1, 2, 3, 9, 10, 12] (J_slices_partialInsertionSortCmpFunc_api_Word_j3)))))
                  (.skip))))

/- behind: Q = kloop [0, 1, 2, 3, 9, 10, 11] I n (kblock 4 (kseq P (J_slices_partialInsertionSortCmpFunc_api_Word_j4) (kblock 1 (kseq P (J_slices_partialInsertionSortCmpFunc_api_Word_j2) Q)))) -/
def J_slices_partialInsertionSortCmpFunc_api_Word_j5 : ACode :=
  .seq (.seq (.ops [⟨some 68, none, .mv (.t 11)⟩,
      ⟨some 69, none, .bin .geq (.t 68) (.c (.int .i64 1))⟩])
                       (.keep [0, 1, 2, 3, 9, 10, 11, 69] (.cond (.t 69)
                        (.skip)
                        (.exit 4))))
                      (.keep [0, 1, 2, 3, 9, 10, 11] (.seq (.block 5 (.seq (.seq (.draw [0, 1, 2, 3, 9, 10, 11, 84] [⟨some 72, none, .mv (.t 3)⟩,
      ⟨some 73, none, .mv (.t 0)⟩,
      ⟨some 74, none, .mv (.t 11)⟩,
      ⟨some 75, none, .idxa 1 (.t 73) (.t 74)⟩,
      ⟨some 76, none, .load none (.t 75)⟩,
      ⟨some 77, none, .mv (.t 0)⟩,
      ⟨some 78, none, .mv (.t 11)⟩,
      ⟨some 79, none, .bin .sub (.t 78) (.c (.int .i64 1))⟩,
      ⟨some 80, none, .idxa 1 (.t 77) (.t 79)⟩,
      ⟨some 81, none, .load none (.t 80)⟩,
      ⟨some 82, none, .call (.t 72) [(.t 76), (.t 81)]⟩,
      ⟨some 83, none, .bin .lss (.t 82) (.c (.int .i64 0))⟩,
      ⟨some 84, none, .not (.t 83)⟩])
                          (.keep [0, 1, 2, 3, 9, 10, 11, 84] (.cond (.t 84)
                           (.exit 4)
                           (.skip))))
                         (.keep [0, 1, 2, 3, 9, 10, 11] (.draw [0, 1, 2, 3, 9, 10, 11] [⟨some 85, none, .mv (.t 0)⟩,
      ⟨some 86, none, .mv (.t 11)⟩,
      ⟨some 87, none, .mv (.t 0)⟩,
      ⟨some 88, none, .mv (.t 11)⟩,
      ⟨some 89, none, .bin .sub (.t 88) (.c (.int .i64 1))⟩,
      ⟨some 90, none, .mv (.t 0)⟩,
      ⟨some 91, none, .mv (.t 11)⟩,
      ⟨some 92, none, .bin .sub (.t 91) (.c (.int .i64 1))⟩,
      ⟨some 93, none, .idxa 1 (.t 90) (.t 92)⟩,
      ⟨some 94, none, .load none (.t 93)⟩,
      ⟨some 95, none, .mv (.t 0)⟩,
      ⟨some 96, none, .mv (.t 11)⟩,
      ⟨some 97, none, .idxa 1 (.t 95) (.t 96)⟩,
      ⟨some 98, none, .load none (.t 97)⟩,
      ⟨some 99, none, .idxa 1 (.t 85) (.t 86)⟩,
      ⟨none, none, .store 1 (.t 99) (.t 94)⟩,
      ⟨some 100, none, .idxa 1 (.t 87) (.t 89)⟩,
      ⟨none, none, .store 1 (.t 100) (.t 98)⟩]))))
                       (.keep [0, 1, 2, 3, 9, 10, 11] (.ops [⟨some 70, none, .mv (.t 11)⟩,
      ⟨some 71, none, .bin .sub (.t 70) (.c (.int .i64 1))⟩,
      ⟨some 11, none, .mv (.t 71)⟩]))))

/- behind: (kblock 1 (kseq P (J_slices_partialInsertionSortCmpFunc_api_Word_j2) Q)) -/
def J_slices_partialInsertionSortCmpFunc_api_Word_j6 : ACode :=
  .keep [0, 1, 2, 3, 9, 10] (.seq (.seq (.ops [⟨some 39, none, .mv (.t 9)⟩,
      ⟨some 40, none, .mv (.t 2)⟩,
      ⟨some 41, none, .bin .eql (.t 39) (.t 40)⟩])
              (.keep [0, 1, 2, 3, 9, 10, 41] (.cond (.t 41)
               (.seq (.ops [⟨some 8, none, .mv (.c (.bool true))⟩])
                (.ret))
               (.skip))))
             (.keep [0, 1, 2, 3, 9, 10] (.seq (.seq (.ops [⟨some 42, none, .mv (.t 2)⟩,
      ⟨some 43, none, .mv (.t 1)⟩,
      ⟨some 44, none, .bin .sub (.t 42) (.t 43)⟩,
      ⟨some 45, none, .bin .lss (.t 44) (.c (.int .i64 50))⟩])
               (.keep [0, 1, 2, 3, 9, 10, 45] (.cond (.t 45)
                (.seq (.ops [⟨some 8, none, .mv (.c (.bool false))⟩])
                 (.ret))
                (.skip))))
              (.keep [0, 1, 2, 3, 9, 10] (.seq (.draw [0, 1, 2, 3, 9, 10] [⟨some 46, none, .mv (.t 0)⟩,
      ⟨some 47, none, .mv (.t 9)⟩,
      ⟨some 48, none, .mv (.t 0)⟩,
      ⟨some 49, none, .mv (.t 9)⟩,
      ⟨some 50, none, .bin .sub (.t 49) (.c (.int .i64 1))⟩,
      ⟨some 51, none, .mv (.t 0)⟩,
      ⟨some 52, none, .mv (.t 9)⟩,
      ⟨some 53, none, .bin .sub (.t 52) (.c (.int .i64 1))⟩,
      ⟨some 54, none, .idxa 1 (.t 51) (.t 53)⟩,
      ⟨some 55, none, .load none (.t 54)⟩,
      ⟨some 56, none, .mv (.t 0)⟩,
      ⟨some 57, none, .mv (.t 9)⟩,
      ⟨some 58, none, .idxa 1 (.t 56) (.t 57)⟩,
      ⟨some 59, none, .load none (.t 58)⟩,
      ⟨some 60, none, .idxa 1 (.t 46) (.t 47)⟩,
      ⟨none, none, .store 1 (.t 60) (.t 55)⟩,
      ⟨some 61, none, .idxa 1 (.t 48) (.t 50)⟩,
      ⟨none, none, .store 1 (.t 61) (.t 59)⟩])
               (.keep [0, 1, 2, 3, 9, 10] (.seq (.seq (.ops [⟨some 62, none, .mv (.t 9)⟩,
      ⟨some 63, none, .mv (.t 1)⟩,
      ⟨some 64, none, .bin .sub (.t 62) (.t 63)⟩,
      ⟨some 65, none, .bin .geq (.t 64) (.c (.int .i64 2))⟩])
                 (.keep [0, 1, 2, 3, 9, 10, 65] (.cond (.t 65)
                  (.seq (.ops [⟨some 66, none, .mv (.t 9)⟩,
      ⟨some 67, none, .bin .sub (.t 66) (.c (.int .i64 1))⟩,
      ⟨some 11, none, .mv (.t 67)⟩])
                   (.keep [0, 1, 2, 3, 9, 10, 11] (.block 4 (.loop [0, 1, 2, 3, 9, 10, 11] (J_slices_partialInsertionSortCmpFunc_api_Word_j5)))))
                  (.skip))))
                (J_slices_partialInsertionSortCmpFunc_api_Word_j4))))))))

/- behind: Q = kloop [0, 1, 2, 3, 9, 10] I n (kblock 2 (kseq P (J_slices_partialInsertionSortCmpFunc_api_Word_j6) (kblock 1 (kseq P (J_slices_partialInsertionSortCmpFunc_api_Word_j2) Q)))) -/
def J_slices_partialInsertionSortCmpFunc_api_Word_j7 : ACode :=
  .seq (.seq (.draw [0, 1, 2, 3, 9, 10, 36] [⟨some 19, none, .mv (.t 9)⟩,
      ⟨some 20, none, .mv (.t 2)⟩,
      ⟨some 21, none, .bin .lss (.t 19) (.t 20)⟩,
      ⟨some 22, none, .mv (.t 21)⟩,
      ⟨some 23, (some (22, true)), .mv (.t 3)⟩,
      ⟨some 24, (some (22, true)), .mv (.t 0)⟩,
      ⟨some 25, (some (22, true)), .mv (.t 9)⟩,
      ⟨some 26, (some (22, true)), .idxa 1 (.t 24) (.t 25)⟩,
      ⟨some 27, (some (22, true)), .load none (.t 26)⟩,
      ⟨some 28, (some (22, true)), .mv (.t 0)⟩,
      ⟨some 29, (some (22, true)), .mv (.t 9)⟩,
      ⟨some 30, (some (22, true)), .bin .sub (.t 29) (.c (.int .i64 1))⟩,
      ⟨some 31, (some (22, true)), .idxa 1 (.t 28) (.t 30)⟩,
      ⟨some 32, (some (22, true)), .load none (.t 31)⟩,
      ⟨some 33, (some (22, true)), .call (.t 23) [(.t 27), (.t 32)]⟩,
      ⟨some 34, (some (22, true)), .bin .lss (.t 33) (.c (.int .i64 0))⟩,
      ⟨some 35, (some (22, true)), .not (.t 34)⟩,
      ⟨some 36, none, .pick (.t 22) (.t 35) (.c (.bool false))⟩])
                (.keep [0, 1, 2, 3, 9, 10, 36] (.cond (.t 36)
                 (.skip)
                 (.exit 2))))
               (.keep [0, 1, 2, 3, 9, 10] (.block 3 (.ops [⟨some 37, none, .mv (.t 9)⟩,
      ⟨some 38, none, .bin .add (.t 37) (.c (.int .i64 1))⟩,
      ⟨some 9, none, .mv (.t 38)⟩])))

/- behind: Q = kloop [0, 1, 2, 3, 9, 10] I n (kblock 0 (kseq P (J_slices_partialInsertionSortCmpFunc_api_Word_j1) Q)) -/
def J_slices_partialInsertionSortCmpFunc_api_Word_j8 : ACode :=
  .seq (.seq (.ops [⟨some 15, none, .mv (.t 10)⟩,
      ⟨some 16, none, .bin .lss (.t 15) (.c (.int .i64 5))⟩])
          (.keep [0, 1, 2, 3, 9, 10, 16] (.cond (.t 16)
           (.skip)
           (.exit 0))))
         (.keep [0, 1, 2, 3, 9, 10] (.seq (.block 1 (.seq (.block 2 (.loop [0, 1, 2, 3, 9, 10] (J_slices_partialInsertionSortCmpFunc_api_Word_j7)))
            (J_slices_partialInsertionSortCmpFunc_api_Word_j6)))
          (J_slices_partialInsertionSortCmpFunc_api_Word_j2)))

/-- slices.partialInsertionSortCmpFunc[attorney/api.Word] -/
def J_slices_partialInsertionSortCmpFunc_api_Word : AFn :=
  ⟨141, [.t 8], .seq (.ops [⟨some 8, none, .mv (.c (.bool false))⟩])
   (.keep [0, 1, 2, 3] (.seq (.ops [⟨some 13, none, .mv (.t 1)⟩,
      ⟨some 14, none, .bin .add (.t 13) (.c (.int .i64 1))⟩,
      ⟨some 9, none, .mv (.t 14)⟩])
    (.keep [0, 1, 2, 3, 9] (.seq (.seq (.ops [⟨some 10, none, .mv (.c (.int .i64 0))⟩])
      (.keep [0, 1, 2, 3, 9, 10] (.block 0 (.loop [0, 1, 2, 3, 9, 10] (J_slices_partialInsertionSortCmpFunc_api_Word_j8)))))
     (J_slices_partialInsertionSortCmpFunc_api_Word_j1)))))⟩
theorem J_slices_partialInsertionSortCmpFunc_api_Word_ok : chkFn Try.prog 118 J_slices_partialInsertionSortCmpFunc_api_Word = true := by kernel_rfl

/- behind: Q -/
def J_slices_partitionEqualCmpFunc_api_Word_j1 : ACode :=
  .keep [11] (.seq (.ops [⟨some 89, none, .mv (.t 11)⟩,
      ⟨some 10, none, .mv (.t 89)⟩])
       (.ret))

/- behind: (kblock 1 Q) -/
def J_slices_partitionEqualCmpFunc_api_Word_j2 : ACode :=
  .keep [0, 1, 4, 11, 12] (.seq (.seq (.ops [⟨some 68, none, .mv (.t 11)⟩,
      ⟨some 69, none, .mv (.t 12)⟩,
      ⟨some 70, none, .bin .gtr (.t 68) (.t 69)⟩])
             (.keep [0, 1, 4, 11, 12, 70] (.cond (.t 70)
              (.exit 0)
              (.skip))))
            (.keep [0, 1, 4, 11, 12] (.seq (.draw [0, 1, 4, 11, 12] [⟨some 71, none, .mv (.t 0)⟩,
      ⟨some 72, none, .mv (.t 11)⟩,
      ⟨some 73, none, .mv (.t 0)⟩,
      ⟨some 74, none, .mv (.t 12)⟩,
      ⟨some 75, none, .mv (.t 0)⟩,
      ⟨some 76, none, .mv (.t 12)⟩,
      ⟨some 77, none, .idxa 1 (.t 75) (.t 76)⟩,
      ⟨some 78, none, .load none (.t 77)⟩,
      ⟨some 79, none, .mv (.t 0)⟩,
      ⟨some 80, none, .mv (.t 11)⟩,
      ⟨some 81, none, .idxa 1 (.t 79) (.t 80)⟩,
      ⟨some 82, none, .load none (.t 81)⟩,
      ⟨some 83, none, .idxa 1 (.t 71) (.t 72)⟩,
      ⟨none, none, .store 1 (.t 83) (.t 78)⟩,
      ⟨some 84, none, .idxa 1 (.t 73) (.t 74)⟩,
      ⟨none, none, .store 1 (.t 84) (.t 82)⟩])
             (.keep [0, 1, 4, 11, 12] (.seq (.ops [⟨some 85, none, .mv (.t 11)⟩,
      ⟨some 86, none, .bin .add (.t 85) (.c (.int .i64 1))⟩,
      ⟨some 11, none, .mv (.t 86)⟩])
              (.keep [0, 1, 4, 11, 12] (.ops [⟨some 87, none, .mv (.t 12)⟩,
      ⟨some 88, none, .bin .sub (.t 87) (.c (.int .i64 1))⟩,
      ⟨some 12, none, .mv (.t 88)⟩])))))))

/- behind: Q = kloop [0, 1, 4, 11, 12] I n (kblock 4 (kseq P (J_slices_partitionEqualCmpFunc_api_Word_j2) (kblock 1 Q))) -/
def J_slices_partitionEqualCmpFunc_api_Word_j3 : ACode :=
  .seq (.seq (.draw [0, 1, 4, 11, 12, 65] [⟨some 50, none, .mv (.t 11)⟩,
      ⟨some 51, none, .mv (.t 12)⟩,
      ⟨some 52, none, .bin .leq (.t 50) (.t 51)⟩,
      ⟨some 53, none, .mv (.t 52)⟩,
      ⟨some 54, (some (53, true)), .mv (.t 4)⟩,
      ⟨some 55, (some (53, true)), .mv (.t 0)⟩,
      ⟨some 56, (some (53, true)), .mv (.t 1)⟩,
      ⟨some 57, (some (53, true)), .idxa 1 (.t 55) (.t 56)⟩,
      ⟨some 58, (some (53, true)), .load none (.t 57)⟩,
      ⟨some 59, (some (53, true)), .mv (.t 0)⟩,
      ⟨some 60, (some (53, true)), .mv (.t 12)⟩,
      ⟨some 61, (some (53, true)), .idxa 1 (.t 59) (.t 60)⟩,
      ⟨some 62, (some (53, true)), .load none (.t 61)⟩,
      ⟨some 63, (some (53, true)), .call (.t 54) [(.t 58), (.t 62)]⟩,
      ⟨some 64, (some (53, true)), .bin .lss (.t 63) (.c (.int .i64 0))⟩,
      ⟨some 65, none, .pick (.t 53) (.t 64) (.c (.bool false))⟩])
               (.keep [0, 1, 4, 11, 12, 65] (.cond (.t 65)
                (.skip)
                (.exit 4))))
              (.keep [0, 1, 4, 11, 12] (.block 5 (.ops [⟨some 66, none, .mv (.t 12)⟩,
      ⟨some 67, none, .bin .sub (.t 66) (.c (.int .i64 1))⟩,
      ⟨some 12, none, .mv (.t 67)⟩])))

/- behind: (kblock 1 Q) -/
def J_slices_partitionEqualCmpFunc_api_Word_j4 : ACode :=
  .keep [0, 1, 4, 11, 12] (.seq (.block 4 (.loop [0, 1, 4, 11, 12] (J_slices_partitionEqualCmpFunc_api_Word_j3)))
           (J_slices_partitionEqualCmpFunc_api_Word_j2))

/- behind: Q = kloop [0, 1, 4, 11, 12] I n (kblock 2 (kseq P (J_slices_partitionEqualCmpFunc_api_Word_j4) (kblock 1 Q))) -/
def J_slices_partitionEqualCmpFunc_api_Word_j5 : ACode :=
  .seq (.seq (.draw [0, 1, 4, 11, 12, 47] [⟨some 31, none, .mv (.t 11)⟩,
      ⟨some 32, none, .mv (.t 12)⟩,
      ⟨some 33, none, .bin .leq (.t 31) (.t 32)⟩,
      ⟨some 34, none, .mv (.t 33)⟩,
      ⟨some 35, (some (34, true)), .mv (.t 4)⟩,
      ⟨some 36, (some (34, true)), .mv (.t 0)⟩,
      ⟨some 37, (some (34, true)), .mv (.t 1)⟩,
      ⟨some 38, (some (34, true)), .idxa 1 (.t 36) (.t 37)⟩,
      ⟨some 39, (some (34, true)), .load none (.t 38)⟩,
      ⟨some 40, (some (34, true)), .mv (.t 0)⟩,
      ⟨some 41, (some (34, true)), .mv (.t 11)⟩,
      ⟨some 42, (some (34, true)), .idxa 1 (.t 40) (.t 41)⟩,
      ⟨some 43, (some (34, true)), .load none (.t 42)⟩,
      ⟨some 44, (some (34, true)), .call (.t 35) [(.t 39), (.t 43)]⟩,
      ⟨some 45, (some (34, true)), .bin .lss (.t 44) (.c (.int .i64 0))⟩,
      ⟨some 46, (some (34, true)), .not (.t 45)⟩,
      ⟨some 47, none, .pick (.t 34) (.t 46) (.c (.bool false))⟩])
              (.keep [0, 1, 4, 11, 12, 47] (.cond (.t 47)
               (.skip)
               (.exit 2))))
             (.keep [0, 1, 4, 11, 12] (.block 3 (.ops [⟨some 48, none, .mv (.t 11)⟩,
      ⟨some 49, none, .bin .add (.t 48) (.c (.int .i64 1))⟩,
      ⟨some 11, none, .mv (.t 49)⟩])))

/- behind: Q = kloop [0, 1, 4, 11, 12] I n (kblock 0 (kseq P (J_slices_partitionEqualCmpFunc_api_Word_j1) Q)) -/
def J_slices_partitionEqualCmpFunc_api_Word_j6 : ACode :=
  .block 1 (.seq (.block 2 (.loop [0, 1, 4, 11, 12] (J_slices_partitionEqualCmpFunc_api_Word_j5)))
          (J_slices_partitionEqualCmpFunc_api_Word_j4))

/-- slices.partitionEqualCmpFunc[attorney/api.Word] -/
def J_slices_partitionEqualCmpFunc_api_Word : AFn :=
  ⟨90, [.t 10], .seq (.ops [⟨some 10, none, .mv (.c (.int .i64 0))⟩])
   (.keep [0, 1, 2, 3, 4] (.seq (.draw [0, 1, 2, 4] [⟨some 13, none, .mv (.t 0)⟩,
      ⟨some 14, none, .mv (.t 1)⟩,
      ⟨some 15, none, .mv (.t 0)⟩,
      ⟨some 16, none, .mv (.t 3)⟩,
      ⟨some 17, none, .mv (.t 0)⟩,
      ⟨some 18, none, .mv (.t 3)⟩,
      ⟨some 19, none, .idxa 1 (.t 17) (.t 18)⟩,
      ⟨some 20, none, .load none (.t 19)⟩,
      ⟨some 21, none, .mv (.t 0)⟩,
      ⟨some 22, none, .mv (.t 1)⟩,
      ⟨some 23, none, .idxa 1 (.t 21) (.t 22)⟩,
      ⟨some 24, none, .load none (.t 23)⟩,
      ⟨some 25, none, .idxa 1 (.t 13) (.t 14)⟩,
      ⟨none, none, .store 1 (.t 25) (.t 20)⟩,
      ⟨some 26, none, .idxa 1 (.t 15) (.t 16)⟩,
      ⟨none, none, .store 1 (.t 26) (.t 24)⟩])
    (.keep [0, 1, 2, 4] (.seq (.ops [⟨some 27, none, .mv (.t 1)⟩,
      ⟨some 28, none, .bin .add (.t 27) (.c (.int .i64 1))⟩,
      ⟨some 29, none, .mv (.t 2)⟩,
      ⟨some 30, none, .bin .sub (.t 29) (.c (.int .i64 1))⟩,
      ⟨some 11, none, .mv (.t 28)⟩,
      ⟨some 12, none, .mv (.t 30)⟩])
     (.keep [0, 1, 4, 11, 12] (.seq (.block 0 (.loop [0, 1, 4, 11, 12] (J_slices_partitionEqualCmpFunc_api_Word_j6)))
      (J_slices_partitionEqualCmpFunc_api_Word_j1)))))))⟩
theorem J_slices_partitionEqualCmpFunc_api_Word_ok : chkFn Try.prog 119 J_slices_partitionEqualCmpFunc_api_Word = true := by kernel_rfl

/- behind: Q -/
def J_slices_partitionCmpFunc_api_Word_j1 : ACode :=
  .keep [0, 1, 13] (.seq (.draw [13] [⟨some 163, none, .mv (.t 0)⟩,
      ⟨some 164, none, .mv (.t 13)⟩,
      ⟨some 165, none, .mv (.t 0)⟩,
      ⟨some 166, none, .mv (.t 1)⟩,
      ⟨some 167, none, .mv (.t 0)⟩,
      ⟨some 168, none, .mv (.t 1)⟩,
      ⟨some 169, none, .idxa 1 (.t 167) (.t 168)⟩,
      ⟨some 170, none, .load none (.t 169)⟩,
      ⟨some 171, none, .mv (.t 0)⟩,
      ⟨some 172, none, .mv (.t 13)⟩,
      ⟨some 173, none, .idxa 1 (.t 171) (.t 172)⟩,
      ⟨some 174, none, .load none (.t 173)⟩,
      ⟨some 175, none, .idxa 1 (.t 163) (.t 164)⟩,
      ⟨none, none, .store 1 (.t 175) (.t 170)⟩,
      ⟨some 176, none, .idxa 1 (.t 165) (.t 166)⟩,
      ⟨none, none, .store 1 (.t 176) (.t 174)⟩])
             (.keep [13] (.seq (.ops [⟨some 177, none, .mv (.t 13)⟩,
      ⟨some 10, none, .mv (.t 177)⟩,
      ⟨some 11, none, .mv (.c (.bool false))⟩])
              (.ret))))

/- behind: (kblock 5 Q) -/
def J_slices_partitionCmpFunc_api_Word_j2 : ACode :=
  .keep [0, 1, 4, 12, 13] (.seq (.seq (.ops [⟨some 142, none, .mv (.t 12)⟩,
      ⟨some 143, none, .mv (.t 13)⟩,
      ⟨some 144, none, .bin .gtr (.t 142) (.t 143)⟩])
                   (.keep [0, 1, 4, 12, 13, 144] (.cond (.t 144)
                    (.exit 4)
                    (.skip))))
                  (.keep [0, 1, 4, 12, 13] (.seq (.draw [0, 1, 4, 12, 13] [⟨some 145, none, .mv (.t 0)⟩,
      ⟨some 146, none, .mv (.t 12)⟩,
      ⟨some 147, none, .mv (.t 0)⟩,
      ⟨some 148, none, .mv (.t 13)⟩,
      ⟨some 149, none, .mv (.t 0)⟩,
      ⟨some 150, none, .mv (.t 13)⟩,
      ⟨some 151, none, .idxa 1 (.t 149) (.t 150)⟩,
      ⟨some 152, none, .load none (.t 151)⟩,
      ⟨some 153, none, .mv (.t 0)⟩,
      ⟨some 154, none, .mv (.t 12)⟩,
      ⟨some 155, none, .idxa 1 (.t 153) (.t 154)⟩,
      ⟨some 156, none, .load none (.t 155)⟩,
      ⟨some 157, none, .idxa 1 (.t 145) (.t 146)⟩,
      ⟨none, none, .store 1 (.t 157) (.t 152)⟩,
      ⟨some 158, none, .idxa 1 (.t 147) (.t 148)⟩,
      ⟨none, none, .store 1 (.t 158) (.t 156)⟩])
                   (.keep [0, 1, 4, 12, 13] (.seq (.ops [⟨some 159, none, .mv (.t 12)⟩,
      ⟨some 160, none, .bin .add (.t 159) (.c (.int .i64 1))⟩,
      ⟨some 12, none, .mv (.t 160)⟩])
                    (.keep [0, 1, 4, 12, 13] (.ops [⟨some 161, none, .mv (.t 13)⟩,
      ⟨some 162, none, .bin .sub (.t 161) (.c (.int .i64 1))⟩,
      ⟨some 13, none, .mv (.t 162)⟩])))))))

/- behind: Q = kloop [0, 1, 4, 12, 13] I n (kblock 8 (kseq P (J_slices_partitionCmpFunc_api_Word_j2) (kblock 5 Q))) -/
def J_slices_partitionCmpFunc_api_Word_j3 : ACode :=
  .seq (.seq (.draw [0, 1, 4, 12, 13, 139] [⟨some 123, none, .mv (.t 12)⟩,
      ⟨some 124, none, .mv (.t 13)⟩,
      ⟨some 125, none, .bin .leq (.t 123) (.t 124)⟩,
      ⟨some 126, none, .mv (.t 125)⟩,
      ⟨some 127, (some (126, true)), .mv (.t 4)⟩,
      ⟨some 128, (some (126, true)), .mv (.t 0)⟩,
      ⟨some 129, (some (126, true)), .mv (.t 13)⟩,
      ⟨some 130, (some (126, true)), .idxa 1 (.t 128) (.t 129)⟩,
      ⟨some 131, (some (126, true)), .load none (.t 130)⟩,
      ⟨some 132, (some (126, true)), .mv (.t 0)⟩,
      ⟨some 133, (some (126, true)), .mv (.t 1)⟩,
      ⟨some 134, (some (126, true)), .idxa 1 (.t 132) (.t 133)⟩,
      ⟨some 135, (some (126, true)), .load none (.t 134)⟩,
      ⟨some 136, (some (126, true)), .call (.t 127) [(.t 131), (.t 135)]⟩,
      ⟨some 137, (some (126, true)), .bin .lss (.t 136) (.c (.int .i64 0))⟩,
      ⟨some 138, (some (126, true)), .not (.t 137)⟩,
      ⟨some 139, none, .pick (.t 126) (.t 138) (.c (.bool false))⟩])
                     (.keep [0, 1, 4, 12, 13, 139] (.cond (.t 139)
                      (.skip)
                      (.exit 8))))
                    (.keep [0, 1, 4, 12, 13] (.block 9 (.ops [⟨some 140, none, .mv (.t 13)⟩,
      ⟨some 141, none, .bin .sub (.t 140) (.c (.int .i64 1))⟩,
      ⟨some 13, none, .mv (.t 141)⟩])))

/- behind: (kblock 5 Q) -/
def J_slices_partitionCmpFunc_api_Word_j4 : ACode :=
  .keep [0, 1, 4, 12, 13] (.seq (.block 8 (.loop [0, 1, 4, 12, 13] (J_slices_partitionCmpFunc_api_Word_j3)))
                 (J_slices_partitionCmpFunc_api_Word_j2))

/- behind: Q = kloop [0, 1, 4, 12, 13] I n (kblock 6 (kseq P (J_slices_partitionCmpFunc_api_Word_j4) (kblock 5 Q))) -/
def J_slices_partitionCmpFunc_api_Word_j5 : ACode :=
  .seq (.seq (.draw [0, 1, 4, 12, 13, 120] [⟨some 105, none, .mv (.t 12)⟩,
      ⟨some 106, none, .mv (.t 13)⟩,
      ⟨some 107, none, .bin .leq (.t 105) (.t 106)⟩,
      ⟨some 108, none, .mv (.t 107)⟩,
      ⟨some 109, (some (108, true)), .mv (.t 4)⟩,
      ⟨some 110, (some (108, true)), .mv (.t 0)⟩,
      ⟨some 111, (some (108, true)), .mv (.t 12)⟩,
      ⟨some 112, (some (108, true)), .idxa 1 (.t 110) (.t 111)⟩,
      ⟨some 113, (some (108, true)), .load none (.t 112)⟩,
      ⟨some 114, (some (108, true)), .mv (.t 0)⟩,
      ⟨some 115, (some (108, true)), .mv (.t 1)⟩,
      ⟨some 116, (some (108, true)), .idxa 1 (.t 114) (.t 115)⟩,
      ⟨some 117, (some (108, true)), .load none (.t 116)⟩,
      ⟨some 118, (some (108, true)), .call (.t 109) [(.t 113), (.t 117)]⟩,
      ⟨some 119, (some (108, true)), .bin .lss (.t 118) (.c (.int .i64 0))⟩,
      ⟨some 120, none, .pick (.t 108) (.t 119) (.c (.bool false))⟩])
                    (.keep [0, 1, 4, 12, 13, 120] (.cond (.t 120)
                     (.skip)
                     (.exit 6))))
                   (.keep [0, 1, 4, 12, 13] (.block 7 (.ops [⟨some 121, none, .mv (.t 12)⟩,
      ⟨some 122, none, .bin .add (.t 121) (.c (.int .i64 1))⟩,
      ⟨some 12, none, .mv (.t 122)⟩])))

/- behind: Q = kloop [0, 1, 4, 12, 13] I n (kblock 4 (kseq P (J_slices_partitionCmpFunc_api_Word_j1) Q)) -/
def J_slices_partitionCmpFunc_api_Word_j6 : ACode :=
  .block 5 (.seq (.block 6 (.loop [0, 1, 4, 12, 13] (J_slices_partitionCmpFunc_api_Word_j5)))
                (J_slices_partitionCmpFunc_api_Word_j4))

/- behind: Q -/
def J_slices_partitionCmpFunc_api_Word_j7 : ACode :=
  .keep [0, 1, 4, 12, 13] (.seq (.seq (.ops [⟨some 69, none, .mv (.t 12)⟩,
      ⟨some 70, none, .mv (.t 13)⟩,
      ⟨some 71, none, .bin .gtr (.t 69) (.t 70)⟩])
         (.keep [0, 1, 4, 12, 13, 71] (.cond (.t 71)
          (.seq (.draw [13] [⟨some 72, none, .mv (.t 0)⟩,
      ⟨some 73, none, .mv (.t 13)⟩,
      ⟨some 74, none, .mv (.t 0)⟩,
      ⟨some 75, none, .mv (.t 1)⟩,
      ⟨some 76, none, .mv (.t 0)⟩,
      ⟨some 77, none, .mv (.t 1)⟩,
      ⟨some 78, none, .idxa 1 (.t 76) (.t 77)⟩,
      ⟨some 79, none, .load none (.t 78)⟩,
      ⟨some 80, none, .mv (.t 0)⟩,
      ⟨some 81, none, .mv (.t 13)⟩,
      ⟨some 82, none, .idxa 1 (.t 80) (.t 81)⟩,
      ⟨some 83, none, .load none (.t 82)⟩,
      ⟨some 84, none, .idxa 1 (.t 72) (.t 73)⟩,
      ⟨none, none, .store 1 (.t 84) (.t 79)⟩,
      ⟨some 85, none, .idxa 1 (.t 74) (.t 75)⟩,
      ⟨none, none, .store 1 (.t 85) (.t 83)⟩])
           (.keep [13] (.seq (.ops [⟨some 86, none, .mv (.t 13)⟩,
      ⟨some 10, none, .mv (.t 86)⟩,
      ⟨some 11, none, .mv (.c (.bool true))⟩])
            (.ret))))
          (.skip))))
        (.keep [0, 1, 4, 12, 13] (.seq (.draw [0, 1, 4, 12, 13] [⟨some 87, none, .mv (.t 0)⟩,
      ⟨some 88, none, .mv (.t 12)⟩,
      ⟨some 89, none, .mv (.t 0)⟩,
      ⟨some 90, none, .mv (.t 13)⟩,
      ⟨some 91, none, .mv (.t 0)⟩,
      ⟨some 92, none, .mv (.t 13)⟩,
      ⟨some 93, none, .idxa 1 (.t 91) (.t 92)⟩,
      ⟨some 94, none, .load none (.t 93)⟩,
      ⟨some 95, none, .mv (.t 0)⟩,
      ⟨some 96, none, .mv (.t 12)⟩,
      ⟨some 97, none, .idxa 1 (.t 95) (.t 96)⟩,
      ⟨some 98, none, .load none (.t 97)⟩,
      ⟨some 99, none, .idxa 1 (.t 87) (.t 88)⟩,
      ⟨none, none, .store 1 (.t 99) (.t 94)⟩,
      ⟨some 100, none, .idxa 1 (.t 89) (.t 90)⟩,
      ⟨none, none, .store 1 (.t 100) (.t 98)⟩])
         (.keep [0, 1, 4, 12, 13] (.seq (.ops [⟨some 101, none, .mv (.t 12)⟩,
      ⟨some 102, none, .bin .add (.t 101) (.c (.int .i64 1))⟩,
      ⟨some 12, none, .mv (.t 102)⟩])
          (.keep [0, 1, 4, 12, 13] (.seq (.ops [⟨some 103, none, .mv (.t 13)⟩,
      ⟨some 104, none, .bin .sub (.t 103) (.c (.int .i64 1))⟩,
      ⟨some 13, none, .mv (.t 104)⟩])
           (.keep [0, 1, 4, 12, 13] (.seq (.block 4 (.loop [0, 1, 4, 12, 13] (J_slices_partitionCmpFunc_api_Word_j6)))
            (J_slices_partitionCmpFunc_api_Word_j1))))))))))

/- behind: Q = kloop [0, 1, 4, 12, 13] I n (kblock 2 (kseq P (J_slices_partitionCmpFunc_api_Word_j7) Q)) -/
def J_slices_partitionCmpFunc_api_Word_j8 : ACode :=
  .seq (.seq (.draw [0, 1, 4, 12, 13, 66] [⟨some 50, none, .mv (.t 12)⟩,
      ⟨some 51, none, .mv (.t 13)⟩,
      ⟨some 52, none, .bin .leq (.t 50) (.t 51)⟩,
      ⟨some 53, none, .mv (.t 52)⟩,
      ⟨some 54, (some (53, true)), .mv (.t 4)⟩,
      ⟨some 55, (some (53, true)), .mv (.t 0)⟩,
      ⟨some 56, (some (53, true)), .mv (.t 13)⟩,
      ⟨some 57, (some (53, true)), .idxa 1 (.t 55) (.t 56)⟩,
      ⟨some 58, (some (53, true)), .load none (.t 57)⟩,
      ⟨some 59, (some (53, true)), .mv (.t 0)⟩,
      ⟨some 60, (some (53, true)), .mv (.t 1)⟩,
      ⟨some 61, (some (53, true)), .idxa 1 (.t 59) (.t 60)⟩,
      ⟨some 62, (some (53, true)), .load none (.t 61)⟩,
      ⟨some 63, (some (53, true)), .call (.t 54) [(.t 58), (.t 62)]⟩,
      ⟨some 64, (some (53, true)), .bin .lss (.t 63) (.c (.int .i64 0))⟩,
      ⟨some 65, (some (53, true)), .not (.t 64)⟩,
      ⟨some 66, none, .pick (.t 53) (.t 65) (.c (.bool false))⟩])
           (.keep [0, 1, 4, 12, 13, 66] (.cond (.t 66)
            (.skip)
            (.exit 2))))
          (.keep [0, 1, 4, 12, 13] (.block 3 (.ops [⟨some 67, none, .mv (.t 13)⟩,
      ⟨some 68, none, .bin .sub (.t 67) (.c (.int .i64 1))⟩,
      ⟨some 13, none, .mv (.t 68)⟩])))

/- behind: Q -/
def J_slices_partitionCmpFunc_api_Word_j9 : ACode :=
  .keep [0, 1, 4, 12, 13] (.seq (.block 2 (.loop [0, 1, 4, 12, 13] (J_slices_partitionCmpFunc_api_Word_j8)))
       (J_slices_partitionCmpFunc_api_Word_j7))

/- behind: Q = kloop [0, 1, 4, 12, 13] I n (kblock 0 (kseq P (J_slices_partitionCmpFunc_api_Word_j9) Q)) -/
def J_slices_partitionCmpFunc_api_Word_j10 : ACode :=
  .seq (.seq (.draw [0, 1, 4, 12, 13, 47] [⟨some 32, none, .mv (.t 12)⟩,
      ⟨some 33, none, .mv (.t 13)⟩,
      ⟨some 34, none, .bin .leq (.t 32) (.t 33)⟩,
      ⟨some 35, none, .mv (.t 34)⟩,
      ⟨some 36, (some (35, true)), .mv (.t 4)⟩,
      ⟨some 37, (some (35, true)), .mv (.t 0)⟩,
      ⟨some 38, (some (35, true)), .mv (.t 12)⟩,
      ⟨some 39, (some (35, true)), .idxa 1 (.t 37) (.t 38)⟩,
      ⟨some 40, (some (35, true)), .load none (.t 39)⟩,
      ⟨some 41, (some (35, true)), .mv (.t 0)⟩,
      ⟨some 42, (some (35, true)), .mv (.t 1)⟩,
      ⟨some 43, (some (35, true)), .idxa 1 (.t 41) (.t 42)⟩,
      ⟨some 44, (some (35, true)), .load none (.t 43)⟩,
      ⟨some 45, (some (35, true)), .call (.t 36) [(.t 40), (.t 44)]⟩,
      ⟨some 46, (some (35, true)), .bin .lss (.t 45) (.c (.int .i64 0))⟩,
      ⟨some 47, none, .pick (.t 35) (.t 46) (.c (.bool false))⟩])
          (.keep [0, 1, 4, 12, 13, 47] (.cond (.t 47)
           (.skip)
           (.exit 0))))
         (.keep [0, 1, 4, 12, 13] (.block 1 (.ops [⟨some 48, none, .mv (.t 12)⟩,
      ⟨some 49, none, .bin .add (.t 48) (.c (.int .i64 1))⟩,
      ⟨some 12, none, .mv (.t 49)⟩])))

/-- slices.partitionCmpFunc[attorney/api.Word] -/
def J_slices_partitionCmpFunc_api_Word : AFn :=
  ⟨178, [.t 10, .t 11], .seq (.ops [⟨some 10, none, .mv (.c (.int .i64 0))⟩,
      ⟨some 11, none, .mv (.c (.bool false))⟩])
   (.keep [0, 1, 2, 3, 4] (.seq (.draw [0, 1, 2, 4] [⟨some 14, none, .mv (.t 0)⟩,
      ⟨some 15, none, .mv (.t 1)⟩,
      ⟨some 16, none, .mv (.t 0)⟩,
      ⟨some 17, none, .mv (.t 3)⟩,
      ⟨some 18, none, .mv (.t 0)⟩,
      ⟨some 19, none, .mv (.t 3)⟩,
      ⟨some 20, none, .idxa 1 (.t 18) (.t 19)⟩,
      ⟨some 21, none, .load none (.t 20)⟩,
      ⟨some 22, none, .mv (.t 0)⟩,
      ⟨some 23, none, .mv (.t 1)⟩,
      ⟨some 24, none, .idxa 1 (.t 22) (.t 23)⟩,
      ⟨some 25, none, .load none (.t 24)⟩,
      ⟨some 26, none, .idxa 1 (.t 14) (.t 15)⟩,
      ⟨none, none, .store 1 (.t 26) (.t 21)⟩,
      ⟨some 27, none, .idxa 1 (.t 16) (.t 17)⟩,
      ⟨none, none, .store 1 (.t 27) (.t 25)⟩])
    (.keep [0, 1, 2, 4] (.seq (.ops [⟨some 28, none, .mv (.t 1)⟩,
      ⟨some 29, none, .bin .add (.t 28) (.c (.int .i64 1))⟩,
      ⟨some 30, none, .mv (.t 2)⟩,
      ⟨some 31, none, .bin .sub (.t 30) (.c (.int .i64 1))⟩,
      ⟨some 12, none, .mv (.t 29)⟩,
      ⟨some 13, none, .mv (.t 31)⟩])
     (.keep [0, 1, 4, 12, 13] (.seq (.block 0 (.loop [0, 1, 4, 12, 13] (J_slices_partitionCmpFunc_api_Word_j10)))
      (J_slices_partitionCmpFunc_api_Word_j9)))))))⟩
theorem J_slices_partitionCmpFunc_api_Word_ok : chkFn Try.prog 120 J_slices_partitionCmpFunc_api_Word = true := by kernel_rfl

/- behind: Q -/
def J_slices_Index_int_int_j1 : ACode :=
  .keep [] (.seq (.ops [⟨some 4, none, .mv (.c (.int .i64 (-1)))⟩])
     (.ret))

/- behind: Q = kloop [0, 1, 7, 8] I n (kblock 0 (kseq P (J_slices_Index_int_int_j1) Q)) -/
def J_slices_Index_int_int_j2 : ACode :=
  .seq (.ops [⟨some 9, none, .bin .lss (.t 8) (.t 7)⟩])
        (.keep [0, 1, 7, 8, 9] (.seq (.cond (.t 9)
          (.skip)
          (.exit 0))
         (.keep [0, 1, 7, 8] (.seq (.block 1 (.seq (.ops [⟨some 10, none, .mv (.t 8)⟩,
      ⟨some 5, none, .mv (.t 10)⟩])
            (.keep [0, 1, 5, 7, 8] (.seq (.ops [⟨some 11, none, .mv (.t 1)⟩,
      ⟨some 12, none, .mv (.t 0)⟩,
      ⟨some 13, none, .mv (.t 5)⟩,
      ⟨some 14, none, .idxa 1 (.t 12) (.t 13)⟩,
      ⟨some 15, none, .load none (.t 14)⟩,
      ⟨some 16, none, .bin .eql (.t 11) (.t 15)⟩])
             (.keep [0, 1, 5, 7, 8, 16] (.cond (.t 16)
              (.seq (.ops [⟨some 17, none, .mv (.t 5)⟩,
      ⟨some 4, none, .mv (.t 17)⟩])
               (.ret))
              (.skip)))))))
          (.keep [0, 1, 7, 8] (.ops [⟨some 18, none, .bin .add (.t 8) (.c (.int .i64 1))⟩,
      ⟨some 8, none, .mv (.t 18)⟩]))))))

/-- slices.Index[[]int,int] -/
def J_slices_Index_int_int : AFn :=
  ⟨19, [.t 4], .seq (.ops [⟨some 4, none, .mv (.c (.int .i64 0))⟩])
   (.keep [0, 1] (.seq (.seq (.ops [⟨some 6, none, .mv (.t 0)⟩,
      ⟨some 7, none, .lenl (.t 6)⟩,
      ⟨some 8, none, .mv (.c (.int .i64 0))⟩])
     (.keep [0, 1, 7, 8] (.block 0 (.loop [0, 1, 7, 8] (J_slices_Index_int_int_j2)))))
    (J_slices_Index_int_int_j1)))⟩
theorem J_slices_Index_int_int_ok : chkFn Try.prog 123 J_slices_Index_int_int = true := by kernel_rfl

/-- attorney/word.Swap -/
def J_word_Swap : AFn :=
  ⟨42, [.t 8, .t 9], .seq (.ops [⟨some 8, none, .mv (.c (.str ⟨#[]⟩))⟩,
      ⟨some 9, none, .mv (.c (.int .i64 0))⟩])
   (.keep [0, 1, 2, 3] (.seq (.seq (.ops [⟨some 10, none, .mv (.t 0)⟩,
      ⟨some 11, none, .call (.f 97) [(.t 10)]⟩,
      ⟨some 12, none, .mv (.t 11)⟩,
      ⟨some 13, (some (12, false)), .mv (.t 3)⟩,
      ⟨some 14, (some (12, false)), .call (.f 97) [(.t 13)]⟩,
      ⟨some 15, none, .pick (.t 12) (.c (.bool true)) (.t 14)⟩])
     (.keep [0, 1, 2, 3, 15] (.cond (.t 15)
      (.seq (.ops [⟨some 8, none, .mv (.c (.str ⟨#[]⟩))⟩,
      ⟨some 9, none, .mv (.c (.int .i64 2))⟩])
       (.ret))
      (.skip))))
    (.keep [0, 1, 2, 3] (.seq (.seq (.ops [⟨some 16, none, .mv (.t 0)⟩,
      ⟨some 17, none, .mv (.t 1)⟩,
      ⟨some 18, none, .mv (.t 2)⟩,
      ⟨some 19, none, .call (.f 130) [(.t 16), (.t 17), (.t 18)]⟩,
      ⟨some 20, none, .not (.t 19)⟩])
      (.keep [0, 1, 2, 3, 20] (.cond (.t 20)
       (.seq (.ops [⟨some 8, none, .mv (.c (.str ⟨#[]⟩))⟩,
      ⟨some 9, none, .mv (.c (.int .i64 5))⟩])
        (.ret))
       (.skip))))
     (.keep [0, 1, 2, 3] (.seq (.seq (.ops [⟨some 21, none, .mv (.t 0)⟩,
      ⟨some 22, none, .call (.f 69) [(.t 21)]⟩,
      ⟨some 23, none, .mv (.t 2)⟩,
      ⟨some 24, none, .bin .sub (.t 22) (.t 23)⟩,
      ⟨some 25, none, .mv (.t 3)⟩,
      ⟨some 26, none, .call (.f 69) [(.t 25)]⟩,
      ⟨some 27, none, .bin .add (.t 24) (.t 26)⟩,
      ⟨some 28, none, .bin .gtr (.t 27) (.c (.int .i64 8))⟩])
       (.keep [0, 1, 2, 3, 28] (.cond (.t 28)
        (.seq (.ops [⟨some 8, none, .mv (.c (.str ⟨#[]⟩))⟩,
      ⟨some 9, none, .mv (.c (.int .i64 4))⟩])
         (.ret))
        (.skip))))
      (.keep [0, 1, 2, 3] (.seq (.draw [8, 9] [⟨some 29, none, .mv (.t 0)⟩,
      ⟨some 30, none, .mv (.t 1)⟩,
      ⟨some 31, none, .bin .mul (.c (.int .i64 2)) (.t 30)⟩,
      ⟨some 32, none, .slcs (.t 29) none (some (.t 31))⟩,
      ⟨some 33, none, .mv (.t 3)⟩,
      ⟨some 34, none, .bin .add (.t 32) (.t 33)⟩,
      ⟨some 35, none, .mv (.t 0)⟩,
      ⟨some 36, none, .mv (.t 1)⟩,
      ⟨some 37, none, .mv (.t 2)⟩,
      ⟨some 38, none, .bin .add (.t 36) (.t 37)⟩,
      ⟨some 39, none, .bin .mul (.c (.int .i64 2)) (.t 38)⟩,
      ⟨some 40, none, .slcs (.t 35) (some (.t 39)) none⟩,
      ⟨some 41, none, .bin .add (.t 34) (.t 40)⟩,
      ⟨some 8, none, .mv (.t 41)⟩,
      ⟨some 9, none, .mv (.c (.int .i64 0))⟩])
       (.ret)))))))))⟩
theorem J_word_Swap_ok : chkFn Try.prog 124 J_word_Swap = true := by kernel_rfl

/- behind: (kblock 1 Q) -/
def J_slices_siftDownCmpFunc_api_Word_j1 : ACode :=
  .keep [0, 2, 3, 4, 10, 11] (.seq (.seq (.draw [0, 2, 3, 4, 10, 11, 58] [⟨some 43, none, .mv (.t 4)⟩,
      ⟨some 44, none, .mv (.t 0)⟩,
      ⟨some 45, none, .mv (.t 3)⟩,
      ⟨some 46, none, .mv (.t 10)⟩,
      ⟨some 47, none, .bin .add (.t 45) (.t 46)⟩,
      ⟨some 48, none, .idxa 1 (.t 44) (.t 47)⟩,
      ⟨some 49, none, .load none (.t 48)⟩,
      ⟨some 50, none, .mv (.t 0)⟩,
      ⟨some 51, none, .mv (.t 3)⟩,
      ⟨some 52, none, .mv (.t 11)⟩,
      ⟨some 53, none, .bin .add (.t 51) (.t 52)⟩,
      ⟨some 54, none, .idxa 1 (.t 50) (.t 53)⟩,
      ⟨some 55, none, .load none (.t 54)⟩,
      ⟨some 56, none, .call (.t 43) [(.t 49), (.t 55)]⟩,
      ⟨some 57, none, .bin .lss (.t 56) (.c (.int .i64 0))⟩,
      ⟨some 58, none, .not (.t 57)⟩])
           (.keep [0, 2, 3, 4, 10, 11, 58] (.cond (.t 58)
            (.ret)
            (.skip))))
          (.keep [0, 2, 3, 4, 10, 11] (.seq (.draw [0, 2, 3, 4, 11] [⟨some 59, none, .mv (.t 0)⟩,
      ⟨some 60, none, .mv (.t 3)⟩,
      ⟨some 61, none, .mv (.t 10)⟩,
      ⟨some 62, none, .bin .add (.t 60) (.t 61)⟩,
      ⟨some 63, none, .mv (.t 0)⟩,
      ⟨some 64, none, .mv (.t 3)⟩,
      ⟨some 65, none, .mv (.t 11)⟩,
      ⟨some 66, none, .bin .add (.t 64) (.t 65)⟩,
      ⟨some 67, none, .mv (.t 0)⟩,
      ⟨some 68, none, .mv (.t 3)⟩,
      ⟨some 69, none, .mv (.t 11)⟩,
      ⟨some 70, none, .bin .add (.t 68) (.t 69)⟩,
      ⟨some 71, none, .idxa 1 (.t 67) (.t 70)⟩,
      ⟨some 72, none, .load none (.t 71)⟩,
      ⟨some 73, none, .mv (.t 0)⟩,
      ⟨some 74, none, .mv (.t 3)⟩,
      ⟨some 75, none, .mv (.t 10)⟩,
      ⟨some 76, none, .bin .add (.t 74) (.t 75)⟩,
      ⟨some 77, none, .idxa 1 (.t 73) (.t 76)⟩,
      ⟨some 78, none, .load none (.t 77)⟩,
      ⟨some 79, none, .idxa 1 (.t 59) (.t 62)⟩,
      ⟨none, none, .store 1 (.t 79) (.t 72)⟩,
      ⟨some 80, none, .idxa 1 (.t 63) (.t 66)⟩,
      ⟨none, none, .store 1 (.t 80) (.t 78)⟩])
           (.keep [0, 2, 3, 4, 11] (.ops [⟨some 81, none, .mv (.t 11)⟩,
      ⟨some 10, none, .mv (.t 81)⟩])))))

/- behind: Q = kloop [0, 2, 3, 4, 10] I n (kblock 0 Q) -/
def J_slices_siftDownCmpFunc_api_Word_j2 : ACode :=
  .block 1 (.seq (.ops [⟨some 13, none, .mv (.t 10)⟩,
      ⟨some 14, none, .bin .mul (.c (.int .i64 2)) (.t 13)⟩,
      ⟨some 15, none, .bin .add (.t 14) (.c (.int .i64 1))⟩,
      ⟨some 11, none, .mv (.t 15)⟩])
       (.keep [0, 2, 3, 4, 10, 11] (.seq (.seq (.ops [⟨some 16, none, .mv (.t 11)⟩,
      ⟨some 17, none, .mv (.t 2)⟩,
      ⟨some 18, none, .bin .geq (.t 16) (.t 17)⟩])
         (.keep [0, 2, 3, 4, 10, 11, 18] (.cond (.t 18)
          (.exit 0)
          (.skip))))
        (.keep [0, 2, 3, 4, 10, 11] (.seq (.seq (.draw [0, 2, 3, 4, 10, 11, 40] [⟨some 19, none, .mv (.t 11)⟩,
      ⟨some 20, none, .bin .add (.t 19) (.c (.int .i64 1))⟩,
      ⟨some 21, none, .mv (.t 2)⟩,
      ⟨some 22, none, .bin .lss (.t 20) (.t 21)⟩,
      ⟨some 23, none, .mv (.t 22)⟩,
      ⟨some 24, (some (23, true)), .mv (.t 4)⟩,
      ⟨some 25, (some (23, true)), .mv (.t 0)⟩,
      ⟨some 26, (some (23, true)), .mv (.t 3)⟩,
      ⟨some 27, (some (23, true)), .mv (.t 11)⟩,
      ⟨some 28, (some (23, true)), .bin .add (.t 26) (.t 27)⟩,
      ⟨some 29, (some (23, true)), .idxa 1 (.t 25) (.t 28)⟩,
      ⟨some 30, (some (23, true)), .load none (.t 29)⟩,
      ⟨some 31, (some (23, true)), .mv (.t 0)⟩,
      ⟨some 32, (some (23, true)), .mv (.t 3)⟩,
      ⟨some 33, (some (23, true)), .mv (.t 11)⟩,
      ⟨some 34, (some (23, true)), .bin .add (.t 32) (.t 33)⟩,
      ⟨some 35, (some (23, true)), .bin .add (.t 34) (.c (.int .i64 1))⟩,
      ⟨some 36, (some (23, true)), .idxa 1 (.t 31) (.t 35)⟩,
      ⟨some 37, (some (23, true)), .load none (.t 36)⟩,
      ⟨some 38, (some (23, true)), .call (.t 24) [(.t 30), (.t 37)]⟩,
      ⟨some 39, (some (23, true)), .bin .lss (.t 38) (.c (.int .i64 0))⟩,
      ⟨some 40, none, .pick (.t 23) (.t 39) (.c (.bool false))⟩])
          (.keep [0, 2, 3, 4, 10, 11, 40] (.cond (.t 40)
           (.ops [⟨some 41, none, .mv (.t 11)⟩,
      ⟨some 42, none, .bin .add (.t 41) (.c (.int .i64 1))⟩,
      ⟨some 11, none, .mv (.t 42)⟩])
           (.skip))))
         (J_slices_siftDownCmpFunc_api_Word_j1))))))

/-- slices.siftDownCmpFunc[attorney/api.Word] -/
def J_slices_siftDownCmpFunc_api_Word : AFn :=
  ⟨82, [], .seq (.ops [⟨some 12, none, .mv (.t 1)⟩,
      ⟨some 10, none, .mv (.t 12)⟩])
   (.keep [0, 2, 3, 4, 10] (.block 0 (.loop [0, 2, 3, 4, 10] (J_slices_siftDownCmpFunc_api_Word_j2))))⟩
theorem J_slices_siftDownCmpFunc_api_Word_ok : chkFn Try.prog 125 J_slices_siftDownCmpFunc_api_Word = true := by kernel_rfl

/-- slices.nextPowerOfTwo -/
def J_slices_nextPowerOfTwo : AFn :=
  ⟨7, [.t 2], .seq (.ops [⟨some 2, none, .mv (.c (.int .u64 0))⟩])
   (.keep [0] (.seq (.ops [⟨some 3, none, .mv (.t 0)⟩,
      ⟨some 4, none, .conv .u64 (.t 3)⟩,
      ⟨some 5, none, .call (.f 100) [(.t 4)]⟩,
      ⟨some 6, none, .bin .shl (.c (.int .u64 1)) (.t 5)⟩,
      ⟨some 2, none, .mv (.t 6)⟩])
    (.ret)))⟩
theorem J_slices_nextPowerOfTwo_ok : chkFn Try.prog 126 J_slices_nextPowerOfTwo = true := by kernel_rfl

/-- slices.medianAdjacentCmpFunc[attorney/api.Word] -/
def J_slices_medianAdjacentCmpFunc_api_Word : AFn :=
  ⟨18, [.t 8], .seq (.ops [⟨some 8, none, .mv (.c (.int .i64 0))⟩])
   (.keep [0, 1, 2, 3] (.seq (.ops [⟨some 9, none, .mv (.t 0)⟩,
      ⟨some 10, none, .mv (.t 1)⟩,
      ⟨some 11, none, .bin .sub (.t 10) (.c (.int .i64 1))⟩,
      ⟨some 12, none, .mv (.t 1)⟩,
      ⟨some 13, none, .mv (.t 1)⟩,
      ⟨some 14, none, .bin .add (.t 13) (.c (.int .i64 1))⟩,
      ⟨some 15, none, .mv (.t 2)⟩,
      ⟨some 16, none, .mv (.t 3)⟩,
      ⟨some 17, none, .call (.f 129) [(.t 9), (.t 11), (.t 12), (.t 14), (.t 15), (.t 16)]⟩,
      ⟨some 8, none, .mv (.t 17)⟩])
    (.ret)))⟩
theorem J_slices_medianAdjacentCmpFunc_api_Word_ok : chkFn Try.prog 128 J_slices_medianAdjacentCmpFunc_api_Word = true := by kernel_rfl

/-- slices.medianCmpFunc[attorney/api.Word] -/
def J_slices_medianCmpFunc_api_Word : AFn :=
  ⟨41, [.t 12], .seq (.ops [⟨some 12, none, .mv (.c (.int .i64 0))⟩])
   (.keep [0, 1, 2, 3, 4, 5] (.seq (.ops [⟨some 14, none, .mv (.t 0)⟩,
      ⟨some 15, none, .mv (.t 1)⟩,
      ⟨some 16, none, .mv (.t 2)⟩,
      ⟨some 17, none, .mv (.t 4)⟩,
      ⟨some 18, none, .mv (.t 5)⟩,
      ⟨some 19, none, .call (.f 131) [(.t 14), (.t 15), (.t 16), (.t 17), (.t 18)]⟩,
      ⟨some 13, none, .mv (.t 19)⟩,
      ⟨some 20, none, .ext 0 (.t 13)⟩,
      ⟨some 21, none, .ext 1 (.t 13)⟩,
      ⟨some 1, none, .mv (.t 20)⟩,
      ⟨some 2, none, .mv (.t 21)⟩])
    (.keep [0, 1, 2, 3, 4, 5] (.seq (.ops [⟨some 23, none, .mv (.t 0)⟩,
      ⟨some 24, none, .mv (.t 2)⟩,
      ⟨some 25, none, .mv (.t 3)⟩,
      ⟨some 26, none, .mv (.t 4)⟩,
      ⟨some 27, none, .mv (.t 5)⟩,
      ⟨some 28, none, .call (.f 131) [(.t 23), (.t 24), (.t 25), (.t 26), (.t 27)]⟩,
      ⟨some 22, none, .mv (.t 28)⟩,
      ⟨some 29, none, .ext 0 (.t 22)⟩,
      ⟨some 30, none, .ext 1 (.t 22)⟩,
      ⟨some 2, none, .mv (.t 29)⟩,
      ⟨some 3, none, .mv (.t 30)⟩])
     (.keep [0, 1, 2, 4, 5] (.seq (.ops [⟨some 32, none, .mv (.t 0)⟩,
      ⟨some 33, none, .mv (.t 1)⟩,
      ⟨some 34, none, .mv (.t 2)⟩,
      ⟨some 35, none, .mv (.t 4)⟩,
      ⟨some 36, none, .mv (.t 5)⟩,
      ⟨some 37, none, .call (.f 131) [(.t 32), (.t 33), (.t 34), (.t 35), (.t 36)]⟩,
      ⟨some 31, none, .mv (.t 37)⟩,
      ⟨some 38, none, .ext 0 (.t 31)⟩,
      ⟨some 39, none, .ext 1 (.t 31)⟩,
      ⟨some 1, none, .mv (.t 38)⟩,
      ⟨some 2, none, .mv (.t 39)⟩])
      (.keep [2] (.seq (.ops [⟨some 40, none, .mv (.t 2)⟩,
      ⟨some 12, none, .mv (.t 40)⟩])
       (.ret)))))))))⟩
theorem J_slices_medianCmpFunc_api_Word_ok : chkFn Try.prog 129 J_slices_medianCmpFunc_api_Word = true := by kernel_rfl

/-- attorney/word.within -/
def J_word_within : AFn :=
  ⟨27, [.t 6], .seq (.ops [⟨some 6, none, .mv (.c (.bool false))⟩])
   (.keep [0, 1, 2] (.seq (.ops [⟨some 7, none, .mv (.t 1)⟩,
      ⟨some 8, none, .bin .geq (.t 7) (.c (.int .i64 0))⟩,
      ⟨some 9, none, .mv (.t 8)⟩,
      ⟨some 10, (some (9, true)), .mv (.t 2)⟩,
      ⟨some 11, (some (9, true)), .bin .geq (.t 10) (.c (.int .i64 0))⟩,
      ⟨some 12, none, .pick (.t 9) (.t 11) (.c (.bool false))⟩,
      ⟨some 13, none, .mv (.t 12)⟩,
      ⟨some 14, (some (13, true)), .mv (.t 1)⟩,
      ⟨some 15, (some (13, true)), .mv (.t 0)⟩,
      ⟨some 16, (some (13, true)), .call (.f 69) [(.t 15)]⟩,
      ⟨some 17, (some (13, true)), .bin .leq (.t 14) (.t 16)⟩,
      ⟨some 18, none, .pick (.t 13) (.t 17) (.c (.bool false))⟩,
      ⟨some 19, none, .mv (.t 18)⟩,
      ⟨some 20, (some (19, true)), .mv (.t 2)⟩,
      ⟨some 21, (some (19, true)), .mv (.t 0)⟩,
      ⟨some 22, (some (19, true)), .call (.f 69) [(.t 21)]⟩,
      ⟨some 23, (some (19, true)), .mv (.t 1)⟩,
      ⟨some 24, (some (19, true)), .bin .sub (.t 22) (.t 23)⟩,
      ⟨some 25, (some (19, true)), .bin .leq (.t 20) (.t 24)⟩,
      ⟨some 26, none, .pick (.t 19) (.t 25) (.c (.bool false))⟩,
      ⟨some 6, none, .mv (.t 26)⟩])
    (.ret)))⟩
theorem J_word_within_ok : chkFn Try.prog 130 J_word_within = true := by kernel_rfl

/-- slices.order2CmpFunc[attorney/api.Word] -/
def J_slices_order2CmpFunc_api_Word : AFn :=
  ⟨32, [.t 10, .t 11], .seq (.ops [⟨some 10, none, .mv (.c (.int .i64 0))⟩,
      ⟨some 11, none, .mv (.c (.int .i64 0))⟩])
   (.keep [0, 1, 2, 3, 4] (.seq (.seq (.draw [1, 2, 3, 22] [⟨some 12, none, .mv (.t 4)⟩,
      ⟨some 13, none, .mv (.t 0)⟩,
      ⟨some 14, none, .mv (.t 2)⟩,
      ⟨some 15, none, .idxa 1 (.t 13) (.t 14)⟩,
      ⟨some 16, none, .load none (.t 15)⟩,
      ⟨some 17, none, .mv (.t 0)⟩,
      ⟨some 18, none, .mv (.t 1)⟩,
      ⟨some 19, none, .idxa 1 (.t 17) (.t 18)⟩,
      ⟨some 20, none, .load none (.t 19)⟩,
      ⟨some 21, none, .call (.t 12) [(.t 16), (.t 20)]⟩,
      ⟨some 22, none, .bin .lss (.t 21) (.c (.int .i64 0))⟩])
     (.keep [1, 2, 3, 22] (.cond (.t 22)
      (.seq (.ops [⟨some 23, none, .mv (.t 3)⟩,
      ⟨some 24, none, .nilck (.t 23)⟩,
      ⟨some 25, none, .load none (.t 24)⟩,
      ⟨some 26, none, .bin .add (.t 25) (.c (.int .i64 1))⟩,
      ⟨some 27, none, .nilck (.t 23)⟩,
      ⟨none, none, .store 1 (.t 27) (.t 26)⟩])
       (.keep [1, 2] (.seq (.ops [⟨some 28, none, .mv (.t 2)⟩,
      ⟨some 29, none, .mv (.t 1)⟩,
      ⟨some 10, none, .mv (.t 28)⟩,
      ⟨some 11, none, .mv (.t 29)⟩])
        (.ret))))
      (.skip))))
    (.keep [1, 2] (.seq (.ops [⟨some 30, none, .mv (.t 1)⟩,
      ⟨some 31, none, .mv (.t 2)⟩,
      ⟨some 10, none, .mv (.t 30)⟩,
      ⟨some 11, none, .mv (.t 31)⟩])
     (.ret)))))⟩
theorem J_slices_order2CmpFunc_api_Word_ok : chkFn Try.prog 131 J_slices_order2CmpFunc_api_Word = true := by kernel_rfl

end Go.Proofs.Ytajpibdchgflnaa
