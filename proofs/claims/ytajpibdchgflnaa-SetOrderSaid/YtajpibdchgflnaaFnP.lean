/- The functions' abstract code, written by a program (acode.py), and that it is theirs. -/
import Derived.Test.YtajpibdchgflnaaProg
import Derived.Test.YtajpibdchgflnaaAb13
namespace Go.Proofs.Ytajpibdchgflnaa
open Go.RowKit

/-- attorney/attorneyref03.Of -/
def F_ref03_Of : AFn :=
  ⟨22, [.t 2, .t 3], .seq (.ops [⟨some 2, none, .mv (.c (.lst .clip 0 []))⟩,
      ⟨some 3, none, .mv (.c (.int .i64 0))⟩])
   (.keep [0] (.seq (.seq (.ops [⟨some 4, none, .mv (.c (.int .i64 0))⟩])
     (.keep [0, 4] (.block 0 (.loop [0, 4] (.seq (.seq (.ops [⟨some 5, none, .mv (.t 4)⟩,
      ⟨some 6, none, .mv (.t 0)⟩,
      ⟨some 7, none, .lenl (.t 6)⟩,
      ⟨some 8, none, .bin .lss (.t 5) (.t 7)⟩])
         (.keep [0, 4, 8] (.cond (.t 8)
          (.skip)
          (.exit 0))))
        (.keep [0, 4] (.seq (.block 1 (.seq (.ops [⟨some 11, none, .mv (.t 0)⟩,
      ⟨some 12, none, .mv (.t 4)⟩,
      ⟨some 13, none, .idxa 1 (.t 11) (.t 12)⟩,
      ⟨some 14, none, .load none (.t 13)⟩,
      ⟨some 15, none, .call (.f 62) [(.t 14)]⟩,
      ⟨some 16, none, .not (.t 15)⟩])
           (.keep [0, 4, 16] (.cond (.t 16)
            (.seq (.ops [⟨some 2, none, .mv (.c (.lst .clip 0 []))⟩,
      ⟨some 3, none, .mv (.c (.int .i64 2))⟩])
             (.ret))
            (.skip)))))
         (.keep [0, 4] (.ops [⟨some 9, none, .mv (.t 4)⟩,
      ⟨some 10, none, .bin .add (.t 9) (.c (.int .i64 1))⟩,
      ⟨some 4, none, .mv (.t 10)⟩])))))))))
    (.keep [0] (.seq (.ops [⟨some 17, none, .mv (.t 0)⟩,
      ⟨some 18, none, .call (.f 64) [(.t 17)]⟩,
      ⟨some 19, none, .call (.f 63) [(.t 18)]⟩,
      ⟨some 20, none, .ext 0 (.t 19)⟩,
      ⟨some 21, none, .ext 1 (.t 19)⟩,
      ⟨some 2, none, .mv (.t 20)⟩,
      ⟨some 3, none, .mv (.t 21)⟩])
     (.ret)))))⟩
theorem F_ref03_Of_ok : chkFn Try.prog 19 F_ref03_Of = true := by kernel_rfl

/-- attorney/attorneyref03.Equal -/
def F_ref03_Equal : AFn :=
  ⟨26, [.t 4], .seq (.ops [⟨some 4, none, .mv (.c (.bool false))⟩])
   (.keep [0, 1] (.seq (.seq (.ops [⟨some 6, none, .mv (.t 0)⟩,
      ⟨some 7, none, .lenl (.t 6)⟩,
      ⟨some 8, none, .mv (.t 1)⟩,
      ⟨some 9, none, .lenl (.t 8)⟩,
      ⟨some 10, none, .bin .neq (.t 7) (.t 9)⟩])
     (.keep [0, 1, 10] (.cond (.t 10)
      (.seq (.ops [⟨some 4, none, .mv (.c (.bool false))⟩])
       (.ret))
      (.skip))))
    (.keep [0, 1] (.seq (.seq (.ops [⟨some 5, none, .mv (.c (.int .i64 0))⟩])
      (.keep [0, 1, 5] (.block 0 (.loop [0, 1, 5] (.seq (.seq (.ops [⟨some 11, none, .mv (.t 5)⟩,
      ⟨some 12, none, .mv (.t 0)⟩,
      ⟨some 13, none, .lenl (.t 12)⟩,
      ⟨some 14, none, .bin .lss (.t 11) (.t 13)⟩])
          (.keep [0, 1, 5, 14] (.cond (.t 14)
           (.skip)
           (.exit 0))))
         (.keep [0, 1, 5] (.seq (.block 1 (.seq (.draw [0, 1, 5, 25] [⟨some 17, none, .mv (.t 0)⟩,
      ⟨some 18, none, .mv (.t 5)⟩,
      ⟨some 19, none, .idxa 1 (.t 17) (.t 18)⟩,
      ⟨some 20, none, .load none (.t 19)⟩,
      ⟨some 21, none, .mv (.t 1)⟩,
      ⟨some 22, none, .mv (.t 5)⟩,
      ⟨some 23, none, .idxa 1 (.t 21) (.t 22)⟩,
      ⟨some 24, none, .load none (.t 23)⟩,
      ⟨some 25, none, .bin .neq (.t 20) (.t 24)⟩])
            (.keep [0, 1, 5, 25] (.cond (.t 25)
             (.seq (.ops [⟨some 4, none, .mv (.c (.bool false))⟩])
              (.ret))
             (.skip)))))
          (.keep [0, 1, 5] (.ops [⟨some 15, none, .mv (.t 5)⟩,
      ⟨some 16, none, .bin .add (.t 15) (.c (.int .i64 1))⟩,
      ⟨some 5, none, .mv (.t 16)⟩])))))))))
     (.keep [] (.seq (.ops [⟨some 4, none, .mv (.c (.bool true))⟩])
      (.ret)))))))⟩
theorem F_ref03_Equal_ok : chkFn Try.prog 20 F_ref03_Equal = true := by kernel_rfl

/-- attorney/set.May -/
def F_set_May : AFn :=
  ⟨36, [.t 2], .seq (.ops [⟨some 2, none, .mv (.c (.bool false))⟩])
   (.keep [0] (.seq (.seq (.ops [⟨some 5, none, .mv (.t 0)⟩,
      ⟨some 6, none, .lenl (.t 5)⟩,
      ⟨some 7, none, .bin .lss (.t 6) (.c (.int .i64 1))⟩,
      ⟨some 8, none, .mv (.t 7)⟩,
      ⟨some 9, (some (8, false)), .mv (.t 0)⟩,
      ⟨some 10, (some (8, false)), .lenl (.t 9)⟩,
      ⟨some 11, (some (8, false)), .bin .gtr (.t 10) (.c (.int .i64 16))⟩,
      ⟨some 12, none, .pick (.t 8) (.c (.bool true)) (.t 11)⟩])
     (.keep [0, 12] (.cond (.t 12)
      (.seq (.ops [⟨some 2, none, .mv (.c (.bool false))⟩])
       (.ret))
      (.skip))))
    (.keep [0] (.seq (.seq (.ops [⟨some 13, none, .mv (.t 0)⟩,
      ⟨some 14, none, .lenl (.t 13)⟩,
      ⟨some 15, none, .mv (.c (.int .i64 0))⟩])
      (.keep [0, 13, 14, 15] (.block 0 (.loop [0, 13, 14, 15] (.seq (.ops [⟨some 16, none, .bin .lss (.t 15) (.t 14)⟩])
         (.keep [0, 13, 14, 15, 16] (.seq (.cond (.t 16)
           (.skip)
           (.exit 0))
          (.keep [0, 13, 14, 15] (.seq (.block 1 (.seq (.ops [⟨some 17, none, .mv (.t 15)⟩,
      ⟨some 18, none, .idxa 1 (.t 13) (.t 15)⟩,
      ⟨some 19, none, .load none (.t 18)⟩,
      ⟨some 3, none, .mv (.t 17)⟩,
      ⟨some 4, none, .mv (.t 19)⟩])
             (.keep [0, 3, 4, 13, 14, 15] (.seq (.seq (.ops [⟨some 20, none, .mv (.t 4)⟩,
      ⟨some 21, none, .call (.f 56) [(.t 20)]⟩,
      ⟨some 22, none, .not (.t 21)⟩])
               (.keep [0, 3, 4, 13, 14, 15, 22] (.cond (.t 22)
                (.seq (.ops [⟨some 2, none, .mv (.c (.bool false))⟩])
                 (.ret))
                (.skip))))
              (.keep [0, 3, 4, 13, 14, 15] (.seq (.ops [⟨some 23, none, .mv (.t 3)⟩,
      ⟨some 24, none, .bin .gtr (.t 23) (.c (.int .i64 0))⟩,
      ⟨some 25, none, .mv (.t 24)⟩,
      ⟨some 26, (some (25, true)), .mv (.t 0)⟩,
      ⟨some 27, (some (25, true)), .mv (.t 3)⟩,
      ⟨some 28, (some (25, true)), .bin .sub (.t 27) (.c (.int .i64 1))⟩,
      ⟨some 29, (some (25, true)), .idxa 1 (.t 26) (.t 28)⟩,
      ⟨some 30, (some (25, true)), .load none (.t 29)⟩,
      ⟨some 31, (some (25, true)), .mv (.t 4)⟩,
      ⟨some 32, (some (25, true)), .call (.f 65) [(.t 30), (.t 31)]⟩,
      ⟨some 33, (some (25, true)), .not (.t 32)⟩,
      ⟨some 34, none, .pick (.t 25) (.t 33) (.c (.bool false))⟩])
               (.keep [0, 13, 14, 15, 34] (.cond (.t 34)
                (.seq (.ops [⟨some 2, none, .mv (.c (.bool false))⟩])
                 (.ret))
                (.skip)))))))))
           (.keep [0, 13, 14, 15] (.ops [⟨some 35, none, .bin .add (.t 15) (.c (.int .i64 1))⟩,
      ⟨some 15, none, .mv (.t 35)⟩])))))))))))
     (.keep [] (.seq (.ops [⟨some 2, none, .mv (.c (.bool true))⟩])
      (.ret)))))))⟩
theorem F_set_May_ok : chkFn Try.prog 21 F_set_May = true := by kernel_rfl

/-- attorney/attorneyref03.May -/
def F_ref03_May : AFn :=
  ⟨41, [.t 2], .seq (.ops [⟨some 2, none, .mv (.c (.bool false))⟩])
   (.keep [0] (.seq (.seq (.ops [⟨some 4, none, .mv (.t 0)⟩,
      ⟨some 5, none, .lenl (.t 4)⟩,
      ⟨some 6, none, .bin .lss (.t 5) (.c (.int .i64 1))⟩,
      ⟨some 7, none, .mv (.t 6)⟩,
      ⟨some 8, (some (7, false)), .mv (.t 0)⟩,
      ⟨some 9, (some (7, false)), .lenl (.t 8)⟩,
      ⟨some 10, (some (7, false)), .bin .gtr (.t 9) (.c (.int .i64 16))⟩,
      ⟨some 11, none, .pick (.t 7) (.c (.bool true)) (.t 10)⟩])
     (.keep [0, 11] (.cond (.t 11)
      (.seq (.ops [⟨some 2, none, .mv (.c (.bool false))⟩])
       (.ret))
      (.skip))))
    (.keep [0] (.seq (.seq (.ops [⟨some 3, none, .mv (.c (.int .i64 0))⟩])
      (.keep [0, 3] (.block 0 (.loop [0, 3] (.seq (.seq (.ops [⟨some 12, none, .mv (.t 3)⟩,
      ⟨some 13, none, .mv (.t 0)⟩,
      ⟨some 14, none, .lenl (.t 13)⟩,
      ⟨some 15, none, .bin .lss (.t 12) (.t 14)⟩])
          (.keep [0, 3, 15] (.cond (.t 15)
           (.skip)
           (.exit 0))))
         (.keep [0, 3] (.seq (.block 1 (.seq (.draw [0, 3, 40] [⟨some 18, none, .mv (.t 0)⟩,
      ⟨some 19, none, .mv (.t 3)⟩,
      ⟨some 20, none, .idxa 1 (.t 18) (.t 19)⟩,
      ⟨some 21, none, .load none (.t 20)⟩,
      ⟨some 22, none, .call (.f 62) [(.t 21)]⟩,
      ⟨some 23, none, .not (.t 22)⟩,
      ⟨some 24, none, .mv (.t 23)⟩,
      ⟨some 25, (some (24, false)), .mv (.t 3)⟩,
      ⟨some 26, (some (24, false)), .bin .gtr (.t 25) (.c (.int .i64 0))⟩,
      ⟨some 27, (some (24, false)), .mv (.t 26)⟩,
      ⟨some 28, (some (27, true)), .mv (.t 0)⟩,
      ⟨some 29, (some (27, true)), .mv (.t 3)⟩,
      ⟨some 30, (some (27, true)), .bin .sub (.t 29) (.c (.int .i64 1))⟩,
      ⟨some 31, (some (27, true)), .idxa 1 (.t 28) (.t 30)⟩,
      ⟨some 32, (some (27, true)), .load none (.t 31)⟩,
      ⟨some 33, (some (27, true)), .mv (.t 0)⟩,
      ⟨some 34, (some (27, true)), .mv (.t 3)⟩,
      ⟨some 35, (some (27, true)), .idxa 1 (.t 33) (.t 34)⟩,
      ⟨some 36, (some (27, true)), .load none (.t 35)⟩,
      ⟨some 37, (some (27, true)), .call (.f 40) [(.t 32), (.t 36)]⟩,
      ⟨some 38, (some (27, true)), .not (.t 37)⟩,
      ⟨some 39, (some (24, false)), .pick (.t 27) (.t 38) (.c (.bool false))⟩,
      ⟨some 40, none, .pick (.t 24) (.c (.bool true)) (.t 39)⟩])
            (.keep [0, 3, 40] (.cond (.t 40)
             (.seq (.ops [⟨some 2, none, .mv (.c (.bool false))⟩])
              (.ret))
             (.skip)))))
          (.keep [0, 3] (.ops [⟨some 16, none, .mv (.t 3)⟩,
      ⟨some 17, none, .bin .add (.t 16) (.c (.int .i64 1))⟩,
      ⟨some 3, none, .mv (.t 17)⟩])))))))))
     (.keep [] (.seq (.ops [⟨some 2, none, .mv (.c (.bool true))⟩])
      (.ret)))))))⟩
theorem F_ref03_May_ok : chkFn Try.prog 22 F_ref03_May = true := by kernel_rfl

/-- attorney/attorneyref03.And -/
def F_ref03_And : AFn :=
  ⟨23, [.t 4, .t 5], .seq (.ops [⟨some 4, none, .mv (.c (.lst .clip 0 []))⟩,
      ⟨some 5, none, .mv (.c (.int .i64 0))⟩])
   (.keep [0, 1] (.seq (.seq (.ops [⟨some 6, none, .mv (.t 0)⟩,
      ⟨some 7, none, .call (.f 22) [(.t 6)]⟩,
      ⟨some 8, none, .not (.t 7)⟩,
      ⟨some 9, none, .mv (.t 8)⟩,
      ⟨some 10, (some (9, false)), .mv (.t 1)⟩,
      ⟨some 11, (some (9, false)), .call (.f 22) [(.t 10)]⟩,
      ⟨some 12, (some (9, false)), .not (.t 11)⟩,
      ⟨some 13, none, .pick (.t 9) (.c (.bool true)) (.t 12)⟩])
     (.keep [0, 1, 13] (.cond (.t 13)
      (.seq (.ops [⟨some 4, none, .mv (.c (.lst .clip 0 []))⟩,
      ⟨some 5, none, .mv (.c (.int .i64 2))⟩])
       (.ret))
      (.skip))))
    (.keep [0, 1] (.seq (.ops [⟨some 14, none, .bsl 36 1 0 [] []⟩,
      ⟨some 15, none, .mv (.t 0)⟩,
      ⟨some 16, none, .appo 36 1 16 14 (.t 15)⟩,
      ⟨some 17, none, .mv (.t 1)⟩,
      ⟨some 18, none, .appo 36 1 16 16 (.t 17)⟩,
      ⟨some 19, none, .call (.f 64) [(.t 18)]⟩,
      ⟨some 20, none, .call (.f 63) [(.t 19)]⟩,
      ⟨some 21, none, .ext 0 (.t 20)⟩,
      ⟨some 22, none, .ext 1 (.t 20)⟩,
      ⟨some 4, none, .mv (.t 21)⟩,
      ⟨some 5, none, .mv (.t 22)⟩])
     (.ret)))))⟩
theorem F_ref03_And_ok : chkFn Try.prog 24 F_ref03_And = true := by kernel_rfl

/-- attorney/attorneyref03.Quote -/
def F_ref03_Quote : AFn :=
  ⟨57, [.t 4, .t 5], .seq (.ops [⟨some 4, none, .mv (.c (.lst .clip 0 []))⟩,
      ⟨some 5, none, .mv (.c (.int .i64 0))⟩])
   (.keep [0, 1] (.seq (.seq (.ops [⟨some 11, none, .mv (.t 0)⟩,
      ⟨some 12, none, .call (.f 22) [(.t 11)]⟩,
      ⟨some 13, none, .not (.t 12)⟩,
      ⟨some 14, none, .mv (.t 13)⟩,
      ⟨some 15, (some (14, false)), .mv (.t 1)⟩,
      ⟨some 16, (some (14, false)), .call (.f 22) [(.t 15)]⟩,
      ⟨some 17, (some (14, false)), .not (.t 16)⟩,
      ⟨some 18, none, .pick (.t 14) (.c (.bool true)) (.t 17)⟩])
     (.keep [0, 1, 18] (.cond (.t 18)
      (.seq (.ops [⟨some 4, none, .mv (.c (.lst .clip 0 []))⟩,
      ⟨some 5, none, .mv (.c (.int .i64 2))⟩])
       (.ret))
      (.skip))))
    (.keep [0, 1] (.seq (.ops [⟨some 19, none, .bsl 36 1 0 [] []⟩,
      ⟨some 6, none, .mvo 19⟩])
     (.keep [0, 1, 6] (.seq (.seq (.ops [⟨some 7, none, .mv (.c (.int .i64 0))⟩])
       (.keep [0, 1, 6, 7] (.block 0 (.loop [0, 1, 6, 7] (.seq (.seq (.ops [⟨some 20, none, .mv (.t 7)⟩,
      ⟨some 21, none, .mv (.t 0)⟩,
      ⟨some 22, none, .lenl (.t 21)⟩,
      ⟨some 23, none, .bin .lss (.t 20) (.t 22)⟩])
           (.keep [0, 1, 6, 7, 23] (.cond (.t 23)
            (.skip)
            (.exit 0))))
          (.keep [0, 1, 6, 7] (.seq (.block 1 (.seq (.ops [⟨some 8, none, .mv (.c (.int .i64 0))⟩])
             (.keep [0, 1, 6, 7, 8] (.block 2 (.loop [0, 1, 6, 7, 8] (.seq (.seq (.ops [⟨some 26, none, .mv (.t 8)⟩,
      ⟨some 27, none, .mv (.t 1)⟩,
      ⟨some 28, none, .lenl (.t 27)⟩,
      ⟨some 29, none, .bin .lss (.t 26) (.t 28)⟩])
                 (.keep [0, 1, 6, 7, 8, 29] (.cond (.t 29)
                  (.skip)
                  (.exit 2))))
                (.keep [0, 1, 6, 7, 8] (.seq (.block 3 (.seq (.draw [0, 1, 6, 7, 8, 9, 10] [⟨some 33, none, .mv (.t 0)⟩,
      ⟨some 34, none, .mv (.t 7)⟩,
      ⟨some 35, none, .idxa 1 (.t 33) (.t 34)⟩,
      ⟨some 36, none, .load none (.t 35)⟩,
      ⟨some 37, none, .mv (.t 1)⟩,
      ⟨some 38, none, .mv (.t 8)⟩,
      ⟨some 39, none, .idxa 1 (.t 37) (.t 38)⟩,
      ⟨some 40, none, .load none (.t 39)⟩,
      ⟨some 41, none, .bsl 36 1 2 [(.str ⟨#[]⟩), (.str ⟨#[]⟩)] [(0, 1, (.t 36)), (1, 1, (.t 40))]⟩,
      ⟨some 42, none, .call (.f 70) [(.t 41)]⟩,
      ⟨some 32, none, .mv (.t 42)⟩,
      ⟨some 43, none, .ext 0 (.t 32)⟩,
      ⟨some 44, none, .ext 1 (.t 32)⟩,
      ⟨some 9, none, .mv (.t 43)⟩,
      ⟨some 10, none, .mv (.t 44)⟩])
                   (.keep [0, 1, 6, 7, 8, 9, 10] (.seq (.seq (.ops [⟨some 45, none, .mv (.t 10)⟩,
      ⟨some 46, none, .bin .neq (.t 45) (.c (.int .i64 0))⟩])
                     (.keep [0, 1, 6, 7, 8, 9, 10, 46] (.cond (.t 46)
                      (.seq (.ops [⟨some 47, none, .mv (.t 10)⟩,
      ⟨some 4, none, .mv (.c (.lst .clip 0 []))⟩,
      ⟨some 5, none, .mv (.t 47)⟩])
                       (.ret))
                      (.skip))))
                    (.keep [0, 1, 6, 7, 8, 9] (.ops [⟨some 48, none, .mvo 6⟩,
      ⟨some 49, none, .mv (.t 9)⟩,
      ⟨some 50, none, .bsl 36 1 1 [(.str ⟨#[]⟩)] [(0, 1, (.t 49))]⟩,
      ⟨some 51, none, .appo 36 1 16 48 (.t 50)⟩,
      ⟨some 6, none, .mvo 51⟩]))))))
                 (.keep [0, 1, 6, 7, 8] (.ops [⟨some 30, none, .mv (.t 8)⟩,
      ⟨some 31, none, .bin .add (.t 30) (.c (.int .i64 1))⟩,
      ⟨some 8, none, .mv (.t 31)⟩]))))))))))
           (.keep [0, 1, 6, 7] (.ops [⟨some 24, none, .mv (.t 7)⟩,
      ⟨some 25, none, .bin .add (.t 24) (.c (.int .i64 1))⟩,
      ⟨some 7, none, .mv (.t 25)⟩])))))))))
      (.keep [6] (.seq (.ops [⟨some 52, none, .mv (.t 6)⟩,
      ⟨some 53, none, .call (.f 64) [(.t 52)]⟩,
      ⟨some 54, none, .call (.f 63) [(.t 53)]⟩,
      ⟨some 55, none, .ext 0 (.t 54)⟩,
      ⟨some 56, none, .ext 1 (.t 54)⟩,
      ⟨some 4, none, .mv (.t 55)⟩,
      ⟨some 5, none, .mv (.t 56)⟩])
       (.ret)))))))))⟩
theorem F_ref03_Quote_ok : chkFn Try.prog 26 F_ref03_Quote = true := by kernel_rfl

/-- attorney/attorneyref03.For -/
def F_ref03_For : AFn :=
  ⟨35, [.t 4, .t 5], .seq (.ops [⟨some 4, none, .mv (.c (.lst .clip 0 []))⟩,
      ⟨some 5, none, .mv (.c (.int .i64 0))⟩])
   (.keep [0, 1] (.seq (.ops [⟨some 11, none, .mv (.t 0)⟩,
      ⟨some 12, none, .mv (.t 1)⟩,
      ⟨some 13, none, .call (.f 26) [(.t 11), (.t 12)]⟩,
      ⟨some 10, none, .mv (.t 13)⟩,
      ⟨some 14, none, .ext 0 (.t 10)⟩,
      ⟨some 15, none, .ext 1 (.t 10)⟩,
      ⟨some 6, none, .mv (.t 14)⟩,
      ⟨some 7, none, .mv (.t 15)⟩])
    (.keep [1, 6, 7] (.seq (.seq (.ops [⟨some 16, none, .mv (.t 7)⟩,
      ⟨some 17, none, .bin .neq (.t 16) (.c (.int .i64 0))⟩])
      (.keep [1, 6, 7, 17] (.cond (.t 17)
       (.seq (.ops [⟨some 18, none, .mv (.t 7)⟩,
      ⟨some 4, none, .mv (.c (.lst .clip 0 []))⟩,
      ⟨some 5, none, .mv (.t 18)⟩])
        (.ret))
       (.skip))))
     (.keep [1, 6] (.seq (.ops [⟨some 20, none, .bsl 25 1 1 [(.int .u16 0)] [(0, 1, (.c (.int .u16 1)))]⟩,
      ⟨some 21, none, .call (.f 39) [(.t 20)]⟩,
      ⟨some 22, none, .bsl 36 1 1 [(.str ⟨#[]⟩)] [(0, 1, (.t 21))]⟩,
      ⟨some 23, none, .mv (.t 1)⟩,
      ⟨some 24, none, .call (.f 26) [(.t 22), (.t 23)]⟩,
      ⟨some 19, none, .mv (.t 24)⟩,
      ⟨some 25, none, .ext 0 (.t 19)⟩,
      ⟨some 26, none, .ext 1 (.t 19)⟩,
      ⟨some 8, none, .mv (.t 25)⟩,
      ⟨some 9, none, .mv (.t 26)⟩])
      (.keep [6, 8, 9] (.seq (.seq (.ops [⟨some 27, none, .mv (.t 9)⟩,
      ⟨some 28, none, .bin .neq (.t 27) (.c (.int .i64 0))⟩])
        (.keep [6, 8, 9, 28] (.cond (.t 28)
         (.seq (.ops [⟨some 29, none, .mv (.t 9)⟩,
      ⟨some 4, none, .mv (.c (.lst .clip 0 []))⟩,
      ⟨some 5, none, .mv (.t 29)⟩])
          (.ret))
         (.skip))))
       (.keep [6, 8] (.seq (.ops [⟨some 30, none, .mv (.t 6)⟩,
      ⟨some 31, none, .mv (.t 8)⟩,
      ⟨some 32, none, .call (.f 24) [(.t 30), (.t 31)]⟩,
      ⟨some 33, none, .ext 0 (.t 32)⟩,
      ⟨some 34, none, .ext 1 (.t 32)⟩,
      ⟨some 4, none, .mv (.t 33)⟩,
      ⟨some 5, none, .mv (.t 34)⟩])
        (.ret)))))))))))⟩
theorem F_ref03_For_ok : chkFn Try.prog 28 F_ref03_For = true := by kernel_rfl

/-- attorney/attorneyref03.As -/
def F_ref03_As : AFn :=
  ⟨23, [.t 4, .t 5], .seq (.ops [⟨some 4, none, .mv (.c (.lst .clip 0 []))⟩,
      ⟨some 5, none, .mv (.c (.int .i64 0))⟩])
   (.keep [0, 1] (.seq (.seq (.ops [⟨some 6, none, .mv (.t 0)⟩,
      ⟨some 7, none, .call (.f 22) [(.t 6)]⟩,
      ⟨some 8, none, .not (.t 7)⟩])
     (.keep [0, 1, 8] (.cond (.t 8)
      (.seq (.ops [⟨some 4, none, .mv (.c (.lst .clip 0 []))⟩,
      ⟨some 5, none, .mv (.c (.int .i64 2))⟩])
       (.ret))
      (.skip))))
    (.keep [0, 1] (.seq (.seq (.ops [⟨some 9, none, .mv (.t 1)⟩,
      ⟨some 10, none, .bin .lss (.t 9) (.c (.int .u16 40960))⟩,
      ⟨some 11, none, .mv (.t 10)⟩,
      ⟨some 12, (some (11, false)), .mv (.t 1)⟩,
      ⟨some 13, (some (11, false)), .bin .geq (.t 12) (.c (.int .u16 49152))⟩,
      ⟨some 14, none, .pick (.t 11) (.c (.bool true)) (.t 13)⟩])
      (.keep [0, 1, 14] (.cond (.t 14)
       (.seq (.ops [⟨some 4, none, .mv (.c (.lst .clip 0 []))⟩,
      ⟨some 5, none, .mv (.c (.int .i64 1))⟩])
        (.ret))
       (.skip))))
     (.keep [0, 1] (.seq (.ops [⟨some 15, none, .mv (.t 0)⟩,
      ⟨some 16, none, .mv (.t 1)⟩,
      ⟨some 17, none, .bsl 25 1 1 [(.int .u16 0)] [(0, 1, (.t 16))]⟩,
      ⟨some 18, none, .call (.f 39) [(.t 17)]⟩,
      ⟨some 19, none, .bsl 36 1 1 [(.str ⟨#[]⟩)] [(0, 1, (.t 18))]⟩,
      ⟨some 20, none, .call (.f 26) [(.t 15), (.t 19)]⟩,
      ⟨some 21, none, .ext 0 (.t 20)⟩,
      ⟨some 22, none, .ext 1 (.t 20)⟩,
      ⟨some 4, none, .mv (.t 21)⟩,
      ⟨some 5, none, .mv (.t 22)⟩])
      (.ret)))))))⟩
theorem F_ref03_As_ok : chkFn Try.prog 30 F_ref03_As = true := by kernel_rfl

/-- attorney/attorneyref03.Has -/
def F_ref03_Has : AFn :=
  ⟨18, [.t 4], .seq (.ops [⟨some 4, none, .mv (.c (.bool false))⟩])
   (.keep [0, 1] (.seq (.seq (.ops [⟨some 5, none, .mv (.c (.int .i64 0))⟩])
     (.keep [0, 1, 5] (.block 0 (.loop [0, 1, 5] (.seq (.seq (.ops [⟨some 6, none, .mv (.t 5)⟩,
      ⟨some 7, none, .mv (.t 0)⟩,
      ⟨some 8, none, .lenl (.t 7)⟩,
      ⟨some 9, none, .bin .lss (.t 6) (.t 8)⟩])
         (.keep [0, 1, 5, 9] (.cond (.t 9)
          (.skip)
          (.exit 0))))
        (.keep [0, 1, 5] (.seq (.block 1 (.seq (.ops [⟨some 12, none, .mv (.t 0)⟩,
      ⟨some 13, none, .mv (.t 5)⟩,
      ⟨some 14, none, .idxa 1 (.t 12) (.t 13)⟩,
      ⟨some 15, none, .load none (.t 14)⟩,
      ⟨some 16, none, .mv (.t 1)⟩,
      ⟨some 17, none, .bin .eql (.t 15) (.t 16)⟩])
           (.keep [0, 1, 5, 17] (.cond (.t 17)
            (.seq (.ops [⟨some 4, none, .mv (.c (.bool true))⟩])
             (.ret))
            (.skip)))))
         (.keep [0, 1, 5] (.ops [⟨some 10, none, .mv (.t 5)⟩,
      ⟨some 11, none, .bin .add (.t 10) (.c (.int .i64 1))⟩,
      ⟨some 5, none, .mv (.t 11)⟩])))))))))
    (.keep [] (.seq (.ops [⟨some 4, none, .mv (.c (.bool false))⟩])
     (.ret)))))⟩
theorem F_ref03_Has_ok : chkFn Try.prog 32 F_ref03_Has = true := by kernel_rfl

/-- attorney/attorneyref03.Within -/
def F_ref03_Within : AFn :=
  ⟨19, [.t 4], .seq (.ops [⟨some 4, none, .mv (.c (.bool false))⟩])
   (.keep [0, 1] (.seq (.seq (.ops [⟨some 5, none, .mv (.c (.int .i64 0))⟩])
     (.keep [0, 1, 5] (.block 0 (.loop [0, 1, 5] (.seq (.seq (.ops [⟨some 6, none, .mv (.t 5)⟩,
      ⟨some 7, none, .mv (.t 0)⟩,
      ⟨some 8, none, .lenl (.t 7)⟩,
      ⟨some 9, none, .bin .lss (.t 6) (.t 8)⟩])
         (.keep [0, 1, 5, 9] (.cond (.t 9)
          (.skip)
          (.exit 0))))
        (.keep [0, 1, 5] (.seq (.block 1 (.seq (.ops [⟨some 12, none, .mv (.t 1)⟩,
      ⟨some 13, none, .mv (.t 0)⟩,
      ⟨some 14, none, .mv (.t 5)⟩,
      ⟨some 15, none, .idxa 1 (.t 13) (.t 14)⟩,
      ⟨some 16, none, .load none (.t 15)⟩,
      ⟨some 17, none, .call (.f 32) [(.t 12), (.t 16)]⟩,
      ⟨some 18, none, .not (.t 17)⟩])
           (.keep [0, 1, 5, 18] (.cond (.t 18)
            (.seq (.ops [⟨some 4, none, .mv (.c (.bool false))⟩])
             (.ret))
            (.skip)))))
         (.keep [0, 1, 5] (.ops [⟨some 10, none, .mv (.t 5)⟩,
      ⟨some 11, none, .bin .add (.t 10) (.c (.int .i64 1))⟩,
      ⟨some 5, none, .mv (.t 11)⟩])))))))))
    (.keep [] (.seq (.ops [⟨some 4, none, .mv (.c (.bool true))⟩])
     (.ret)))))⟩
theorem F_ref03_Within_ok : chkFn Try.prog 34 F_ref03_Within = true := by kernel_rfl

/-- attorney/attorneyref03.Same -/
def F_ref03_Same : AFn :=
  ⟨13, [.t 4], .seq (.ops [⟨some 4, none, .mv (.c (.bool false))⟩])
   (.keep [0, 1] (.seq (.ops [⟨some 5, none, .mv (.t 0)⟩,
      ⟨some 6, none, .mv (.t 1)⟩,
      ⟨some 7, none, .call (.f 34) [(.t 5), (.t 6)]⟩,
      ⟨some 8, none, .mv (.t 7)⟩,
      ⟨some 9, (some (8, true)), .mv (.t 1)⟩,
      ⟨some 10, (some (8, true)), .mv (.t 0)⟩,
      ⟨some 11, (some (8, true)), .call (.f 34) [(.t 9), (.t 10)]⟩,
      ⟨some 12, none, .pick (.t 8) (.t 11) (.c (.bool false))⟩,
      ⟨some 4, none, .mv (.t 12)⟩])
    (.ret)))⟩
theorem F_ref03_Same_ok : chkFn Try.prog 36 F_ref03_Same = true := by kernel_rfl

/-- attorney/attorneyref03.Heavy -/
def F_ref03_Heavy : AFn :=
  ⟨26, [.t 2], .seq (.ops [⟨some 2, none, .mv (.c (.int .i64 0))⟩])
   (.keep [0] (.seq (.ops [⟨some 3, none, .mv (.c (.int .i64 0))⟩])
    (.keep [0, 3] (.seq (.seq (.ops [⟨some 4, none, .mv (.c (.int .i64 0))⟩])
      (.keep [0, 3, 4] (.block 0 (.loop [0, 3, 4] (.seq (.seq (.ops [⟨some 5, none, .mv (.t 4)⟩,
      ⟨some 6, none, .mv (.t 0)⟩,
      ⟨some 7, none, .lenl (.t 6)⟩,
      ⟨some 8, none, .bin .lss (.t 5) (.t 7)⟩])
          (.keep [0, 3, 4, 8] (.cond (.t 8)
           (.skip)
           (.exit 0))))
         (.keep [0, 3, 4] (.seq (.block 1 (.seq (.ops [⟨some 11, none, .mv (.t 0)⟩,
      ⟨some 12, none, .mv (.t 4)⟩,
      ⟨some 13, none, .idxa 1 (.t 11) (.t 12)⟩,
      ⟨some 14, none, .load none (.t 13)⟩,
      ⟨some 15, none, .call (.f 73) [(.t 14)]⟩,
      ⟨some 16, none, .lenl (.t 15)⟩,
      ⟨some 17, none, .mv (.t 3)⟩,
      ⟨some 18, none, .bin .gtr (.t 16) (.t 17)⟩])
            (.keep [0, 3, 4, 18] (.cond (.t 18)
             (.ops [⟨some 19, none, .mv (.t 0)⟩,
      ⟨some 20, none, .mv (.t 4)⟩,
      ⟨some 21, none, .idxa 1 (.t 19) (.t 20)⟩,
      ⟨some 22, none, .load none (.t 21)⟩,
      ⟨some 23, none, .call (.f 73) [(.t 22)]⟩,
      ⟨some 24, none, .lenl (.t 23)⟩,
      ⟨some 3, none, .mv (.t 24)⟩])
             (.skip)))))
          (.keep [0, 3, 4] (.ops [⟨some 9, none, .mv (.t 4)⟩,
      ⟨some 10, none, .bin .add (.t 9) (.c (.int .i64 1))⟩,
      ⟨some 4, none, .mv (.t 10)⟩])))))))))
     (.keep [3] (.seq (.ops [⟨some 25, none, .mv (.t 3)⟩,
      ⟨some 2, none, .mv (.t 25)⟩])
      (.ret)))))))⟩
theorem F_ref03_Heavy_ok : chkFn Try.prog 38 F_ref03_Heavy = true := by kernel_rfl

/-- attorney/attorneyref02.Of -/
def F_ref02_Of : AFn :=
  ⟨29, [.t 2], .seq (.ops [⟨some 2, none, .mv (.c (.str ⟨#[]⟩))⟩])
   (.keep [0] (.seq (.ops [⟨some 5, none, .bsl 5 1 0 [] []⟩,
      ⟨some 3, none, .mvo 5⟩])
    (.keep [0, 3] (.seq (.seq (.ops [⟨some 4, none, .mv (.c (.int .i64 0))⟩])
      (.keep [0, 3, 4] (.block 0 (.loop [0, 3, 4] (.seq (.seq (.ops [⟨some 6, none, .mv (.t 4)⟩,
      ⟨some 7, none, .mv (.t 0)⟩,
      ⟨some 8, none, .lenl (.t 7)⟩,
      ⟨some 9, none, .bin .lss (.t 6) (.t 8)⟩])
          (.keep [0, 3, 4, 9] (.cond (.t 9)
           (.skip)
           (.exit 0))))
         (.keep [0, 3, 4] (.seq (.block 1 (.draw [0, 3, 4] [⟨some 12, none, .mvo 3⟩,
      ⟨some 13, none, .mv (.t 0)⟩,
      ⟨some 14, none, .mv (.t 4)⟩,
      ⟨some 15, none, .idxa 1 (.t 13) (.t 14)⟩,
      ⟨some 16, none, .load none (.t 15)⟩,
      ⟨some 17, none, .bin .quo (.t 16) (.c (.int .u16 256))⟩,
      ⟨some 18, none, .conv .u8 (.t 17)⟩,
      ⟨some 19, none, .mv (.t 0)⟩,
      ⟨some 20, none, .mv (.t 4)⟩,
      ⟨some 21, none, .idxa 1 (.t 19) (.t 20)⟩,
      ⟨some 22, none, .load none (.t 21)⟩,
      ⟨some 23, none, .bin .rem (.t 22) (.c (.int .u16 256))⟩,
      ⟨some 24, none, .conv .u8 (.t 23)⟩,
      ⟨some 25, none, .bsl 5 1 2 [(.int .u8 0), (.int .u8 0)] [(0, 1, (.t 18)), (1, 1, (.t 24))]⟩,
      ⟨some 26, none, .appo 5 1 1 12 (.t 25)⟩,
      ⟨some 3, none, .mvo 26⟩]))
          (.keep [0, 3, 4] (.ops [⟨some 10, none, .mv (.t 4)⟩,
      ⟨some 11, none, .bin .add (.t 10) (.c (.int .i64 1))⟩,
      ⟨some 4, none, .mv (.t 11)⟩])))))))))
     (.keep [3] (.seq (.ops [⟨some 27, none, .mv (.t 3)⟩,
      ⟨some 28, none, .b2s (.t 27)⟩,
      ⟨some 2, none, .mv (.t 28)⟩])
      (.ret)))))))⟩
theorem F_ref02_Of_ok : chkFn Try.prog 39 F_ref02_Of = true := by kernel_rfl

/-- attorney/attorneyref02.Less -/
def F_ref02_Less : AFn :=
  ⟨36, [.t 4], .seq (.ops [⟨some 4, none, .mv (.c (.bool false))⟩])
   (.keep [0, 1] (.seq (.seq (.ops [⟨some 6, none, .mv (.t 0)⟩,
      ⟨some 7, none, .lens (.t 6)⟩,
      ⟨some 8, none, .mv (.t 1)⟩,
      ⟨some 9, none, .lens (.t 8)⟩,
      ⟨some 10, none, .bin .neq (.t 7) (.t 9)⟩])
     (.keep [0, 1, 10] (.cond (.t 10)
      (.seq (.ops [⟨some 11, none, .mv (.t 0)⟩,
      ⟨some 12, none, .lens (.t 11)⟩,
      ⟨some 13, none, .mv (.t 1)⟩,
      ⟨some 14, none, .lens (.t 13)⟩,
      ⟨some 15, none, .bin .lss (.t 12) (.t 14)⟩,
      ⟨some 4, none, .mv (.t 15)⟩])
       (.ret))
      (.skip))))
    (.keep [0, 1] (.seq (.seq (.ops [⟨some 5, none, .mv (.c (.int .i64 0))⟩])
      (.keep [0, 1, 5] (.block 0 (.loop [0, 1, 5] (.seq (.seq (.ops [⟨some 16, none, .mv (.t 5)⟩,
      ⟨some 17, none, .mv (.t 0)⟩,
      ⟨some 18, none, .lens (.t 17)⟩,
      ⟨some 19, none, .bin .lss (.t 16) (.t 18)⟩])
          (.keep [0, 1, 5, 19] (.cond (.t 19)
           (.skip)
           (.exit 0))))
         (.keep [0, 1, 5] (.seq (.block 1 (.seq (.draw [0, 1, 5, 28] [⟨some 22, none, .mv (.t 0)⟩,
      ⟨some 23, none, .mv (.t 5)⟩,
      ⟨some 24, none, .idxs (.t 22) (.t 23)⟩,
      ⟨some 25, none, .mv (.t 1)⟩,
      ⟨some 26, none, .mv (.t 5)⟩,
      ⟨some 27, none, .idxs (.t 25) (.t 26)⟩,
      ⟨some 28, none, .bin .neq (.t 24) (.t 27)⟩])
            (.keep [0, 1, 5, 28] (.cond (.t 28)
             (.seq (.draw [4] [⟨some 29, none, .mv (.t 0)⟩,
      ⟨some 30, none, .mv (.t 5)⟩,
      ⟨some 31, none, .idxs (.t 29) (.t 30)⟩,
      ⟨some 32, none, .mv (.t 1)⟩,
      ⟨some 33, none, .mv (.t 5)⟩,
      ⟨some 34, none, .idxs (.t 32) (.t 33)⟩,
      ⟨some 35, none, .bin .lss (.t 31) (.t 34)⟩,
      ⟨some 4, none, .mv (.t 35)⟩])
              (.ret))
             (.skip)))))
          (.keep [0, 1, 5] (.ops [⟨some 20, none, .mv (.t 5)⟩,
      ⟨some 21, none, .bin .add (.t 20) (.c (.int .i64 1))⟩,
      ⟨some 5, none, .mv (.t 21)⟩])))))))))
     (.keep [] (.seq (.ops [⟨some 4, none, .mv (.c (.bool false))⟩])
      (.ret)))))))⟩
theorem F_ref02_Less_ok : chkFn Try.prog 40 F_ref02_Less = true := by kernel_rfl

/-- attorney/word.May -/
def F_word_May : AFn :=
  ⟨26, [.t 2], .seq (.ops [⟨some 2, none, .mv (.c (.bool false))⟩])
   (.keep [0] (.seq (.seq (.ops [⟨some 4, none, .mv (.t 0)⟩,
      ⟨some 5, none, .call (.f 97) [(.t 4)]⟩,
      ⟨some 6, none, .mv (.t 5)⟩,
      ⟨some 7, (some (6, false)), .mv (.t 0)⟩,
      ⟨some 8, (some (6, false)), .call (.f 69) [(.t 7)]⟩,
      ⟨some 9, (some (6, false)), .bin .lss (.t 8) (.c (.int .i64 1))⟩,
      ⟨some 10, none, .pick (.t 6) (.c (.bool true)) (.t 9)⟩,
      ⟨some 11, none, .mv (.t 10)⟩,
      ⟨some 12, (some (11, false)), .mv (.t 0)⟩,
      ⟨some 13, (some (11, false)), .call (.f 69) [(.t 12)]⟩,
      ⟨some 14, (some (11, false)), .bin .gtr (.t 13) (.c (.int .i64 8))⟩,
      ⟨some 15, none, .pick (.t 11) (.c (.bool true)) (.t 14)⟩])
     (.keep [0, 15] (.cond (.t 15)
      (.seq (.ops [⟨some 2, none, .mv (.c (.bool false))⟩])
       (.ret))
      (.skip))))
    (.keep [0] (.seq (.seq (.ops [⟨some 16, none, .mv (.t 0)⟩,
      ⟨some 17, none, .call (.f 69) [(.t 16)]⟩,
      ⟨some 18, none, .mv (.c (.int .i64 0))⟩])
      (.keep [0, 17, 18] (.block 0 (.loop [0, 17, 18] (.seq (.ops [⟨some 19, none, .bin .lss (.t 18) (.t 17)⟩])
         (.keep [0, 17, 18, 19] (.seq (.cond (.t 19)
           (.skip)
           (.exit 0))
          (.keep [0, 17, 18] (.seq (.block 1 (.seq (.ops [⟨some 20, none, .mv (.t 18)⟩,
      ⟨some 3, none, .mv (.t 20)⟩])
             (.keep [0, 3, 17, 18] (.seq (.ops [⟨some 21, none, .mv (.t 0)⟩,
      ⟨some 22, none, .mv (.t 3)⟩,
      ⟨some 23, none, .call (.f 98) [(.t 21), (.t 22)]⟩,
      ⟨some 24, none, .bin .eql (.t 23) (.c (.int .u16 0))⟩])
              (.keep [0, 17, 18, 24] (.cond (.t 24)
               (.seq (.ops [⟨some 2, none, .mv (.c (.bool false))⟩])
                (.ret))
               (.skip)))))))
           (.keep [0, 17, 18] (.ops [⟨some 25, none, .bin .add (.t 18) (.c (.int .i64 1))⟩,
      ⟨some 18, none, .mv (.t 25)⟩])))))))))))
     (.keep [] (.seq (.ops [⟨some 2, none, .mv (.c (.bool true))⟩])
      (.ret)))))))⟩
theorem F_word_May_ok : chkFn Try.prog 56 F_word_May = true := by kernel_rfl

/-- attorney/set.compare -/
def F_set_compare : AFn :=
  ⟨11, [.t 4], .seq (.ops [⟨some 4, none, .mv (.c (.int .i64 0))⟩])
   (.keep [0, 1] (.seq (.seq (.ops [⟨some 5, none, .mv (.t 0)⟩,
      ⟨some 6, none, .mv (.t 1)⟩,
      ⟨some 7, none, .call (.f 65) [(.t 5), (.t 6)]⟩])
     (.keep [0, 1, 7] (.cond (.t 7)
      (.seq (.ops [⟨some 4, none, .mv (.c (.int .i64 (-1)))⟩])
       (.ret))
      (.skip))))
    (.keep [0, 1] (.seq (.seq (.ops [⟨some 8, none, .mv (.t 1)⟩,
      ⟨some 9, none, .mv (.t 0)⟩,
      ⟨some 10, none, .call (.f 65) [(.t 8), (.t 9)]⟩])
      (.keep [10] (.cond (.t 10)
       (.seq (.ops [⟨some 4, none, .mv (.c (.int .i64 1))⟩])
        (.ret))
       (.skip))))
     (.keep [] (.seq (.ops [⟨some 4, none, .mv (.c (.int .i64 0))⟩])
      (.ret)))))))⟩
theorem F_set_compare_ok : chkFn Try.prog 59 F_set_compare = true := by kernel_rfl

/-- attorney/attorneyref02.May -/
def F_ref02_May : AFn :=
  ⟨32, [.t 2], .seq (.ops [⟨some 2, none, .mv (.c (.bool false))⟩])
   (.keep [0] (.seq (.ops [⟨some 5, none, .mv (.t 0)⟩,
      ⟨some 6, none, .call (.f 73) [(.t 5)]⟩,
      ⟨some 3, none, .mv (.t 6)⟩])
    (.keep [0, 3] (.seq (.seq (.ops [⟨some 4, none, .mv (.c (.int .i64 0))⟩])
      (.keep [0, 3, 4] (.block 0 (.loop [0, 3, 4] (.seq (.seq (.ops [⟨some 7, none, .mv (.t 4)⟩,
      ⟨some 8, none, .mv (.t 3)⟩,
      ⟨some 9, none, .lenl (.t 8)⟩,
      ⟨some 10, none, .bin .lss (.t 7) (.t 9)⟩])
          (.keep [0, 3, 4, 10] (.cond (.t 10)
           (.skip)
           (.exit 0))))
         (.keep [0, 3, 4] (.seq (.block 1 (.seq (.ops [⟨some 13, none, .mv (.t 3)⟩,
      ⟨some 14, none, .mv (.t 4)⟩,
      ⟨some 15, none, .idxa 1 (.t 13) (.t 14)⟩,
      ⟨some 16, none, .load none (.t 15)⟩,
      ⟨some 17, none, .bin .eql (.t 16) (.c (.int .u16 0))⟩])
            (.keep [0, 3, 4, 17] (.cond (.t 17)
             (.seq (.ops [⟨some 2, none, .mv (.c (.bool false))⟩])
              (.ret))
             (.skip)))))
          (.keep [0, 3, 4] (.ops [⟨some 11, none, .mv (.t 4)⟩,
      ⟨some 12, none, .bin .add (.t 11) (.c (.int .i64 1))⟩,
      ⟨some 4, none, .mv (.t 12)⟩])))))))))
     (.keep [0, 3] (.seq (.ops [⟨some 18, none, .mv (.t 0)⟩,
      ⟨some 19, none, .lens (.t 18)⟩,
      ⟨some 20, none, .bin .rem (.t 19) (.c (.int .i64 2))⟩,
      ⟨some 21, none, .bin .eql (.t 20) (.c (.int .i64 0))⟩,
      ⟨some 22, none, .mv (.t 21)⟩,
      ⟨some 23, (some (22, true)), .mv (.t 3)⟩,
      ⟨some 24, (some (22, true)), .lenl (.t 23)⟩,
      ⟨some 25, (some (22, true)), .bin .geq (.t 24) (.c (.int .i64 1))⟩,
      ⟨some 26, none, .pick (.t 22) (.t 25) (.c (.bool false))⟩,
      ⟨some 27, none, .mv (.t 26)⟩,
      ⟨some 28, (some (27, true)), .mv (.t 3)⟩,
      ⟨some 29, (some (27, true)), .lenl (.t 28)⟩,
      ⟨some 30, (some (27, true)), .bin .leq (.t 29) (.c (.int .i64 8))⟩,
      ⟨some 31, none, .pick (.t 27) (.t 30) (.c (.bool false))⟩,
      ⟨some 2, none, .mv (.t 31)⟩])
      (.ret)))))))⟩
theorem F_ref02_May_ok : chkFn Try.prog 62 F_ref02_May = true := by kernel_rfl

/-- attorney/attorneyref03.bound -/
def F_ref03_bound : AFn :=
  ⟨13, [.t 2, .t 3], .seq (.ops [⟨some 2, none, .mv (.c (.lst .clip 0 []))⟩,
      ⟨some 3, none, .mv (.c (.int .i64 0))⟩])
   (.keep [0] (.seq (.seq (.ops [⟨some 4, none, .mv (.t 0)⟩,
      ⟨some 5, none, .lenl (.t 4)⟩,
      ⟨some 6, none, .bin .lss (.t 5) (.c (.int .i64 1))⟩,
      ⟨some 7, none, .mv (.t 6)⟩,
      ⟨some 8, (some (7, false)), .mv (.t 0)⟩,
      ⟨some 9, (some (7, false)), .lenl (.t 8)⟩,
      ⟨some 10, (some (7, false)), .bin .gtr (.t 9) (.c (.int .i64 16))⟩,
      ⟨some 11, none, .pick (.t 7) (.c (.bool true)) (.t 10)⟩])
     (.keep [0, 11] (.cond (.t 11)
      (.seq (.ops [⟨some 2, none, .mv (.c (.lst .clip 0 []))⟩,
      ⟨some 3, none, .mv (.c (.int .i64 3))⟩])
       (.ret))
      (.skip))))
    (.keep [0] (.seq (.ops [⟨some 12, none, .mv (.t 0)⟩,
      ⟨some 2, none, .mv (.t 12)⟩,
      ⟨some 3, none, .mv (.c (.int .i64 0))⟩])
     (.ret)))))⟩
theorem F_ref03_bound_ok : chkFn Try.prog 63 F_ref03_bound = true := by kernel_rfl

/-- attorney/attorneyref03.Right -/
def F_ref03_Right : AFn :=
  ⟨55, [.t 2], .seq (.ops [⟨some 2, none, .mv (.c (.lst .clip 0 []))⟩])
   (.keep [0] (.seq (.ops [⟨some 8, none, .bsl 36 1 0 [] []⟩,
      ⟨some 3, none, .mvo 8⟩])
    (.keep [0, 3] (.block 0 (.loop [0, 3] (.block 1 (.seq (.ops [⟨some 4, none, .mv (.c (.str ⟨#[]⟩))⟩])
        (.keep [0, 3, 4] (.seq (.ops [⟨some 5, none, .mv (.c (.bool false))⟩])
         (.keep [0, 3, 4, 5] (.seq (.seq (.ops [⟨some 6, none, .mv (.c (.int .i64 0))⟩])
           (.keep [0, 3, 4, 5, 6] (.block 2 (.loop [0, 3, 4, 5, 6] (.seq (.seq (.ops [⟨some 9, none, .mv (.t 6)⟩,
      ⟨some 10, none, .mv (.t 0)⟩,
      ⟨some 11, none, .lenl (.t 10)⟩,
      ⟨some 12, none, .bin .lss (.t 9) (.t 11)⟩])
               (.keep [0, 3, 4, 5, 6, 12] (.cond (.t 12)
                (.skip)
                (.exit 2))))
              (.keep [0, 3, 4, 5, 6] (.seq (.block 3 (.seq (.draw [0, 3, 4, 5, 6, 7] [⟨some 15, none, .mv (.t 3)⟩,
      ⟨some 16, none, .lenl (.t 15)⟩,
      ⟨some 17, none, .bin .eql (.t 16) (.c (.int .i64 0))⟩,
      ⟨some 18, none, .mv (.t 17)⟩,
      ⟨some 19, (some (18, false)), .mv (.t 3)⟩,
      ⟨some 20, (some (18, false)), .mv (.t 3)⟩,
      ⟨some 21, (some (18, false)), .lenl (.t 20)⟩,
      ⟨some 22, (some (18, false)), .bin .sub (.t 21) (.c (.int .i64 1))⟩,
      ⟨some 23, (some (18, false)), .idxa 1 (.t 19) (.t 22)⟩,
      ⟨some 24, (some (18, false)), .load none (.t 23)⟩,
      ⟨some 25, (some (18, false)), .mv (.t 0)⟩,
      ⟨some 26, (some (18, false)), .mv (.t 6)⟩,
      ⟨some 27, (some (18, false)), .idxa 1 (.t 25) (.t 26)⟩,
      ⟨some 28, (some (18, false)), .load none (.t 27)⟩,
      ⟨some 29, (some (18, false)), .call (.f 40) [(.t 24), (.t 28)]⟩,
      ⟨some 30, none, .pick (.t 18) (.c (.bool true)) (.t 29)⟩,
      ⟨some 7, none, .mv (.t 30)⟩])
                 (.keep [0, 3, 4, 5, 6, 7] (.seq (.ops [⟨some 31, none, .mv (.t 7)⟩,
      ⟨some 32, none, .mv (.t 31)⟩,
      ⟨some 33, (some (32, true)), .mv (.t 5)⟩,
      ⟨some 34, (some (32, true)), .not (.t 33)⟩,
      ⟨some 35, (some (32, true)), .mv (.t 34)⟩,
      ⟨some 36, (some (35, false)), .mv (.t 0)⟩,
      ⟨some 37, (some (35, false)), .mv (.t 6)⟩,
      ⟨some 38, (some (35, false)), .idxa 1 (.t 36) (.t 37)⟩,
      ⟨some 39, (some (35, false)), .load none (.t 38)⟩,
      ⟨some 40, (some (35, false)), .mv (.t 4)⟩,
      ⟨some 41, (some (35, false)), .call (.f 40) [(.t 39), (.t 40)]⟩,
      ⟨some 42, (some (32, true)), .pick (.t 35) (.c (.bool true)) (.t 41)⟩,
      ⟨some 43, none, .pick (.t 32) (.t 42) (.c (.bool false))⟩])
                  (.keep [0, 3, 4, 5, 6, 43] (.cond (.t 43)
                   (.seq (.ops [⟨some 44, none, .mv (.t 0)⟩,
      ⟨some 45, none, .mv (.t 6)⟩,
      ⟨some 46, none, .idxa 1 (.t 44) (.t 45)⟩,
      ⟨some 47, none, .load none (.t 46)⟩,
      ⟨some 4, none, .mv (.t 47)⟩])
                    (.keep [0, 3, 4, 6] (.ops [⟨some 5, none, .mv (.c (.bool true))⟩])))
                   (.skip)))))))
               (.keep [0, 3, 4, 5, 6] (.ops [⟨some 13, none, .mv (.t 6)⟩,
      ⟨some 14, none, .bin .add (.t 13) (.c (.int .i64 1))⟩,
      ⟨some 6, none, .mv (.t 14)⟩])))))))))
          (.keep [0, 3, 4, 5] (.seq (.seq (.ops [⟨some 48, none, .mv (.t 5)⟩,
      ⟨some 49, none, .not (.t 48)⟩])
            (.keep [0, 3, 4, 49] (.cond (.t 49)
             (.seq (.ops [⟨some 50, none, .mv (.t 3)⟩,
      ⟨some 2, none, .mv (.t 50)⟩])
              (.ret))
             (.skip))))
           (.keep [0, 3, 4] (.ops [⟨some 51, none, .mvo 3⟩,
      ⟨some 52, none, .mv (.t 4)⟩,
      ⟨some 53, none, .bsl 36 1 1 [(.str ⟨#[]⟩)] [(0, 1, (.t 52))]⟩,
      ⟨some 54, none, .appo 36 1 16 51 (.t 53)⟩,
      ⟨some 3, none, .mvo 54⟩])))))))))))))))⟩
theorem F_ref03_Right_ok : chkFn Try.prog 64 F_ref03_Right = true := by kernel_rfl

/-- attorney/word.Less -/
def F_word_Less : AFn :=
  ⟨18, [.t 4], .seq (.ops [⟨some 4, none, .mv (.c (.bool false))⟩])
   (.keep [0, 1] (.seq (.seq (.ops [⟨some 5, none, .mv (.t 0)⟩,
      ⟨some 6, none, .lens (.t 5)⟩,
      ⟨some 7, none, .mv (.t 1)⟩,
      ⟨some 8, none, .lens (.t 7)⟩,
      ⟨some 9, none, .bin .neq (.t 6) (.t 8)⟩])
     (.keep [0, 1, 9] (.cond (.t 9)
      (.seq (.ops [⟨some 10, none, .mv (.t 0)⟩,
      ⟨some 11, none, .lens (.t 10)⟩,
      ⟨some 12, none, .mv (.t 1)⟩,
      ⟨some 13, none, .lens (.t 12)⟩,
      ⟨some 14, none, .bin .lss (.t 11) (.t 13)⟩,
      ⟨some 4, none, .mv (.t 14)⟩])
       (.ret))
      (.skip))))
    (.keep [0, 1] (.seq (.ops [⟨some 15, none, .mv (.t 0)⟩,
      ⟨some 16, none, .mv (.t 1)⟩,
      ⟨some 17, none, .bin .lss (.t 15) (.t 16)⟩,
      ⟨some 4, none, .mv (.t 17)⟩])
     (.ret)))))⟩
theorem F_word_Less_ok : chkFn Try.prog 65 F_word_Less = true := by kernel_rfl

/-- attorney/word.Len -/
def F_word_Len : AFn :=
  ⟨6, [.t 2], .seq (.ops [⟨some 2, none, .mv (.c (.int .i64 0))⟩])
   (.keep [0] (.seq (.ops [⟨some 3, none, .mv (.t 0)⟩,
      ⟨some 4, none, .lens (.t 3)⟩,
      ⟨some 5, none, .bin .quo (.t 4) (.c (.int .i64 2))⟩,
      ⟨some 2, none, .mv (.t 5)⟩])
    (.ret)))⟩
theorem F_word_Len_ok : chkFn Try.prog 69 F_word_Len = true := by kernel_rfl

/-- attorney/attorneyref02.Cat -/
def F_ref02_Cat : AFn :=
  ⟨39, [.t 2, .t 3], .seq (.ops [⟨some 2, none, .mv (.c (.str ⟨#[]⟩))⟩,
      ⟨some 3, none, .mv (.c (.int .i64 0))⟩])
   (.keep [0] (.seq (.ops [⟨some 7, none, .bsl 25 1 0 [] []⟩,
      ⟨some 4, none, .mvo 7⟩])
    (.keep [0, 4] (.seq (.seq (.ops [⟨some 5, none, .mv (.c (.int .i64 0))⟩])
      (.keep [0, 4, 5] (.block 0 (.loop [0, 4, 5] (.seq (.seq (.ops [⟨some 8, none, .mv (.t 5)⟩,
      ⟨some 9, none, .mv (.t 0)⟩,
      ⟨some 10, none, .lenl (.t 9)⟩,
      ⟨some 11, none, .bin .lss (.t 8) (.t 10)⟩])
          (.keep [0, 4, 5, 11] (.cond (.t 11)
           (.skip)
           (.exit 0))))
         (.keep [0, 4, 5] (.seq (.block 1 (.seq (.ops [⟨some 14, none, .mv (.t 0)⟩,
      ⟨some 15, none, .mv (.t 5)⟩,
      ⟨some 16, none, .idxa 1 (.t 14) (.t 15)⟩,
      ⟨some 17, none, .load none (.t 16)⟩,
      ⟨some 18, none, .lens (.t 17)⟩,
      ⟨some 19, none, .bin .rem (.t 18) (.c (.int .i64 2))⟩,
      ⟨some 20, none, .bin .eql (.t 19) (.c (.int .i64 1))⟩])
            (.keep [0, 4, 5, 20] (.cond (.t 20)
             (.seq (.ops [⟨some 2, none, .mv (.c (.str ⟨#[]⟩))⟩,
      ⟨some 3, none, .mv (.c (.int .i64 2))⟩])
              (.ret))
             (.skip)))))
          (.keep [0, 4, 5] (.ops [⟨some 12, none, .mv (.t 5)⟩,
      ⟨some 13, none, .bin .add (.t 12) (.c (.int .i64 1))⟩,
      ⟨some 5, none, .mv (.t 13)⟩])))))))))
     (.keep [0, 4] (.seq (.seq (.ops [⟨some 6, none, .mv (.c (.int .i64 0))⟩])
       (.keep [0, 4, 6] (.block 2 (.loop [0, 4, 6] (.seq (.seq (.ops [⟨some 21, none, .mv (.t 6)⟩,
      ⟨some 22, none, .mv (.t 0)⟩,
      ⟨some 23, none, .lenl (.t 22)⟩,
      ⟨some 24, none, .bin .lss (.t 21) (.t 23)⟩])
           (.keep [0, 4, 6, 24] (.cond (.t 24)
            (.skip)
            (.exit 2))))
          (.keep [0, 4, 6] (.seq (.block 3 (.seq (.ops [⟨some 27, none, .mvo 4⟩,
      ⟨some 28, none, .mv (.t 0)⟩,
      ⟨some 29, none, .mv (.t 6)⟩,
      ⟨some 30, none, .idxa 1 (.t 28) (.t 29)⟩,
      ⟨some 31, none, .load none (.t 30)⟩,
      ⟨some 32, none, .call (.f 73) [(.t 31)]⟩,
      ⟨some 33, none, .appo 25 1 2 27 (.t 32)⟩,
      ⟨some 4, none, .mvo 33⟩])
             (.keep [0, 4, 6] (.seq (.ops [⟨some 34, none, .mv (.t 4)⟩,
      ⟨some 35, none, .lenl (.t 34)⟩,
      ⟨some 36, none, .bin .gtr (.t 35) (.c (.int .i64 8))⟩])
              (.keep [0, 4, 6, 36] (.cond (.t 36)
               (.seq (.ops [⟨some 2, none, .mv (.c (.str ⟨#[]⟩))⟩,
      ⟨some 3, none, .mv (.c (.int .i64 4))⟩])
                (.ret))
               (.skip)))))))
           (.keep [0, 4, 6] (.ops [⟨some 25, none, .mv (.t 6)⟩,
      ⟨some 26, none, .bin .add (.t 25) (.c (.int .i64 1))⟩,
      ⟨some 6, none, .mv (.t 26)⟩])))))))))
      (.keep [4] (.seq (.ops [⟨some 37, none, .mv (.t 4)⟩,
      ⟨some 38, none, .call (.f 39) [(.t 37)]⟩,
      ⟨some 2, none, .mv (.t 38)⟩,
      ⟨some 3, none, .mv (.c (.int .i64 0))⟩])
       (.ret)))))))))⟩
theorem F_ref02_Cat_ok : chkFn Try.prog 70 F_ref02_Cat = true := by kernel_rfl

/-- attorney/word.Of -/
def F_word_Of : AFn :=
  ⟨27, [.t 2], .seq (.ops [⟨some 2, none, .mv (.c (.str ⟨#[]⟩))⟩])
   (.keep [0] (.seq (.ops [⟨some 6, none, .mv (.t 0)⟩,
      ⟨some 7, none, .lenl (.t 6)⟩,
      ⟨some 8, none, .bin .mul (.c (.int .i64 2)) (.t 7)⟩,
      ⟨some 9, none, .mk0 5 1 1 (.t 8)⟩,
      ⟨some 3, none, .mvo 9⟩])
    (.keep [0, 3] (.seq (.seq (.ops [⟨some 10, none, .mv (.t 0)⟩,
      ⟨some 11, none, .lenl (.t 10)⟩,
      ⟨some 12, none, .mv (.c (.int .i64 0))⟩])
      (.keep [3, 10, 11, 12] (.block 0 (.loop [3, 10, 11, 12] (.seq (.ops [⟨some 13, none, .bin .lss (.t 12) (.t 11)⟩])
         (.keep [3, 10, 11, 12, 13] (.seq (.cond (.t 13)
           (.skip)
           (.exit 0))
          (.keep [3, 10, 11, 12] (.seq (.block 1 (.seq (.ops [⟨some 14, none, .idxa 1 (.t 10) (.t 12)⟩,
      ⟨some 15, none, .load none (.t 14)⟩,
      ⟨some 5, none, .mv (.t 15)⟩])
             (.keep [3, 5, 10, 11, 12] (.ops [⟨some 16, none, .mvo 3⟩,
      ⟨some 17, none, .mv (.t 5)⟩,
      ⟨some 18, none, .bin .shr (.t 17) (.c (.int .u64 8))⟩,
      ⟨some 19, none, .conv .u8 (.t 18)⟩,
      ⟨some 20, none, .mv (.t 5)⟩,
      ⟨some 21, none, .conv .u8 (.t 20)⟩,
      ⟨some 22, none, .bsl 5 1 2 [(.int .u8 0), (.int .u8 0)] [(0, 1, (.t 19)), (1, 1, (.t 21))]⟩,
      ⟨some 23, none, .appo 5 1 1 16 (.t 22)⟩,
      ⟨some 3, none, .mvo 23⟩]))))
           (.keep [3, 10, 11, 12] (.ops [⟨some 24, none, .bin .add (.t 12) (.c (.int .i64 1))⟩,
      ⟨some 12, none, .mv (.t 24)⟩])))))))))))
     (.keep [3] (.seq (.ops [⟨some 25, none, .mv (.t 3)⟩,
      ⟨some 26, none, .b2s (.t 25)⟩,
      ⟨some 2, none, .mv (.t 26)⟩])
      (.ret)))))))⟩
theorem F_word_Of_ok : chkFn Try.prog 71 F_word_Of = true := by kernel_rfl

/-- attorney/attorneyref02.Atoms -/
def F_ref02_Atoms : AFn :=
  ⟨28, [.t 2], .seq (.ops [⟨some 2, none, .mv (.c (.lst .clip 0 []))⟩])
   (.keep [0] (.seq (.ops [⟨some 5, none, .bsl 25 1 0 [] []⟩,
      ⟨some 3, none, .mvo 5⟩])
    (.keep [0, 3] (.seq (.seq (.ops [⟨some 4, none, .mv (.c (.int .i64 0))⟩])
      (.keep [0, 3, 4] (.block 0 (.loop [0, 3, 4] (.seq (.seq (.ops [⟨some 6, none, .mv (.t 4)⟩,
      ⟨some 7, none, .bin .add (.t 6) (.c (.int .i64 1))⟩,
      ⟨some 8, none, .mv (.t 0)⟩,
      ⟨some 9, none, .lens (.t 8)⟩,
      ⟨some 10, none, .bin .lss (.t 7) (.t 9)⟩])
          (.keep [0, 3, 4, 10] (.cond (.t 10)
           (.skip)
           (.exit 0))))
         (.keep [0, 3, 4] (.seq (.block 1 (.draw [0, 3, 4] [⟨some 13, none, .mvo 3⟩,
      ⟨some 14, none, .mv (.t 0)⟩,
      ⟨some 15, none, .mv (.t 4)⟩,
      ⟨some 16, none, .idxs (.t 14) (.t 15)⟩,
      ⟨some 17, none, .conv .u16 (.t 16)⟩,
      ⟨some 18, none, .bin .mul (.t 17) (.c (.int .u16 256))⟩,
      ⟨some 19, none, .mv (.t 0)⟩,
      ⟨some 20, none, .mv (.t 4)⟩,
      ⟨some 21, none, .bin .add (.t 20) (.c (.int .i64 1))⟩,
      ⟨some 22, none, .idxs (.t 19) (.t 21)⟩,
      ⟨some 23, none, .conv .u16 (.t 22)⟩,
      ⟨some 24, none, .bin .add (.t 18) (.t 23)⟩,
      ⟨some 25, none, .bsl 25 1 1 [(.int .u16 0)] [(0, 1, (.t 24))]⟩,
      ⟨some 26, none, .appo 25 1 2 13 (.t 25)⟩,
      ⟨some 3, none, .mvo 26⟩]))
          (.keep [0, 3, 4] (.ops [⟨some 11, none, .mv (.t 4)⟩,
      ⟨some 12, none, .bin .add (.t 11) (.c (.int .i64 2))⟩,
      ⟨some 4, none, .mv (.t 12)⟩])))))))))
     (.keep [3] (.seq (.ops [⟨some 27, none, .mv (.t 3)⟩,
      ⟨some 2, none, .mv (.t 27)⟩])
      (.ret)))))))⟩
theorem F_ref02_Atoms_ok : chkFn Try.prog 73 F_ref02_Atoms = true := by kernel_rfl

/-- (*attorney/pack.Out).Num -/
def F_pack_Out_Num : AFn :=
  ⟨46, [], .seq (.seq (.ops [⟨some 4, none, .mv (.t 1)⟩,
      ⟨some 5, none, .bin .lss (.t 4) (.c (.int .i64 0))⟩,
      ⟨some 6, none, .mv (.t 5)⟩,
      ⟨some 7, (some (6, false)), .mv (.t 1)⟩,
      ⟨some 8, (some (6, false)), .bin .gtr (.t 7) (.c (.int .i64 4611686018427387904))⟩,
      ⟨some 9, none, .pick (.t 6) (.c (.bool true)) (.t 8)⟩])
    (.keep [0, 1, 9] (.cond (.t 9)
     (.ops [⟨some 10, none, .mv (.t 0)⟩,
      ⟨some 11, none, .nilck (.t 10)⟩,
      ⟨some 12, none, .fld 0 (.t 11)⟩,
      ⟨some 13, none, .call (.f 103) [(.t 12)]⟩])
     (.skip))))
   (.keep [0, 1] (.seq (.seq (.ops [⟨some 14, none, .mv (.t 0)⟩,
      ⟨some 15, none, .nilck (.t 14)⟩,
      ⟨some 16, none, .fld 0 (.t 15)⟩,
      ⟨some 17, none, .call (.f 104) [(.t 16)]⟩,
      ⟨some 18, none, .not (.t 17)⟩])
     (.keep [0, 1, 18] (.cond (.t 18)
      (.ret)
      (.skip))))
    (.keep [0, 1] (.seq (.block 0 (.loop [0, 1] (.seq (.seq (.ops [⟨some 19, none, .mv (.t 1)⟩,
      ⟨some 20, none, .bin .geq (.t 19) (.c (.int .i64 128))⟩])
         (.keep [0, 1, 20] (.cond (.t 20)
          (.skip)
          (.exit 0))))
        (.keep [0, 1] (.block 1 (.seq (.ops [⟨some 21, none, .mv (.t 0)⟩,
      ⟨some 22, none, .mv (.t 0)⟩,
      ⟨some 23, none, .nilck (.t 22)⟩,
      ⟨some 24, none, .fld 1 (.t 23)⟩,
      ⟨some 25, none, .loado (.t 24)⟩,
      ⟨some 26, none, .mv (.t 1)⟩,
      ⟨some 27, none, .conv .u8 (.t 26)⟩,
      ⟨some 28, none, .bin .or (.t 27) (.c (.int .u8 128))⟩,
      ⟨some 29, none, .bsl 5 1 1 [(.int .u8 0)] [(0, 1, (.t 28))]⟩,
      ⟨some 30, none, .appo 5 1 1 25 (.t 29)⟩,
      ⟨some 31, none, .nilck (.t 21)⟩,
      ⟨some 32, none, .fld 1 (.t 31)⟩,
      ⟨none, none, .storeo (.t 32) 30⟩])
          (.keep [0, 1] (.ops [⟨some 33, none, .mv (.t 1)⟩,
      ⟨some 34, none, .bin .shr (.t 33) (.c (.int .u64 7))⟩,
      ⟨some 1, none, .mv (.t 34)⟩]))))))))
     (.keep [0, 1] (.ops [⟨some 35, none, .mv (.t 0)⟩,
      ⟨some 36, none, .mv (.t 0)⟩,
      ⟨some 37, none, .nilck (.t 36)⟩,
      ⟨some 38, none, .fld 1 (.t 37)⟩,
      ⟨some 39, none, .loado (.t 38)⟩,
      ⟨some 40, none, .mv (.t 1)⟩,
      ⟨some 41, none, .conv .u8 (.t 40)⟩,
      ⟨some 42, none, .bsl 5 1 1 [(.int .u8 0)] [(0, 1, (.t 41))]⟩,
      ⟨some 43, none, .appo 5 1 1 39 (.t 42)⟩,
      ⟨some 44, none, .nilck (.t 35)⟩,
      ⟨some 45, none, .fld 1 (.t 44)⟩,
      ⟨none, none, .storeo (.t 45) 43⟩]))))))⟩
theorem F_pack_Out_Num_ok : chkFn Try.prog 74 F_pack_Out_Num = true := by kernel_rfl

/-- (*attorney/pack.Out).Word -/
def F_pack_Out_Word : AFn :=
  ⟨36, [], .seq (.seq (.ops [⟨some 4, none, .mv (.t 1)⟩,
      ⟨some 5, none, .call (.f 56) [(.t 4)]⟩,
      ⟨some 6, none, .not (.t 5)⟩])
    (.keep [0, 1, 6] (.cond (.t 6)
     (.ops [⟨some 7, none, .mv (.t 0)⟩,
      ⟨some 8, none, .nilck (.t 7)⟩,
      ⟨some 9, none, .fld 0 (.t 8)⟩,
      ⟨some 10, none, .call (.f 103) [(.t 9)]⟩])
     (.skip))))
   (.keep [0, 1] (.seq (.ops [⟨some 11, none, .mv (.t 0)⟩,
      ⟨some 12, none, .nilck (.t 11)⟩,
      ⟨some 13, none, .fld 0 (.t 12)⟩,
      ⟨some 14, none, .call (.f 104) [(.t 13)]⟩])
    (.keep [0, 1, 14] (.cond (.t 14)
     (.seq (.draw [0, 1] [⟨some 15, none, .mv (.t 0)⟩,
      ⟨some 16, none, .mv (.t 0)⟩,
      ⟨some 17, none, .nilck (.t 16)⟩,
      ⟨some 18, none, .fld 1 (.t 17)⟩,
      ⟨some 19, none, .loado (.t 18)⟩,
      ⟨some 20, none, .mv (.t 1)⟩,
      ⟨some 21, none, .call (.f 69) [(.t 20)]⟩,
      ⟨some 22, none, .conv .u8 (.t 21)⟩,
      ⟨some 23, none, .bsl 5 1 1 [(.int .u8 0)] [(0, 1, (.t 22))]⟩,
      ⟨some 24, none, .appo 5 1 1 19 (.t 23)⟩,
      ⟨some 25, none, .nilck (.t 15)⟩,
      ⟨some 26, none, .fld 1 (.t 25)⟩,
      ⟨none, none, .storeo (.t 26) 24⟩])
      (.keep [0, 1] (.ops [⟨some 27, none, .mv (.t 0)⟩,
      ⟨some 28, none, .mv (.t 0)⟩,
      ⟨some 29, none, .nilck (.t 28)⟩,
      ⟨some 30, none, .fld 1 (.t 29)⟩,
      ⟨some 31, none, .loado (.t 30)⟩,
      ⟨some 32, none, .mv (.t 1)⟩,
      ⟨some 33, none, .appso 5 31 (.t 32)⟩,
      ⟨some 34, none, .nilck (.t 27)⟩,
      ⟨some 35, none, .fld 1 (.t 34)⟩,
      ⟨none, none, .storeo (.t 35) 33⟩])))
     (.skip)))))⟩
theorem F_pack_Out_Word_ok : chkFn Try.prog 75 F_pack_Out_Word = true := by kernel_rfl

/-- (*attorney/pack.Out).Set -/
def F_pack_Out_Set : AFn :=
  ⟨40, [], .seq (.seq (.ops [⟨some 6, none, .mv (.t 1)⟩,
      ⟨some 7, none, .call (.f 21) [(.t 6)]⟩,
      ⟨some 8, none, .not (.t 7)⟩])
    (.keep [0, 1, 8] (.cond (.t 8)
     (.ops [⟨some 9, none, .mv (.t 0)⟩,
      ⟨some 10, none, .nilck (.t 9)⟩,
      ⟨some 11, none, .fld 0 (.t 10)⟩,
      ⟨some 12, none, .call (.f 103) [(.t 11)]⟩])
     (.skip))))
   (.keep [0, 1] (.seq (.seq (.ops [⟨some 13, none, .mv (.t 0)⟩,
      ⟨some 14, none, .nilck (.t 13)⟩,
      ⟨some 15, none, .fld 0 (.t 14)⟩,
      ⟨some 16, none, .call (.f 104) [(.t 15)]⟩,
      ⟨some 17, none, .not (.t 16)⟩])
     (.keep [0, 1, 17] (.cond (.t 17)
      (.ret)
      (.skip))))
    (.keep [0, 1] (.seq (.ops [⟨some 18, none, .mv (.t 0)⟩,
      ⟨some 19, none, .mv (.t 0)⟩,
      ⟨some 20, none, .nilck (.t 19)⟩,
      ⟨some 21, none, .fld 1 (.t 20)⟩,
      ⟨some 22, none, .loado (.t 21)⟩,
      ⟨some 23, none, .mv (.t 1)⟩,
      ⟨some 24, none, .lenl (.t 23)⟩,
      ⟨some 25, none, .conv .u8 (.t 24)⟩,
      ⟨some 26, none, .bsl 5 1 1 [(.int .u8 0)] [(0, 1, (.t 25))]⟩,
      ⟨some 27, none, .appo 5 1 1 22 (.t 26)⟩,
      ⟨some 28, none, .nilck (.t 18)⟩,
      ⟨some 29, none, .fld 1 (.t 28)⟩,
      ⟨none, none, .storeo (.t 29) 27⟩])
     (.keep [0, 1] (.seq (.ops [⟨some 30, none, .mv (.t 1)⟩,
      ⟨some 31, none, .lenl (.t 30)⟩,
      ⟨some 32, none, .mv (.c (.int .i64 0))⟩])
      (.keep [0, 30, 31, 32] (.block 0 (.loop [0, 30, 31, 32] (.seq (.ops [⟨some 33, none, .bin .lss (.t 32) (.t 31)⟩])
         (.keep [0, 30, 31, 32, 33] (.seq (.cond (.t 33)
           (.skip)
           (.exit 0))
          (.keep [0, 30, 31, 32] (.seq (.block 1 (.seq (.ops [⟨some 34, none, .idxa 1 (.t 30) (.t 32)⟩,
      ⟨some 35, none, .load none (.t 34)⟩,
      ⟨some 5, none, .mv (.t 35)⟩])
             (.keep [0, 5, 30, 31, 32] (.ops [⟨some 36, none, .mv (.t 0)⟩,
      ⟨some 37, none, .mv (.t 5)⟩,
      ⟨some 38, none, .call (.f 75) [(.t 36), (.t 37)]⟩]))))
           (.keep [0, 30, 31, 32] (.ops [⟨some 39, none, .bin .add (.t 32) (.c (.int .i64 1))⟩,
      ⟨some 32, none, .mv (.t 39)⟩]))))))))))))))))⟩
theorem F_pack_Out_Set_ok : chkFn Try.prog 76 F_pack_Out_Set = true := by kernel_rfl

/-- (*attorney/pack.Out).Done -/
def F_pack_Out_Done : AFn :=
  ⟨19, [.t 2, .t 3], .seq (.ops [⟨some 2, none, .mv (.c (.str ⟨#[]⟩))⟩,
      ⟨some 3, none, .mv (.c (.int .i64 0))⟩])
   (.keep [0] (.seq (.seq (.ops [⟨some 4, none, .mv (.t 0)⟩,
      ⟨some 5, none, .nilck (.t 4)⟩,
      ⟨some 6, none, .fld 0 (.t 5)⟩,
      ⟨some 7, none, .call (.f 104) [(.t 6)]⟩,
      ⟨some 8, none, .not (.t 7)⟩])
     (.keep [0, 8] (.cond (.t 8)
      (.seq (.draw [2, 3] [⟨some 9, none, .mv (.t 0)⟩,
      ⟨some 10, none, .nilck (.t 9)⟩,
      ⟨some 11, none, .fld 0 (.t 10)⟩,
      ⟨some 12, none, .fld 0 (.t 11)⟩,
      ⟨some 13, none, .load none (.t 12)⟩,
      ⟨some 2, none, .mv (.c (.str ⟨#[]⟩))⟩,
      ⟨some 3, none, .mv (.t 13)⟩])
       (.ret))
      (.skip))))
    (.keep [0] (.seq (.ops [⟨some 14, none, .mv (.t 0)⟩,
      ⟨some 15, none, .nilck (.t 14)⟩,
      ⟨some 16, none, .fld 1 (.t 15)⟩,
      ⟨some 17, none, .load none (.t 16)⟩,
      ⟨some 18, none, .b2s (.t 17)⟩,
      ⟨some 2, none, .mv (.t 18)⟩,
      ⟨some 3, none, .mv (.c (.int .i64 0))⟩])
     (.ret)))))⟩
theorem F_pack_Out_Done_ok : chkFn Try.prog 77 F_pack_Out_Done = true := by kernel_rfl

/-- attorney/attorneyref07.Num -/
def F_ref07_Num : AFn :=
  ⟨22, [.t 2], .seq (.ops [⟨some 2, none, .mv (.c (.str ⟨#[]⟩))⟩])
   (.keep [0] (.seq (.ops [⟨some 4, none, .bsl 5 1 0 [] []⟩,
      ⟨some 3, none, .mvo 4⟩])
    (.keep [0, 3] (.seq (.block 0 (.loop [0, 3] (.seq (.seq (.ops [⟨some 5, none, .mv (.t 0)⟩,
      ⟨some 6, none, .bin .geq (.t 5) (.c (.int .i64 128))⟩])
         (.keep [0, 3, 6] (.cond (.t 6)
          (.skip)
          (.exit 0))))
        (.keep [0, 3] (.block 1 (.seq (.ops [⟨some 7, none, .mvo 3⟩,
      ⟨some 8, none, .mv (.t 0)⟩,
      ⟨some 9, none, .bin .rem (.t 8) (.c (.int .i64 128))⟩,
      ⟨some 10, none, .bin .add (.t 9) (.c (.int .i64 128))⟩,
      ⟨some 11, none, .conv .u8 (.t 10)⟩,
      ⟨some 12, none, .bsl 5 1 1 [(.int .u8 0)] [(0, 1, (.t 11))]⟩,
      ⟨some 13, none, .appo 5 1 1 7 (.t 12)⟩,
      ⟨some 3, none, .mvo 13⟩])
          (.keep [0, 3] (.ops [⟨some 14, none, .mv (.t 0)⟩,
      ⟨some 15, none, .bin .quo (.t 14) (.c (.int .i64 128))⟩,
      ⟨some 0, none, .mv (.t 15)⟩]))))))))
     (.keep [0, 3] (.seq (.ops [⟨some 16, none, .mvo 3⟩,
      ⟨some 17, none, .mv (.t 0)⟩,
      ⟨some 18, none, .conv .u8 (.t 17)⟩,
      ⟨some 19, none, .bsl 5 1 1 [(.int .u8 0)] [(0, 1, (.t 18))]⟩,
      ⟨some 20, none, .appo 5 1 1 16 (.t 19)⟩,
      ⟨some 21, none, .b2s (.t 20)⟩,
      ⟨some 2, none, .mv (.t 21)⟩])
      (.ret)))))))⟩
theorem F_ref07_Num_ok : chkFn Try.prog 78 F_ref07_Num = true := by kernel_rfl

/-- attorney/attorneyref07.Word -/
def F_ref07_Word : AFn :=
  ⟨11, [.t 2], .seq (.ops [⟨some 2, none, .mv (.c (.str ⟨#[]⟩))⟩])
   (.keep [0] (.seq (.ops [⟨some 3, none, .mv (.t 0)⟩,
      ⟨some 4, none, .lens (.t 3)⟩,
      ⟨some 5, none, .bin .quo (.t 4) (.c (.int .i64 2))⟩,
      ⟨some 6, none, .conv .u8 (.t 5)⟩,
      ⟨some 7, none, .bsl 5 1 1 [(.int .u8 0)] [(0, 1, (.t 6))]⟩,
      ⟨some 8, none, .b2s (.t 7)⟩,
      ⟨some 9, none, .mv (.t 0)⟩,
      ⟨some 10, none, .bin .add (.t 8) (.t 9)⟩,
      ⟨some 2, none, .mv (.t 10)⟩])
    (.ret)))⟩
theorem F_ref07_Word_ok : chkFn Try.prog 79 F_ref07_Word = true := by kernel_rfl

/-- attorney/attorneyref07.Set -/
def F_ref07_Set : AFn :=
  ⟨24, [.t 2], .seq (.ops [⟨some 2, none, .mv (.c (.str ⟨#[]⟩))⟩])
   (.keep [0] (.seq (.ops [⟨some 5, none, .mv (.t 0)⟩,
      ⟨some 6, none, .lenl (.t 5)⟩,
      ⟨some 7, none, .conv .u8 (.t 6)⟩,
      ⟨some 8, none, .bsl 5 1 1 [(.int .u8 0)] [(0, 1, (.t 7))]⟩,
      ⟨some 9, none, .b2s (.t 8)⟩,
      ⟨some 3, none, .mv (.t 9)⟩])
    (.keep [0, 3] (.seq (.seq (.ops [⟨some 4, none, .mv (.c (.int .i64 0))⟩])
      (.keep [0, 3, 4] (.block 0 (.loop [0, 3, 4] (.seq (.seq (.ops [⟨some 10, none, .mv (.t 4)⟩,
      ⟨some 11, none, .mv (.t 0)⟩,
      ⟨some 12, none, .lenl (.t 11)⟩,
      ⟨some 13, none, .bin .lss (.t 10) (.t 12)⟩])
          (.keep [0, 3, 4, 13] (.cond (.t 13)
           (.skip)
           (.exit 0))))
         (.keep [0, 3, 4] (.seq (.block 1 (.ops [⟨some 16, none, .mv (.t 3)⟩,
      ⟨some 17, none, .mv (.t 0)⟩,
      ⟨some 18, none, .mv (.t 4)⟩,
      ⟨some 19, none, .idxa 1 (.t 17) (.t 18)⟩,
      ⟨some 20, none, .load none (.t 19)⟩,
      ⟨some 21, none, .call (.f 79) [(.t 20)]⟩,
      ⟨some 22, none, .bin .add (.t 16) (.t 21)⟩,
      ⟨some 3, none, .mv (.t 22)⟩]))
          (.keep [0, 3, 4] (.ops [⟨some 14, none, .mv (.t 4)⟩,
      ⟨some 15, none, .bin .add (.t 14) (.c (.int .i64 1))⟩,
      ⟨some 4, none, .mv (.t 15)⟩])))))))))
     (.keep [3] (.seq (.ops [⟨some 23, none, .mv (.t 3)⟩,
      ⟨some 2, none, .mv (.t 23)⟩])
      (.ret)))))))⟩
theorem F_ref07_Set_ok : chkFn Try.prog 80 F_ref07_Set = true := by kernel_rfl

/-- attorney/pack.From -/
def F_pack_From : AFn :=
  ⟨6, [.t 2], .seq (.ops [⟨some 2, none, .mv (.c .nilp)⟩])
   (.keep [0] (.seq (.ops [⟨some 3, none, .mv (.t 0)⟩,
      ⟨some 4, none, .build [(.int .i64 0), (.str ⟨#[]⟩), (.int .i64 0)] [(1, 1, (.t 3))]⟩,
      ⟨some 5, none, .box (.t 4) []⟩,
      ⟨some 2, none, .mv (.t 5)⟩])
    (.ret)))⟩
theorem F_pack_From_ok : chkFn Try.prog 87 F_pack_From = true := by kernel_rfl

/-- (*attorney/pack.In).Num -/
def F_pack_In_Num : AFn :=
  ⟨45, [.t 4], .seq (.ops [⟨some 4, none, .mv (.c (.int .i64 0))⟩])
   (.keep [0, 1] (.seq (.seq (.ops [⟨some 7, none, .mv (.t 0)⟩,
      ⟨some 8, none, .nilck (.t 7)⟩,
      ⟨some 9, none, .fld 0 (.t 8)⟩,
      ⟨some 10, none, .call (.f 104) [(.t 9)]⟩,
      ⟨some 11, none, .not (.t 10)⟩])
     (.keep [0, 1, 11] (.cond (.t 11)
      (.seq (.ops [⟨some 4, none, .mv (.c (.int .i64 0))⟩])
       (.ret))
      (.skip))))
    (.keep [0, 1] (.seq (.draw [0, 1, 5, 6] [⟨some 13, none, .mv (.t 0)⟩,
      ⟨some 14, none, .nilck (.t 13)⟩,
      ⟨some 15, none, .fld 1 (.t 14)⟩,
      ⟨some 16, none, .load none (.t 15)⟩,
      ⟨some 17, none, .mv (.t 0)⟩,
      ⟨some 18, none, .nilck (.t 17)⟩,
      ⟨some 19, none, .fld 2 (.t 18)⟩,
      ⟨some 20, none, .load none (.t 19)⟩,
      ⟨some 21, none, .slcs (.t 16) (some (.t 20)) none⟩,
      ⟨some 22, none, .call (.f 109) [(.t 21)]⟩,
      ⟨some 12, none, .mv (.t 22)⟩,
      ⟨some 23, none, .ext 0 (.t 12)⟩,
      ⟨some 24, none, .ext 1 (.t 12)⟩,
      ⟨some 5, none, .mv (.t 23)⟩,
      ⟨some 6, none, .mv (.t 24)⟩])
     (.keep [0, 1, 5, 6] (.seq (.seq (.ops [⟨some 25, none, .mv (.t 6)⟩,
      ⟨some 26, none, .bin .eql (.t 25) (.c (.int .i64 0))⟩,
      ⟨some 27, none, .mv (.t 26)⟩,
      ⟨some 28, (some (27, false)), .mv (.t 5)⟩,
      ⟨some 29, (some (27, false)), .mv (.t 1)⟩,
      ⟨some 30, (some (27, false)), .bin .gtr (.t 28) (.t 29)⟩,
      ⟨some 31, none, .pick (.t 27) (.c (.bool true)) (.t 30)⟩])
       (.keep [0, 5, 6, 31] (.cond (.t 31)
        (.seq (.ops [⟨some 32, none, .mv (.t 0)⟩,
      ⟨some 33, none, .nilck (.t 32)⟩,
      ⟨some 34, none, .fld 0 (.t 33)⟩,
      ⟨some 35, none, .call (.f 103) [(.t 34)]⟩])
         (.keep [] (.seq (.ops [⟨some 4, none, .mv (.c (.int .i64 0))⟩])
          (.ret))))
        (.skip))))
      (.keep [0, 5, 6] (.seq (.ops [⟨some 36, none, .mv (.t 0)⟩,
      ⟨some 37, none, .nilck (.t 36)⟩,
      ⟨some 38, none, .fld 2 (.t 37)⟩,
      ⟨some 39, none, .load none (.t 38)⟩,
      ⟨some 40, none, .mv (.t 6)⟩,
      ⟨some 41, none, .bin .add (.t 39) (.t 40)⟩,
      ⟨some 42, none, .nilck (.t 36)⟩,
      ⟨some 43, none, .fld 2 (.t 42)⟩,
      ⟨none, none, .store 1 (.t 43) (.t 41)⟩])
       (.keep [5] (.seq (.ops [⟨some 44, none, .mv (.t 5)⟩,
      ⟨some 4, none, .mv (.t 44)⟩])
        (.ret)))))))))))⟩
theorem F_pack_In_Num_ok : chkFn Try.prog 88 F_pack_In_Num = true := by kernel_rfl

/-- (*attorney/pack.In).Word -/
def F_pack_In_Word : AFn :=
  ⟨17, [.t 2], .seq (.ops [⟨some 2, none, .mv (.c (.str ⟨#[]⟩))⟩])
   (.keep [0] (.seq (.ops [⟨some 4, none, .mv (.t 0)⟩,
      ⟨some 5, none, .mv (.t 0)⟩,
      ⟨some 6, none, .call (.f 111) [(.t 5), (.c (.int .i64 8))]⟩,
      ⟨some 7, none, .bin .mul (.c (.int .i64 2)) (.t 6)⟩,
      ⟨some 8, none, .call (.f 110) [(.t 4), (.t 7)]⟩,
      ⟨some 3, none, .mv (.t 8)⟩])
    (.keep [0, 3] (.seq (.seq (.ops [⟨some 9, none, .mv (.t 3)⟩,
      ⟨some 10, none, .call (.f 56) [(.t 9)]⟩,
      ⟨some 11, none, .not (.t 10)⟩])
      (.keep [0, 3, 11] (.cond (.t 11)
       (.seq (.ops [⟨some 12, none, .mv (.t 0)⟩,
      ⟨some 13, none, .nilck (.t 12)⟩,
      ⟨some 14, none, .fld 0 (.t 13)⟩,
      ⟨some 15, none, .call (.f 103) [(.t 14)]⟩])
        (.keep [] (.seq (.ops [⟨some 2, none, .mv (.c (.str ⟨#[]⟩))⟩])
         (.ret))))
       (.skip))))
     (.keep [3] (.seq (.ops [⟨some 16, none, .mv (.t 3)⟩,
      ⟨some 2, none, .mv (.t 16)⟩])
      (.ret)))))))⟩
theorem F_pack_In_Word_ok : chkFn Try.prog 89 F_pack_In_Word = true := by kernel_rfl

/-- (*attorney/pack.In).Set -/
def F_pack_In_Set : AFn :=
  ⟨33, [.t 2], .seq (.ops [⟨some 2, none, .mv (.c (.lst .clip 0 []))⟩])
   (.keep [0] (.seq (.ops [⟨some 5, none, .mv (.t 0)⟩,
      ⟨some 6, none, .call (.f 111) [(.t 5), (.c (.int .i64 16))]⟩,
      ⟨some 3, none, .mv (.t 6)⟩])
    (.keep [0, 3] (.seq (.ops [⟨some 7, none, .mv (.t 3)⟩,
      ⟨some 8, none, .mk0 36 1 16 (.t 7)⟩,
      ⟨some 4, none, .mvo 8⟩])
     (.keep [0, 3, 4] (.seq (.seq (.ops [⟨some 9, none, .mv (.t 3)⟩,
      ⟨some 10, none, .mv (.c (.int .i64 0))⟩])
       (.keep [0, 4, 9, 10] (.block 0 (.loop [0, 4, 9, 10] (.seq (.ops [⟨some 11, none, .bin .lss (.t 10) (.t 9)⟩])
          (.keep [0, 4, 9, 10, 11] (.seq (.cond (.t 11)
            (.skip)
            (.exit 0))
           (.keep [0, 4, 9, 10] (.seq (.block 1 (.ops [⟨some 12, none, .mvo 4⟩,
      ⟨some 13, none, .mv (.t 0)⟩,
      ⟨some 14, none, .call (.f 89) [(.t 13)]⟩,
      ⟨some 15, none, .bsl 36 1 1 [(.str ⟨#[]⟩)] [(0, 1, (.t 14))]⟩,
      ⟨some 16, none, .appo 36 1 16 12 (.t 15)⟩,
      ⟨some 4, none, .mvo 16⟩]))
            (.keep [0, 4, 9, 10] (.ops [⟨some 17, none, .bin .add (.t 10) (.c (.int .i64 1))⟩,
      ⟨some 10, none, .mv (.t 17)⟩])))))))))))
      (.keep [0, 4] (.seq (.seq (.ops [⟨some 18, none, .mv (.t 0)⟩,
      ⟨some 19, none, .nilck (.t 18)⟩,
      ⟨some 20, none, .fld 0 (.t 19)⟩,
      ⟨some 21, none, .call (.f 104) [(.t 20)]⟩,
      ⟨some 22, none, .not (.t 21)⟩,
      ⟨some 23, none, .mv (.t 22)⟩,
      ⟨some 24, (some (23, false)), .mv (.t 4)⟩,
      ⟨some 25, (some (23, false)), .call (.f 21) [(.t 24)]⟩,
      ⟨some 26, (some (23, false)), .not (.t 25)⟩,
      ⟨some 27, none, .pick (.t 23) (.c (.bool true)) (.t 26)⟩])
        (.keep [0, 4, 27] (.cond (.t 27)
         (.seq (.ops [⟨some 28, none, .mv (.t 0)⟩,
      ⟨some 29, none, .nilck (.t 28)⟩,
      ⟨some 30, none, .fld 0 (.t 29)⟩,
      ⟨some 31, none, .call (.f 103) [(.t 30)]⟩])
          (.keep [] (.seq (.ops [⟨some 2, none, .mv (.c (.lst .clip 0 []))⟩])
           (.ret))))
         (.skip))))
       (.keep [4] (.seq (.ops [⟨some 32, none, .mv (.t 4)⟩,
      ⟨some 2, none, .mv (.t 32)⟩])
        (.ret)))))))))))⟩
theorem F_pack_In_Set_ok : chkFn Try.prog 90 F_pack_In_Set = true := by kernel_rfl

/-- (*attorney/pack.In).Done -/
def F_pack_In_Done : AFn :=
  ⟨15, [.t 2], .seq (.ops [⟨some 2, none, .mv (.c (.int .i64 0))⟩])
   (.keep [0] (.seq (.seq (.ops [⟨some 3, none, .mv (.t 0)⟩,
      ⟨some 4, none, .call (.f 112) [(.t 3)]⟩,
      ⟨some 5, none, .bin .gtr (.t 4) (.c (.int .i64 0))⟩])
     (.keep [0, 5] (.cond (.t 5)
      (.ops [⟨some 6, none, .mv (.t 0)⟩,
      ⟨some 7, none, .nilck (.t 6)⟩,
      ⟨some 8, none, .fld 0 (.t 7)⟩,
      ⟨some 9, none, .call (.f 103) [(.t 8)]⟩])
      (.skip))))
    (.keep [0] (.seq (.ops [⟨some 10, none, .mv (.t 0)⟩,
      ⟨some 11, none, .nilck (.t 10)⟩,
      ⟨some 12, none, .fld 0 (.t 11)⟩,
      ⟨some 13, none, .fld 0 (.t 12)⟩,
      ⟨some 14, none, .load none (.t 13)⟩,
      ⟨some 2, none, .mv (.t 14)⟩])
     (.ret)))))⟩
theorem F_pack_In_Done_ok : chkFn Try.prog 91 F_pack_In_Done = true := by kernel_rfl

/-- (*attorney/attorneyref07.In).Num -/
def F_ref07_In_Num : AFn :=
  ⟨71, [.t 4], .seq (.ops [⟨some 4, none, .mv (.c (.int .i64 0))⟩])
   (.keep [0, 1] (.seq (.seq (.ops [⟨some 9, none, .mv (.t 0)⟩,
      ⟨some 10, none, .nilck (.t 9)⟩,
      ⟨some 11, none, .fld 2 (.t 10)⟩,
      ⟨some 12, none, .load none (.t 11)⟩])
     (.keep [0, 1, 12] (.cond (.t 12)
      (.seq (.ops [⟨some 4, none, .mv (.c (.int .i64 0))⟩])
       (.ret))
      (.skip))))
    (.keep [0, 1] (.seq (.ops [⟨some 5, none, .mv (.c (.int .i64 0))⟩])
     (.keep [0, 1, 5] (.seq (.ops [⟨some 6, none, .mv (.c (.int .i64 1))⟩])
      (.keep [0, 1, 5, 6] (.seq (.seq (.ops [⟨some 7, none, .mv (.c (.int .i64 0))⟩])
        (.keep [0, 1, 5, 6, 7] (.block 0 (.loop [0, 1, 5, 6, 7] (.seq (.seq (.ops [⟨some 13, none, .mv (.t 7)⟩,
      ⟨some 14, none, .bin .lss (.t 13) (.c (.int .i64 9))⟩])
            (.keep [0, 1, 5, 6, 7, 14] (.cond (.t 14)
             (.skip)
             (.exit 0))))
           (.keep [0, 1, 5, 6, 7] (.seq (.block 1 (.seq (.seq (.draw [0, 1, 5, 6, 7, 26] [⟨some 17, none, .mv (.t 0)⟩,
      ⟨some 18, none, .nilck (.t 17)⟩,
      ⟨some 19, none, .fld 1 (.t 18)⟩,
      ⟨some 20, none, .load none (.t 19)⟩,
      ⟨some 21, none, .mv (.t 0)⟩,
      ⟨some 22, none, .nilck (.t 21)⟩,
      ⟨some 23, none, .fld 0 (.t 22)⟩,
      ⟨some 24, none, .load none (.t 23)⟩,
      ⟨some 25, none, .lens (.t 24)⟩,
      ⟨some 26, none, .bin .geq (.t 20) (.t 25)⟩])
               (.keep [0, 1, 5, 6, 7, 26] (.cond (.t 26)
                (.exit 0)
                (.skip))))
              (.keep [0, 1, 5, 6, 7] (.seq (.draw [0, 1, 5, 6, 7, 8] [⟨some 27, none, .mv (.t 0)⟩,
      ⟨some 28, none, .nilck (.t 27)⟩,
      ⟨some 29, none, .fld 0 (.t 28)⟩,
      ⟨some 30, none, .load none (.t 29)⟩,
      ⟨some 31, none, .mv (.t 0)⟩,
      ⟨some 32, none, .nilck (.t 31)⟩,
      ⟨some 33, none, .fld 1 (.t 32)⟩,
      ⟨some 34, none, .load none (.t 33)⟩,
      ⟨some 35, none, .idxs (.t 30) (.t 34)⟩,
      ⟨some 36, none, .conv .i64 (.t 35)⟩,
      ⟨some 8, none, .mv (.t 36)⟩])
               (.keep [0, 1, 5, 6, 7, 8] (.seq (.ops [⟨some 37, none, .mv (.t 0)⟩,
      ⟨some 38, none, .nilck (.t 37)⟩,
      ⟨some 39, none, .fld 1 (.t 38)⟩,
      ⟨some 40, none, .load none (.t 39)⟩,
      ⟨some 41, none, .bin .add (.t 40) (.c (.int .i64 1))⟩,
      ⟨some 42, none, .nilck (.t 37)⟩,
      ⟨some 43, none, .fld 1 (.t 42)⟩,
      ⟨none, none, .store 1 (.t 43) (.t 41)⟩])
                (.keep [0, 1, 5, 6, 7, 8] (.seq (.seq (.ops [⟨some 44, none, .mv (.t 7)⟩,
      ⟨some 45, none, .bin .gtr (.t 44) (.c (.int .i64 0))⟩,
      ⟨some 46, none, .mv (.t 45)⟩,
      ⟨some 47, (some (46, true)), .mv (.t 8)⟩,
      ⟨some 48, (some (46, true)), .bin .eql (.t 47) (.c (.int .i64 0))⟩,
      ⟨some 49, none, .pick (.t 46) (.t 48) (.c (.bool false))⟩])
                  (.keep [0, 1, 5, 6, 7, 8, 49] (.cond (.t 49)
                   (.exit 0)
                   (.skip))))
                 (.keep [0, 1, 5, 6, 7, 8] (.seq (.ops [⟨some 50, none, .mv (.t 5)⟩,
      ⟨some 51, none, .mv (.t 8)⟩,
      ⟨some 52, none, .bin .rem (.t 51) (.c (.int .i64 128))⟩,
      ⟨some 53, none, .mv (.t 6)⟩,
      ⟨some 54, none, .ex (.binw .mul) [(.t 52), (.t 53)]⟩,
      ⟨some 55, none, .bin .add (.t 50) (.t 54)⟩,
      ⟨some 5, none, .mv (.t 55)⟩])
                  (.keep [0, 1, 5, 6, 7, 8] (.seq (.seq (.ops [⟨some 56, none, .mv (.t 8)⟩,
      ⟨some 57, none, .bin .lss (.t 56) (.c (.int .i64 128))⟩])
                    (.keep [0, 1, 5, 6, 7, 57] (.cond (.t 57)
                     (.seq (.seq (.ops [⟨some 58, none, .mv (.t 5)⟩,
      ⟨some 59, none, .mv (.t 1)⟩,
      ⟨some 60, none, .bin .gtr (.t 58) (.t 59)⟩,
      ⟨some 61, none, .mv (.t 60)⟩,
      ⟨some 62, (some (61, false)), .mv (.t 5)⟩,
      ⟨some 63, (some (61, false)), .bin .gtr (.t 62) (.c (.int .i64 4611686018427387904))⟩,
      ⟨some 64, none, .pick (.t 61) (.c (.bool true)) (.t 63)⟩])
                       (.keep [0, 5, 64] (.cond (.t 64)
                        (.exit 0)
                        (.skip))))
                      (.keep [5] (.seq (.ops [⟨some 65, none, .mv (.t 5)⟩,
      ⟨some 4, none, .mv (.t 65)⟩])
                       (.ret))))
                     (.skip))))
                   (.keep [0, 1, 5, 6, 7] (.ops [⟨some 66, none, .mv (.t 6)⟩,
      ⟨some 67, none, .ex (.binw .mul) [(.t 66), (.c (.int .i64 128))]⟩,
      ⟨some 6, none, .mv (.t 67)⟩]))))))))))))))
            (.keep [0, 1, 5, 6, 7] (.ops [⟨some 15, none, .mv (.t 7)⟩,
      ⟨some 16, none, .bin .add (.t 15) (.c (.int .i64 1))⟩,
      ⟨some 7, none, .mv (.t 16)⟩])))))))))
       (.keep [0] (.seq (.ops [⟨some 68, none, .mv (.t 0)⟩,
      ⟨some 69, none, .nilck (.t 68)⟩,
      ⟨some 70, none, .fld 2 (.t 69)⟩,
      ⟨none, none, .store 1 (.t 70) (.c (.bool true))⟩])
        (.keep [] (.seq (.ops [⟨some 4, none, .mv (.c (.int .i64 0))⟩])
         (.ret)))))))))))))⟩
theorem F_ref07_In_Num_ok : chkFn Try.prog 92 F_ref07_In_Num = true := by kernel_rfl

/-- (*attorney/attorneyref07.In).Word -/
def F_ref07_In_Word : AFn :=
  ⟨99, [.t 2], .seq (.ops [⟨some 2, none, .mv (.c (.str ⟨#[]⟩))⟩])
   (.keep [0] (.seq (.seq (.draw [0, 20] [⟨some 5, none, .mv (.t 0)⟩,
      ⟨some 6, none, .nilck (.t 5)⟩,
      ⟨some 7, none, .fld 2 (.t 6)⟩,
      ⟨some 8, none, .load none (.t 7)⟩,
      ⟨some 9, none, .mv (.t 8)⟩,
      ⟨some 10, (some (9, false)), .mv (.t 0)⟩,
      ⟨some 11, (some (9, false)), .nilck (.t 10)⟩,
      ⟨some 12, (some (9, false)), .fld 1 (.t 11)⟩,
      ⟨some 13, (some (9, false)), .load none (.t 12)⟩,
      ⟨some 14, (some (9, false)), .mv (.t 0)⟩,
      ⟨some 15, (some (9, false)), .nilck (.t 14)⟩,
      ⟨some 16, (some (9, false)), .fld 0 (.t 15)⟩,
      ⟨some 17, (some (9, false)), .load none (.t 16)⟩,
      ⟨some 18, (some (9, false)), .lens (.t 17)⟩,
      ⟨some 19, (some (9, false)), .bin .geq (.t 13) (.t 18)⟩,
      ⟨some 20, none, .pick (.t 9) (.c (.bool true)) (.t 19)⟩])
     (.keep [0, 20] (.cond (.t 20)
      (.seq (.ops [⟨some 21, none, .mv (.t 0)⟩,
      ⟨some 22, none, .nilck (.t 21)⟩,
      ⟨some 23, none, .fld 2 (.t 22)⟩,
      ⟨none, none, .store 1 (.t 23) (.c (.bool true))⟩])
       (.keep [] (.seq (.ops [⟨some 2, none, .mv (.c (.str ⟨#[]⟩))⟩])
        (.ret))))
      (.skip))))
    (.keep [0] (.seq (.draw [0, 3] [⟨some 24, none, .mv (.t 0)⟩,
      ⟨some 25, none, .nilck (.t 24)⟩,
      ⟨some 26, none, .fld 0 (.t 25)⟩,
      ⟨some 27, none, .load none (.t 26)⟩,
      ⟨some 28, none, .mv (.t 0)⟩,
      ⟨some 29, none, .nilck (.t 28)⟩,
      ⟨some 30, none, .fld 1 (.t 29)⟩,
      ⟨some 31, none, .load none (.t 30)⟩,
      ⟨some 32, none, .idxs (.t 27) (.t 31)⟩,
      ⟨some 33, none, .conv .i64 (.t 32)⟩,
      ⟨some 34, none, .bin .mul (.c (.int .i64 2)) (.t 33)⟩,
      ⟨some 3, none, .mv (.t 34)⟩])
     (.keep [0, 3] (.seq (.seq (.draw [0, 3, 68] [⟨some 35, none, .mv (.t 0)⟩,
      ⟨some 36, none, .nilck (.t 35)⟩,
      ⟨some 37, none, .fld 1 (.t 36)⟩,
      ⟨some 38, none, .load none (.t 37)⟩,
      ⟨some 39, none, .bin .add (.t 38) (.c (.int .i64 1))⟩,
      ⟨some 40, none, .mv (.t 3)⟩,
      ⟨some 41, none, .bin .add (.t 39) (.t 40)⟩,
      ⟨some 42, none, .mv (.t 0)⟩,
      ⟨some 43, none, .nilck (.t 42)⟩,
      ⟨some 44, none, .fld 0 (.t 43)⟩,
      ⟨some 45, none, .load none (.t 44)⟩,
      ⟨some 46, none, .lens (.t 45)⟩,
      ⟨some 47, none, .bin .gtr (.t 41) (.t 46)⟩,
      ⟨some 48, none, .mv (.t 47)⟩,
      ⟨some 49, (some (48, false)), .mv (.t 0)⟩,
      ⟨some 50, (some (48, false)), .nilck (.t 49)⟩,
      ⟨some 51, (some (48, false)), .fld 0 (.t 50)⟩,
      ⟨some 52, (some (48, false)), .load none (.t 51)⟩,
      ⟨some 53, (some (48, false)), .mv (.t 0)⟩,
      ⟨some 54, (some (48, false)), .nilck (.t 53)⟩,
      ⟨some 55, (some (48, false)), .fld 1 (.t 54)⟩,
      ⟨some 56, (some (48, false)), .load none (.t 55)⟩,
      ⟨some 57, (some (48, false)), .bin .add (.t 56) (.c (.int .i64 1))⟩,
      ⟨some 58, (some (48, false)), .mv (.t 0)⟩,
      ⟨some 59, (some (48, false)), .nilck (.t 58)⟩,
      ⟨some 60, (some (48, false)), .fld 1 (.t 59)⟩,
      ⟨some 61, (some (48, false)), .load none (.t 60)⟩,
      ⟨some 62, (some (48, false)), .bin .add (.t 61) (.c (.int .i64 1))⟩,
      ⟨some 63, (some (48, false)), .mv (.t 3)⟩,
      ⟨some 64, (some (48, false)), .bin .add (.t 62) (.t 63)⟩,
      ⟨some 65, (some (48, false)), .slcs (.t 52) (some (.t 57)) (some (.t 64))⟩,
      ⟨some 66, (some (48, false)), .call (.f 62) [(.t 65)]⟩,
      ⟨some 67, (some (48, false)), .not (.t 66)⟩,
      ⟨some 68, none, .pick (.t 48) (.c (.bool true)) (.t 67)⟩])
       (.keep [0, 3, 68] (.cond (.t 68)
        (.seq (.ops [⟨some 69, none, .mv (.t 0)⟩,
      ⟨some 70, none, .nilck (.t 69)⟩,
      ⟨some 71, none, .fld 2 (.t 70)⟩,
      ⟨none, none, .store 1 (.t 71) (.c (.bool true))⟩])
         (.keep [] (.seq (.ops [⟨some 2, none, .mv (.c (.str ⟨#[]⟩))⟩])
          (.ret))))
        (.skip))))
      (.keep [0, 3] (.seq (.draw [0, 3, 4] [⟨some 72, none, .mv (.t 0)⟩,
      ⟨some 73, none, .nilck (.t 72)⟩,
      ⟨some 74, none, .fld 0 (.t 73)⟩,
      ⟨some 75, none, .load none (.t 74)⟩,
      ⟨some 76, none, .mv (.t 0)⟩,
      ⟨some 77, none, .nilck (.t 76)⟩,
      ⟨some 78, none, .fld 1 (.t 77)⟩,
      ⟨some 79, none, .load none (.t 78)⟩,
      ⟨some 80, none, .bin .add (.t 79) (.c (.int .i64 1))⟩,
      ⟨some 81, none, .mv (.t 0)⟩,
      ⟨some 82, none, .nilck (.t 81)⟩,
      ⟨some 83, none, .fld 1 (.t 82)⟩,
      ⟨some 84, none, .load none (.t 83)⟩,
      ⟨some 85, none, .bin .add (.t 84) (.c (.int .i64 1))⟩,
      ⟨some 86, none, .mv (.t 3)⟩,
      ⟨some 87, none, .bin .add (.t 85) (.t 86)⟩,
      ⟨some 88, none, .slcs (.t 75) (some (.t 80)) (some (.t 87))⟩,
      ⟨some 4, none, .mv (.t 88)⟩])
       (.keep [0, 3, 4] (.seq (.ops [⟨some 89, none, .mv (.t 0)⟩,
      ⟨some 90, none, .nilck (.t 89)⟩,
      ⟨some 91, none, .fld 1 (.t 90)⟩,
      ⟨some 92, none, .load none (.t 91)⟩,
      ⟨some 93, none, .mv (.t 3)⟩,
      ⟨some 94, none, .bin .add (.c (.int .i64 1)) (.t 93)⟩,
      ⟨some 95, none, .bin .add (.t 92) (.t 94)⟩,
      ⟨some 96, none, .nilck (.t 89)⟩,
      ⟨some 97, none, .fld 1 (.t 96)⟩,
      ⟨none, none, .store 1 (.t 97) (.t 95)⟩])
        (.keep [4] (.seq (.ops [⟨some 98, none, .mv (.t 4)⟩,
      ⟨some 2, none, .mv (.t 98)⟩])
         (.ret)))))))))))))⟩
theorem F_ref07_In_Word_ok : chkFn Try.prog 93 F_ref07_In_Word = true := by kernel_rfl

/-- (*attorney/attorneyref07.In).Set -/
def F_ref07_In_Set : AFn :=
  ⟨73, [.t 2], .seq (.ops [⟨some 2, none, .mv (.c (.lst .clip 0 []))⟩])
   (.keep [0] (.seq (.seq (.draw [0, 21] [⟨some 6, none, .mv (.t 0)⟩,
      ⟨some 7, none, .nilck (.t 6)⟩,
      ⟨some 8, none, .fld 2 (.t 7)⟩,
      ⟨some 9, none, .load none (.t 8)⟩,
      ⟨some 10, none, .mv (.t 9)⟩,
      ⟨some 11, (some (10, false)), .mv (.t 0)⟩,
      ⟨some 12, (some (10, false)), .nilck (.t 11)⟩,
      ⟨some 13, (some (10, false)), .fld 1 (.t 12)⟩,
      ⟨some 14, (some (10, false)), .load none (.t 13)⟩,
      ⟨some 15, (some (10, false)), .mv (.t 0)⟩,
      ⟨some 16, (some (10, false)), .nilck (.t 15)⟩,
      ⟨some 17, (some (10, false)), .fld 0 (.t 16)⟩,
      ⟨some 18, (some (10, false)), .load none (.t 17)⟩,
      ⟨some 19, (some (10, false)), .lens (.t 18)⟩,
      ⟨some 20, (some (10, false)), .bin .geq (.t 14) (.t 19)⟩,
      ⟨some 21, none, .pick (.t 10) (.c (.bool true)) (.t 20)⟩])
     (.keep [0, 21] (.cond (.t 21)
      (.seq (.ops [⟨some 22, none, .mv (.t 0)⟩,
      ⟨some 23, none, .nilck (.t 22)⟩,
      ⟨some 24, none, .fld 2 (.t 23)⟩,
      ⟨none, none, .store 1 (.t 24) (.c (.bool true))⟩])
       (.keep [] (.seq (.ops [⟨some 2, none, .mv (.c (.lst .clip 0 []))⟩])
        (.ret))))
      (.skip))))
    (.keep [0] (.seq (.draw [0, 3] [⟨some 25, none, .mv (.t 0)⟩,
      ⟨some 26, none, .nilck (.t 25)⟩,
      ⟨some 27, none, .fld 0 (.t 26)⟩,
      ⟨some 28, none, .load none (.t 27)⟩,
      ⟨some 29, none, .mv (.t 0)⟩,
      ⟨some 30, none, .nilck (.t 29)⟩,
      ⟨some 31, none, .fld 1 (.t 30)⟩,
      ⟨some 32, none, .load none (.t 31)⟩,
      ⟨some 33, none, .idxs (.t 28) (.t 32)⟩,
      ⟨some 34, none, .conv .i64 (.t 33)⟩,
      ⟨some 3, none, .mv (.t 34)⟩])
     (.keep [0, 3] (.seq (.ops [⟨some 35, none, .mv (.t 0)⟩,
      ⟨some 36, none, .nilck (.t 35)⟩,
      ⟨some 37, none, .fld 1 (.t 36)⟩,
      ⟨some 38, none, .load none (.t 37)⟩,
      ⟨some 39, none, .bin .add (.t 38) (.c (.int .i64 1))⟩,
      ⟨some 40, none, .nilck (.t 35)⟩,
      ⟨some 41, none, .fld 1 (.t 40)⟩,
      ⟨none, none, .store 1 (.t 41) (.t 39)⟩])
      (.keep [0, 3] (.seq (.ops [⟨some 42, none, .bsl 36 1 0 [] []⟩,
      ⟨some 4, none, .mvo 42⟩])
       (.keep [0, 3, 4] (.seq (.seq (.ops [⟨some 5, none, .mv (.c (.int .i64 0))⟩])
         (.keep [0, 3, 4, 5] (.block 0 (.loop [0, 3, 4, 5] (.seq (.seq (.ops [⟨some 43, none, .mv (.t 5)⟩,
      ⟨some 44, none, .mv (.t 3)⟩,
      ⟨some 45, none, .bin .lss (.t 43) (.t 44)⟩,
      ⟨some 46, none, .mv (.t 45)⟩,
      ⟨some 47, (some (46, true)), .mv (.t 0)⟩,
      ⟨some 48, (some (46, true)), .nilck (.t 47)⟩,
      ⟨some 49, (some (46, true)), .fld 2 (.t 48)⟩,
      ⟨some 50, (some (46, true)), .load none (.t 49)⟩,
      ⟨some 51, (some (46, true)), .not (.t 50)⟩,
      ⟨some 52, none, .pick (.t 46) (.t 51) (.c (.bool false))⟩])
             (.keep [0, 3, 4, 5, 52] (.cond (.t 52)
              (.skip)
              (.exit 0))))
            (.keep [0, 3, 4, 5] (.seq (.block 1 (.ops [⟨some 55, none, .mvo 4⟩,
      ⟨some 56, none, .mv (.t 0)⟩,
      ⟨some 57, none, .call (.f 93) [(.t 56)]⟩,
      ⟨some 58, none, .bsl 36 1 1 [(.str ⟨#[]⟩)] [(0, 1, (.t 57))]⟩,
      ⟨some 59, none, .appo 36 1 16 55 (.t 58)⟩,
      ⟨some 4, none, .mvo 59⟩]))
             (.keep [0, 3, 4, 5] (.ops [⟨some 53, none, .mv (.t 5)⟩,
      ⟨some 54, none, .bin .add (.t 53) (.c (.int .i64 1))⟩,
      ⟨some 5, none, .mv (.t 54)⟩])))))))))
        (.keep [0, 4] (.seq (.seq (.ops [⟨some 60, none, .mv (.t 0)⟩,
      ⟨some 61, none, .nilck (.t 60)⟩,
      ⟨some 62, none, .fld 2 (.t 61)⟩,
      ⟨some 63, none, .load none (.t 62)⟩,
      ⟨some 64, none, .mv (.t 63)⟩,
      ⟨some 65, (some (64, false)), .mv (.t 4)⟩,
      ⟨some 66, (some (64, false)), .call (.f 22) [(.t 65)]⟩,
      ⟨some 67, (some (64, false)), .not (.t 66)⟩,
      ⟨some 68, none, .pick (.t 64) (.c (.bool true)) (.t 67)⟩])
          (.keep [0, 4, 68] (.cond (.t 68)
           (.seq (.ops [⟨some 69, none, .mv (.t 0)⟩,
      ⟨some 70, none, .nilck (.t 69)⟩,
      ⟨some 71, none, .fld 2 (.t 70)⟩,
      ⟨none, none, .store 1 (.t 71) (.c (.bool true))⟩])
            (.keep [] (.seq (.ops [⟨some 2, none, .mv (.c (.lst .clip 0 []))⟩])
             (.ret))))
           (.skip))))
         (.keep [4] (.seq (.ops [⟨some 72, none, .mv (.t 4)⟩,
      ⟨some 2, none, .mv (.t 72)⟩])
          (.ret)))))))))))))))⟩
theorem F_ref07_In_Set_ok : chkFn Try.prog 94 F_ref07_In_Set = true := by kernel_rfl

/-- (*attorney/attorneyref07.In).Done -/
def F_ref07_In_Done : AFn :=
  ⟨22, [.t 2], .seq (.ops [⟨some 2, none, .mv (.c (.int .i64 0))⟩])
   (.keep [0] (.seq (.seq (.draw [0, 18] [⟨some 3, none, .mv (.t 0)⟩,
      ⟨some 4, none, .nilck (.t 3)⟩,
      ⟨some 5, none, .fld 2 (.t 4)⟩,
      ⟨some 6, none, .load none (.t 5)⟩,
      ⟨some 7, none, .mv (.t 6)⟩,
      ⟨some 8, (some (7, false)), .mv (.t 0)⟩,
      ⟨some 9, (some (7, false)), .nilck (.t 8)⟩,
      ⟨some 10, (some (7, false)), .fld 1 (.t 9)⟩,
      ⟨some 11, (some (7, false)), .load none (.t 10)⟩,
      ⟨some 12, (some (7, false)), .mv (.t 0)⟩,
      ⟨some 13, (some (7, false)), .nilck (.t 12)⟩,
      ⟨some 14, (some (7, false)), .fld 0 (.t 13)⟩,
      ⟨some 15, (some (7, false)), .load none (.t 14)⟩,
      ⟨some 16, (some (7, false)), .lens (.t 15)⟩,
      ⟨some 17, (some (7, false)), .bin .lss (.t 11) (.t 16)⟩,
      ⟨some 18, none, .pick (.t 7) (.c (.bool true)) (.t 17)⟩])
     (.keep [0, 18] (.cond (.t 18)
      (.seq (.ops [⟨some 19, none, .mv (.t 0)⟩,
      ⟨some 20, none, .nilck (.t 19)⟩,
      ⟨some 21, none, .fld 2 (.t 20)⟩,
      ⟨none, none, .store 1 (.t 21) (.c (.bool true))⟩])
       (.keep [] (.seq (.ops [⟨some 2, none, .mv (.c (.int .i64 2))⟩])
        (.ret))))
      (.skip))))
    (.keep [] (.seq (.ops [⟨some 2, none, .mv (.c (.int .i64 0))⟩])
     (.ret)))))⟩
theorem F_ref07_In_Done_ok : chkFn Try.prog 95 F_ref07_In_Done = true := by kernel_rfl

/-- attorney/word.odd -/
def F_word_odd : AFn :=
  ⟨7, [.t 2], .seq (.ops [⟨some 2, none, .mv (.c (.bool false))⟩])
   (.keep [0] (.seq (.ops [⟨some 3, none, .mv (.t 0)⟩,
      ⟨some 4, none, .lens (.t 3)⟩,
      ⟨some 5, none, .bin .rem (.t 4) (.c (.int .i64 2))⟩,
      ⟨some 6, none, .bin .neq (.t 5) (.c (.int .i64 0))⟩,
      ⟨some 2, none, .mv (.t 6)⟩])
    (.ret)))⟩
theorem F_word_odd_ok : chkFn Try.prog 97 F_word_odd = true := by kernel_rfl

/-- attorney/word.At -/
def F_word_At : AFn :=
  ⟨26, [.t 4], .seq (.ops [⟨some 4, none, .mv (.c (.int .u16 0))⟩])
   (.keep [0, 1] (.seq (.seq (.ops [⟨some 5, none, .mv (.t 1)⟩,
      ⟨some 6, none, .bin .lss (.t 5) (.c (.int .i64 0))⟩,
      ⟨some 7, none, .mv (.t 6)⟩,
      ⟨some 8, (some (7, false)), .mv (.t 1)⟩,
      ⟨some 9, (some (7, false)), .mv (.t 0)⟩,
      ⟨some 10, (some (7, false)), .call (.f 69) [(.t 9)]⟩,
      ⟨some 11, (some (7, false)), .bin .geq (.t 8) (.t 10)⟩,
      ⟨some 12, none, .pick (.t 7) (.c (.bool true)) (.t 11)⟩])
     (.keep [0, 1, 12] (.cond (.t 12)
      (.seq (.ops [⟨some 4, none, .mv (.c (.int .u16 0))⟩])
       (.ret))
      (.skip))))
    (.keep [0, 1] (.seq (.draw [4] [⟨some 13, none, .mv (.t 0)⟩,
      ⟨some 14, none, .mv (.t 1)⟩,
      ⟨some 15, none, .bin .mul (.c (.int .i64 2)) (.t 14)⟩,
      ⟨some 16, none, .idxs (.t 13) (.t 15)⟩,
      ⟨some 17, none, .conv .u16 (.t 16)⟩,
      ⟨some 18, none, .bin .shl (.t 17) (.c (.int .u64 8))⟩,
      ⟨some 19, none, .mv (.t 0)⟩,
      ⟨some 20, none, .mv (.t 1)⟩,
      ⟨some 21, none, .bin .mul (.c (.int .i64 2)) (.t 20)⟩,
      ⟨some 22, none, .bin .add (.t 21) (.c (.int .i64 1))⟩,
      ⟨some 23, none, .idxs (.t 19) (.t 22)⟩,
      ⟨some 24, none, .conv .u16 (.t 23)⟩,
      ⟨some 25, none, .bin .or (.t 18) (.t 24)⟩,
      ⟨some 4, none, .mv (.t 25)⟩])
     (.ret)))))⟩
theorem F_word_At_ok : chkFn Try.prog 98 F_word_At = true := by kernel_rfl

/-- (*attorney/pack.met).fail -/
def F_pack_met_fail : AFn :=
  ⟨7, [], .seq (.ops [⟨some 2, none, .mv (.t 0)⟩,
      ⟨some 3, none, .call (.f 104) [(.t 2)]⟩])
   (.keep [0, 3] (.cond (.t 3)
    (.ops [⟨some 4, none, .mv (.t 0)⟩,
      ⟨some 5, none, .nilck (.t 4)⟩,
      ⟨some 6, none, .fld 0 (.t 5)⟩,
      ⟨none, none, .store 1 (.t 6) (.c (.int .i64 2))⟩])
    (.skip)))⟩
theorem F_pack_met_fail_ok : chkFn Try.prog 103 F_pack_met_fail = true := by kernel_rfl

/-- (*attorney/pack.met).well -/
def F_pack_met_well : AFn :=
  ⟨8, [.t 2], .seq (.ops [⟨some 2, none, .mv (.c (.bool false))⟩])
   (.keep [0] (.seq (.ops [⟨some 3, none, .mv (.t 0)⟩,
      ⟨some 4, none, .nilck (.t 3)⟩,
      ⟨some 5, none, .fld 0 (.t 4)⟩,
      ⟨some 6, none, .load none (.t 5)⟩,
      ⟨some 7, none, .bin .eql (.t 6) (.c (.int .i64 0))⟩,
      ⟨some 2, none, .mv (.t 7)⟩])
    (.ret)))⟩
theorem F_pack_met_well_ok : chkFn Try.prog 104 F_pack_met_well = true := by kernel_rfl

/-- attorney/pack.number -/
def F_pack_number : AFn :=
  ⟨44, [.t 2, .t 3], .seq (.ops [⟨some 2, none, .mv (.c (.int .i64 0))⟩,
      ⟨some 3, none, .mv (.c (.int .i64 0))⟩])
   (.keep [0] (.seq (.ops [⟨some 4, none, .mv (.c (.int .u64 0))⟩])
    (.keep [0, 4] (.seq (.seq (.ops [⟨some 5, none, .mv (.c (.int .i64 0))⟩])
      (.keep [0, 4, 5] (.block 0 (.loop [0, 4, 5] (.seq (.seq (.ops [⟨some 7, none, .mv (.t 5)⟩,
      ⟨some 8, none, .mv (.t 0)⟩,
      ⟨some 9, none, .lens (.t 8)⟩,
      ⟨some 10, none, .bin .lss (.t 7) (.t 9)⟩,
      ⟨some 11, none, .mv (.t 10)⟩,
      ⟨some 12, (some (11, true)), .mv (.t 5)⟩,
      ⟨some 13, (some (11, true)), .bin .lss (.t 12) (.c (.int .i64 9))⟩,
      ⟨some 14, none, .pick (.t 11) (.t 13) (.c (.bool false))⟩])
          (.keep [0, 4, 5, 14] (.cond (.t 14)
           (.skip)
           (.exit 0))))
         (.keep [0, 4, 5] (.seq (.block 1 (.seq (.ops [⟨some 17, none, .mv (.t 0)⟩,
      ⟨some 18, none, .mv (.t 5)⟩,
      ⟨some 19, none, .idxs (.t 17) (.t 18)⟩,
      ⟨some 6, none, .mv (.t 19)⟩])
            (.keep [0, 4, 5, 6] (.seq (.ops [⟨some 20, none, .mv (.t 4)⟩,
      ⟨some 21, none, .mv (.t 6)⟩,
      ⟨some 22, none, .bin .and (.t 21) (.c (.int .u8 127))⟩,
      ⟨some 23, none, .conv .u64 (.t 22)⟩,
      ⟨some 24, none, .mv (.t 5)⟩,
      ⟨some 25, none, .bin .mul (.c (.int .i64 7)) (.t 24)⟩,
      ⟨some 26, none, .bin .shl (.t 23) (.t 25)⟩,
      ⟨some 27, none, .bin .or (.t 20) (.t 26)⟩,
      ⟨some 4, none, .mv (.t 27)⟩])
             (.keep [0, 4, 5, 6] (.seq (.seq (.ops [⟨some 28, none, .mv (.t 6)⟩,
      ⟨some 29, none, .bin .geq (.t 28) (.c (.int .u8 128))⟩])
               (.keep [0, 4, 5, 6, 29] (.cond (.t 29)
                (.exit 1)
                (.skip))))
              (.keep [4, 5, 6] (.seq (.seq (.ops [⟨some 30, none, .mv (.t 5)⟩,
      ⟨some 31, none, .bin .gtr (.t 30) (.c (.int .i64 0))⟩,
      ⟨some 32, none, .mv (.t 31)⟩,
      ⟨some 33, (some (32, true)), .mv (.t 6)⟩,
      ⟨some 34, (some (32, true)), .bin .eql (.t 33) (.c (.int .u8 0))⟩,
      ⟨some 35, none, .pick (.t 32) (.t 34) (.c (.bool false))⟩,
      ⟨some 36, none, .mv (.t 35)⟩,
      ⟨some 37, (some (36, false)), .mv (.t 4)⟩,
      ⟨some 38, (some (36, false)), .bin .gtr (.t 37) (.c (.int .u64 4611686018427387904))⟩,
      ⟨some 39, none, .pick (.t 36) (.c (.bool true)) (.t 38)⟩])
                (.keep [4, 5, 39] (.cond (.t 39)
                 (.seq (.ops [⟨some 2, none, .mv (.c (.int .i64 0))⟩,
      ⟨some 3, none, .mv (.c (.int .i64 0))⟩])
                  (.ret))
                 (.skip))))
               (.keep [4, 5] (.seq (.ops [⟨some 40, none, .mv (.t 4)⟩,
      ⟨some 41, none, .conv .i64 (.t 40)⟩,
      ⟨some 42, none, .mv (.t 5)⟩,
      ⟨some 43, none, .bin .add (.t 42) (.c (.int .i64 1))⟩,
      ⟨some 2, none, .mv (.t 41)⟩,
      ⟨some 3, none, .mv (.t 43)⟩])
                (.ret)))))))))))
          (.keep [0, 4, 5] (.ops [⟨some 15, none, .mv (.t 5)⟩,
      ⟨some 16, none, .bin .add (.t 15) (.c (.int .i64 1))⟩,
      ⟨some 5, none, .mv (.t 16)⟩])))))))))
     (.keep [] (.seq (.ops [⟨some 2, none, .mv (.c (.int .i64 0))⟩,
      ⟨some 3, none, .mv (.c (.int .i64 0))⟩])
      (.ret)))))))⟩
theorem F_pack_number_ok : chkFn Try.prog 109 F_pack_number = true := by kernel_rfl

/-- (*attorney/pack.In).take -/
def F_pack_In_take : AFn :=
  ⟨57, [.t 4], .seq (.ops [⟨some 4, none, .mv (.c (.str ⟨#[]⟩))⟩])
   (.keep [0, 1] (.seq (.seq (.draw [0, 1, 23] [⟨some 6, none, .mv (.t 0)⟩,
      ⟨some 7, none, .nilck (.t 6)⟩,
      ⟨some 8, none, .fld 0 (.t 7)⟩,
      ⟨some 9, none, .calli (.f 104) [(.t 8)]⟩,
      ⟨some 10, none, .mv (.t 9)⟩,
      ⟨some 11, (some (10, true)), .mv (.t 1)⟩,
      ⟨some 12, (some (10, true)), .mv (.t 0)⟩,
      ⟨some 13, (some (10, true)), .nilck (.t 12)⟩,
      ⟨some 14, (some (10, true)), .fld 1 (.t 13)⟩,
      ⟨some 15, (some (10, true)), .load none (.t 14)⟩,
      ⟨some 16, (some (10, true)), .lens (.t 15)⟩,
      ⟨some 17, (some (10, true)), .mv (.t 0)⟩,
      ⟨some 18, (some (10, true)), .nilck (.t 17)⟩,
      ⟨some 19, (some (10, true)), .fld 2 (.t 18)⟩,
      ⟨some 20, (some (10, true)), .load none (.t 19)⟩,
      ⟨some 21, (some (10, true)), .bin .sub (.t 16) (.t 20)⟩,
      ⟨some 22, (some (10, true)), .bin .gtr (.t 11) (.t 21)⟩,
      ⟨some 23, none, .pick (.t 10) (.t 22) (.c (.bool false))⟩])
     (.keep [0, 1, 23] (.cond (.t 23)
      (.ops [⟨some 24, none, .mv (.t 0)⟩,
      ⟨some 25, none, .nilck (.t 24)⟩,
      ⟨some 26, none, .fld 0 (.t 25)⟩,
      ⟨some 27, none, .call (.f 103) [(.t 26)]⟩])
      (.skip))))
    (.keep [0, 1] (.seq (.seq (.ops [⟨some 28, none, .mv (.t 0)⟩,
      ⟨some 29, none, .nilck (.t 28)⟩,
      ⟨some 30, none, .fld 0 (.t 29)⟩,
      ⟨some 31, none, .call (.f 104) [(.t 30)]⟩,
      ⟨some 32, none, .not (.t 31)⟩])
      (.keep [0, 1, 32] (.cond (.t 32)
       (.seq (.ops [⟨some 4, none, .mv (.c (.str ⟨#[]⟩))⟩])
        (.ret))
       (.skip))))
     (.keep [0, 1] (.seq (.draw [0, 1, 5] [⟨some 33, none, .mv (.t 0)⟩,
      ⟨some 34, none, .nilck (.t 33)⟩,
      ⟨some 35, none, .fld 1 (.t 34)⟩,
      ⟨some 36, none, .load none (.t 35)⟩,
      ⟨some 37, none, .mv (.t 0)⟩,
      ⟨some 38, none, .nilck (.t 37)⟩,
      ⟨some 39, none, .fld 2 (.t 38)⟩,
      ⟨some 40, none, .load none (.t 39)⟩,
      ⟨some 41, none, .mv (.t 0)⟩,
      ⟨some 42, none, .nilck (.t 41)⟩,
      ⟨some 43, none, .fld 2 (.t 42)⟩,
      ⟨some 44, none, .load none (.t 43)⟩,
      ⟨some 45, none, .mv (.t 1)⟩,
      ⟨some 46, none, .bin .add (.t 44) (.t 45)⟩,
      ⟨some 47, none, .slcs (.t 36) (some (.t 40)) (some (.t 46))⟩,
      ⟨some 5, none, .mv (.t 47)⟩])
      (.keep [0, 1, 5] (.seq (.ops [⟨some 48, none, .mv (.t 0)⟩,
      ⟨some 49, none, .nilck (.t 48)⟩,
      ⟨some 50, none, .fld 2 (.t 49)⟩,
      ⟨some 51, none, .load none (.t 50)⟩,
      ⟨some 52, none, .mv (.t 1)⟩,
      ⟨some 53, none, .bin .add (.t 51) (.t 52)⟩,
      ⟨some 54, none, .nilck (.t 48)⟩,
      ⟨some 55, none, .fld 2 (.t 54)⟩,
      ⟨none, none, .store 1 (.t 55) (.t 53)⟩])
       (.keep [5] (.seq (.ops [⟨some 56, none, .mv (.t 5)⟩,
      ⟨some 4, none, .mv (.t 56)⟩])
        (.ret)))))))))))⟩
theorem F_pack_In_take_ok : chkFn Try.prog 110 F_pack_In_take = true := by kernel_rfl

/-- (*attorney/pack.In).count -/
def F_pack_In_count : AFn :=
  ⟨29, [.t 4], .seq (.ops [⟨some 4, none, .mv (.c (.int .i64 0))⟩])
   (.keep [0, 1] (.seq (.ops [⟨some 7, none, .mv (.t 0)⟩,
      ⟨some 8, none, .call (.f 110) [(.t 7), (.c (.int .i64 1))]⟩,
      ⟨some 5, none, .mv (.t 8)⟩])
    (.keep [0, 1, 5] (.seq (.seq (.ops [⟨some 9, none, .mv (.t 0)⟩,
      ⟨some 10, none, .nilck (.t 9)⟩,
      ⟨some 11, none, .fld 0 (.t 10)⟩,
      ⟨some 12, none, .call (.f 104) [(.t 11)]⟩,
      ⟨some 13, none, .not (.t 12)⟩])
      (.keep [0, 1, 5, 13] (.cond (.t 13)
       (.seq (.ops [⟨some 4, none, .mv (.c (.int .i64 0))⟩])
        (.ret))
       (.skip))))
     (.keep [0, 1, 5] (.seq (.ops [⟨some 14, none, .mv (.t 5)⟩,
      ⟨some 15, none, .idxs (.t 14) (.c (.int .i64 0))⟩,
      ⟨some 16, none, .conv .i64 (.t 15)⟩,
      ⟨some 6, none, .mv (.t 16)⟩])
      (.keep [0, 1, 6] (.seq (.seq (.ops [⟨some 17, none, .mv (.t 6)⟩,
      ⟨some 18, none, .bin .lss (.t 17) (.c (.int .i64 1))⟩,
      ⟨some 19, none, .mv (.t 18)⟩,
      ⟨some 20, (some (19, false)), .mv (.t 6)⟩,
      ⟨some 21, (some (19, false)), .mv (.t 1)⟩,
      ⟨some 22, (some (19, false)), .bin .gtr (.t 20) (.t 21)⟩,
      ⟨some 23, none, .pick (.t 19) (.c (.bool true)) (.t 22)⟩])
        (.keep [0, 6, 23] (.cond (.t 23)
         (.seq (.ops [⟨some 24, none, .mv (.t 0)⟩,
      ⟨some 25, none, .nilck (.t 24)⟩,
      ⟨some 26, none, .fld 0 (.t 25)⟩,
      ⟨some 27, none, .call (.f 103) [(.t 26)]⟩])
          (.keep [] (.seq (.ops [⟨some 4, none, .mv (.c (.int .i64 0))⟩])
           (.ret))))
         (.skip))))
       (.keep [6] (.seq (.ops [⟨some 28, none, .mv (.t 6)⟩,
      ⟨some 4, none, .mv (.t 28)⟩])
        (.ret)))))))))))⟩
theorem F_pack_In_count_ok : chkFn Try.prog 111 F_pack_In_count = true := by kernel_rfl

/-- (*attorney/pack.In).Left -/
def F_pack_In_Left : AFn :=
  ⟨18, [.t 2], .seq (.ops [⟨some 2, none, .mv (.c (.int .i64 0))⟩])
   (.keep [0] (.seq (.seq (.ops [⟨some 3, none, .mv (.t 0)⟩,
      ⟨some 4, none, .nilck (.t 3)⟩,
      ⟨some 5, none, .fld 0 (.t 4)⟩,
      ⟨some 6, none, .call (.f 104) [(.t 5)]⟩,
      ⟨some 7, none, .not (.t 6)⟩])
     (.keep [0, 7] (.cond (.t 7)
      (.seq (.ops [⟨some 2, none, .mv (.c (.int .i64 0))⟩])
       (.ret))
      (.skip))))
    (.keep [0] (.seq (.draw [2] [⟨some 8, none, .mv (.t 0)⟩,
      ⟨some 9, none, .nilck (.t 8)⟩,
      ⟨some 10, none, .fld 1 (.t 9)⟩,
      ⟨some 11, none, .load none (.t 10)⟩,
      ⟨some 12, none, .lens (.t 11)⟩,
      ⟨some 13, none, .mv (.t 0)⟩,
      ⟨some 14, none, .nilck (.t 13)⟩,
      ⟨some 15, none, .fld 2 (.t 14)⟩,
      ⟨some 16, none, .load none (.t 15)⟩,
      ⟨some 17, none, .bin .sub (.t 12) (.t 16)⟩,
      ⟨some 2, none, .mv (.t 17)⟩])
     (.ret)))))⟩
theorem F_pack_In_Left_ok : chkFn Try.prog 112 F_pack_In_Left = true := by kernel_rfl

/-- attorney/word.Swap -/
def F_word_Swap : AFn :=
  ⟨42, [.t 8, .t 9], .seq (.ops [⟨some 8, none, .mv (.c (.str ⟨#[]⟩))⟩,
      ⟨some 9, none, .mv (.c (.int .i64 0))⟩])
   (.keep [0, 1, 2, 3] (.seq (.seq (.ops [⟨some 10, none, .mv (.t 0)⟩,
      ⟨some 11, none, .call (.f 97) [(.t 10)]⟩,
      ⟨some 12, none, .mv (.t 11)⟩,
      ⟨some 13, (some (12, false)), .mv (.t 3)⟩,
      ⟨some 14, (some (12, false)), .call (.f 97) [(.t 13)]⟩,
      ⟨some 15, none, .pick (.t 12) (.c (.bool true)) (.t 14)⟩])
     (.keep [0, 1, 2, 3, 15] (.cond (.t 15)
      (.seq (.ops [⟨some 8, none, .mv (.c (.str ⟨#[]⟩))⟩,
      ⟨some 9, none, .mv (.c (.int .i64 2))⟩])
       (.ret))
      (.skip))))
    (.keep [0, 1, 2, 3] (.seq (.seq (.ops [⟨some 16, none, .mv (.t 0)⟩,
      ⟨some 17, none, .mv (.t 1)⟩,
      ⟨some 18, none, .mv (.t 2)⟩,
      ⟨some 19, none, .call (.f 130) [(.t 16), (.t 17), (.t 18)]⟩,
      ⟨some 20, none, .not (.t 19)⟩])
      (.keep [0, 1, 2, 3, 20] (.cond (.t 20)
       (.seq (.ops [⟨some 8, none, .mv (.c (.str ⟨#[]⟩))⟩,
      ⟨some 9, none, .mv (.c (.int .i64 5))⟩])
        (.ret))
       (.skip))))
     (.keep [0, 1, 2, 3] (.seq (.seq (.ops [⟨some 21, none, .mv (.t 0)⟩,
      ⟨some 22, none, .call (.f 69) [(.t 21)]⟩,
      ⟨some 23, none, .mv (.t 2)⟩,
      ⟨some 24, none, .bin .sub (.t 22) (.t 23)⟩,
      ⟨some 25, none, .mv (.t 3)⟩,
      ⟨some 26, none, .call (.f 69) [(.t 25)]⟩,
      ⟨some 27, none, .bin .add (.t 24) (.t 26)⟩,
      ⟨some 28, none, .bin .gtr (.t 27) (.c (.int .i64 8))⟩])
       (.keep [0, 1, 2, 3, 28] (.cond (.t 28)
        (.seq (.ops [⟨some 8, none, .mv (.c (.str ⟨#[]⟩))⟩,
      ⟨some 9, none, .mv (.c (.int .i64 4))⟩])
         (.ret))
        (.skip))))
      (.keep [0, 1, 2, 3] (.seq (.draw [8, 9] [⟨some 29, none, .mv (.t 0)⟩,
      ⟨some 30, none, .mv (.t 1)⟩,
      ⟨some 31, none, .bin .mul (.c (.int .i64 2)) (.t 30)⟩,
      ⟨some 32, none, .slcs (.t 29) none (some (.t 31))⟩,
      ⟨some 33, none, .mv (.t 3)⟩,
      ⟨some 34, none, .bin .add (.t 32) (.t 33)⟩,
      ⟨some 35, none, .mv (.t 0)⟩,
      ⟨some 36, none, .mv (.t 1)⟩,
      ⟨some 37, none, .mv (.t 2)⟩,
      ⟨some 38, none, .bin .add (.t 36) (.t 37)⟩,
      ⟨some 39, none, .bin .mul (.c (.int .i64 2)) (.t 38)⟩,
      ⟨some 40, none, .slcs (.t 35) (some (.t 39)) none⟩,
      ⟨some 41, none, .bin .add (.t 34) (.t 40)⟩,
      ⟨some 8, none, .mv (.t 41)⟩,
      ⟨some 9, none, .mv (.c (.int .i64 0))⟩])
       (.ret)))))))))⟩
theorem F_word_Swap_ok : chkFn Try.prog 124 F_word_Swap = true := by kernel_rfl

/-- attorney/word.within -/
def F_word_within : AFn :=
  ⟨27, [.t 6], .seq (.ops [⟨some 6, none, .mv (.c (.bool false))⟩])
   (.keep [0, 1, 2] (.seq (.ops [⟨some 7, none, .mv (.t 1)⟩,
      ⟨some 8, none, .bin .geq (.t 7) (.c (.int .i64 0))⟩,
      ⟨some 9, none, .mv (.t 8)⟩,
      ⟨some 10, (some (9, true)), .mv (.t 2)⟩,
      ⟨some 11, (some (9, true)), .bin .geq (.t 10) (.c (.int .i64 0))⟩,
      ⟨some 12, none, .pick (.t 9) (.t 11) (.c (.bool false))⟩,
      ⟨some 13, none, .mv (.t 12)⟩,
      ⟨some 14, (some (13, true)), .mv (.t 1)⟩,
      ⟨some 15, (some (13, true)), .mv (.t 0)⟩,
      ⟨some 16, (some (13, true)), .call (.f 69) [(.t 15)]⟩,
      ⟨some 17, (some (13, true)), .bin .leq (.t 14) (.t 16)⟩,
      ⟨some 18, none, .pick (.t 13) (.t 17) (.c (.bool false))⟩,
      ⟨some 19, none, .mv (.t 18)⟩,
      ⟨some 20, (some (19, true)), .mv (.t 2)⟩,
      ⟨some 21, (some (19, true)), .mv (.t 0)⟩,
      ⟨some 22, (some (19, true)), .call (.f 69) [(.t 21)]⟩,
      ⟨some 23, (some (19, true)), .mv (.t 1)⟩,
      ⟨some 24, (some (19, true)), .bin .sub (.t 22) (.t 23)⟩,
      ⟨some 25, (some (19, true)), .bin .leq (.t 20) (.t 24)⟩,
      ⟨some 26, none, .pick (.t 19) (.t 25) (.c (.bool false))⟩,
      ⟨some 6, none, .mv (.t 26)⟩])
    (.ret)))⟩
theorem F_word_within_ok : chkFn Try.prog 130 F_word_within = true := by kernel_rfl

end Go.Proofs.Ytajpibdchgflnaa
