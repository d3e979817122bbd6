/- Texts of one proof, laid together: FnS Sr Ss St Sa. -/
import Derived.Test.YtaepikkaogfhbaaProg
import Derived.Test.YtaepikkaogfhbaaMC11
import Derived.Test.YtaepikkaogfhbaaMC12
import Derived.Test.YtaepikkaogfhbaaMC9

/- The functions' abstract code, written by a program (acode.py), and that it is theirs. -/
namespace Go.Proofs.Ytaepikkaogfhbaa
open Go.RowKit

/-- attorney/attorneyref03.For -/
def J_ref03_For : AFn :=
  ⟨35, [.t 4, .t 5], .seq (.ops [⟨some 4, none, .mv (.c (.lst .clip 0 [])), none⟩,
      ⟨some 5, none, .mv (.c (.int .i64 0)), none⟩])
   (.keep [0, 1] (.seq (.ops [⟨some 11, none, .mv (.t 0), none⟩,
      ⟨some 12, none, .mv (.t 1), none⟩,
      ⟨some 13, none, .call (.f 90) [(.t 11), (.t 12)], none⟩,
      ⟨some 10, none, .mv (.t 13), none⟩,
      ⟨some 14, none, .ext 0 (.t 10), none⟩,
      ⟨some 15, none, .ext 1 (.t 10), none⟩,
      ⟨some 6, none, .mv (.t 14), none⟩,
      ⟨some 7, none, .mv (.t 15), none⟩])
    (.keep [1, 6, 7] (.seq (.seq (.ops [⟨some 16, none, .mv (.t 7), none⟩,
      ⟨some 17, none, .bin .neq (.t 16) (.c (.int .i64 0)), none⟩])
      (.keep [1, 6, 7, 17] (.cond (.t 17)
       (.seq (.ops [⟨some 18, none, .mv (.t 7), none⟩,
      ⟨some 4, none, .mv (.c (.lst .clip 0 [])), none⟩,
      ⟨some 5, none, .mv (.t 18), none⟩])
        (.ret))
       (.skip))))
     (.keep [1, 6] (.seq (.ops [⟨some 20, none, .bsl 54 1 1 [(.int .u16 0)] [(0, 1, (.c (.int .u16 1)))], none⟩,
      ⟨some 21, none, .call (.f 49) [(.t 20)], none⟩,
      ⟨some 22, none, .bsl 44 1 1 [(.str ⟨#[]⟩)] [(0, 1, (.t 21))], none⟩,
      ⟨some 23, none, .mv (.t 1), none⟩,
      ⟨some 24, none, .call (.f 90) [(.t 22), (.t 23)], none⟩,
      ⟨some 19, none, .mv (.t 24), none⟩,
      ⟨some 25, none, .ext 0 (.t 19), none⟩,
      ⟨some 26, none, .ext 1 (.t 19), none⟩,
      ⟨some 8, none, .mv (.t 25), none⟩,
      ⟨some 9, none, .mv (.t 26), none⟩])
      (.keep [6, 8, 9] (.seq (.seq (.ops [⟨some 27, none, .mv (.t 9), none⟩,
      ⟨some 28, none, .bin .neq (.t 27) (.c (.int .i64 0)), none⟩])
        (.keep [6, 8, 9, 28] (.cond (.t 28)
         (.seq (.ops [⟨some 29, none, .mv (.t 9), none⟩,
      ⟨some 4, none, .mv (.c (.lst .clip 0 [])), none⟩,
      ⟨some 5, none, .mv (.t 29), none⟩])
          (.ret))
         (.skip))))
       (.keep [6, 8] (.seq (.ops [⟨some 30, none, .mv (.t 6), none⟩,
      ⟨some 31, none, .mv (.t 8), none⟩,
      ⟨some 32, none, .call (.f 91) [(.t 30), (.t 31)], none⟩,
      ⟨some 33, none, .ext 0 (.t 32), none⟩,
      ⟨some 34, none, .ext 1 (.t 32), none⟩,
      ⟨some 4, none, .mv (.t 33), none⟩,
      ⟨some 5, none, .mv (.t 34), none⟩])
        (.ret)))))))))))⟩
theorem J_ref03_For_ok : chkFn Try.prog 48 J_ref03_For = true := by kernel_rfl

/- behind: Q -/
def J_ref02_Of_j1 : ACode :=
  .keep [3] (.seq (.ops [⟨some 27, none, .mv (.t 3), none⟩,
      ⟨some 28, none, .b2s (.t 27), none⟩,
      ⟨some 2, none, .mv (.t 28), none⟩])
      (.ret))

/- behind: Q = kloop [0, 3, 4] I n (kblock 0 (kseq P (J_ref02_Of_j1) Q)) -/
def J_ref02_Of_j2 : ACode :=
  .seq (.seq (.ops [⟨some 6, none, .mv (.t 4), none⟩,
      ⟨some 7, none, .mv (.t 0), none⟩,
      ⟨some 8, none, .lenl (.t 7), none⟩,
      ⟨some 9, none, .bin .lss (.t 6) (.t 8), none⟩])
          (.keep [0, 3, 4, 9] (.cond (.t 9)
           (.skip)
           (.exit 0))))
         (.keep [0, 3, 4] (.seq (.block 1 (.draw [0, 3, 4] [⟨some 12, none, .mvo 3, none⟩,
      ⟨some 13, none, .mv (.t 0), none⟩,
      ⟨some 14, none, .mv (.t 4), none⟩,
      ⟨some 15, none, .idxa 1 (.t 13) (.t 14), none⟩,
      ⟨some 16, none, .load none (.t 15), none⟩,
      ⟨some 17, none, .bin .quo (.t 16) (.c (.int .u16 256)), none⟩,
      ⟨some 18, none, .conv .u8 (.t 17), none⟩,
      ⟨some 19, none, .mv (.t 0), none⟩,
      ⟨some 20, none, .mv (.t 4), none⟩,
      ⟨some 21, none, .idxa 1 (.t 19) (.t 20), none⟩,
      ⟨some 22, none, .load none (.t 21), none⟩,
      ⟨some 23, none, .bin .rem (.t 22) (.c (.int .u16 256)), none⟩,
      ⟨some 24, none, .conv .u8 (.t 23), none⟩,
      ⟨some 25, none, .bsl 5 1 2 [(.int .u8 0), (.int .u8 0)] [(0, 1, (.t 18)), (1, 1, (.t 24))], none⟩,
      ⟨some 26, none, .appo 5 1 1 12 (.t 25), none⟩,
      ⟨some 3, none, .mvo 26, none⟩]))
          (.keep [0, 3, 4] (.ops [⟨some 10, none, .mv (.t 4), none⟩,
      ⟨some 11, none, .bin .add (.t 10) (.c (.int .i64 1)), none⟩,
      ⟨some 4, none, .mv (.t 11), none⟩]))))

/-- attorney/attorneyref02.Of -/
def J_ref02_Of : AFn :=
  ⟨29, [.t 2], .seq (.ops [⟨some 2, none, .mv (.c (.str ⟨#[]⟩)), none⟩])
   (.keep [0] (.seq (.ops [⟨some 5, none, .bsl 5 1 0 [] [], none⟩,
      ⟨some 3, none, .mvo 5, none⟩])
    (.keep [0, 3] (.seq (.seq (.ops [⟨some 4, none, .mv (.c (.int .i64 0)), none⟩])
      (.keep [0, 3, 4] (.block 0 (.loop [0, 3, 4] (J_ref02_Of_j2)))))
     (J_ref02_Of_j1)))))⟩
theorem J_ref02_Of_ok : chkFn Try.prog 49 J_ref02_Of = true := by kernel_rfl

/- behind: Q -/
def J_set_May_j1 : ACode :=
  .keep [] (.seq (.ops [⟨some 2, none, .mv (.c (.bool true)), none⟩])
      (.ret))

/- behind: Q = kloop [0, 13, 14, 15] I n (kblock 0 (kseq P (J_set_May_j1) Q)) -/
def J_set_May_j2 : ACode :=
  .seq (.ops [⟨some 16, none, .bin .lss (.t 15) (.t 14), none⟩])
         (.keep [0, 13, 14, 15, 16] (.seq (.cond (.t 16)
           (.skip)
           (.exit 0))
          (.keep [0, 13, 14, 15] (.seq (.block 1 (.seq (.ops [⟨some 17, none, .mv (.t 15), none⟩,
      ⟨some 18, none, .idxa 1 (.t 13) (.t 15), none⟩,
      ⟨some 19, none, .load none (.t 18), none⟩,
      ⟨some 3, none, .mv (.t 17), none⟩,
      ⟨some 4, none, .mv (.t 19), none⟩])
             (.keep [0, 3, 4, 13, 14, 15] (.seq (.seq (.ops [⟨some 20, none, .mv (.t 4), none⟩,
      ⟨some 21, none, .call (.f 79) [(.t 20)], none⟩,
      ⟨some 22, none, .not (.t 21), none⟩])
               (.keep [0, 3, 4, 13, 14, 15, 22] (.cond (.t 22)
                (.seq (.ops [⟨some 2, none, .mv (.c (.bool false)), none⟩])
                 (.ret))
                (.skip))))
              (.keep [0, 3, 4, 13, 14, 15] (.seq (.ops [⟨some 23, none, .mv (.t 3), none⟩,
      ⟨some 24, none, .bin .gtr (.t 23) (.c (.int .i64 0)), none⟩,
      ⟨some 25, none, .mv (.t 24), none⟩,
      ⟨some 26, (some (25, true)), .mv (.t 0), none⟩,
      ⟨some 27, (some (25, true)), .mv (.t 3), none⟩,
      ⟨some 28, (some (25, true)), .bin .sub (.t 27) (.c (.int .i64 1)), none⟩,
      ⟨some 29, (some (25, true)), .idxa 1 (.t 26) (.t 28), none⟩,
      ⟨some 30, (some (25, true)), .load none (.t 29), none⟩,
      ⟨some 31, (some (25, true)), .mv (.t 4), none⟩,
      ⟨some 32, (some (25, true)), .call (.f 98) [(.t 30), (.t 31)], none⟩,
      ⟨some 33, (some (25, true)), .not (.t 32), none⟩,
      ⟨some 34, none, .pick (.t 25) (.t 33) (.c (.bool false)), none⟩])
               (.keep [0, 13, 14, 15, 34] (.cond (.t 34)
                (.seq (.ops [⟨some 2, none, .mv (.c (.bool false)), none⟩])
                 (.ret))
                (.skip)))))))))
           (.keep [0, 13, 14, 15] (.ops [⟨some 35, none, .bin .add (.t 15) (.c (.int .i64 1)), none⟩,
      ⟨some 15, none, .mv (.t 35), none⟩]))))))

/-- attorney/set.May -/
def J_set_May : AFn :=
  ⟨36, [.t 2], .seq (.ops [⟨some 2, none, .mv (.c (.bool false)), none⟩])
   (.keep [0] (.seq (.seq (.ops [⟨some 5, none, .mv (.t 0), none⟩,
      ⟨some 6, none, .lenl (.t 5), none⟩,
      ⟨some 7, none, .bin .lss (.t 6) (.c (.int .i64 1)), none⟩,
      ⟨some 8, none, .mv (.t 7), none⟩,
      ⟨some 9, (some (8, false)), .mv (.t 0), none⟩,
      ⟨some 10, (some (8, false)), .lenl (.t 9), none⟩,
      ⟨some 11, (some (8, false)), .bin .gtr (.t 10) (.c (.int .i64 16)), none⟩,
      ⟨some 12, none, .pick (.t 8) (.c (.bool true)) (.t 11), none⟩])
     (.keep [0, 12] (.cond (.t 12)
      (.seq (.ops [⟨some 2, none, .mv (.c (.bool false)), none⟩])
       (.ret))
      (.skip))))
    (.keep [0] (.seq (.seq (.ops [⟨some 13, none, .mv (.t 0), none⟩,
      ⟨some 14, none, .lenl (.t 13), none⟩,
      ⟨some 15, none, .mv (.c (.int .i64 0)), none⟩])
      (.keep [0, 13, 14, 15] (.block 0 (.loop [0, 13, 14, 15] (J_set_May_j2)))))
     (J_set_May_j1)))))⟩
theorem J_set_May_ok : chkFn Try.prog 60 J_set_May = true := by kernel_rfl

/- behind: Q -/
def J_ref03_May_j1 : ACode :=
  .keep [] (.seq (.ops [⟨some 2, none, .mv (.c (.bool true)), none⟩])
      (.ret))

/- behind: Q = kloop [0, 3] I n (kblock 0 (kseq P (J_ref03_May_j1) Q)) -/
def J_ref03_May_j2 : ACode :=
  .seq (.seq (.ops [⟨some 12, none, .mv (.t 3), none⟩,
      ⟨some 13, none, .mv (.t 0), none⟩,
      ⟨some 14, none, .lenl (.t 13), none⟩,
      ⟨some 15, none, .bin .lss (.t 12) (.t 14), none⟩])
          (.keep [0, 3, 15] (.cond (.t 15)
           (.skip)
           (.exit 0))))
         (.keep [0, 3] (.seq (.block 1 (.seq (.draw [0, 3, 40] [⟨some 18, none, .mv (.t 0), none⟩,
      ⟨some 19, none, .mv (.t 3), none⟩,
      ⟨some 20, none, .idxa 1 (.t 18) (.t 19), none⟩,
      ⟨some 21, none, .load none (.t 20), none⟩,
      ⟨some 22, none, .call (.f 84) [(.t 21)], none⟩,
      ⟨some 23, none, .not (.t 22), none⟩,
      ⟨some 24, none, .mv (.t 23), none⟩,
      ⟨some 25, (some (24, false)), .mv (.t 3), none⟩,
      ⟨some 26, (some (24, false)), .bin .gtr (.t 25) (.c (.int .i64 0)), none⟩,
      ⟨some 27, (some (24, false)), .mv (.t 26), none⟩,
      ⟨some 28, (some (27, true)), .mv (.t 0), none⟩,
      ⟨some 29, (some (27, true)), .mv (.t 3), none⟩,
      ⟨some 30, (some (27, true)), .bin .sub (.t 29) (.c (.int .i64 1)), none⟩,
      ⟨some 31, (some (27, true)), .idxa 1 (.t 28) (.t 30), none⟩,
      ⟨some 32, (some (27, true)), .load none (.t 31), none⟩,
      ⟨some 33, (some (27, true)), .mv (.t 0), none⟩,
      ⟨some 34, (some (27, true)), .mv (.t 3), none⟩,
      ⟨some 35, (some (27, true)), .idxa 1 (.t 33) (.t 34), none⟩,
      ⟨some 36, (some (27, true)), .load none (.t 35), none⟩,
      ⟨some 37, (some (27, true)), .call (.f 99) [(.t 32), (.t 36)], none⟩,
      ⟨some 38, (some (27, true)), .not (.t 37), none⟩,
      ⟨some 39, (some (24, false)), .pick (.t 27) (.t 38) (.c (.bool false)), none⟩,
      ⟨some 40, none, .pick (.t 24) (.c (.bool true)) (.t 39), none⟩])
            (.keep [0, 3, 40] (.cond (.t 40)
             (.seq (.ops [⟨some 2, none, .mv (.c (.bool false)), none⟩])
              (.ret))
             (.skip)))))
          (.keep [0, 3] (.ops [⟨some 16, none, .mv (.t 3), none⟩,
      ⟨some 17, none, .bin .add (.t 16) (.c (.int .i64 1)), none⟩,
      ⟨some 3, none, .mv (.t 17), none⟩]))))

/-- attorney/attorneyref03.May -/
def J_ref03_May : AFn :=
  ⟨41, [.t 2], .seq (.ops [⟨some 2, none, .mv (.c (.bool false)), none⟩])
   (.keep [0] (.seq (.seq (.ops [⟨some 4, none, .mv (.t 0), none⟩,
      ⟨some 5, none, .lenl (.t 4), none⟩,
      ⟨some 6, none, .bin .lss (.t 5) (.c (.int .i64 1)), none⟩,
      ⟨some 7, none, .mv (.t 6), none⟩,
      ⟨some 8, (some (7, false)), .mv (.t 0), none⟩,
      ⟨some 9, (some (7, false)), .lenl (.t 8), none⟩,
      ⟨some 10, (some (7, false)), .bin .gtr (.t 9) (.c (.int .i64 16)), none⟩,
      ⟨some 11, none, .pick (.t 7) (.c (.bool true)) (.t 10), none⟩])
     (.keep [0, 11] (.cond (.t 11)
      (.seq (.ops [⟨some 2, none, .mv (.c (.bool false)), none⟩])
       (.ret))
      (.skip))))
    (.keep [0] (.seq (.seq (.ops [⟨some 3, none, .mv (.c (.int .i64 0)), none⟩])
      (.keep [0, 3] (.block 0 (.loop [0, 3] (J_ref03_May_j2)))))
     (J_ref03_May_j1)))))⟩
theorem J_ref03_May_ok : chkFn Try.prog 61 J_ref03_May = true := by kernel_rfl

/- behind: Q -/
def J_ref03_Equal_j1 : ACode :=
  .keep [] (.seq (.ops [⟨some 4, none, .mv (.c (.bool true)), none⟩])
      (.ret))

/- behind: Q = kloop [0, 1, 5] I n (kblock 0 (kseq P (J_ref03_Equal_j1) Q)) -/
def J_ref03_Equal_j2 : ACode :=
  .seq (.seq (.ops [⟨some 11, none, .mv (.t 5), none⟩,
      ⟨some 12, none, .mv (.t 0), none⟩,
      ⟨some 13, none, .lenl (.t 12), none⟩,
      ⟨some 14, none, .bin .lss (.t 11) (.t 13), none⟩])
          (.keep [0, 1, 5, 14] (.cond (.t 14)
           (.skip)
           (.exit 0))))
         (.keep [0, 1, 5] (.seq (.block 1 (.seq (.draw [0, 1, 5, 25] [⟨some 17, none, .mv (.t 0), none⟩,
      ⟨some 18, none, .mv (.t 5), none⟩,
      ⟨some 19, none, .idxa 1 (.t 17) (.t 18), none⟩,
      ⟨some 20, none, .load none (.t 19), none⟩,
      ⟨some 21, none, .mv (.t 1), none⟩,
      ⟨some 22, none, .mv (.t 5), none⟩,
      ⟨some 23, none, .idxa 1 (.t 21) (.t 22), none⟩,
      ⟨some 24, none, .load none (.t 23), none⟩,
      ⟨some 25, none, .bin .neq (.t 20) (.t 24), none⟩])
            (.keep [0, 1, 5, 25] (.cond (.t 25)
             (.seq (.ops [⟨some 4, none, .mv (.c (.bool false)), none⟩])
              (.ret))
             (.skip)))))
          (.keep [0, 1, 5] (.ops [⟨some 15, none, .mv (.t 5), none⟩,
      ⟨some 16, none, .bin .add (.t 15) (.c (.int .i64 1)), none⟩,
      ⟨some 5, none, .mv (.t 16), none⟩]))))

/-- attorney/attorneyref03.Equal -/
def J_ref03_Equal : AFn :=
  ⟨26, [.t 4], .seq (.ops [⟨some 4, none, .mv (.c (.bool false)), none⟩])
   (.keep [0, 1] (.seq (.seq (.ops [⟨some 6, none, .mv (.t 0), none⟩,
      ⟨some 7, none, .lenl (.t 6), none⟩,
      ⟨some 8, none, .mv (.t 1), none⟩,
      ⟨some 9, none, .lenl (.t 8), none⟩,
      ⟨some 10, none, .bin .neq (.t 7) (.t 9), none⟩])
     (.keep [0, 1, 10] (.cond (.t 10)
      (.seq (.ops [⟨some 4, none, .mv (.c (.bool false)), none⟩])
       (.ret))
      (.skip))))
    (.keep [0, 1] (.seq (.seq (.ops [⟨some 5, none, .mv (.c (.int .i64 0)), none⟩])
      (.keep [0, 1, 5] (.block 0 (.loop [0, 1, 5] (J_ref03_Equal_j2)))))
     (J_ref03_Equal_j1)))))⟩
theorem J_ref03_Equal_ok : chkFn Try.prog 75 J_ref03_Equal = true := by kernel_rfl

/- behind: Q -/
def J_word_May_j1 : ACode :=
  .keep [] (.seq (.ops [⟨some 2, none, .mv (.c (.bool true)), none⟩])
      (.ret))

/- behind: Q = kloop [0, 17, 18] I n (kblock 0 (kseq P (J_word_May_j1) Q)) -/
def J_word_May_j2 : ACode :=
  .seq (.ops [⟨some 19, none, .bin .lss (.t 18) (.t 17), none⟩])
         (.keep [0, 17, 18, 19] (.seq (.cond (.t 19)
           (.skip)
           (.exit 0))
          (.keep [0, 17, 18] (.seq (.block 1 (.seq (.ops [⟨some 20, none, .mv (.t 18), none⟩,
      ⟨some 3, none, .mv (.t 20), none⟩])
             (.keep [0, 3, 17, 18] (.seq (.ops [⟨some 21, none, .mv (.t 0), none⟩,
      ⟨some 22, none, .mv (.t 3), none⟩,
      ⟨some 23, none, .call (.f 107) [(.t 21), (.t 22)], none⟩,
      ⟨some 24, none, .bin .eql (.t 23) (.c (.int .u16 0)), none⟩])
              (.keep [0, 17, 18, 24] (.cond (.t 24)
               (.seq (.ops [⟨some 2, none, .mv (.c (.bool false)), none⟩])
                (.ret))
               (.skip)))))))
           (.keep [0, 17, 18] (.ops [⟨some 25, none, .bin .add (.t 18) (.c (.int .i64 1)), none⟩,
      ⟨some 18, none, .mv (.t 25), none⟩]))))))

/-- attorney/word.May -/
def J_word_May : AFn :=
  ⟨26, [.t 2], .seq (.ops [⟨some 2, none, .mv (.c (.bool false)), none⟩])
   (.keep [0] (.seq (.seq (.ops [⟨some 4, none, .mv (.t 0), none⟩,
      ⟨some 5, none, .call (.f 106) [(.t 4)], none⟩,
      ⟨some 6, none, .mv (.t 5), none⟩,
      ⟨some 7, (some (6, false)), .mv (.t 0), none⟩,
      ⟨some 8, (some (6, false)), .call (.f 81) [(.t 7)], none⟩,
      ⟨some 9, (some (6, false)), .bin .lss (.t 8) (.c (.int .i64 1)), none⟩,
      ⟨some 10, none, .pick (.t 6) (.c (.bool true)) (.t 9), none⟩,
      ⟨some 11, none, .mv (.t 10), none⟩,
      ⟨some 12, (some (11, false)), .mv (.t 0), none⟩,
      ⟨some 13, (some (11, false)), .call (.f 81) [(.t 12)], none⟩,
      ⟨some 14, (some (11, false)), .bin .gtr (.t 13) (.c (.int .i64 8)), none⟩,
      ⟨some 15, none, .pick (.t 11) (.c (.bool true)) (.t 14), none⟩])
     (.keep [0, 15] (.cond (.t 15)
      (.seq (.ops [⟨some 2, none, .mv (.c (.bool false)), none⟩])
       (.ret))
      (.skip))))
    (.keep [0] (.seq (.seq (.ops [⟨some 16, none, .mv (.t 0), none⟩,
      ⟨some 17, none, .call (.f 81) [(.t 16)], none⟩,
      ⟨some 18, none, .mv (.c (.int .i64 0)), none⟩])
      (.keep [0, 17, 18] (.block 0 (.loop [0, 17, 18] (J_word_May_j2)))))
     (J_word_May_j1)))))⟩
theorem J_word_May_ok : chkFn Try.prog 79 J_word_May = true := by kernel_rfl

/-- attorney/word.Len -/
def J_word_Len : AFn :=
  ⟨6, [.t 2], .seq (.ops [⟨some 2, none, .mv (.c (.int .i64 0)), none⟩])
   (.keep [0] (.seq (.ops [⟨some 3, none, .mv (.t 0), none⟩,
      ⟨some 4, none, .lens (.t 3), none⟩,
      ⟨some 5, none, .bin .quo (.t 4) (.c (.int .i64 2)), none⟩,
      ⟨some 2, none, .mv (.t 5), none⟩])
    (.ret)))⟩
theorem J_word_Len_ok : chkFn Try.prog 81 J_word_Len = true := by kernel_rfl

/- behind: Q -/
def J_ref02_May_j1 : ACode :=
  .keep [0, 3] (.seq (.ops [⟨some 18, none, .mv (.t 0), none⟩,
      ⟨some 19, none, .lens (.t 18), none⟩,
      ⟨some 20, none, .bin .rem (.t 19) (.c (.int .i64 2)), none⟩,
      ⟨some 21, none, .bin .eql (.t 20) (.c (.int .i64 0)), none⟩,
      ⟨some 22, none, .mv (.t 21), none⟩,
      ⟨some 23, (some (22, true)), .mv (.t 3), none⟩,
      ⟨some 24, (some (22, true)), .lenl (.t 23), none⟩,
      ⟨some 25, (some (22, true)), .bin .geq (.t 24) (.c (.int .i64 1)), none⟩,
      ⟨some 26, none, .pick (.t 22) (.t 25) (.c (.bool false)), none⟩,
      ⟨some 27, none, .mv (.t 26), none⟩,
      ⟨some 28, (some (27, true)), .mv (.t 3), none⟩,
      ⟨some 29, (some (27, true)), .lenl (.t 28), none⟩,
      ⟨some 30, (some (27, true)), .bin .leq (.t 29) (.c (.int .i64 8)), none⟩,
      ⟨some 31, none, .pick (.t 27) (.t 30) (.c (.bool false)), none⟩,
      ⟨some 2, none, .mv (.t 31), none⟩])
      (.ret))

/- behind: Q = kloop [0, 3, 4] I n (kblock 0 (kseq P (J_ref02_May_j1) Q)) -/
def J_ref02_May_j2 : ACode :=
  .seq (.seq (.ops [⟨some 7, none, .mv (.t 4), none⟩,
      ⟨some 8, none, .mv (.t 3), none⟩,
      ⟨some 9, none, .lenl (.t 8), none⟩,
      ⟨some 10, none, .bin .lss (.t 7) (.t 9), none⟩])
          (.keep [0, 3, 4, 10] (.cond (.t 10)
           (.skip)
           (.exit 0))))
         (.keep [0, 3, 4] (.seq (.block 1 (.seq (.ops [⟨some 13, none, .mv (.t 3), none⟩,
      ⟨some 14, none, .mv (.t 4), none⟩,
      ⟨some 15, none, .idxa 1 (.t 13) (.t 14), none⟩,
      ⟨some 16, none, .load none (.t 15), none⟩,
      ⟨some 17, none, .bin .eql (.t 16) (.c (.int .u16 0)), none⟩])
            (.keep [0, 3, 4, 17] (.cond (.t 17)
             (.seq (.ops [⟨some 2, none, .mv (.c (.bool false)), none⟩])
              (.ret))
             (.skip)))))
          (.keep [0, 3, 4] (.ops [⟨some 11, none, .mv (.t 4), none⟩,
      ⟨some 12, none, .bin .add (.t 11) (.c (.int .i64 1)), none⟩,
      ⟨some 4, none, .mv (.t 12), none⟩]))))

/-- attorney/attorneyref02.May -/
def J_ref02_May : AFn :=
  ⟨32, [.t 2], .seq (.ops [⟨some 2, none, .mv (.c (.bool false)), none⟩])
   (.keep [0] (.seq (.ops [⟨some 5, none, .mv (.t 0), none⟩,
      ⟨some 6, none, .call (.f 111) [(.t 5)], none⟩,
      ⟨some 3, none, .mv (.t 6), none⟩])
    (.keep [0, 3] (.seq (.seq (.ops [⟨some 4, none, .mv (.c (.int .i64 0)), none⟩])
      (.keep [0, 3, 4] (.block 0 (.loop [0, 3, 4] (J_ref02_May_j2)))))
     (J_ref02_May_j1)))))⟩
theorem J_ref02_May_ok : chkFn Try.prog 84 J_ref02_May = true := by kernel_rfl

/- behind: Q -/
def J_slices_Equal_api_Set_api_Word_j1 : ACode :=
  .keep [] (.seq (.ops [⟨some 4, none, .mv (.c (.bool true)), none⟩])
      (.ret))

/- behind: Q = kloop [0, 1, 12, 13] I n (kblock 0 (kseq P (J_slices_Equal_api_Set_api_Word_j1) Q)) -/
def J_slices_Equal_api_Set_api_Word_j2 : ACode :=
  .seq (.ops [⟨some 14, none, .bin .lss (.t 13) (.t 12), none⟩])
         (.keep [0, 1, 12, 13, 14] (.seq (.cond (.t 14)
           (.skip)
           (.exit 0))
          (.keep [0, 1, 12, 13] (.seq (.block 1 (.seq (.ops [⟨some 15, none, .mv (.t 13), none⟩,
      ⟨some 5, none, .mv (.t 15), none⟩])
             (.keep [0, 1, 5, 12, 13] (.seq (.draw [0, 1, 12, 13, 24] [⟨some 16, none, .mv (.t 0), none⟩,
      ⟨some 17, none, .mv (.t 5), none⟩,
      ⟨some 18, none, .idxa 1 (.t 16) (.t 17), none⟩,
      ⟨some 19, none, .load none (.t 18), none⟩,
      ⟨some 20, none, .mv (.t 1), none⟩,
      ⟨some 21, none, .mv (.t 5), none⟩,
      ⟨some 22, none, .idxa 1 (.t 20) (.t 21), none⟩,
      ⟨some 23, none, .load none (.t 22), none⟩,
      ⟨some 24, none, .bin .neq (.t 19) (.t 23), none⟩])
              (.keep [0, 1, 12, 13, 24] (.cond (.t 24)
               (.seq (.ops [⟨some 4, none, .mv (.c (.bool false)), none⟩])
                (.ret))
               (.skip)))))))
           (.keep [0, 1, 12, 13] (.ops [⟨some 25, none, .bin .add (.t 13) (.c (.int .i64 1)), none⟩,
      ⟨some 13, none, .mv (.t 25), none⟩]))))))

/-- slices.Equal[attorney/api.Set,attorney/api.Word] -/
def J_slices_Equal_api_Set_api_Word : AFn :=
  ⟨26, [.t 4], .seq (.ops [⟨some 4, none, .mv (.c (.bool false)), none⟩])
   (.keep [0, 1] (.seq (.seq (.ops [⟨some 6, none, .mv (.t 0), none⟩,
      ⟨some 7, none, .lenl (.t 6), none⟩,
      ⟨some 8, none, .mv (.t 1), none⟩,
      ⟨some 9, none, .lenl (.t 8), none⟩,
      ⟨some 10, none, .bin .neq (.t 7) (.t 9), none⟩])
     (.keep [0, 1, 10] (.cond (.t 10)
      (.seq (.ops [⟨some 4, none, .mv (.c (.bool false)), none⟩])
       (.ret))
      (.skip))))
    (.keep [0, 1] (.seq (.seq (.ops [⟨some 11, none, .mv (.t 0), none⟩,
      ⟨some 12, none, .lenl (.t 11), none⟩,
      ⟨some 13, none, .mv (.c (.int .i64 0)), none⟩])
      (.keep [0, 1, 12, 13] (.block 0 (.loop [0, 1, 12, 13] (J_slices_Equal_api_Set_api_Word_j2)))))
     (J_slices_Equal_api_Set_api_Word_j1)))))⟩
theorem J_slices_Equal_api_Set_api_Word_ok : chkFn Try.prog 89 J_slices_Equal_api_Set_api_Word = true := by kernel_rfl

/- behind: Q -/
def J_ref03_Quote_j1 : ACode :=
  .keep [6] (.seq (.ops [⟨some 52, none, .mv (.t 6), none⟩,
      ⟨some 53, none, .call (.f 113) [(.t 52)], none⟩,
      ⟨some 54, none, .call (.f 116) [(.t 53)], none⟩,
      ⟨some 55, none, .ext 0 (.t 54), none⟩,
      ⟨some 56, none, .ext 1 (.t 54), none⟩,
      ⟨some 4, none, .mv (.t 55), none⟩,
      ⟨some 5, none, .mv (.t 56), none⟩])
       (.ret))

/- behind: Q -/
def J_ref03_Quote_j2 : ACode :=
  .keep [0, 1, 6, 7] (.ops [⟨some 24, none, .mv (.t 7), none⟩,
      ⟨some 25, none, .bin .add (.t 24) (.c (.int .i64 1)), none⟩,
      ⟨some 7, none, .mv (.t 25), none⟩])

/- behind: Q = kloop [0, 1, 6, 7, 8] I n (kblock 2 (kblock 1 (kseq P (J_ref03_Quote_j2) Q))) -/
def J_ref03_Quote_j3 : ACode :=
  .seq (.seq (.ops [⟨some 26, none, .mv (.t 8), none⟩,
      ⟨some 27, none, .mv (.t 1), none⟩,
      ⟨some 28, none, .lenl (.t 27), none⟩,
      ⟨some 29, none, .bin .lss (.t 26) (.t 28), none⟩])
                 (.keep [0, 1, 6, 7, 8, 29] (.cond (.t 29)
                  (.skip)
                  (.exit 2))))
                (.keep [0, 1, 6, 7, 8] (.seq (.block 3 (.seq (.draw [0, 1, 6, 7, 8, 9, 10] [⟨some 33, none, .mv (.t 0), none⟩,
      ⟨some 34, none, .mv (.t 7), none⟩,
      ⟨some 35, none, .idxa 1 (.t 33) (.t 34), none⟩,
      ⟨some 36, none, .load none (.t 35), none⟩,
      ⟨some 37, none, .mv (.t 1), none⟩,
      ⟨some 38, none, .mv (.t 8), none⟩,
      ⟨some 39, none, .idxa 1 (.t 37) (.t 38), none⟩,
      ⟨some 40, none, .load none (.t 39), none⟩,
      ⟨some 41, none, .bsl 44 1 2 [(.str ⟨#[]⟩), (.str ⟨#[]⟩)] [(0, 1, (.t 36)), (1, 1, (.t 40))], none⟩,
      ⟨some 42, none, .call (.f 115) [(.t 41)], none⟩,
      ⟨some 32, none, .mv (.t 42), none⟩,
      ⟨some 43, none, .ext 0 (.t 32), none⟩,
      ⟨some 44, none, .ext 1 (.t 32), none⟩,
      ⟨some 9, none, .mv (.t 43), none⟩,
      ⟨some 10, none, .mv (.t 44), none⟩])
                   (.keep [0, 1, 6, 7, 8, 9, 10] (.seq (.seq (.ops [⟨some 45, none, .mv (.t 10), none⟩,
      ⟨some 46, none, .bin .neq (.t 45) (.c (.int .i64 0)), none⟩])
                     (.keep [0, 1, 6, 7, 8, 9, 10, 46] (.cond (.t 46)
                      (.seq (.ops [⟨some 47, none, .mv (.t 10), none⟩,
      ⟨some 4, none, .mv (.c (.lst .clip 0 [])), none⟩,
      ⟨some 5, none, .mv (.t 47), none⟩])
                       (.ret))
                      (.skip))))
                    (.keep [0, 1, 6, 7, 8, 9] (.ops [⟨some 48, none, .mvo 6, none⟩,
      ⟨some 49, none, .mv (.t 9), none⟩,
      ⟨some 50, none, .bsl 44 1 1 [(.str ⟨#[]⟩)] [(0, 1, (.t 49))], none⟩,
      ⟨some 51, none, .appo 44 1 16 48 (.t 50), none⟩,
      ⟨some 6, none, .mvo 51, none⟩]))))))
                 (.keep [0, 1, 6, 7, 8] (.ops [⟨some 30, none, .mv (.t 8), none⟩,
      ⟨some 31, none, .bin .add (.t 30) (.c (.int .i64 1)), none⟩,
      ⟨some 8, none, .mv (.t 31), none⟩]))))

/- behind: Q = kloop [0, 1, 6, 7] I n (kblock 0 (kseq P (J_ref03_Quote_j1) Q)) -/
def J_ref03_Quote_j4 : ACode :=
  .seq (.seq (.ops [⟨some 20, none, .mv (.t 7), none⟩,
      ⟨some 21, none, .mv (.t 0), none⟩,
      ⟨some 22, none, .lenl (.t 21), none⟩,
      ⟨some 23, none, .bin .lss (.t 20) (.t 22), none⟩])
           (.keep [0, 1, 6, 7, 23] (.cond (.t 23)
            (.skip)
            (.exit 0))))
          (.keep [0, 1, 6, 7] (.seq (.block 1 (.seq (.ops [⟨some 8, none, .mv (.c (.int .i64 0)), none⟩])
             (.keep [0, 1, 6, 7, 8] (.block 2 (.loop [0, 1, 6, 7, 8] (J_ref03_Quote_j3))))))
           (J_ref03_Quote_j2)))

/-- attorney/attorneyref03.Quote -/
def J_ref03_Quote : AFn :=
  ⟨57, [.t 4, .t 5], .seq (.ops [⟨some 4, none, .mv (.c (.lst .clip 0 [])), none⟩,
      ⟨some 5, none, .mv (.c (.int .i64 0)), none⟩])
   (.keep [0, 1] (.seq (.seq (.ops [⟨some 11, none, .mv (.t 0), none⟩,
      ⟨some 12, none, .call (.f 61) [(.t 11)], none⟩,
      ⟨some 13, none, .not (.t 12), none⟩,
      ⟨some 14, none, .mv (.t 13), none⟩,
      ⟨some 15, (some (14, false)), .mv (.t 1), none⟩,
      ⟨some 16, (some (14, false)), .call (.f 61) [(.t 15)], none⟩,
      ⟨some 17, (some (14, false)), .not (.t 16), none⟩,
      ⟨some 18, none, .pick (.t 14) (.c (.bool true)) (.t 17), none⟩])
     (.keep [0, 1, 18] (.cond (.t 18)
      (.seq (.ops [⟨some 4, none, .mv (.c (.lst .clip 0 [])), none⟩,
      ⟨some 5, none, .mv (.c (.int .i64 2)), none⟩])
       (.ret))
      (.skip))))
    (.keep [0, 1] (.seq (.ops [⟨some 19, none, .bsl 44 1 0 [] [], none⟩,
      ⟨some 6, none, .mvo 19, none⟩])
     (.keep [0, 1, 6] (.seq (.seq (.ops [⟨some 7, none, .mv (.c (.int .i64 0)), none⟩])
       (.keep [0, 1, 6, 7] (.block 0 (.loop [0, 1, 6, 7] (J_ref03_Quote_j4)))))
      (J_ref03_Quote_j1)))))))⟩
theorem J_ref03_Quote_ok : chkFn Try.prog 90 J_ref03_Quote = true := by kernel_rfl

/-- attorney/attorneyref03.And -/
def J_ref03_And : AFn :=
  ⟨23, [.t 4, .t 5], .seq (.ops [⟨some 4, none, .mv (.c (.lst .clip 0 [])), none⟩,
      ⟨some 5, none, .mv (.c (.int .i64 0)), none⟩])
   (.keep [0, 1] (.seq (.seq (.ops [⟨some 6, none, .mv (.t 0), none⟩,
      ⟨some 7, none, .call (.f 61) [(.t 6)], none⟩,
      ⟨some 8, none, .not (.t 7), none⟩,
      ⟨some 9, none, .mv (.t 8), none⟩,
      ⟨some 10, (some (9, false)), .mv (.t 1), none⟩,
      ⟨some 11, (some (9, false)), .call (.f 61) [(.t 10)], none⟩,
      ⟨some 12, (some (9, false)), .not (.t 11), none⟩,
      ⟨some 13, none, .pick (.t 9) (.c (.bool true)) (.t 12), none⟩])
     (.keep [0, 1, 13] (.cond (.t 13)
      (.seq (.ops [⟨some 4, none, .mv (.c (.lst .clip 0 [])), none⟩,
      ⟨some 5, none, .mv (.c (.int .i64 2)), none⟩])
       (.ret))
      (.skip))))
    (.keep [0, 1] (.seq (.ops [⟨some 14, none, .bsl 44 1 0 [] [], none⟩,
      ⟨some 15, none, .mv (.t 0), none⟩,
      ⟨some 16, none, .appo 44 1 16 14 (.t 15), none⟩,
      ⟨some 17, none, .mv (.t 1), none⟩,
      ⟨some 18, none, .appo 44 1 16 16 (.t 17), none⟩,
      ⟨some 19, none, .call (.f 113) [(.t 18)], none⟩,
      ⟨some 20, none, .call (.f 116) [(.t 19)], none⟩,
      ⟨some 21, none, .ext 0 (.t 20), none⟩,
      ⟨some 22, none, .ext 1 (.t 20), none⟩,
      ⟨some 4, none, .mv (.t 21), none⟩,
      ⟨some 5, none, .mv (.t 22), none⟩])
     (.ret)))))⟩
theorem J_ref03_And_ok : chkFn Try.prog 91 J_ref03_And = true := by kernel_rfl

/-- attorney/word.Less -/
def J_word_Less : AFn :=
  ⟨18, [.t 4], .seq (.ops [⟨some 4, none, .mv (.c (.bool false)), none⟩])
   (.keep [0, 1] (.seq (.seq (.ops [⟨some 5, none, .mv (.t 0), none⟩,
      ⟨some 6, none, .lens (.t 5), none⟩,
      ⟨some 7, none, .mv (.t 1), none⟩,
      ⟨some 8, none, .lens (.t 7), none⟩,
      ⟨some 9, none, .bin .neq (.t 6) (.t 8), none⟩])
     (.keep [0, 1, 9] (.cond (.t 9)
      (.seq (.ops [⟨some 10, none, .mv (.t 0), none⟩,
      ⟨some 11, none, .lens (.t 10), none⟩,
      ⟨some 12, none, .mv (.t 1), none⟩,
      ⟨some 13, none, .lens (.t 12), none⟩,
      ⟨some 14, none, .bin .lss (.t 11) (.t 13), none⟩,
      ⟨some 4, none, .mv (.t 14), none⟩])
       (.ret))
      (.skip))))
    (.keep [0, 1] (.seq (.ops [⟨some 15, none, .mv (.t 0), none⟩,
      ⟨some 16, none, .mv (.t 1), none⟩,
      ⟨some 17, none, .bin .lss (.t 15) (.t 16), none⟩,
      ⟨some 4, none, .mv (.t 17), none⟩])
     (.ret)))))⟩
theorem J_word_Less_ok : chkFn Try.prog 98 J_word_Less = true := by kernel_rfl

/- behind: Q -/
def J_ref02_Less_j1 : ACode :=
  .keep [] (.seq (.ops [⟨some 4, none, .mv (.c (.bool false)), none⟩])
      (.ret))

/- behind: Q = kloop [0, 1, 5] I n (kblock 0 (kseq P (J_ref02_Less_j1) Q)) -/
def J_ref02_Less_j2 : ACode :=
  .seq (.seq (.ops [⟨some 16, none, .mv (.t 5), none⟩,
      ⟨some 17, none, .mv (.t 0), none⟩,
      ⟨some 18, none, .lens (.t 17), none⟩,
      ⟨some 19, none, .bin .lss (.t 16) (.t 18), none⟩])
          (.keep [0, 1, 5, 19] (.cond (.t 19)
           (.skip)
           (.exit 0))))
         (.keep [0, 1, 5] (.seq (.block 1 (.seq (.draw [0, 1, 5, 28] [⟨some 22, none, .mv (.t 0), none⟩,
      ⟨some 23, none, .mv (.t 5), none⟩,
      ⟨some 24, none, .idxs (.t 22) (.t 23), none⟩,
      ⟨some 25, none, .mv (.t 1), none⟩,
      ⟨some 26, none, .mv (.t 5), none⟩,
      ⟨some 27, none, .idxs (.t 25) (.t 26), none⟩,
      ⟨some 28, none, .bin .neq (.t 24) (.t 27), none⟩])
            (.keep [0, 1, 5, 28] (.cond (.t 28)
             (.seq (.draw [4] [⟨some 29, none, .mv (.t 0), none⟩,
      ⟨some 30, none, .mv (.t 5), none⟩,
      ⟨some 31, none, .idxs (.t 29) (.t 30), none⟩,
      ⟨some 32, none, .mv (.t 1), none⟩,
      ⟨some 33, none, .mv (.t 5), none⟩,
      ⟨some 34, none, .idxs (.t 32) (.t 33), none⟩,
      ⟨some 35, none, .bin .lss (.t 31) (.t 34), none⟩,
      ⟨some 4, none, .mv (.t 35), none⟩])
              (.ret))
             (.skip)))))
          (.keep [0, 1, 5] (.ops [⟨some 20, none, .mv (.t 5), none⟩,
      ⟨some 21, none, .bin .add (.t 20) (.c (.int .i64 1)), none⟩,
      ⟨some 5, none, .mv (.t 21), none⟩]))))

/-- attorney/attorneyref02.Less -/
def J_ref02_Less : AFn :=
  ⟨36, [.t 4], .seq (.ops [⟨some 4, none, .mv (.c (.bool false)), none⟩])
   (.keep [0, 1] (.seq (.seq (.ops [⟨some 6, none, .mv (.t 0), none⟩,
      ⟨some 7, none, .lens (.t 6), none⟩,
      ⟨some 8, none, .mv (.t 1), none⟩,
      ⟨some 9, none, .lens (.t 8), none⟩,
      ⟨some 10, none, .bin .neq (.t 7) (.t 9), none⟩])
     (.keep [0, 1, 10] (.cond (.t 10)
      (.seq (.ops [⟨some 11, none, .mv (.t 0), none⟩,
      ⟨some 12, none, .lens (.t 11), none⟩,
      ⟨some 13, none, .mv (.t 1), none⟩,
      ⟨some 14, none, .lens (.t 13), none⟩,
      ⟨some 15, none, .bin .lss (.t 12) (.t 14), none⟩,
      ⟨some 4, none, .mv (.t 15), none⟩])
       (.ret))
      (.skip))))
    (.keep [0, 1] (.seq (.seq (.ops [⟨some 5, none, .mv (.c (.int .i64 0)), none⟩])
      (.keep [0, 1, 5] (.block 0 (.loop [0, 1, 5] (J_ref02_Less_j2)))))
     (J_ref02_Less_j1)))))⟩
theorem J_ref02_Less_ok : chkFn Try.prog 99 J_ref02_Less = true := by kernel_rfl

/-- slices.Contains[[]int,int] -/
def J_slices_Contains_int_int : AFn :=
  ⟨9, [.t 4], .seq (.ops [⟨some 4, none, .mv (.c (.bool false)), none⟩])
   (.keep [0, 1] (.seq (.ops [⟨some 5, none, .mv (.t 0), none⟩,
      ⟨some 6, none, .mv (.t 1), none⟩,
      ⟨some 7, none, .call (.f 120) [(.t 5), (.t 6)], none⟩,
      ⟨some 8, none, .bin .geq (.t 7) (.c (.int .i64 0)), none⟩,
      ⟨some 4, none, .mv (.t 8), none⟩])
    (.ret)))⟩
theorem J_slices_Contains_int_int_ok : chkFn Try.prog 105 J_slices_Contains_int_int = true := by kernel_rfl

/-- attorney/word.odd -/
def J_word_odd : AFn :=
  ⟨7, [.t 2], .seq (.ops [⟨some 2, none, .mv (.c (.bool false)), none⟩])
   (.keep [0] (.seq (.ops [⟨some 3, none, .mv (.t 0), none⟩,
      ⟨some 4, none, .lens (.t 3), none⟩,
      ⟨some 5, none, .bin .rem (.t 4) (.c (.int .i64 2)), none⟩,
      ⟨some 6, none, .bin .neq (.t 5) (.c (.int .i64 0)), none⟩,
      ⟨some 2, none, .mv (.t 6), none⟩])
    (.ret)))⟩
theorem J_word_odd_ok : chkFn Try.prog 106 J_word_odd = true := by kernel_rfl

/-- attorney/word.At -/
def J_word_At : AFn :=
  ⟨26, [.t 4], .seq (.ops [⟨some 4, none, .mv (.c (.int .u16 0)), none⟩])
   (.keep [0, 1] (.seq (.seq (.ops [⟨some 5, none, .mv (.t 1), none⟩,
      ⟨some 6, none, .bin .lss (.t 5) (.c (.int .i64 0)), none⟩,
      ⟨some 7, none, .mv (.t 6), none⟩,
      ⟨some 8, (some (7, false)), .mv (.t 1), none⟩,
      ⟨some 9, (some (7, false)), .mv (.t 0), none⟩,
      ⟨some 10, (some (7, false)), .call (.f 81) [(.t 9)], none⟩,
      ⟨some 11, (some (7, false)), .bin .geq (.t 8) (.t 10), none⟩,
      ⟨some 12, none, .pick (.t 7) (.c (.bool true)) (.t 11), none⟩])
     (.keep [0, 1, 12] (.cond (.t 12)
      (.seq (.ops [⟨some 4, none, .mv (.c (.int .u16 0)), none⟩])
       (.ret))
      (.skip))))
    (.keep [0, 1] (.seq (.draw [4] [⟨some 13, none, .mv (.t 0), none⟩,
      ⟨some 14, none, .mv (.t 1), none⟩,
      ⟨some 15, none, .bin .mul (.c (.int .i64 2)) (.t 14), none⟩,
      ⟨some 16, none, .idxs (.t 13) (.t 15), none⟩,
      ⟨some 17, none, .conv .u16 (.t 16), none⟩,
      ⟨some 18, none, .bin .shl (.t 17) (.c (.int .u64 8)), none⟩,
      ⟨some 19, none, .mv (.t 0), none⟩,
      ⟨some 20, none, .mv (.t 1), none⟩,
      ⟨some 21, none, .bin .mul (.c (.int .i64 2)) (.t 20), none⟩,
      ⟨some 22, none, .bin .add (.t 21) (.c (.int .i64 1)), none⟩,
      ⟨some 23, none, .idxs (.t 19) (.t 22), none⟩,
      ⟨some 24, none, .conv .u16 (.t 23), none⟩,
      ⟨some 25, none, .bin .or (.t 18) (.t 24), none⟩,
      ⟨some 4, none, .mv (.t 25), none⟩])
     (.ret)))))⟩
theorem J_word_At_ok : chkFn Try.prog 107 J_word_At = true := by kernel_rfl

/- behind: Q -/
def J_word_Of_j1 : ACode :=
  .keep [3] (.seq (.ops [⟨some 25, none, .mv (.t 3), none⟩,
      ⟨some 26, none, .b2s (.t 25), none⟩,
      ⟨some 2, none, .mv (.t 26), none⟩])
      (.ret))

/- behind: Q = kloop [3, 10, 11, 12] I n (kblock 0 (kseq P (J_word_Of_j1) Q)) -/
def J_word_Of_j2 : ACode :=
  .seq (.ops [⟨some 13, none, .bin .lss (.t 12) (.t 11), none⟩])
         (.keep [3, 10, 11, 12, 13] (.seq (.cond (.t 13)
           (.skip)
           (.exit 0))
          (.keep [3, 10, 11, 12] (.seq (.block 1 (.seq (.ops [⟨some 14, none, .idxa 1 (.t 10) (.t 12), none⟩,
      ⟨some 15, none, .load none (.t 14), none⟩,
      ⟨some 5, none, .mv (.t 15), none⟩])
             (.keep [3, 5, 10, 11, 12] (.ops [⟨some 16, none, .mvo 3, none⟩,
      ⟨some 17, none, .mv (.t 5), none⟩,
      ⟨some 18, none, .bin .shr (.t 17) (.c (.int .u64 8)), none⟩,
      ⟨some 19, none, .conv .u8 (.t 18), none⟩,
      ⟨some 20, none, .mv (.t 5), none⟩,
      ⟨some 21, none, .conv .u8 (.t 20), none⟩,
      ⟨some 22, none, .bsl 5 1 2 [(.int .u8 0), (.int .u8 0)] [(0, 1, (.t 19)), (1, 1, (.t 21))], none⟩,
      ⟨some 23, none, .appo 5 1 1 16 (.t 22), none⟩,
      ⟨some 3, none, .mvo 23, none⟩]))))
           (.keep [3, 10, 11, 12] (.ops [⟨some 24, none, .bin .add (.t 12) (.c (.int .i64 1)), none⟩,
      ⟨some 12, none, .mv (.t 24), none⟩]))))))

/-- attorney/word.Of -/
def J_word_Of : AFn :=
  ⟨27, [.t 2], .seq (.ops [⟨some 2, none, .mv (.c (.str ⟨#[]⟩)), none⟩])
   (.keep [0] (.seq (.ops [⟨some 6, none, .mv (.t 0), none⟩,
      ⟨some 7, none, .lenl (.t 6), none⟩,
      ⟨some 8, none, .bin .mul (.c (.int .i64 2)) (.t 7), none⟩,
      ⟨some 9, none, .mk0 5 1 1 (.t 8), none⟩,
      ⟨some 3, none, .mvo 9, none⟩])
    (.keep [0, 3] (.seq (.seq (.ops [⟨some 10, none, .mv (.t 0), none⟩,
      ⟨some 11, none, .lenl (.t 10), none⟩,
      ⟨some 12, none, .mv (.c (.int .i64 0)), none⟩])
      (.keep [3, 10, 11, 12] (.block 0 (.loop [3, 10, 11, 12] (J_word_Of_j2)))))
     (J_word_Of_j1)))))⟩
theorem J_word_Of_ok : chkFn Try.prog 110 J_word_Of = true := by kernel_rfl

/- behind: Q -/
def J_ref02_Atoms_j1 : ACode :=
  .keep [3] (.seq (.ops [⟨some 27, none, .mv (.t 3), none⟩,
      ⟨some 2, none, .mv (.t 27), none⟩])
      (.ret))

/- behind: Q = kloop [0, 3, 4] I n (kblock 0 (kseq P (J_ref02_Atoms_j1) Q)) -/
def J_ref02_Atoms_j2 : ACode :=
  .seq (.seq (.ops [⟨some 6, none, .mv (.t 4), none⟩,
      ⟨some 7, none, .bin .add (.t 6) (.c (.int .i64 1)), none⟩,
      ⟨some 8, none, .mv (.t 0), none⟩,
      ⟨some 9, none, .lens (.t 8), none⟩,
      ⟨some 10, none, .bin .lss (.t 7) (.t 9), none⟩])
          (.keep [0, 3, 4, 10] (.cond (.t 10)
           (.skip)
           (.exit 0))))
         (.keep [0, 3, 4] (.seq (.block 1 (.draw [0, 3, 4] [⟨some 13, none, .mvo 3, none⟩,
      ⟨some 14, none, .mv (.t 0), none⟩,
      ⟨some 15, none, .mv (.t 4), none⟩,
      ⟨some 16, none, .idxs (.t 14) (.t 15), none⟩,
      ⟨some 17, none, .conv .u16 (.t 16), none⟩,
      ⟨some 18, none, .bin .mul (.t 17) (.c (.int .u16 256)), none⟩,
      ⟨some 19, none, .mv (.t 0), none⟩,
      ⟨some 20, none, .mv (.t 4), none⟩,
      ⟨some 21, none, .bin .add (.t 20) (.c (.int .i64 1)), none⟩,
      ⟨some 22, none, .idxs (.t 19) (.t 21), none⟩,
      ⟨some 23, none, .conv .u16 (.t 22), none⟩,
      ⟨some 24, none, .bin .add (.t 18) (.t 23), none⟩,
      ⟨some 25, none, .bsl 54 1 1 [(.int .u16 0)] [(0, 1, (.t 24))], none⟩,
      ⟨some 26, none, .appo 54 1 2 13 (.t 25), none⟩,
      ⟨some 3, none, .mvo 26, none⟩]))
          (.keep [0, 3, 4] (.ops [⟨some 11, none, .mv (.t 4), none⟩,
      ⟨some 12, none, .bin .add (.t 11) (.c (.int .i64 2)), none⟩,
      ⟨some 4, none, .mv (.t 12), none⟩]))))

/-- attorney/attorneyref02.Atoms -/
def J_ref02_Atoms : AFn :=
  ⟨28, [.t 2], .seq (.ops [⟨some 2, none, .mv (.c (.lst .clip 0 [])), none⟩])
   (.keep [0] (.seq (.ops [⟨some 5, none, .bsl 54 1 0 [] [], none⟩,
      ⟨some 3, none, .mvo 5, none⟩])
    (.keep [0, 3] (.seq (.seq (.ops [⟨some 4, none, .mv (.c (.int .i64 0)), none⟩])
      (.keep [0, 3, 4] (.block 0 (.loop [0, 3, 4] (J_ref02_Atoms_j2)))))
     (J_ref02_Atoms_j1)))))⟩
theorem J_ref02_Atoms_ok : chkFn Try.prog 111 J_ref02_Atoms = true := by kernel_rfl

/- behind: (kblock 1 Q) -/
def J_ref03_Right_j1 : ACode :=
  .keep [0, 3, 4, 5] (.seq (.seq (.ops [⟨some 48, none, .mv (.t 5), none⟩,
      ⟨some 49, none, .not (.t 48), none⟩])
            (.keep [0, 3, 4, 49] (.cond (.t 49)
             (.seq (.ops [⟨some 50, none, .mv (.t 3), none⟩,
      ⟨some 2, none, .mv (.t 50), none⟩])
              (.ret))
             (.skip))))
           (.keep [0, 3, 4] (.ops [⟨some 51, none, .mvo 3, none⟩,
      ⟨some 52, none, .mv (.t 4), none⟩,
      ⟨some 53, none, .bsl 44 1 1 [(.str ⟨#[]⟩)] [(0, 1, (.t 52))], none⟩,
      ⟨some 54, none, .appo 44 1 16 51 (.t 53), none⟩,
      ⟨some 3, none, .mvo 54, none⟩])))

/- behind: Q -/
def J_ref03_Right_j2 : ACode :=
  .keep [0, 3, 4, 5, 6] (.ops [⟨some 13, none, .mv (.t 6), none⟩,
      ⟨some 14, none, .bin .add (.t 13) (.c (.int .i64 1)), none⟩,
      ⟨some 6, none, .mv (.t 14), none⟩])

/- behind: Q = kloop [0, 3, 4, 5, 6] I n (kblock 2 (kseq P (J_ref03_Right_j1) (kblock 1 Q))) -/
def J_ref03_Right_j3 : ACode :=
  .seq (.seq (.ops [⟨some 9, none, .mv (.t 6), none⟩,
      ⟨some 10, none, .mv (.t 0), none⟩,
      ⟨some 11, none, .lenl (.t 10), none⟩,
      ⟨some 12, none, .bin .lss (.t 9) (.t 11), none⟩])
               (.keep [0, 3, 4, 5, 6, 12] (.cond (.t 12)
                (.skip)
                (.exit 2))))
              (.keep [0, 3, 4, 5, 6] (.seq (.block 3 (.seq (.draw [0, 3, 4, 5, 6, 7] [⟨some 15, none, .mv (.t 3), none⟩,
      ⟨some 16, none, .lenl (.t 15), none⟩,
      ⟨some 17, none, .bin .eql (.t 16) (.c (.int .i64 0)), none⟩,
      ⟨some 18, none, .mv (.t 17), none⟩,
      ⟨some 19, (some (18, false)), .mv (.t 3), none⟩,
      ⟨some 20, (some (18, false)), .mv (.t 3), none⟩,
      ⟨some 21, (some (18, false)), .lenl (.t 20), none⟩,
      ⟨some 22, (some (18, false)), .bin .sub (.t 21) (.c (.int .i64 1)), none⟩,
      ⟨some 23, (some (18, false)), .idxa 1 (.t 19) (.t 22), none⟩,
      ⟨some 24, (some (18, false)), .load none (.t 23), none⟩,
      ⟨some 25, (some (18, false)), .mv (.t 0), none⟩,
      ⟨some 26, (some (18, false)), .mv (.t 6), none⟩,
      ⟨some 27, (some (18, false)), .idxa 1 (.t 25) (.t 26), none⟩,
      ⟨some 28, (some (18, false)), .load none (.t 27), none⟩,
      ⟨some 29, (some (18, false)), .call (.f 99) [(.t 24), (.t 28)], none⟩,
      ⟨some 30, none, .pick (.t 18) (.c (.bool true)) (.t 29), none⟩,
      ⟨some 7, none, .mv (.t 30), none⟩])
                 (.keep [0, 3, 4, 5, 6, 7] (.seq (.ops [⟨some 31, none, .mv (.t 7), none⟩,
      ⟨some 32, none, .mv (.t 31), none⟩,
      ⟨some 33, (some (32, true)), .mv (.t 5), none⟩,
      ⟨some 34, (some (32, true)), .not (.t 33), none⟩,
      ⟨some 35, (some (32, true)), .mv (.t 34), none⟩,
      ⟨some 36, (some (35, false)), .mv (.t 0), none⟩,
      ⟨some 37, (some (35, false)), .mv (.t 6), none⟩,
      ⟨some 38, (some (35, false)), .idxa 1 (.t 36) (.t 37), none⟩,
      ⟨some 39, (some (35, false)), .load none (.t 38), none⟩,
      ⟨some 40, (some (35, false)), .mv (.t 4), none⟩,
      ⟨some 41, (some (35, false)), .call (.f 99) [(.t 39), (.t 40)], none⟩,
      ⟨some 42, (some (32, true)), .pick (.t 35) (.c (.bool true)) (.t 41), none⟩,
      ⟨some 43, none, .pick (.t 32) (.t 42) (.c (.bool false)), none⟩])
                  (.keep [0, 3, 4, 5, 6, 43] (.cond (.t 43)
                   (.seq (.ops [⟨some 44, none, .mv (.t 0), none⟩,
      ⟨some 45, none, .mv (.t 6), none⟩,
      ⟨some 46, none, .idxa 1 (.t 44) (.t 45), none⟩,
      ⟨some 47, none, .load none (.t 46), none⟩,
      ⟨some 4, none, .mv (.t 47), none⟩])
                    (.keep [0, 3, 4, 6] (.ops [⟨some 5, none, .mv (.c (.bool true)), none⟩])))
                   (.skip)))))))
               (J_ref03_Right_j2)))

/- behind: Q = kloop [0, 3] I n (kblock 0 Q) -/
def J_ref03_Right_j4 : ACode :=
  .block 1 (.seq (.ops [⟨some 4, none, .mv (.c (.str ⟨#[]⟩)), none⟩])
        (.keep [0, 3, 4] (.seq (.ops [⟨some 5, none, .mv (.c (.bool false)), none⟩])
         (.keep [0, 3, 4, 5] (.seq (.seq (.ops [⟨some 6, none, .mv (.c (.int .i64 0)), none⟩])
           (.keep [0, 3, 4, 5, 6] (.block 2 (.loop [0, 3, 4, 5, 6] (J_ref03_Right_j3)))))
          (J_ref03_Right_j1))))))

/-- attorney/attorneyref03.Right -/
def J_ref03_Right : AFn :=
  ⟨55, [.t 2], .seq (.ops [⟨some 2, none, .mv (.c (.lst .clip 0 [])), none⟩])
   (.keep [0] (.seq (.ops [⟨some 8, none, .bsl 44 1 0 [] [], none⟩,
      ⟨some 3, none, .mvo 8, none⟩])
    (.keep [0, 3] (.block 0 (.loop [0, 3] (J_ref03_Right_j4))))))⟩
theorem J_ref03_Right_ok : chkFn Try.prog 113 J_ref03_Right = true := by kernel_rfl

/- behind: Q -/
def J_ref02_Cat_j1 : ACode :=
  .keep [4] (.seq (.ops [⟨some 37, none, .mv (.t 4), none⟩,
      ⟨some 38, none, .call (.f 49) [(.t 37)], none⟩,
      ⟨some 2, none, .mv (.t 38), none⟩,
      ⟨some 3, none, .mv (.c (.int .i64 0)), none⟩])
       (.ret))

/- behind: Q = kloop [0, 4, 6] I n (kblock 2 (kseq P (J_ref02_Cat_j1) Q)) -/
def J_ref02_Cat_j2 : ACode :=
  .seq (.seq (.ops [⟨some 21, none, .mv (.t 6), none⟩,
      ⟨some 22, none, .mv (.t 0), none⟩,
      ⟨some 23, none, .lenl (.t 22), none⟩,
      ⟨some 24, none, .bin .lss (.t 21) (.t 23), none⟩])
           (.keep [0, 4, 6, 24] (.cond (.t 24)
            (.skip)
            (.exit 2))))
          (.keep [0, 4, 6] (.seq (.block 3 (.seq (.ops [⟨some 27, none, .mvo 4, none⟩,
      ⟨some 28, none, .mv (.t 0), none⟩,
      ⟨some 29, none, .mv (.t 6), none⟩,
      ⟨some 30, none, .idxa 1 (.t 28) (.t 29), none⟩,
      ⟨some 31, none, .load none (.t 30), none⟩,
      ⟨some 32, none, .call (.f 111) [(.t 31)], none⟩,
      ⟨some 33, none, .appo 54 1 2 27 (.t 32), none⟩,
      ⟨some 4, none, .mvo 33, none⟩])
             (.keep [0, 4, 6] (.seq (.ops [⟨some 34, none, .mv (.t 4), none⟩,
      ⟨some 35, none, .lenl (.t 34), none⟩,
      ⟨some 36, none, .bin .gtr (.t 35) (.c (.int .i64 8)), none⟩])
              (.keep [0, 4, 6, 36] (.cond (.t 36)
               (.seq (.ops [⟨some 2, none, .mv (.c (.str ⟨#[]⟩)), none⟩,
      ⟨some 3, none, .mv (.c (.int .i64 4)), none⟩])
                (.ret))
               (.skip)))))))
           (.keep [0, 4, 6] (.ops [⟨some 25, none, .mv (.t 6), none⟩,
      ⟨some 26, none, .bin .add (.t 25) (.c (.int .i64 1)), none⟩,
      ⟨some 6, none, .mv (.t 26), none⟩]))))

/- behind: Q -/
def J_ref02_Cat_j3 : ACode :=
  .keep [0, 4] (.seq (.seq (.ops [⟨some 6, none, .mv (.c (.int .i64 0)), none⟩])
       (.keep [0, 4, 6] (.block 2 (.loop [0, 4, 6] (J_ref02_Cat_j2)))))
      (J_ref02_Cat_j1))

/- behind: Q = kloop [0, 4, 5] I n (kblock 0 (kseq P (J_ref02_Cat_j3) Q)) -/
def J_ref02_Cat_j4 : ACode :=
  .seq (.seq (.ops [⟨some 8, none, .mv (.t 5), none⟩,
      ⟨some 9, none, .mv (.t 0), none⟩,
      ⟨some 10, none, .lenl (.t 9), none⟩,
      ⟨some 11, none, .bin .lss (.t 8) (.t 10), none⟩])
          (.keep [0, 4, 5, 11] (.cond (.t 11)
           (.skip)
           (.exit 0))))
         (.keep [0, 4, 5] (.seq (.block 1 (.seq (.ops [⟨some 14, none, .mv (.t 0), none⟩,
      ⟨some 15, none, .mv (.t 5), none⟩,
      ⟨some 16, none, .idxa 1 (.t 14) (.t 15), none⟩,
      ⟨some 17, none, .load none (.t 16), none⟩,
      ⟨some 18, none, .lens (.t 17), none⟩,
      ⟨some 19, none, .bin .rem (.t 18) (.c (.int .i64 2)), none⟩,
      ⟨some 20, none, .bin .eql (.t 19) (.c (.int .i64 1)), none⟩])
            (.keep [0, 4, 5, 20] (.cond (.t 20)
             (.seq (.ops [⟨some 2, none, .mv (.c (.str ⟨#[]⟩)), none⟩,
      ⟨some 3, none, .mv (.c (.int .i64 2)), none⟩])
              (.ret))
             (.skip)))))
          (.keep [0, 4, 5] (.ops [⟨some 12, none, .mv (.t 5), none⟩,
      ⟨some 13, none, .bin .add (.t 12) (.c (.int .i64 1)), none⟩,
      ⟨some 5, none, .mv (.t 13), none⟩]))))

/-- attorney/attorneyref02.Cat -/
def J_ref02_Cat : AFn :=
  ⟨39, [.t 2, .t 3], .seq (.ops [⟨some 2, none, .mv (.c (.str ⟨#[]⟩)), none⟩,
      ⟨some 3, none, .mv (.c (.int .i64 0)), none⟩])
   (.keep [0] (.seq (.ops [⟨some 7, none, .bsl 54 1 0 [] [], none⟩,
      ⟨some 4, none, .mvo 7, none⟩])
    (.keep [0, 4] (.seq (.seq (.ops [⟨some 5, none, .mv (.c (.int .i64 0)), none⟩])
      (.keep [0, 4, 5] (.block 0 (.loop [0, 4, 5] (J_ref02_Cat_j4)))))
     (J_ref02_Cat_j3)))))⟩
theorem J_ref02_Cat_ok : chkFn Try.prog 115 J_ref02_Cat = true := by kernel_rfl

/-- attorney/attorneyref03.bound -/
def J_ref03_bound : AFn :=
  ⟨13, [.t 2, .t 3], .seq (.ops [⟨some 2, none, .mv (.c (.lst .clip 0 [])), none⟩,
      ⟨some 3, none, .mv (.c (.int .i64 0)), none⟩])
   (.keep [0] (.seq (.seq (.ops [⟨some 4, none, .mv (.t 0), none⟩,
      ⟨some 5, none, .lenl (.t 4), none⟩,
      ⟨some 6, none, .bin .lss (.t 5) (.c (.int .i64 1)), none⟩,
      ⟨some 7, none, .mv (.t 6), none⟩,
      ⟨some 8, (some (7, false)), .mv (.t 0), none⟩,
      ⟨some 9, (some (7, false)), .lenl (.t 8), none⟩,
      ⟨some 10, (some (7, false)), .bin .gtr (.t 9) (.c (.int .i64 16)), none⟩,
      ⟨some 11, none, .pick (.t 7) (.c (.bool true)) (.t 10), none⟩])
     (.keep [0, 11] (.cond (.t 11)
      (.seq (.ops [⟨some 2, none, .mv (.c (.lst .clip 0 [])), none⟩,
      ⟨some 3, none, .mv (.c (.int .i64 3)), none⟩])
       (.ret))
      (.skip))))
    (.keep [0] (.seq (.ops [⟨some 12, none, .mv (.t 0), none⟩,
      ⟨some 2, none, .mv (.t 12), none⟩,
      ⟨some 3, none, .mv (.c (.int .i64 0)), none⟩])
     (.ret)))))⟩
theorem J_ref03_bound_ok : chkFn Try.prog 116 J_ref03_bound = true := by kernel_rfl

/- behind: Q -/
def J_slices_IndexFunc_api_Entry_api_Entry_j1 : ACode :=
  .keep [] (.seq (.ops [⟨some 4, none, .mv (.c (.int .i64 (-1))), none⟩])
     (.ret))

/- behind: Q = kloop [0, 1, 7, 8] I n (kblock 0 (kseq P (J_slices_IndexFunc_api_Entry_api_Entry_j1) Q)) -/
def J_slices_IndexFunc_api_Entry_api_Entry_j2 : ACode :=
  .seq (.ops [⟨some 9, none, .bin .lss (.t 8) (.t 7), none⟩])
        (.keep [0, 1, 7, 8, 9] (.seq (.cond (.t 9)
          (.skip)
          (.exit 0))
         (.keep [0, 1, 7, 8] (.seq (.block 1 (.seq (.ops [⟨some 10, none, .mv (.t 8), none⟩,
      ⟨some 5, none, .mv (.t 10), none⟩])
            (.keep [0, 1, 5, 7, 8] (.seq (.ops [⟨some 11, none, .mv (.t 1), none⟩,
      ⟨some 12, none, .mv (.t 0), none⟩,
      ⟨some 13, none, .mv (.t 5), none⟩,
      ⟨some 14, none, .idxa 2 (.t 12) (.t 13), none⟩,
      ⟨some 15, none, .load (some 2) (.t 14), none⟩,
      ⟨some 16, none, .call (.t 11) [(.t 15)], none⟩])
             (.keep [0, 1, 5, 7, 8, 16] (.cond (.t 16)
              (.seq (.ops [⟨some 17, none, .mv (.t 5), none⟩,
      ⟨some 4, none, .mv (.t 17), none⟩])
               (.ret))
              (.skip)))))))
          (.keep [0, 1, 7, 8] (.ops [⟨some 18, none, .bin .add (.t 8) (.c (.int .i64 1)), none⟩,
      ⟨some 8, none, .mv (.t 18), none⟩]))))))

/-- slices.IndexFunc[[]attorney/api.Entry,attorney/api.Entry] -/
def J_slices_IndexFunc_api_Entry_api_Entry : AFn :=
  ⟨19, [.t 4], .seq (.ops [⟨some 4, none, .mv (.c (.int .i64 0)), none⟩])
   (.keep [0, 1] (.seq (.seq (.ops [⟨some 6, none, .mv (.t 0), none⟩,
      ⟨some 7, none, .lenl (.t 6), none⟩,
      ⟨some 8, none, .mv (.c (.int .i64 0)), none⟩])
     (.keep [0, 1, 7, 8] (.block 0 (.loop [0, 1, 7, 8] (J_slices_IndexFunc_api_Entry_api_Entry_j2)))))
    (J_slices_IndexFunc_api_Entry_api_Entry_j1)))⟩
theorem J_slices_IndexFunc_api_Entry_api_Entry_ok : chkFn Try.prog 117 J_slices_IndexFunc_api_Entry_api_Entry = true := by kernel_rfl

/-- slices.Clone[attorney/api.Set,attorney/api.Word] -/
def J_slices_Clone_api_Set_api_Word : AFn :=
  ⟨8, [.t 2], .seq (.ops [⟨some 2, none, .mv (.c (.lst .clip 0 [])), none⟩])
   (.keep [0] (.seq (.seq (.ops [⟨some 3, none, .mv (.t 0), none⟩,
      ⟨some 4, none, .bin .eql (.t 3) (.c (.lst .clip 0 [])), none⟩])
     (.keep [0, 4] (.cond (.t 4)
      (.seq (.ops [⟨some 2, none, .mv (.c (.lst .clip 0 [])), none⟩])
       (.ret))
      (.skip))))
    (.keep [0] (.seq (.ops [⟨some 5, none, .bsl 44 1 0 [] [], none⟩,
      ⟨some 6, none, .mv (.t 0), none⟩,
      ⟨some 7, none, .appo 44 1 16 5 (.t 6), none⟩,
      ⟨some 2, none, .mvo 7, none⟩])
     (.ret)))))⟩
theorem J_slices_Clone_api_Set_api_Word_ok : chkFn Try.prog 119 J_slices_Clone_api_Set_api_Word = true := by kernel_rfl

/- behind: Q -/
def J_slices_Index_int_int_j1 : ACode :=
  .keep [] (.seq (.ops [⟨some 4, none, .mv (.c (.int .i64 (-1))), none⟩])
     (.ret))

/- behind: Q = kloop [0, 1, 7, 8] I n (kblock 0 (kseq P (J_slices_Index_int_int_j1) Q)) -/
def J_slices_Index_int_int_j2 : ACode :=
  .seq (.ops [⟨some 9, none, .bin .lss (.t 8) (.t 7), none⟩])
        (.keep [0, 1, 7, 8, 9] (.seq (.cond (.t 9)
          (.skip)
          (.exit 0))
         (.keep [0, 1, 7, 8] (.seq (.block 1 (.seq (.ops [⟨some 10, none, .mv (.t 8), none⟩,
      ⟨some 5, none, .mv (.t 10), none⟩])
            (.keep [0, 1, 5, 7, 8] (.seq (.ops [⟨some 11, none, .mv (.t 1), none⟩,
      ⟨some 12, none, .mv (.t 0), none⟩,
      ⟨some 13, none, .mv (.t 5), none⟩,
      ⟨some 14, none, .idxa 1 (.t 12) (.t 13), none⟩,
      ⟨some 15, none, .load none (.t 14), none⟩,
      ⟨some 16, none, .bin .eql (.t 11) (.t 15), none⟩])
             (.keep [0, 1, 5, 7, 8, 16] (.cond (.t 16)
              (.seq (.ops [⟨some 17, none, .mv (.t 5), none⟩,
      ⟨some 4, none, .mv (.t 17), none⟩])
               (.ret))
              (.skip)))))))
          (.keep [0, 1, 7, 8] (.ops [⟨some 18, none, .bin .add (.t 8) (.c (.int .i64 1)), none⟩,
      ⟨some 8, none, .mv (.t 18), none⟩]))))))

/-- slices.Index[[]int,int] -/
def J_slices_Index_int_int : AFn :=
  ⟨19, [.t 4], .seq (.ops [⟨some 4, none, .mv (.c (.int .i64 0)), none⟩])
   (.keep [0, 1] (.seq (.seq (.ops [⟨some 6, none, .mv (.t 0), none⟩,
      ⟨some 7, none, .lenl (.t 6), none⟩,
      ⟨some 8, none, .mv (.c (.int .i64 0)), none⟩])
     (.keep [0, 1, 7, 8] (.block 0 (.loop [0, 1, 7, 8] (J_slices_Index_int_int_j2)))))
    (J_slices_Index_int_int_j1)))⟩
theorem J_slices_Index_int_int_ok : chkFn Try.prog 120 J_slices_Index_int_int = true := by kernel_rfl

/-- attorney/word.Swap -/
def J_word_Swap : AFn :=
  ⟨42, [.t 8, .t 9], .seq (.ops [⟨some 8, none, .mv (.c (.str ⟨#[]⟩)), none⟩,
      ⟨some 9, none, .mv (.c (.int .i64 0)), none⟩])
   (.keep [0, 1, 2, 3] (.seq (.seq (.ops [⟨some 10, none, .mv (.t 0), none⟩,
      ⟨some 11, none, .call (.f 106) [(.t 10)], none⟩,
      ⟨some 12, none, .mv (.t 11), none⟩,
      ⟨some 13, (some (12, false)), .mv (.t 3), none⟩,
      ⟨some 14, (some (12, false)), .call (.f 106) [(.t 13)], none⟩,
      ⟨some 15, none, .pick (.t 12) (.c (.bool true)) (.t 14), none⟩])
     (.keep [0, 1, 2, 3, 15] (.cond (.t 15)
      (.seq (.ops [⟨some 8, none, .mv (.c (.str ⟨#[]⟩)), none⟩,
      ⟨some 9, none, .mv (.c (.int .i64 2)), none⟩])
       (.ret))
      (.skip))))
    (.keep [0, 1, 2, 3] (.seq (.seq (.ops [⟨some 16, none, .mv (.t 0), none⟩,
      ⟨some 17, none, .mv (.t 1), none⟩,
      ⟨some 18, none, .mv (.t 2), none⟩,
      ⟨some 19, none, .call (.f 124) [(.t 16), (.t 17), (.t 18)], none⟩,
      ⟨some 20, none, .not (.t 19), none⟩])
      (.keep [0, 1, 2, 3, 20] (.cond (.t 20)
       (.seq (.ops [⟨some 8, none, .mv (.c (.str ⟨#[]⟩)), none⟩,
      ⟨some 9, none, .mv (.c (.int .i64 5)), none⟩])
        (.ret))
       (.skip))))
     (.keep [0, 1, 2, 3] (.seq (.seq (.ops [⟨some 21, none, .mv (.t 0), none⟩,
      ⟨some 22, none, .call (.f 81) [(.t 21)], none⟩,
      ⟨some 23, none, .mv (.t 2), none⟩,
      ⟨some 24, none, .bin .sub (.t 22) (.t 23), none⟩,
      ⟨some 25, none, .mv (.t 3), none⟩,
      ⟨some 26, none, .call (.f 81) [(.t 25)], none⟩,
      ⟨some 27, none, .bin .add (.t 24) (.t 26), none⟩,
      ⟨some 28, none, .bin .gtr (.t 27) (.c (.int .i64 8)), none⟩])
       (.keep [0, 1, 2, 3, 28] (.cond (.t 28)
        (.seq (.ops [⟨some 8, none, .mv (.c (.str ⟨#[]⟩)), none⟩,
      ⟨some 9, none, .mv (.c (.int .i64 4)), none⟩])
         (.ret))
        (.skip))))
      (.keep [0, 1, 2, 3] (.seq (.draw [8, 9] [⟨some 29, none, .mv (.t 0), none⟩,
      ⟨some 30, none, .mv (.t 1), none⟩,
      ⟨some 31, none, .bin .mul (.c (.int .i64 2)) (.t 30), none⟩,
      ⟨some 32, none, .slcs (.t 29) none (some (.t 31)), none⟩,
      ⟨some 33, none, .mv (.t 3), none⟩,
      ⟨some 34, none, .bin .add (.t 32) (.t 33), none⟩,
      ⟨some 35, none, .mv (.t 0), none⟩,
      ⟨some 36, none, .mv (.t 1), none⟩,
      ⟨some 37, none, .mv (.t 2), none⟩,
      ⟨some 38, none, .bin .add (.t 36) (.t 37), none⟩,
      ⟨some 39, none, .bin .mul (.c (.int .i64 2)) (.t 38), none⟩,
      ⟨some 40, none, .slcs (.t 35) (some (.t 39)) none, none⟩,
      ⟨some 41, none, .bin .add (.t 34) (.t 40), none⟩,
      ⟨some 8, none, .mv (.t 41), none⟩,
      ⟨some 9, none, .mv (.c (.int .i64 0)), none⟩])
       (.ret)))))))))⟩
theorem J_word_Swap_ok : chkFn Try.prog 121 J_word_Swap = true := by kernel_rfl

/- behind: Q -/
def J_set_Of_j1 : ACode :=
  .keep [0] (.seq (.ops [⟨some 17, none, .mv (.t 0), none⟩,
      ⟨some 18, none, .call (.f 125) [(.t 17)], none⟩,
      ⟨some 6, none, .mv (.t 18), none⟩])
     (.keep [6] (.seq (.ops [⟨some 19, none, .mv (.t 6), none⟩,
      ⟨some 20, none, .call (.f 126) [(.t 19), (.f 127)], none⟩])
      (.keep [6] (.seq (.ops [⟨some 21, none, .mv (.t 6), none⟩,
      ⟨some 22, none, .call (.f 128) [(.t 21)], none⟩,
      ⟨some 6, none, .mv (.t 22), none⟩])
       (.keep [6] (.seq (.seq (.ops [⟨some 23, none, .mv (.t 6), none⟩,
      ⟨some 24, none, .lenl (.t 23), none⟩,
      ⟨some 25, none, .bin .lss (.t 24) (.c (.int .i64 1)), none⟩,
      ⟨some 26, none, .mv (.t 25), none⟩,
      ⟨some 27, (some (26, false)), .mv (.t 6), none⟩,
      ⟨some 28, (some (26, false)), .lenl (.t 27), none⟩,
      ⟨some 29, (some (26, false)), .bin .gtr (.t 28) (.c (.int .i64 16)), none⟩,
      ⟨some 30, none, .pick (.t 26) (.c (.bool true)) (.t 29), none⟩])
         (.keep [6, 30] (.cond (.t 30)
          (.seq (.ops [⟨some 2, none, .mv (.c (.lst .clip 0 [])), none⟩,
      ⟨some 3, none, .mv (.c (.int .i64 3)), none⟩])
           (.ret))
          (.skip))))
        (.keep [6] (.seq (.ops [⟨some 31, none, .mv (.t 6), none⟩,
      ⟨some 32, none, .call (.f 129) [(.t 31)], none⟩,
      ⟨some 2, none, .mv (.t 32), none⟩,
      ⟨some 3, none, .mv (.c (.int .i64 0)), none⟩])
         (.ret))))))))))

/- behind: Q = kloop [0, 7, 8, 9] I n (kblock 0 (kseq P (J_set_Of_j1) Q)) -/
def J_set_Of_j2 : ACode :=
  .seq (.ops [⟨some 10, none, .bin .lss (.t 9) (.t 8), none⟩])
        (.keep [0, 7, 8, 9, 10] (.seq (.cond (.t 10)
          (.skip)
          (.exit 0))
         (.keep [0, 7, 8, 9] (.seq (.block 1 (.seq (.ops [⟨some 11, none, .idxa 1 (.t 7) (.t 9), none⟩,
      ⟨some 12, none, .load none (.t 11), none⟩,
      ⟨some 5, none, .mv (.t 12), none⟩])
            (.keep [0, 5, 7, 8, 9] (.seq (.ops [⟨some 13, none, .mv (.t 5), none⟩,
      ⟨some 14, none, .call (.f 79) [(.t 13)], none⟩,
      ⟨some 15, none, .not (.t 14), none⟩])
             (.keep [0, 7, 8, 9, 15] (.cond (.t 15)
              (.seq (.ops [⟨some 2, none, .mv (.c (.lst .clip 0 [])), none⟩,
      ⟨some 3, none, .mv (.c (.int .i64 2)), none⟩])
               (.ret))
              (.skip)))))))
          (.keep [0, 7, 8, 9] (.ops [⟨some 16, none, .bin .add (.t 9) (.c (.int .i64 1)), none⟩,
      ⟨some 9, none, .mv (.t 16), none⟩]))))))

/-- attorney/set.Of -/
def J_set_Of : AFn :=
  ⟨33, [.t 2, .t 3], .seq (.ops [⟨some 2, none, .mv (.c (.lst .clip 0 [])), none⟩,
      ⟨some 3, none, .mv (.c (.int .i64 0)), none⟩])
   (.keep [0] (.seq (.seq (.ops [⟨some 7, none, .mv (.t 0), none⟩,
      ⟨some 8, none, .lenl (.t 7), none⟩,
      ⟨some 9, none, .mv (.c (.int .i64 0)), none⟩])
     (.keep [0, 7, 8, 9] (.block 0 (.loop [0, 7, 8, 9] (J_set_Of_j2)))))
    (J_set_Of_j1)))⟩
theorem J_set_Of_ok : chkFn Try.prog 122 J_set_Of = true := by kernel_rfl

/-- attorney/set.Same -/
def J_set_Same : AFn :=
  ⟨13, [.t 4], .seq (.ops [⟨some 4, none, .mv (.c (.bool false)), none⟩])
   (.keep [0, 1] (.seq (.ops [⟨some 5, none, .mv (.t 0), none⟩,
      ⟨some 6, none, .mv (.t 1), none⟩,
      ⟨some 7, none, .call (.f 130) [(.t 5), (.t 6)], none⟩,
      ⟨some 8, none, .mv (.t 7), none⟩,
      ⟨some 9, (some (8, true)), .mv (.t 1), none⟩,
      ⟨some 10, (some (8, true)), .mv (.t 0), none⟩,
      ⟨some 11, (some (8, true)), .call (.f 130) [(.t 9), (.t 10)], none⟩,
      ⟨some 12, none, .pick (.t 8) (.t 11) (.c (.bool false)), none⟩,
      ⟨some 4, none, .mv (.t 12), none⟩])
    (.ret)))⟩
theorem J_set_Same_ok : chkFn Try.prog 123 J_set_Same = true := by kernel_rfl

/-- attorney/word.within -/
def J_word_within : AFn :=
  ⟨27, [.t 6], .seq (.ops [⟨some 6, none, .mv (.c (.bool false)), none⟩])
   (.keep [0, 1, 2] (.seq (.ops [⟨some 7, none, .mv (.t 1), none⟩,
      ⟨some 8, none, .bin .geq (.t 7) (.c (.int .i64 0)), none⟩,
      ⟨some 9, none, .mv (.t 8), none⟩,
      ⟨some 10, (some (9, true)), .mv (.t 2), none⟩,
      ⟨some 11, (some (9, true)), .bin .geq (.t 10) (.c (.int .i64 0)), none⟩,
      ⟨some 12, none, .pick (.t 9) (.t 11) (.c (.bool false)), none⟩,
      ⟨some 13, none, .mv (.t 12), none⟩,
      ⟨some 14, (some (13, true)), .mv (.t 1), none⟩,
      ⟨some 15, (some (13, true)), .mv (.t 0), none⟩,
      ⟨some 16, (some (13, true)), .call (.f 81) [(.t 15)], none⟩,
      ⟨some 17, (some (13, true)), .bin .leq (.t 14) (.t 16), none⟩,
      ⟨some 18, none, .pick (.t 13) (.t 17) (.c (.bool false)), none⟩,
      ⟨some 19, none, .mv (.t 18), none⟩,
      ⟨some 20, (some (19, true)), .mv (.t 2), none⟩,
      ⟨some 21, (some (19, true)), .mv (.t 0), none⟩,
      ⟨some 22, (some (19, true)), .call (.f 81) [(.t 21)], none⟩,
      ⟨some 23, (some (19, true)), .mv (.t 1), none⟩,
      ⟨some 24, (some (19, true)), .bin .sub (.t 22) (.t 23), none⟩,
      ⟨some 25, (some (19, true)), .bin .leq (.t 20) (.t 24), none⟩,
      ⟨some 26, none, .pick (.t 19) (.t 25) (.c (.bool false)), none⟩,
      ⟨some 6, none, .mv (.t 26), none⟩])
    (.ret)))⟩
theorem J_word_within_ok : chkFn Try.prog 124 J_word_within = true := by kernel_rfl

/-- slices.Clone[[]attorney/api.Word,attorney/api.Word] -/
def J_slices_Clone_api_Word_api_Word : AFn :=
  ⟨8, [.t 2], .seq (.ops [⟨some 2, none, .mv (.c (.lst .clip 0 [])), none⟩])
   (.keep [0] (.seq (.seq (.ops [⟨some 3, none, .mv (.t 0), none⟩,
      ⟨some 4, none, .bin .eql (.t 3) (.c (.lst .clip 0 [])), none⟩])
     (.keep [0, 4] (.cond (.t 4)
      (.seq (.ops [⟨some 2, none, .mv (.c (.lst .clip 0 [])), none⟩])
       (.ret))
      (.skip))))
    (.keep [0] (.seq (.ops [⟨some 5, none, .bsl 44 1 0 [] [], none⟩,
      ⟨some 6, none, .mv (.t 0), none⟩,
      ⟨some 7, none, .appo 44 1 16 5 (.t 6), none⟩,
      ⟨some 2, none, .mvo 7, none⟩])
     (.ret)))))⟩
theorem J_slices_Clone_api_Word_api_Word_ok : chkFn Try.prog 125 J_slices_Clone_api_Word_api_Word = true := by kernel_rfl

/-- slices.SortFunc[[]attorney/api.Word,attorney/api.Word] -/
def J_slices_SortFunc_api_Word_api_Word : AFn :=
  ⟨14, [], .seq (.ops [⟨some 5, none, .mv (.t 0), none⟩,
      ⟨some 6, none, .lenl (.t 5), none⟩,
      ⟨some 4, none, .mv (.t 6), none⟩])
   (.keep [0, 1, 4] (.ops [⟨some 7, none, .mv (.t 0), none⟩,
      ⟨some 8, none, .mv (.t 4), none⟩,
      ⟨some 9, none, .mv (.t 4), none⟩,
      ⟨some 10, none, .conv .u64 (.t 9), none⟩,
      ⟨some 11, none, .call (.f 132) [(.t 10)], none⟩,
      ⟨some 12, none, .mv (.t 1), none⟩,
      ⟨some 13, none, .call (.f 131) [(.t 7), (.c (.int .i64 0)), (.t 8), (.t 11), (.t 12)], none⟩]))⟩
theorem J_slices_SortFunc_api_Word_api_Word_ok : chkFn Try.prog 126 J_slices_SortFunc_api_Word_api_Word = true := by kernel_rfl

/-- attorney/set.compare -/
def J_set_compare : AFn :=
  ⟨11, [.t 4], .seq (.ops [⟨some 4, none, .mv (.c (.int .i64 0)), none⟩])
   (.keep [0, 1] (.seq (.seq (.ops [⟨some 5, none, .mv (.t 0), none⟩,
      ⟨some 6, none, .mv (.t 1), none⟩,
      ⟨some 7, none, .call (.f 98) [(.t 5), (.t 6)], none⟩])
     (.keep [0, 1, 7] (.cond (.t 7)
      (.seq (.ops [⟨some 4, none, .mv (.c (.int .i64 (-1))), none⟩])
       (.ret))
      (.skip))))
    (.keep [0, 1] (.seq (.seq (.ops [⟨some 8, none, .mv (.t 1), none⟩,
      ⟨some 9, none, .mv (.t 0), none⟩,
      ⟨some 10, none, .call (.f 98) [(.t 8), (.t 9)], none⟩])
      (.keep [10] (.cond (.t 10)
       (.seq (.ops [⟨some 4, none, .mv (.c (.int .i64 1)), none⟩])
        (.ret))
       (.skip))))
     (.keep [] (.seq (.ops [⟨some 4, none, .mv (.c (.int .i64 0)), none⟩])
      (.ret)))))))⟩
theorem J_set_compare_ok : chkFn Try.prog 127 J_set_compare = true := by kernel_rfl

/-- slices.Clip[[]attorney/api.Word,attorney/api.Word] -/
def J_slices_Clip_api_Word_api_Word : AFn :=
  ⟨9, [.t 2], .seq (.ops [⟨some 2, none, .mv (.c (.lst .clip 0 [])), none⟩])
   (.keep [0] (.seq (.ops [⟨some 3, none, .mv (.t 0), none⟩,
      ⟨some 4, none, .mv (.t 0), none⟩,
      ⟨some 5, none, .lenl (.t 4), none⟩,
      ⟨some 6, none, .mv (.t 0), none⟩,
      ⟨some 7, none, .lenl (.t 6), none⟩,
      ⟨some 8, none, .slcl 1 (.t 3) none (some (.t 5)) (some (.t 7)), none⟩,
      ⟨some 2, none, .mv (.t 8), none⟩])
    (.ret)))⟩
theorem J_slices_Clip_api_Word_api_Word_ok : chkFn Try.prog 129 J_slices_Clip_api_Word_api_Word = true := by kernel_rfl

/- behind: (kblock 1 Q) -/
def J_slices_pdqsortCmpFunc_api_Word_j1 : ACode :=
  .keep [0, 1, 2, 3, 4, 10, 11, 12, 13] (.seq (.seq (.draw [0, 1, 2, 3, 4, 10, 11, 12, 13, 97] [⟨some 81, none, .mv (.t 1), none⟩,
      ⟨some 82, none, .bin .gtr (.t 81) (.c (.int .i64 0)), none⟩,
      ⟨some 83, none, .mv (.t 82), none⟩,
      ⟨some 84, (some (83, true)), .mv (.t 4), none⟩,
      ⟨some 85, (some (83, true)), .mv (.t 0), none⟩,
      ⟨some 86, (some (83, true)), .mv (.t 1), none⟩,
      ⟨some 87, (some (83, true)), .bin .sub (.t 86) (.c (.int .i64 1)), none⟩,
      ⟨some 88, (some (83, true)), .idxa 1 (.t 85) (.t 87), none⟩,
      ⟨some 89, (some (83, true)), .load none (.t 88), none⟩,
      ⟨some 90, (some (83, true)), .mv (.t 0), none⟩,
      ⟨some 91, (some (83, true)), .mv (.t 13), none⟩,
      ⟨some 92, (some (83, true)), .idxa 1 (.t 90) (.t 91), none⟩,
      ⟨some 93, (some (83, true)), .load none (.t 92), none⟩,
      ⟨some 94, (some (83, true)), .call (.t 84) [(.t 89), (.t 93)], none⟩,
      ⟨some 95, (some (83, true)), .bin .lss (.t 94) (.c (.int .i64 0)), none⟩,
      ⟨some 96, (some (83, true)), .not (.t 95), none⟩,
      ⟨some 97, none, .pick (.t 83) (.t 96) (.c (.bool false)), none⟩])
                (.keep [0, 1, 2, 3, 4, 10, 11, 12, 13, 97] (.cond (.t 97)
                 (.seq (.ops [⟨some 98, none, .mv (.t 0), none⟩,
      ⟨some 99, none, .mv (.t 1), none⟩,
      ⟨some 100, none, .mv (.t 2), none⟩,
      ⟨some 101, none, .mv (.t 13), none⟩,
      ⟨some 102, none, .mv (.t 4), none⟩,
      ⟨some 103, none, .call (.f 139) [(.t 98), (.t 99), (.t 100), (.t 101), (.t 102)], none⟩,
      ⟨some 15, none, .mv (.t 103), none⟩])
                  (.keep [0, 2, 3, 4, 10, 11, 15] (.seq (.ops [⟨some 104, none, .mv (.t 15), none⟩,
      ⟨some 1, none, .mv (.t 104), none⟩])
                   (.exit 1))))
                 (.skip))))
               (.keep [0, 1, 2, 3, 4, 12, 13] (.seq (.ops [⟨some 106, none, .mv (.t 0), none⟩,
      ⟨some 107, none, .mv (.t 1), none⟩,
      ⟨some 108, none, .mv (.t 2), none⟩,
      ⟨some 109, none, .mv (.t 13), none⟩,
      ⟨some 110, none, .mv (.t 4), none⟩,
      ⟨some 111, none, .call (.f 140) [(.t 106), (.t 107), (.t 108), (.t 109), (.t 110)], none⟩,
      ⟨some 105, none, .mv (.t 111), none⟩,
      ⟨some 112, none, .ext 0 (.t 105), none⟩,
      ⟨some 113, none, .ext 1 (.t 105), none⟩,
      ⟨some 16, none, .mv (.t 112), none⟩,
      ⟨some 17, none, .mv (.t 113), none⟩])
                (.keep [0, 1, 2, 3, 4, 12, 16, 17] (.seq (.ops [⟨some 114, none, .mv (.t 17), none⟩,
      ⟨some 11, none, .mv (.t 114), none⟩])
                 (.keep [0, 1, 2, 3, 4, 11, 12, 16] (.seq (.ops [⟨some 115, none, .mv (.t 16), none⟩,
      ⟨some 116, none, .mv (.t 1), none⟩,
      ⟨some 117, none, .bin .sub (.t 115) (.t 116), none⟩,
      ⟨some 118, none, .mv (.t 2), none⟩,
      ⟨some 119, none, .mv (.t 16), none⟩,
      ⟨some 120, none, .bin .sub (.t 118) (.t 119), none⟩,
      ⟨some 18, none, .mv (.t 117), none⟩,
      ⟨some 19, none, .mv (.t 120), none⟩])
                  (.keep [0, 1, 2, 3, 4, 11, 12, 16, 18, 19] (.seq (.ops [⟨some 121, none, .mv (.t 12), none⟩,
      ⟨some 122, none, .bin .quo (.t 121) (.c (.int .i64 8)), none⟩,
      ⟨some 20, none, .mv (.t 122), none⟩])
                   (.keep [0, 1, 2, 3, 4, 11, 16, 18, 19, 20] (.seq (.ops [⟨some 123, none, .mv (.t 18), none⟩,
      ⟨some 124, none, .mv (.t 19), none⟩,
      ⟨some 125, none, .bin .lss (.t 123) (.t 124), none⟩])
                    (.keep [0, 1, 2, 3, 4, 11, 16, 18, 19, 20, 125] (.cond (.t 125)
                     (.seq (.ops [⟨some 126, none, .mv (.t 18), none⟩,
      ⟨some 127, none, .mv (.t 20), none⟩,
      ⟨some 128, none, .bin .geq (.t 126) (.t 127), none⟩,
      ⟨some 10, none, .mv (.t 128), none⟩])
                      (.keep [0, 1, 2, 3, 4, 10, 11, 16] (.seq (.ops [⟨some 129, none, .mv (.t 0), none⟩,
      ⟨some 130, none, .mv (.t 1), none⟩,
      ⟨some 131, none, .mv (.t 16), none⟩,
      ⟨some 132, none, .mv (.t 3), none⟩,
      ⟨some 133, none, .mv (.t 4), none⟩,
      ⟨some 134, none, .call (.f 131) [(.t 129), (.t 130), (.t 131), (.t 132), (.t 133)], none⟩])
                       (.keep [0, 2, 3, 4, 10, 11, 16] (.ops [⟨some 135, none, .mv (.t 16), none⟩,
      ⟨some 136, none, .bin .add (.t 135) (.c (.int .i64 1)), none⟩,
      ⟨some 1, none, .mv (.t 136), none⟩])))))
                     (.seq (.ops [⟨some 137, none, .mv (.t 19), none⟩,
      ⟨some 138, none, .mv (.t 20), none⟩,
      ⟨some 139, none, .bin .geq (.t 137) (.t 138), none⟩,
      ⟨some 10, none, .mv (.t 139), none⟩])
                      (.keep [0, 1, 2, 3, 4, 10, 11, 16] (.seq (.ops [⟨some 140, none, .mv (.t 0), none⟩,
      ⟨some 141, none, .mv (.t 16), none⟩,
      ⟨some 142, none, .bin .add (.t 141) (.c (.int .i64 1)), none⟩,
      ⟨some 143, none, .mv (.t 2), none⟩,
      ⟨some 144, none, .mv (.t 3), none⟩,
      ⟨some 145, none, .mv (.t 4), none⟩,
      ⟨some 146, none, .call (.f 131) [(.t 140), (.t 142), (.t 143), (.t 144), (.t 145)], none⟩])
                       (.keep [0, 1, 3, 4, 10, 11, 16] (.ops [⟨some 147, none, .mv (.t 16), none⟩,
      ⟨some 2, none, .mv (.t 147), none⟩]))))))))))))))))))

/- behind: (kblock 1 Q) -/
def J_slices_pdqsortCmpFunc_api_Word_j2 : ACode :=
  .keep [0, 1, 2, 3, 4, 10, 11, 12, 13, 14] (.seq (.seq (.ops [⟨some 68, none, .mv (.t 10), none⟩,
      ⟨some 69, none, .mv (.t 68), none⟩,
      ⟨some 70, (some (69, true)), .mv (.t 11), none⟩,
      ⟨some 71, none, .pick (.t 69) (.t 70) (.c (.bool false)), none⟩,
      ⟨some 72, none, .mv (.t 71), none⟩,
      ⟨some 73, (some (72, true)), .mv (.t 14), none⟩,
      ⟨some 74, (some (72, true)), .bin .eql (.t 73) (.c (.int .i64 1)), none⟩,
      ⟨some 75, none, .pick (.t 72) (.t 74) (.c (.bool false)), none⟩])
               (.keep [0, 1, 2, 3, 4, 10, 11, 12, 13, 75] (.cond (.t 75)
                (.seq (.ops [⟨some 76, none, .mv (.t 0), none⟩,
      ⟨some 77, none, .mv (.t 1), none⟩,
      ⟨some 78, none, .mv (.t 2), none⟩,
      ⟨some 79, none, .mv (.t 4), none⟩,
      ⟨some 80, none, .call (.f 138) [(.t 76), (.t 77), (.t 78), (.t 79)], none⟩])
                 (.keep [0, 1, 2, 3, 4, 10, 11, 12, 13, 80] (.cond (.t 80)
                  (.ret)
                  (.skip))))
                (.skip))))
              (J_slices_pdqsortCmpFunc_api_Word_j1))

/- behind: (kblock 1 Q) -/
def J_slices_pdqsortCmpFunc_api_Word_j3 : ACode :=
  .keep [0, 1, 2, 3, 4, 10, 11, 12] (.seq (.ops [⟨some 48, none, .mv (.t 0), none⟩,
      ⟨some 49, none, .mv (.t 1), none⟩,
      ⟨some 50, none, .mv (.t 2), none⟩,
      ⟨some 51, none, .mv (.t 4), none⟩,
      ⟨some 52, none, .call (.f 136) [(.t 48), (.t 49), (.t 50), (.t 51)], none⟩,
      ⟨some 47, none, .mv (.t 52), none⟩,
      ⟨some 53, none, .ext 0 (.t 47), none⟩,
      ⟨some 54, none, .ext 1 (.t 47), none⟩,
      ⟨some 13, none, .mv (.t 53), none⟩,
      ⟨some 14, none, .mv (.t 54), none⟩])
            (.keep [0, 1, 2, 3, 4, 10, 11, 12, 13, 14] (.seq (.seq (.ops [⟨some 55, none, .mv (.t 14), none⟩,
      ⟨some 56, none, .bin .eql (.t 55) (.c (.int .i64 2)), none⟩])
              (.keep [0, 1, 2, 3, 4, 10, 11, 12, 13, 14, 56] (.cond (.t 56)
               (.seq (.ops [⟨some 57, none, .mv (.t 0), none⟩,
      ⟨some 58, none, .mv (.t 1), none⟩,
      ⟨some 59, none, .mv (.t 2), none⟩,
      ⟨some 60, none, .mv (.t 4), none⟩,
      ⟨some 61, none, .call (.f 137) [(.t 57), (.t 58), (.t 59), (.t 60)], none⟩])
                (.keep [0, 1, 2, 3, 4, 10, 11, 12, 13] (.seq (.ops [⟨some 62, none, .mv (.t 2), none⟩,
      ⟨some 63, none, .bin .sub (.t 62) (.c (.int .i64 1)), none⟩,
      ⟨some 64, none, .mv (.t 13), none⟩,
      ⟨some 65, none, .mv (.t 1), none⟩,
      ⟨some 66, none, .bin .sub (.t 64) (.t 65), none⟩,
      ⟨some 67, none, .bin .sub (.t 63) (.t 66), none⟩,
      ⟨some 13, none, .mv (.t 67), none⟩])
                 (.keep [0, 1, 2, 3, 4, 10, 11, 12, 13] (.ops [⟨some 14, none, .mv (.c (.int .i64 1)), none⟩])))))
               (.skip))))
             (J_slices_pdqsortCmpFunc_api_Word_j2))))

/- behind: Q = kloop [0, 1, 2, 3, 4, 10, 11] I n (kblock 0 Q) -/
def J_slices_pdqsortCmpFunc_api_Word_j4 : ACode :=
  .block 1 (.seq (.ops [⟨some 21, none, .mv (.t 2), none⟩,
      ⟨some 22, none, .mv (.t 1), none⟩,
      ⟨some 23, none, .bin .sub (.t 21) (.t 22), none⟩,
      ⟨some 12, none, .mv (.t 23), none⟩])
        (.keep [0, 1, 2, 3, 4, 10, 11, 12] (.seq (.seq (.ops [⟨some 24, none, .mv (.t 12), none⟩,
      ⟨some 25, none, .bin .leq (.t 24) (.c (.int .i64 12)), none⟩])
          (.keep [0, 1, 2, 3, 4, 10, 11, 12, 25] (.cond (.t 25)
           (.seq (.ops [⟨some 26, none, .mv (.t 0), none⟩,
      ⟨some 27, none, .mv (.t 1), none⟩,
      ⟨some 28, none, .mv (.t 2), none⟩,
      ⟨some 29, none, .mv (.t 4), none⟩,
      ⟨some 30, none, .call (.f 133) [(.t 26), (.t 27), (.t 28), (.t 29)], none⟩])
            (.ret))
           (.skip))))
         (.keep [0, 1, 2, 3, 4, 10, 11, 12] (.seq (.seq (.ops [⟨some 31, none, .mv (.t 3), none⟩,
      ⟨some 32, none, .bin .eql (.t 31) (.c (.int .i64 0)), none⟩])
           (.keep [0, 1, 2, 3, 4, 10, 11, 12, 32] (.cond (.t 32)
            (.seq (.ops [⟨some 33, none, .mv (.t 0), none⟩,
      ⟨some 34, none, .mv (.t 1), none⟩,
      ⟨some 35, none, .mv (.t 2), none⟩,
      ⟨some 36, none, .mv (.t 4), none⟩,
      ⟨some 37, none, .call (.f 134) [(.t 33), (.t 34), (.t 35), (.t 36)], none⟩])
             (.ret))
            (.skip))))
          (.keep [0, 1, 2, 3, 4, 10, 11, 12] (.seq (.seq (.ops [⟨some 38, none, .mv (.t 10), none⟩,
      ⟨some 39, none, .not (.t 38), none⟩])
            (.keep [0, 1, 2, 3, 4, 10, 11, 12, 39] (.cond (.t 39)
             (.seq (.ops [⟨some 40, none, .mv (.t 0), none⟩,
      ⟨some 41, none, .mv (.t 1), none⟩,
      ⟨some 42, none, .mv (.t 2), none⟩,
      ⟨some 43, none, .mv (.t 4), none⟩,
      ⟨some 44, none, .call (.f 135) [(.t 40), (.t 41), (.t 42), (.t 43)], none⟩])
              (.keep [0, 1, 2, 3, 4, 10, 11, 12] (.ops [⟨some 45, none, .mv (.t 3), none⟩,
      ⟨some 46, none, .bin .sub (.t 45) (.c (.int .i64 1)), none⟩,
      ⟨some 3, none, .mv (.t 46), none⟩])))
             (.skip))))
           (J_slices_pdqsortCmpFunc_api_Word_j3))))))))

/-- slices.pdqsortCmpFunc[attorney/api.Word] -/
def J_slices_pdqsortCmpFunc_api_Word : AFn :=
  ⟨148, [], .seq (.ops [⟨some 10, none, .mv (.c (.bool true)), none⟩])
   (.keep [0, 1, 2, 3, 4, 10] (.seq (.ops [⟨some 11, none, .mv (.c (.bool true)), none⟩])
    (.keep [0, 1, 2, 3, 4, 10, 11] (.block 0 (.loop [0, 1, 2, 3, 4, 10, 11] (J_slices_pdqsortCmpFunc_api_Word_j4))))))⟩
theorem J_slices_pdqsortCmpFunc_api_Word_ok : chkFn Try.prog 131 J_slices_pdqsortCmpFunc_api_Word = true := by kernel_rfl

/- behind: Q -/
def J_slices_insertionSortCmpFunc_api_Word_j1 : ACode :=
  .keep [0, 1, 2, 3, 8] (.ops [⟨some 15, none, .mv (.t 8), none⟩,
      ⟨some 16, none, .bin .add (.t 15) (.c (.int .i64 1)), none⟩,
      ⟨some 8, none, .mv (.t 16), none⟩])

/- behind: Q = kloop [0, 1, 2, 3, 8, 9] I n (kblock 2 (kblock 1 (kseq P (J_slices_insertionSortCmpFunc_api_Word_j1) Q))) -/
def J_slices_insertionSortCmpFunc_api_Word_j2 : ACode :=
  .seq (.seq (.draw [0, 1, 2, 3, 8, 9, 34] [⟨some 18, none, .mv (.t 9), none⟩,
      ⟨some 19, none, .mv (.t 1), none⟩,
      ⟨some 20, none, .bin .gtr (.t 18) (.t 19), none⟩,
      ⟨some 21, none, .mv (.t 20), none⟩,
      ⟨some 22, (some (21, true)), .mv (.t 3), none⟩,
      ⟨some 23, (some (21, true)), .mv (.t 0), none⟩,
      ⟨some 24, (some (21, true)), .mv (.t 9), none⟩,
      ⟨some 25, (some (21, true)), .idxa 1 (.t 23) (.t 24), none⟩,
      ⟨some 26, (some (21, true)), .load none (.t 25), none⟩,
      ⟨some 27, (some (21, true)), .mv (.t 0), none⟩,
      ⟨some 28, (some (21, true)), .mv (.t 9), none⟩,
      ⟨some 29, (some (21, true)), .bin .sub (.t 28) (.c (.int .i64 1)), none⟩,
      ⟨some 30, (some (21, true)), .idxa 1 (.t 27) (.t 29), none⟩,
      ⟨some 31, (some (21, true)), .load none (.t 30), none⟩,
      ⟨some 32, (some (21, true)), .call (.t 22) [(.t 26), (.t 31)], none⟩,
      ⟨some 33, (some (21, true)), .bin .lss (.t 32) (.c (.int .i64 0)), none⟩,
      ⟨some 34, none, .pick (.t 21) (.t 33) (.c (.bool false)), none⟩])
             (.keep [0, 1, 2, 3, 8, 9, 34] (.cond (.t 34)
              (.skip)
              (.exit 2))))
            (.keep [0, 1, 2, 3, 8, 9] (.seq (.block 3 (.draw [0, 1, 2, 3, 8, 9] [⟨some 37, none, .mv (.t 0), none⟩,
      ⟨some 38, none, .mv (.t 9), none⟩,
      ⟨some 39, none, .mv (.t 0), none⟩,
      ⟨some 40, none, .mv (.t 9), none⟩,
      ⟨some 41, none, .bin .sub (.t 40) (.c (.int .i64 1)), none⟩,
      ⟨some 42, none, .mv (.t 0), none⟩,
      ⟨some 43, none, .mv (.t 9), none⟩,
      ⟨some 44, none, .bin .sub (.t 43) (.c (.int .i64 1)), none⟩,
      ⟨some 45, none, .idxa 1 (.t 42) (.t 44), none⟩,
      ⟨some 46, none, .load none (.t 45), none⟩,
      ⟨some 47, none, .mv (.t 0), none⟩,
      ⟨some 48, none, .mv (.t 9), none⟩,
      ⟨some 49, none, .idxa 1 (.t 47) (.t 48), none⟩,
      ⟨some 50, none, .load none (.t 49), none⟩,
      ⟨some 51, none, .idxa 1 (.t 37) (.t 38), none⟩,
      ⟨none, none, .store 1 (.t 51) (.t 46), none⟩,
      ⟨some 52, none, .idxa 1 (.t 39) (.t 41), none⟩,
      ⟨none, none, .store 1 (.t 52) (.t 50), none⟩]))
             (.keep [0, 1, 2, 3, 8, 9] (.ops [⟨some 35, none, .mv (.t 9), none⟩,
      ⟨some 36, none, .bin .sub (.t 35) (.c (.int .i64 1)), none⟩,
      ⟨some 9, none, .mv (.t 36), none⟩]))))

/- behind: Q = kloop [0, 1, 2, 3, 8] I n (kblock 0 Q) -/
def J_slices_insertionSortCmpFunc_api_Word_j3 : ACode :=
  .seq (.seq (.ops [⟨some 12, none, .mv (.t 8), none⟩,
      ⟨some 13, none, .mv (.t 2), none⟩,
      ⟨some 14, none, .bin .lss (.t 12) (.t 13), none⟩])
       (.keep [0, 1, 2, 3, 8, 14] (.cond (.t 14)
        (.skip)
        (.exit 0))))
      (.keep [0, 1, 2, 3, 8] (.seq (.block 1 (.seq (.ops [⟨some 17, none, .mv (.t 8), none⟩,
      ⟨some 9, none, .mv (.t 17), none⟩])
         (.keep [0, 1, 2, 3, 8, 9] (.block 2 (.loop [0, 1, 2, 3, 8, 9] (J_slices_insertionSortCmpFunc_api_Word_j2))))))
       (J_slices_insertionSortCmpFunc_api_Word_j1)))

/-- slices.insertionSortCmpFunc[attorney/api.Word] -/
def J_slices_insertionSortCmpFunc_api_Word : AFn :=
  ⟨53, [], .seq (.ops [⟨some 10, none, .mv (.t 1), none⟩,
      ⟨some 11, none, .bin .add (.t 10) (.c (.int .i64 1)), none⟩,
      ⟨some 8, none, .mv (.t 11), none⟩])
   (.keep [0, 1, 2, 3, 8] (.block 0 (.loop [0, 1, 2, 3, 8] (J_slices_insertionSortCmpFunc_api_Word_j3))))⟩
theorem J_slices_insertionSortCmpFunc_api_Word_ok : chkFn Try.prog 133 J_slices_insertionSortCmpFunc_api_Word = true := by kernel_rfl

/- behind: Q = kloop [0, 3, 8, 9, 12] I n (kblock 2 Q) -/
def J_slices_heapSortCmpFunc_api_Word_j1 : ACode :=
  .seq (.seq (.ops [⟨some 32, none, .mv (.t 12), none⟩,
      ⟨some 33, none, .bin .geq (.t 32) (.c (.int .i64 0)), none⟩])
           (.keep [0, 3, 8, 9, 12, 33] (.cond (.t 33)
            (.skip)
            (.exit 2))))
          (.keep [0, 3, 8, 9, 12] (.seq (.block 3 (.seq (.draw [0, 3, 8, 9, 12] [⟨some 36, none, .mv (.t 0), none⟩,
      ⟨some 37, none, .mv (.t 8), none⟩,
      ⟨some 38, none, .mv (.t 0), none⟩,
      ⟨some 39, none, .mv (.t 8), none⟩,
      ⟨some 40, none, .mv (.t 12), none⟩,
      ⟨some 41, none, .bin .add (.t 39) (.t 40), none⟩,
      ⟨some 42, none, .mv (.t 0), none⟩,
      ⟨some 43, none, .mv (.t 8), none⟩,
      ⟨some 44, none, .mv (.t 12), none⟩,
      ⟨some 45, none, .bin .add (.t 43) (.t 44), none⟩,
      ⟨some 46, none, .idxa 1 (.t 42) (.t 45), none⟩,
      ⟨some 47, none, .load none (.t 46), none⟩,
      ⟨some 48, none, .mv (.t 0), none⟩,
      ⟨some 49, none, .mv (.t 8), none⟩,
      ⟨some 50, none, .idxa 1 (.t 48) (.t 49), none⟩,
      ⟨some 51, none, .load none (.t 50), none⟩,
      ⟨some 52, none, .idxa 1 (.t 36) (.t 37), none⟩,
      ⟨none, none, .store 1 (.t 52) (.t 47), none⟩,
      ⟨some 53, none, .idxa 1 (.t 38) (.t 41), none⟩,
      ⟨none, none, .store 1 (.t 53) (.t 51), none⟩])
             (.keep [0, 3, 8, 9, 12] (.ops [⟨some 54, none, .mv (.t 0), none⟩,
      ⟨some 55, none, .mv (.t 9), none⟩,
      ⟨some 56, none, .mv (.t 12), none⟩,
      ⟨some 57, none, .mv (.t 8), none⟩,
      ⟨some 58, none, .mv (.t 3), none⟩,
      ⟨some 59, none, .call (.f 143) [(.t 54), (.t 55), (.t 56), (.t 57), (.t 58)], none⟩]))))
           (.keep [0, 3, 8, 9, 12] (.ops [⟨some 34, none, .mv (.t 12), none⟩,
      ⟨some 35, none, .bin .sub (.t 34) (.c (.int .i64 1)), none⟩,
      ⟨some 12, none, .mv (.t 35), none⟩]))))

/- behind: Q -/
def J_slices_heapSortCmpFunc_api_Word_j2 : ACode :=
  .keep [0, 3, 8, 9, 10] (.seq (.ops [⟨some 30, none, .mv (.t 10), none⟩,
      ⟨some 31, none, .bin .sub (.t 30) (.c (.int .i64 1)), none⟩,
      ⟨some 12, none, .mv (.t 31), none⟩])
       (.keep [0, 3, 8, 9, 12] (.block 2 (.loop [0, 3, 8, 9, 12] (J_slices_heapSortCmpFunc_api_Word_j1)))))

/- behind: Q = kloop [0, 3, 8, 9, 10, 11] I n (kblock 0 (kseq P (J_slices_heapSortCmpFunc_api_Word_j2) Q)) -/
def J_slices_heapSortCmpFunc_api_Word_j3 : ACode :=
  .seq (.seq (.ops [⟨some 20, none, .mv (.t 11), none⟩,
      ⟨some 21, none, .bin .geq (.t 20) (.c (.int .i64 0)), none⟩])
           (.keep [0, 3, 8, 9, 10, 11, 21] (.cond (.t 21)
            (.skip)
            (.exit 0))))
          (.keep [0, 3, 8, 9, 10, 11] (.seq (.block 1 (.ops [⟨some 24, none, .mv (.t 0), none⟩,
      ⟨some 25, none, .mv (.t 11), none⟩,
      ⟨some 26, none, .mv (.t 10), none⟩,
      ⟨some 27, none, .mv (.t 8), none⟩,
      ⟨some 28, none, .mv (.t 3), none⟩,
      ⟨some 29, none, .call (.f 143) [(.t 24), (.t 25), (.t 26), (.t 27), (.t 28)], none⟩]))
           (.keep [0, 3, 8, 9, 10, 11] (.ops [⟨some 22, none, .mv (.t 11), none⟩,
      ⟨some 23, none, .bin .sub (.t 22) (.c (.int .i64 1)), none⟩,
      ⟨some 11, none, .mv (.t 23), none⟩]))))

/-- slices.heapSortCmpFunc[attorney/api.Word] -/
def J_slices_heapSortCmpFunc_api_Word : AFn :=
  ⟨60, [], .seq (.ops [⟨some 13, none, .mv (.t 1), none⟩,
      ⟨some 8, none, .mv (.t 13), none⟩])
   (.keep [0, 1, 2, 3, 8] (.seq (.ops [⟨some 9, none, .mv (.c (.int .i64 0)), none⟩])
    (.keep [0, 1, 2, 3, 8, 9] (.seq (.ops [⟨some 14, none, .mv (.t 2), none⟩,
      ⟨some 15, none, .mv (.t 1), none⟩,
      ⟨some 16, none, .bin .sub (.t 14) (.t 15), none⟩,
      ⟨some 10, none, .mv (.t 16), none⟩])
     (.keep [0, 3, 8, 9, 10] (.seq (.seq (.ops [⟨some 17, none, .mv (.t 10), none⟩,
      ⟨some 18, none, .bin .sub (.t 17) (.c (.int .i64 1)), none⟩,
      ⟨some 19, none, .bin .quo (.t 18) (.c (.int .i64 2)), none⟩,
      ⟨some 11, none, .mv (.t 19), none⟩])
       (.keep [0, 3, 8, 9, 10, 11] (.block 0 (.loop [0, 3, 8, 9, 10, 11] (J_slices_heapSortCmpFunc_api_Word_j3)))))
      (J_slices_heapSortCmpFunc_api_Word_j2)))))))⟩
theorem J_slices_heapSortCmpFunc_api_Word_ok : chkFn Try.prog 134 J_slices_heapSortCmpFunc_api_Word = true := by kernel_rfl

/- behind: (kblock 1 (kseq P _ Q)) -/
def J_slices_breakPatternsCmpFunc_api_Word_j1 : ACode :=
  .keep [0, 1, 8, 9, 10, 11, 12] (.draw [0, 1, 8, 9, 10, 11] [⟨some 49, none, .mv (.t 0), none⟩,
      ⟨some 50, none, .mv (.t 11), none⟩,
      ⟨some 51, none, .mv (.t 0), none⟩,
      ⟨some 52, none, .mv (.t 1), none⟩,
      ⟨some 53, none, .mv (.t 12), none⟩,
      ⟨some 54, none, .bin .add (.t 52) (.t 53), none⟩,
      ⟨some 55, none, .mv (.t 0), none⟩,
      ⟨some 56, none, .mv (.t 1), none⟩,
      ⟨some 57, none, .mv (.t 12), none⟩,
      ⟨some 58, none, .bin .add (.t 56) (.t 57), none⟩,
      ⟨some 59, none, .idxa 1 (.t 55) (.t 58), none⟩,
      ⟨some 60, none, .load none (.t 59), none⟩,
      ⟨some 61, none, .mv (.t 0), none⟩,
      ⟨some 62, none, .mv (.t 11), none⟩,
      ⟨some 63, none, .idxa 1 (.t 61) (.t 62), none⟩,
      ⟨some 64, none, .load none (.t 63), none⟩,
      ⟨some 65, none, .idxa 1 (.t 49) (.t 50), none⟩,
      ⟨none, none, .store 1 (.t 65) (.t 60), none⟩,
      ⟨some 66, none, .idxa 1 (.t 51) (.t 54), none⟩,
      ⟨none, none, .store 1 (.t 66) (.t 64), none⟩])

/- behind: Q = kloop [0, 1, 8, 9, 10, 11] I n (kblock 0 Q) -/
def J_slices_breakPatternsCmpFunc_api_Word_j2 : ACode :=
  .seq (.seq (.ops [⟨some 28, none, .mv (.t 11), none⟩,
      ⟨some 29, none, .mv (.t 1), none⟩,
      ⟨some 30, none, .mv (.t 8), none⟩,
      ⟨some 31, none, .bin .quo (.t 30) (.c (.int .i64 4)), none⟩,
      ⟨some 32, none, .bin .mul (.t 31) (.c (.int .i64 2)), none⟩,
      ⟨some 33, none, .bin .add (.t 29) (.t 32), none⟩,
      ⟨some 34, none, .bin .add (.t 33) (.c (.int .i64 1)), none⟩,
      ⟨some 35, none, .bin .leq (.t 28) (.t 34), none⟩])
            (.keep [0, 1, 8, 9, 10, 11, 35] (.cond (.t 35)
             (.skip)
             (.exit 0))))
           (.keep [0, 1, 8, 9, 10, 11] (.seq (.block 1 (.seq (.ops [⟨some 38, none, .call (.f 145) [(.t 9)], none⟩,
      ⟨some 39, none, .mv (.t 10), none⟩,
      ⟨some 40, none, .bin .sub (.t 39) (.c (.int .u64 1)), none⟩,
      ⟨some 41, none, .bin .and (.t 38) (.t 40), none⟩,
      ⟨some 42, none, .conv .i64 (.t 41), none⟩,
      ⟨some 12, none, .mv (.t 42), none⟩])
              (.keep [0, 1, 8, 9, 10, 11, 12] (.seq (.seq (.ops [⟨some 43, none, .mv (.t 12), none⟩,
      ⟨some 44, none, .mv (.t 8), none⟩,
      ⟨some 45, none, .bin .geq (.t 43) (.t 44), none⟩])
                (.keep [0, 1, 8, 9, 10, 11, 12, 45] (.cond (.t 45)
                 (.ops [⟨some 46, none, .mv (.t 12), none⟩,
      ⟨some 47, none, .mv (.t 8), none⟩,
      ⟨some 48, none, .bin .sub (.t 46) (.t 47), none⟩,
      ⟨some 12, none, .mv (.t 48), none⟩])
                 (.skip))))
               (J_slices_breakPatternsCmpFunc_api_Word_j1)))))
            (.keep [0, 1, 8, 9, 10, 11] (.ops [⟨some 36, none, .mv (.t 11), none⟩,
      ⟨some 37, none, .bin .add (.t 36) (.c (.int .i64 1)), none⟩,
      ⟨some 11, none, .mv (.t 37), none⟩]))))

/-- slices.breakPatternsCmpFunc[attorney/api.Word] -/
def J_slices_breakPatternsCmpFunc_api_Word : AFn :=
  ⟨67, [], .seq (.ops [⟨some 13, none, .mv (.t 2), none⟩,
      ⟨some 14, none, .mv (.t 1), none⟩,
      ⟨some 15, none, .bin .sub (.t 13) (.t 14), none⟩,
      ⟨some 8, none, .mv (.t 15), none⟩])
   (.keep [0, 1, 8] (.seq (.ops [⟨some 16, none, .mv (.t 8), none⟩,
      ⟨some 17, none, .bin .geq (.t 16) (.c (.int .i64 8)), none⟩])
    (.keep [0, 1, 8, 17] (.cond (.t 17)
     (.seq (.ops [⟨some 18, none, .mv (.t 8), none⟩,
      ⟨some 19, none, .conv .u64 (.t 18), none⟩,
      ⟨some 9, none, .new [(.int .u64 0)] [], none⟩,
      ⟨none, none, .store 1 (.t 9) (.t 19), none⟩])
      (.keep [0, 1, 8, 9] (.seq (.ops [⟨some 20, none, .mv (.t 8), none⟩,
      ⟨some 21, none, .call (.f 144) [(.t 20)], none⟩,
      ⟨some 10, none, .mv (.t 21), none⟩])
       (.keep [0, 1, 8, 9, 10] (.seq (.ops [⟨some 22, none, .mv (.t 1), none⟩,
      ⟨some 23, none, .mv (.t 8), none⟩,
      ⟨some 24, none, .bin .quo (.t 23) (.c (.int .i64 4)), none⟩,
      ⟨some 25, none, .bin .mul (.t 24) (.c (.int .i64 2)), none⟩,
      ⟨some 26, none, .bin .add (.t 22) (.t 25), none⟩,
      ⟨some 27, none, .bin .sub (.t 26) (.c (.int .i64 1)), none⟩,
      ⟨some 11, none, .mv (.t 27), none⟩])
        (.keep [0, 1, 8, 9, 10, 11] (.block 0 (.loop [0, 1, 8, 9, 10, 11] (J_slices_breakPatternsCmpFunc_api_Word_j2)))))))))
     (.skip)))))⟩
theorem J_slices_breakPatternsCmpFunc_api_Word_ok : chkFn Try.prog 135 J_slices_breakPatternsCmpFunc_api_Word = true := by kernel_rfl

/- behind: Q -/
def J_slices_choosePivotCmpFunc_api_Word_j1 : ACode :=
  .keep [11, 13] (.seq (.ops [⟨some 55, none, .load none (.t 11), none⟩])
          (.keep [13, 55] (.block 0 (.seq (.ops [⟨some 58, none, .bin .eql (.t 55) (.c (.int .i64 0)), none⟩,
      ⟨some 57, none, .mv (.t 58), none⟩])
            (.keep [13, 55, 57] (.cond (.t 57)
             (.seq (.ops [⟨some 59, none, .mv (.t 13), none⟩,
      ⟨some 8, none, .mv (.t 59), none⟩,
      ⟨some 9, none, .mv (.c (.int .i64 1)), none⟩])
              (.ret))
             (.seq (.ops [⟨some 61, none, .bin .eql (.t 55) (.c (.int .i64 12)), none⟩,
      ⟨some 60, none, .mv (.t 61), none⟩])
              (.keep [13, 60] (.cond (.t 60)
               (.seq (.ops [⟨some 62, none, .mv (.t 13), none⟩,
      ⟨some 8, none, .mv (.t 62), none⟩,
      ⟨some 9, none, .mv (.c (.int .i64 2)), none⟩])
                (.ret))
               (.seq (.ops [⟨some 56, none, .mv (.t 13), none⟩,
      ⟨some 8, none, .mv (.t 56), none⟩,
      ⟨some 9, none, .mv (.c (.int .i64 0)), none⟩])
                (.ret)))))))))))

/- behind: (kseq P (J_slices_choosePivotCmpFunc_api_Word_j1) Q) -/
def J_slices_choosePivotCmpFunc_api_Word_j2 : ACode :=
  .keep [0, 3, 11, 12, 13, 14] (.ops [⟨some 49, none, .mv (.t 0), none⟩,
      ⟨some 50, none, .mv (.t 12), none⟩,
      ⟨some 51, none, .mv (.t 13), none⟩,
      ⟨some 52, none, .mv (.t 14), none⟩,
      ⟨some 53, none, .mv (.t 3), none⟩,
      ⟨some 54, none, .call (.f 147) [(.t 49), (.t 50), (.t 51), (.t 52), (.t 11), (.t 53)], none⟩,
      ⟨some 13, none, .mv (.t 54), none⟩])

/-- slices.choosePivotCmpFunc[attorney/api.Word] -/
def J_slices_choosePivotCmpFunc_api_Word : AFn :=
  ⟨63, [.t 8, .t 9], .seq (.ops [⟨some 8, none, .mv (.c (.int .i64 0)), none⟩,
      ⟨some 9, none, .mv (.c (.int .i64 0)), none⟩])
   (.keep [0, 1, 2, 3] (.seq (.ops [⟨some 15, none, .mv (.t 2), none⟩,
      ⟨some 16, none, .mv (.t 1), none⟩,
      ⟨some 17, none, .bin .sub (.t 15) (.t 16), none⟩,
      ⟨some 10, none, .mv (.t 17), none⟩])
    (.keep [0, 1, 3, 10] (.seq (.ops [⟨some 11, none, .new [(.int .i64 0)] [], none⟩])
     (.keep [0, 1, 3, 10, 11] (.seq (.ops [⟨some 18, none, .mv (.t 1), none⟩,
      ⟨some 19, none, .mv (.t 10), none⟩,
      ⟨some 20, none, .bin .quo (.t 19) (.c (.int .i64 4)), none⟩,
      ⟨some 21, none, .bin .mul (.t 20) (.c (.int .i64 1)), none⟩,
      ⟨some 22, none, .bin .add (.t 18) (.t 21), none⟩,
      ⟨some 12, none, .mv (.t 22), none⟩])
      (.keep [0, 1, 3, 10, 11, 12] (.seq (.ops [⟨some 23, none, .mv (.t 1), none⟩,
      ⟨some 24, none, .mv (.t 10), none⟩,
      ⟨some 25, none, .bin .quo (.t 24) (.c (.int .i64 4)), none⟩,
      ⟨some 26, none, .bin .mul (.t 25) (.c (.int .i64 2)), none⟩,
      ⟨some 27, none, .bin .add (.t 23) (.t 26), none⟩,
      ⟨some 13, none, .mv (.t 27), none⟩])
       (.keep [0, 1, 3, 10, 11, 12, 13] (.seq (.ops [⟨some 28, none, .mv (.t 1), none⟩,
      ⟨some 29, none, .mv (.t 10), none⟩,
      ⟨some 30, none, .bin .quo (.t 29) (.c (.int .i64 4)), none⟩,
      ⟨some 31, none, .bin .mul (.t 30) (.c (.int .i64 3)), none⟩,
      ⟨some 32, none, .bin .add (.t 28) (.t 31), none⟩,
      ⟨some 14, none, .mv (.t 32), none⟩])
        (.keep [0, 3, 10, 11, 12, 13, 14] (.seq (.seq (.ops [⟨some 33, none, .mv (.t 10), none⟩,
      ⟨some 34, none, .bin .geq (.t 33) (.c (.int .i64 8)), none⟩])
          (.keep [0, 3, 10, 11, 12, 13, 14, 34] (.cond (.t 34)
           (.seq (.seq (.ops [⟨some 35, none, .mv (.t 10), none⟩,
      ⟨some 36, none, .bin .geq (.t 35) (.c (.int .i64 50)), none⟩])
             (.keep [0, 3, 11, 12, 13, 14, 36] (.cond (.t 36)
              (.seq (.ops [⟨some 37, none, .mv (.t 0), none⟩,
      ⟨some 38, none, .mv (.t 12), none⟩,
      ⟨some 39, none, .mv (.t 3), none⟩,
      ⟨some 40, none, .call (.f 146) [(.t 37), (.t 38), (.t 11), (.t 39)], none⟩,
      ⟨some 12, none, .mv (.t 40), none⟩])
               (.keep [0, 3, 11, 12, 13, 14] (.seq (.ops [⟨some 41, none, .mv (.t 0), none⟩,
      ⟨some 42, none, .mv (.t 13), none⟩,
      ⟨some 43, none, .mv (.t 3), none⟩,
      ⟨some 44, none, .call (.f 146) [(.t 41), (.t 42), (.t 11), (.t 43)], none⟩,
      ⟨some 13, none, .mv (.t 44), none⟩])
                (.keep [0, 3, 11, 12, 13, 14] (.ops [⟨some 45, none, .mv (.t 0), none⟩,
      ⟨some 46, none, .mv (.t 14), none⟩,
      ⟨some 47, none, .mv (.t 3), none⟩,
      ⟨some 48, none, .call (.f 146) [(.t 45), (.t 46), (.t 11), (.t 47)], none⟩,
      ⟨some 14, none, .mv (.t 48), none⟩])))))
              (.skip))))
            (J_slices_choosePivotCmpFunc_api_Word_j2))
           (.skip))))
         (J_slices_choosePivotCmpFunc_api_Word_j1)))))))))))))⟩
theorem J_slices_choosePivotCmpFunc_api_Word_ok : chkFn Try.prog 136 J_slices_choosePivotCmpFunc_api_Word = true := by kernel_rfl

/- behind: Q = kloop [0, 8, 9] I n (kblock 0 Q) -/
def J_slices_reverseRangeCmpFunc_api_Word_j1 : ACode :=
  .seq (.seq (.ops [⟨some 13, none, .mv (.t 8), none⟩,
      ⟨some 14, none, .mv (.t 9), none⟩,
      ⟨some 15, none, .bin .lss (.t 13) (.t 14), none⟩])
        (.keep [0, 8, 9, 15] (.cond (.t 15)
         (.skip)
         (.exit 0))))
       (.keep [0, 8, 9] (.block 1 (.seq (.draw [0, 8, 9] [⟨some 16, none, .mv (.t 0), none⟩,
      ⟨some 17, none, .mv (.t 8), none⟩,
      ⟨some 18, none, .mv (.t 0), none⟩,
      ⟨some 19, none, .mv (.t 9), none⟩,
      ⟨some 20, none, .mv (.t 0), none⟩,
      ⟨some 21, none, .mv (.t 9), none⟩,
      ⟨some 22, none, .idxa 1 (.t 20) (.t 21), none⟩,
      ⟨some 23, none, .load none (.t 22), none⟩,
      ⟨some 24, none, .mv (.t 0), none⟩,
      ⟨some 25, none, .mv (.t 8), none⟩,
      ⟨some 26, none, .idxa 1 (.t 24) (.t 25), none⟩,
      ⟨some 27, none, .load none (.t 26), none⟩,
      ⟨some 28, none, .idxa 1 (.t 16) (.t 17), none⟩,
      ⟨none, none, .store 1 (.t 28) (.t 23), none⟩,
      ⟨some 29, none, .idxa 1 (.t 18) (.t 19), none⟩,
      ⟨none, none, .store 1 (.t 29) (.t 27), none⟩])
         (.keep [0, 8, 9] (.seq (.ops [⟨some 30, none, .mv (.t 8), none⟩,
      ⟨some 31, none, .bin .add (.t 30) (.c (.int .i64 1)), none⟩,
      ⟨some 8, none, .mv (.t 31), none⟩])
          (.keep [0, 8, 9] (.ops [⟨some 32, none, .mv (.t 9), none⟩,
      ⟨some 33, none, .bin .sub (.t 32) (.c (.int .i64 1)), none⟩,
      ⟨some 9, none, .mv (.t 33), none⟩])))))))

/-- slices.reverseRangeCmpFunc[attorney/api.Word] -/
def J_slices_reverseRangeCmpFunc_api_Word : AFn :=
  ⟨34, [], .seq (.ops [⟨some 10, none, .mv (.t 1), none⟩,
      ⟨some 8, none, .mv (.t 10), none⟩])
   (.keep [0, 2, 8] (.seq (.ops [⟨some 11, none, .mv (.t 2), none⟩,
      ⟨some 12, none, .bin .sub (.t 11) (.c (.int .i64 1)), none⟩,
      ⟨some 9, none, .mv (.t 12), none⟩])
    (.keep [0, 8, 9] (.block 0 (.loop [0, 8, 9] (J_slices_reverseRangeCmpFunc_api_Word_j1))))))⟩
theorem J_slices_reverseRangeCmpFunc_api_Word_ok : chkFn Try.prog 137 J_slices_reverseRangeCmpFunc_api_Word = true := by kernel_rfl

/- behind: Q -/
def J_slices_partialInsertionSortCmpFunc_api_Word_j1 : ACode :=
  .keep [] (.seq (.ops [⟨some 8, none, .mv (.c (.bool false)), none⟩])
      (.ret))

/- behind: Q -/
def J_slices_partialInsertionSortCmpFunc_api_Word_j2 : ACode :=
  .keep [0, 1, 2, 3, 9, 10] (.ops [⟨some 17, none, .mv (.t 10), none⟩,
      ⟨some 18, none, .bin .add (.t 17) (.c (.int .i64 1)), none⟩,
      ⟨some 10, none, .mv (.t 18), none⟩])

/- behind: Q = kloop [0, 1, 2, 3, 9, 10, 12] I n (kblock 6 (kblock 1 (kseq P (J_slices_partialInsertionSortCmpFunc_api_Word_j2) Q))) -/
def J_slices_partialInsertionSortCmpFunc_api_Word_j3 : ACode :=
  .seq (.seq (.ops [⟨some 107, none, .mv (.t 12), none⟩,
      ⟨some 108, none, .mv (.t 2), none⟩,
      ⟨some 109, none, .bin .lss (.t 107) (.t 108), none⟩])
                       (.keep [0, 1, 2, 3, 9, 10, 12, 109] (.cond (.t 109)
                        (.skip)
                        (.exit 6))))
                      (.keep [0, 1, 2, 3, 9, 10, 12] (.seq (.block 7 (.seq (.seq (.draw [0, 1, 2, 3, 9, 10, 12, 124] [⟨some 112, none, .mv (.t 3), none⟩,
      ⟨some 113, none, .mv (.t 0), none⟩,
      ⟨some 114, none, .mv (.t 12), none⟩,
      ⟨some 115, none, .idxa 1 (.t 113) (.t 114), none⟩,
      ⟨some 116, none, .load none (.t 115), none⟩,
      ⟨some 117, none, .mv (.t 0), none⟩,
      ⟨some 118, none, .mv (.t 12), none⟩,
      ⟨some 119, none, .bin .sub (.t 118) (.c (.int .i64 1)), none⟩,
      ⟨some 120, none, .idxa 1 (.t 117) (.t 119), none⟩,
      ⟨some 121, none, .load none (.t 120), none⟩,
      ⟨some 122, none, .call (.t 112) [(.t 116), (.t 121)], none⟩,
      ⟨some 123, none, .bin .lss (.t 122) (.c (.int .i64 0)), none⟩,
      ⟨some 124, none, .not (.t 123), none⟩])
                          (.keep [0, 1, 2, 3, 9, 10, 12, 124] (.cond (.t 124)
                           (.exit 6)
                           (.skip))))
                         (.keep [0, 1, 2, 3, 9, 10, 12] (.draw [0, 1, 2, 3, 9, 10, 12] [⟨some 125, none, .mv (.t 0), none⟩,
      ⟨some 126, none, .mv (.t 12), none⟩,
      ⟨some 127, none, .mv (.t 0), none⟩,
      ⟨some 128, none, .mv (.t 12), none⟩,
      ⟨some 129, none, .bin .sub (.t 128) (.c (.int .i64 1)), none⟩,
      ⟨some 130, none, .mv (.t 0), none⟩,
      ⟨some 131, none, .mv (.t 12), none⟩,
      ⟨some 132, none, .bin .sub (.t 131) (.c (.int .i64 1)), none⟩,
      ⟨some 133, none, .idxa 1 (.t 130) (.t 132), none⟩,
      ⟨some 134, none, .load none (.t 133), none⟩,
      ⟨some 135, none, .mv (.t 0), none⟩,
      ⟨some 136, none, .mv (.t 12), none⟩,
      ⟨some 137, none, .idxa 1 (.t 135) (.t 136), none⟩,
      ⟨some 138, none, .load none (.t 137), none⟩,
      ⟨some 139, none, .idxa 1 (.t 125) (.t 126), none⟩,
      ⟨none, none, .store 1 (.t 139) (.t 134), none⟩,
      ⟨some 140, none, .idxa 1 (.t 127) (.t 129), none⟩,
      ⟨none, none, .store 1 (.t 140) (.t 138), none⟩]))))
                       (.keep [0, 1, 2, 3, 9, 10, 12] (.ops [⟨some 110, none, .mv (.t 12), none⟩,
      ⟨some 111, none, .bin .add (.t 110) (.c (.int .i64 1)), none⟩,
      ⟨some 12, none, .mv (.t 111), none⟩]))))

/- behind: (kblock 1 (kseq P (J_slices_partialInsertionSortCmpFunc_api_Word_j2) Q)) -/
def J_slices_partialInsertionSortCmpFunc_api_Word_j4 : ACode :=
  .keep [0, 1, 2, 3, 9, 10] (.seq (.ops [⟨some 101, none, .mv (.t 2), none⟩,
      ⟨some 102, none, .mv (.t 9), none⟩,
      ⟨some 103, none, .bin .sub (.t 101) (.t 102), none⟩,
      ⟨some 104, none, .bin .geq (.t 103) (.c (.int .i64 2)), none⟩])
                 (.keep [0, 1, 2, 3, 9, 10, 104] (.cond (.t 104)
                  (.seq (.ops [⟨some 105, none, .mv (.t 9), none⟩,
      ⟨some 106, none, .bin .add (.t 105) (.c (.int .i64 1)), none⟩,
      ⟨some 12, none, .mv (.t 106), none⟩])
                   (.keep [0, 1, 2, 3, 9, 10, 12] (.block 6 (.loop [0, 1, 2, 3, 9, 10, 12] (J_slices_partialInsertionSortCmpFunc_api_Word_j3)))))
                  (.skip))))

/- behind: Q = kloop [0, 1, 2, 3, 9, 10, 11] I n (kblock 4 (kseq P (J_slices_partialInsertionSortCmpFunc_api_Word_j4) (kblock 1 (kseq P (J_slices_partialInsertionSortCmpFunc_api_Word_j2) Q)))) -/
def J_slices_partialInsertionSortCmpFunc_api_Word_j5 : ACode :=
  .seq (.seq (.ops [⟨some 68, none, .mv (.t 11), none⟩,
      ⟨some 69, none, .bin .geq (.t 68) (.c (.int .i64 1)), none⟩])
                       (.keep [0, 1, 2, 3, 9, 10, 11, 69] (.cond (.t 69)
                        (.skip)
                        (.exit 4))))
                      (.keep [0, 1, 2, 3, 9, 10, 11] (.seq (.block 5 (.seq (.seq (.draw [0, 1, 2, 3, 9, 10, 11, 84] [⟨some 72, none, .mv (.t 3), none⟩,
      ⟨some 73, none, .mv (.t 0), none⟩,
      ⟨some 74, none, .mv (.t 11), none⟩,
      ⟨some 75, none, .idxa 1 (.t 73) (.t 74), none⟩,
      ⟨some 76, none, .load none (.t 75), none⟩,
      ⟨some 77, none, .mv (.t 0), none⟩,
      ⟨some 78, none, .mv (.t 11), none⟩,
      ⟨some 79, none, .bin .sub (.t 78) (.c (.int .i64 1)), none⟩,
      ⟨some 80, none, .idxa 1 (.t 77) (.t 79), none⟩,
      ⟨some 81, none, .load none (.t 80), none⟩,
      ⟨some 82, none, .call (.t 72) [(.t 76), (.t 81)], none⟩,
      ⟨some 83, none, .bin .lss (.t 82) (.c (.int .i64 0)), none⟩,
      ⟨some 84, none, .not (.t 83), none⟩])
                          (.keep [0, 1, 2, 3, 9, 10, 11, 84] (.cond (.t 84)
                           (.exit 4)
                           (.skip))))
                         (.keep [0, 1, 2, 3, 9, 10, 11] (.draw [0, 1, 2, 3, 9, 10, 11] [⟨some 85, none, .mv (.t 0), none⟩,
      ⟨some 86, none, .mv (.t 11), none⟩,
      ⟨some 87, none, .mv (.t 0), none⟩,
      ⟨some 88, none, .mv (.t 11), none⟩,
      ⟨some 89, none, .bin .sub (.t 88) (.c (.int .i64 1)), none⟩,
      ⟨some 90, none, .mv (.t 0), none⟩,
      ⟨some 91, none, .mv (.t 11), none⟩,
      ⟨some 92, none, .bin .sub (.t 91) (.c (.int .i64 1)), none⟩,
      ⟨some 93, none, .idxa 1 (.t 90) (.t 92), none⟩,
      ⟨some 94, none, .load none (.t 93), none⟩,
      ⟨some 95, none, .mv (.t 0), none⟩,
      ⟨some 96, none, .mv (.t 11), none⟩,
      ⟨some 97, none, .idxa 1 (.t 95) (.t 96), none⟩,
      ⟨some 98, none, .load none (.t 97), none⟩,
      ⟨some 99, none, .idxa 1 (.t 85) (.t 86), none⟩,
      ⟨none, none, .store 1 (.t 99) (.t 94), none⟩,
      ⟨some 100, none, .idxa 1 (.t 87) (.t 89), none⟩,
      ⟨none, none, .store 1 (.t 100) (.t 98), none⟩]))))
                       (.keep [0, 1, 2, 3, 9, 10, 11] (.ops [⟨some 70, none, .mv (.t 11), none⟩,
      ⟨some 71, none, .bin .sub (.t 70) (.c (.int .i64 1)), none⟩,
      ⟨some 11, none, .mv (.t 71), none⟩]))))

/- behind: (kblock 1 (kseq P (J_slices_partialInsertionSortCmpFunc_api_Word_j2) Q)) -/
def J_slices_partialInsertionSortCmpFunc_api_Word_j6 : ACode :=
  .keep [0, 1, 2, 3, 9, 10] (.seq (.seq (.ops [⟨some 39, none, .mv (.t 9), none⟩,
      ⟨some 40, none, .mv (.t 2), none⟩,
      ⟨some 41, none, .bin .eql (.t 39) (.t 40), none⟩])
              (.keep [0, 1, 2, 3, 9, 10, 41] (.cond (.t 41)
               (.seq (.ops [⟨some 8, none, .mv (.c (.bool true)), none⟩])
                (.ret))
               (.skip))))
             (.keep [0, 1, 2, 3, 9, 10] (.seq (.seq (.ops [⟨some 42, none, .mv (.t 2), none⟩,
      ⟨some 43, none, .mv (.t 1), none⟩,
      ⟨some 44, none, .bin .sub (.t 42) (.t 43), none⟩,
      ⟨some 45, none, .bin .lss (.t 44) (.c (.int .i64 50)), none⟩])
               (.keep [0, 1, 2, 3, 9, 10, 45] (.cond (.t 45)
                (.seq (.ops [⟨some 8, none, .mv (.c (.bool false)), none⟩])
                 (.ret))
                (.skip))))
              (.keep [0, 1, 2, 3, 9, 10] (.seq (.draw [0, 1, 2, 3, 9, 10] [⟨some 46, none, .mv (.t 0), none⟩,
      ⟨some 47, none, .mv (.t 9), none⟩,
      ⟨some 48, none, .mv (.t 0), none⟩,
      ⟨some 49, none, .mv (.t 9), none⟩,
      ⟨some 50, none, .bin .sub (.t 49) (.c (.int .i64 1)), none⟩,
      ⟨some 51, none, .mv (.t 0), none⟩,
      ⟨some 52, none, .mv (.t 9), none⟩,
      ⟨some 53, none, .bin .sub (.t 52) (.c (.int .i64 1)), none⟩,
      ⟨some 54, none, .idxa 1 (.t 51) (.t 53), none⟩,
      ⟨some 55, none, .load none (.t 54), none⟩,
      ⟨some 56, none, .mv (.t 0), none⟩,
      ⟨some 57, none, .mv (.t 9), none⟩,
      ⟨some 58, none, .idxa 1 (.t 56) (.t 57), none⟩,
      ⟨some 59, none, .load none (.t 58), none⟩,
      ⟨some 60, none, .idxa 1 (.t 46) (.t 47), none⟩,
      ⟨none, none, .store 1 (.t 60) (.t 55), none⟩,
      ⟨some 61, none, .idxa 1 (.t 48) (.t 50), none⟩,
      ⟨none, none, .store 1 (.t 61) (.t 59), none⟩])
               (.keep [0, 1, 2, 3, 9, 10] (.seq (.seq (.ops [⟨some 62, none, .mv (.t 9), none⟩,
      ⟨some 63, none, .mv (.t 1), none⟩,
      ⟨some 64, none, .bin .sub (.t 62) (.t 63), none⟩,
      ⟨some 65, none, .bin .geq (.t 64) (.c (.int .i64 2)), none⟩])
                 (.keep [0, 1, 2, 3, 9, 10, 65] (.cond (.t 65)
                  (.seq (.ops [⟨some 66, none, .mv (.t 9), none⟩,
      ⟨some 67, none, .bin .sub (.t 66) (.c (.int .i64 1)), none⟩,
      ⟨some 11, none, .mv (.t 67), none⟩])
                   (.keep [0, 1, 2, 3, 9, 10, 11] (.block 4 (.loop [0, 1, 2, 3, 9, 10, 11] (J_slices_partialInsertionSortCmpFunc_api_Word_j5)))))
                  (.skip))))
                (J_slices_partialInsertionSortCmpFunc_api_Word_j4))))))))

/- behind: Q = kloop [0, 1, 2, 3, 9, 10] I n (kblock 2 (kseq P (J_slices_partialInsertionSortCmpFunc_api_Word_j6) (kblock 1 (kseq P (J_slices_partialInsertionSortCmpFunc_api_Word_j2) Q)))) -/
def J_slices_partialInsertionSortCmpFunc_api_Word_j7 : ACode :=
  .seq (.seq (.draw [0, 1, 2, 3, 9, 10, 36] [⟨some 19, none, .mv (.t 9), none⟩,
      ⟨some 20, none, .mv (.t 2), none⟩,
      ⟨some 21, none, .bin .lss (.t 19) (.t 20), none⟩,
      ⟨some 22, none, .mv (.t 21), none⟩,
      ⟨some 23, (some (22, true)), .mv (.t 3), none⟩,
      ⟨some 24, (some (22, true)), .mv (.t 0), none⟩,
      ⟨some 25, (some (22, true)), .mv (.t 9), none⟩,
      ⟨some 26, (some (22, true)), .idxa 1 (.t 24) (.t 25), none⟩,
      ⟨some 27, (some (22, true)), .load none (.t 26), none⟩,
      ⟨some 28, (some (22, true)), .mv (.t 0), none⟩,
      ⟨some 29, (some (22, true)), .mv (.t 9), none⟩,
      ⟨some 30, (some (22, true)), .bin .sub (.t 29) (.c (.int .i64 1)), none⟩,
      ⟨some 31, (some (22, true)), .idxa 1 (.t 28) (.t 30), none⟩,
      ⟨some 32, (some (22, true)), .load none (.t 31), none⟩,
      ⟨some 33, (some (22, true)), .call (.t 23) [(.t 27), (.t 32)], none⟩,
      ⟨some 34, (some (22, true)), .bin .lss (.t 33) (.c (.int .i64 0)), none⟩,
      ⟨some 35, (some (22, true)), .not (.t 34), none⟩,
      ⟨some 36, none, .pick (.t 22) (.t 35) (.c (.bool false)), none⟩])
                (.keep [0, 1, 2, 3, 9, 10, 36] (.cond (.t 36)
                 (.skip)
                 (.exit 2))))
               (.keep [0, 1, 2, 3, 9, 10] (.block 3 (.ops [⟨some 37, none, .mv (.t 9), none⟩,
      ⟨some 38, none, .bin .add (.t 37) (.c (.int .i64 1)), none⟩,
      ⟨some 9, none, .mv (.t 38), none⟩])))

/- behind: Q = kloop [0, 1, 2, 3, 9, 10] I n (kblock 0 (kseq P (J_slices_partialInsertionSortCmpFunc_api_Word_j1) Q)) -/
def J_slices_partialInsertionSortCmpFunc_api_Word_j8 : ACode :=
  .seq (.seq (.ops [⟨some 15, none, .mv (.t 10), none⟩,
      ⟨some 16, none, .bin .lss (.t 15) (.c (.int .i64 5)), none⟩])
          (.keep [0, 1, 2, 3, 9, 10, 16] (.cond (.t 16)
           (.skip)
           (.exit 0))))
         (.keep [0, 1, 2, 3, 9, 10] (.seq (.block 1 (.seq (.block 2 (.loop [0, 1, 2, 3, 9, 10] (J_slices_partialInsertionSortCmpFunc_api_Word_j7)))
            (J_slices_partialInsertionSortCmpFunc_api_Word_j6)))
          (J_slices_partialInsertionSortCmpFunc_api_Word_j2)))

/-- slices.partialInsertionSortCmpFunc[attorney/api.Word] -/
def J_slices_partialInsertionSortCmpFunc_api_Word : AFn :=
  ⟨141, [.t 8], .seq (.ops [⟨some 8, none, .mv (.c (.bool false)), none⟩])
   (.keep [0, 1, 2, 3] (.seq (.ops [⟨some 13, none, .mv (.t 1), none⟩,
      ⟨some 14, none, .bin .add (.t 13) (.c (.int .i64 1)), none⟩,
      ⟨some 9, none, .mv (.t 14), none⟩])
    (.keep [0, 1, 2, 3, 9] (.seq (.seq (.ops [⟨some 10, none, .mv (.c (.int .i64 0)), none⟩])
      (.keep [0, 1, 2, 3, 9, 10] (.block 0 (.loop [0, 1, 2, 3, 9, 10] (J_slices_partialInsertionSortCmpFunc_api_Word_j8)))))
     (J_slices_partialInsertionSortCmpFunc_api_Word_j1)))))⟩
theorem J_slices_partialInsertionSortCmpFunc_api_Word_ok : chkFn Try.prog 138 J_slices_partialInsertionSortCmpFunc_api_Word = true := by kernel_rfl

/- behind: Q -/
def J_slices_partitionEqualCmpFunc_api_Word_j1 : ACode :=
  .keep [11] (.seq (.ops [⟨some 89, none, .mv (.t 11), none⟩,
      ⟨some 10, none, .mv (.t 89), none⟩])
       (.ret))

/- behind: (kblock 1 Q) -/
def J_slices_partitionEqualCmpFunc_api_Word_j2 : ACode :=
  .keep [0, 1, 4, 11, 12] (.seq (.seq (.ops [⟨some 68, none, .mv (.t 11), none⟩,
      ⟨some 69, none, .mv (.t 12), none⟩,
      ⟨some 70, none, .bin .gtr (.t 68) (.t 69), none⟩])
             (.keep [0, 1, 4, 11, 12, 70] (.cond (.t 70)
              (.exit 0)
              (.skip))))
            (.keep [0, 1, 4, 11, 12] (.seq (.draw [0, 1, 4, 11, 12] [⟨some 71, none, .mv (.t 0), none⟩,
      ⟨some 72, none, .mv (.t 11), none⟩,
      ⟨some 73, none, .mv (.t 0), none⟩,
      ⟨some 74, none, .mv (.t 12), none⟩,
      ⟨some 75, none, .mv (.t 0), none⟩,
      ⟨some 76, none, .mv (.t 12), none⟩,
      ⟨some 77, none, .idxa 1 (.t 75) (.t 76), none⟩,
      ⟨some 78, none, .load none (.t 77), none⟩,
      ⟨some 79, none, .mv (.t 0), none⟩,
      ⟨some 80, none, .mv (.t 11), none⟩,
      ⟨some 81, none, .idxa 1 (.t 79) (.t 80), none⟩,
      ⟨some 82, none, .load none (.t 81), none⟩,
      ⟨some 83, none, .idxa 1 (.t 71) (.t 72), none⟩,
      ⟨none, none, .store 1 (.t 83) (.t 78), none⟩,
      ⟨some 84, none, .idxa 1 (.t 73) (.t 74), none⟩,
      ⟨none, none, .store 1 (.t 84) (.t 82), none⟩])
             (.keep [0, 1, 4, 11, 12] (.seq (.ops [⟨some 85, none, .mv (.t 11), none⟩,
      ⟨some 86, none, .bin .add (.t 85) (.c (.int .i64 1)), none⟩,
      ⟨some 11, none, .mv (.t 86), none⟩])
              (.keep [0, 1, 4, 11, 12] (.ops [⟨some 87, none, .mv (.t 12), none⟩,
      ⟨some 88, none, .bin .sub (.t 87) (.c (.int .i64 1)), none⟩,
      ⟨some 12, none, .mv (.t 88), none⟩])))))))

/- behind: Q = kloop [0, 1, 4, 11, 12] I n (kblock 4 (kseq P (J_slices_partitionEqualCmpFunc_api_Word_j2) (kblock 1 Q))) -/
def J_slices_partitionEqualCmpFunc_api_Word_j3 : ACode :=
  .seq (.seq (.draw [0, 1, 4, 11, 12, 65] [⟨some 50, none, .mv (.t 11), none⟩,
      ⟨some 51, none, .mv (.t 12), none⟩,
      ⟨some 52, none, .bin .leq (.t 50) (.t 51), none⟩,
      ⟨some 53, none, .mv (.t 52), none⟩,
      ⟨some 54, (some (53, true)), .mv (.t 4), none⟩,
      ⟨some 55, (some (53, true)), .mv (.t 0), none⟩,
      ⟨some 56, (some (53, true)), .mv (.t 1), none⟩,
      ⟨some 57, (some (53, true)), .idxa 1 (.t 55) (.t 56), none⟩,
      ⟨some 58, (some (53, true)), .load none (.t 57), none⟩,
      ⟨some 59, (some (53, true)), .mv (.t 0), none⟩,
      ⟨some 60, (some (53, true)), .mv (.t 12), none⟩,
      ⟨some 61, (some (53, true)), .idxa 1 (.t 59) (.t 60), none⟩,
      ⟨some 62, (some (53, true)), .load none (.t 61), none⟩,
      ⟨some 63, (some (53, true)), .call (.t 54) [(.t 58), (.t 62)], none⟩,
      ⟨some 64, (some (53, true)), .bin .lss (.t 63) (.c (.int .i64 0)), none⟩,
      ⟨some 65, none, .pick (.t 53) (.t 64) (.c (.bool false)), none⟩])
               (.keep [0, 1, 4, 11, 12, 65] (.cond (.t 65)
                (.skip)
                (.exit 4))))
              (.keep [0, 1, 4, 11, 12] (.block 5 (.ops [⟨some 66, none, .mv (.t 12), none⟩,
      ⟨some 67, none, .bin .sub (.t 66) (.c (.int .i64 1)), none⟩,
      ⟨some 12, none, .mv (.t 67), none⟩])))

/- behind: (kblock 1 Q) -/
def J_slices_partitionEqualCmpFunc_api_Word_j4 : ACode :=
  .keep [0, 1, 4, 11, 12] (.seq (.block 4 (.loop [0, 1, 4, 11, 12] (J_slices_partitionEqualCmpFunc_api_Word_j3)))
           (J_slices_partitionEqualCmpFunc_api_Word_j2))

/- behind: Q = kloop [0, 1, 4, 11, 12] I n (kblock 2 (kseq P (J_slices_partitionEqualCmpFunc_api_Word_j4) (kblock 1 Q))) -/
def J_slices_partitionEqualCmpFunc_api_Word_j5 : ACode :=
  .seq (.seq (.draw [0, 1, 4, 11, 12, 47] [⟨some 31, none, .mv (.t 11), none⟩,
      ⟨some 32, none, .mv (.t 12), none⟩,
      ⟨some 33, none, .bin .leq (.t 31) (.t 32), none⟩,
      ⟨some 34, none, .mv (.t 33), none⟩,
      ⟨some 35, (some (34, true)), .mv (.t 4), none⟩,
      ⟨some 36, (some (34, true)), .mv (.t 0), none⟩,
      ⟨some 37, (some (34, true)), .mv (.t 1), none⟩,
      ⟨some 38, (some (34, true)), .idxa 1 (.t 36) (.t 37), none⟩,
      ⟨some 39, (some (34, true)), .load none (.t 38), none⟩,
      ⟨some 40, (some (34, true)), .mv (.t 0), none⟩,
      ⟨some 41, (some (34, true)), .mv (.t 11), none⟩,
      ⟨some 42, (some (34, true)), .idxa 1 (.t 40) (.t 41), none⟩,
      ⟨some 43, (some (34, true)), .load none (.t 42), none⟩,
      ⟨some 44, (some (34, true)), .call (.t 35) [(.t 39), (.t 43)], none⟩,
      ⟨some 45, (some (34, true)), .bin .lss (.t 44) (.c (.int .i64 0)), none⟩,
      ⟨some 46, (some (34, true)), .not (.t 45), none⟩,
      ⟨some 47, none, .pick (.t 34) (.t 46) (.c (.bool false)), none⟩])
              (.keep [0, 1, 4, 11, 12, 47] (.cond (.t 47)
               (.skip)
               (.exit 2))))
             (.keep [0, 1, 4, 11, 12] (.block 3 (.ops [⟨some 48, none, .mv (.t 11), none⟩,
      ⟨some 49, none, .bin .add (.t 48) (.c (.int .i64 1)), none⟩,
      ⟨some 11, none, .mv (.t 49), none⟩])))

/- behind: Q = kloop [0, 1, 4, 11, 12] I n (kblock 0 (kseq P (J_slices_partitionEqualCmpFunc_api_Word_j1) Q)) -/
def J_slices_partitionEqualCmpFunc_api_Word_j6 : ACode :=
  .block 1 (.seq (.block 2 (.loop [0, 1, 4, 11, 12] (J_slices_partitionEqualCmpFunc_api_Word_j5)))
          (J_slices_partitionEqualCmpFunc_api_Word_j4))

/-- slices.partitionEqualCmpFunc[attorney/api.Word] -/
def J_slices_partitionEqualCmpFunc_api_Word : AFn :=
  ⟨90, [.t 10], .seq (.ops [⟨some 10, none, .mv (.c (.int .i64 0)), none⟩])
   (.keep [0, 1, 2, 3, 4] (.seq (.draw [0, 1, 2, 4] [⟨some 13, none, .mv (.t 0), none⟩,
      ⟨some 14, none, .mv (.t 1), none⟩,
      ⟨some 15, none, .mv (.t 0), none⟩,
      ⟨some 16, none, .mv (.t 3), none⟩,
      ⟨some 17, none, .mv (.t 0), none⟩,
      ⟨some 18, none, .mv (.t 3), none⟩,
      ⟨some 19, none, .idxa 1 (.t 17) (.t 18), none⟩,
      ⟨some 20, none, .load none (.t 19), none⟩,
      ⟨some 21, none, .mv (.t 0), none⟩,
      ⟨some 22, none, .mv (.t 1), none⟩,
      ⟨some 23, none, .idxa 1 (.t 21) (.t 22), none⟩,
      ⟨some 24, none, .load none (.t 23), none⟩,
      ⟨some 25, none, .idxa 1 (.t 13) (.t 14), none⟩,
      ⟨none, none, .store 1 (.t 25) (.t 20), none⟩,
      ⟨some 26, none, .idxa 1 (.t 15) (.t 16), none⟩,
      ⟨none, none, .store 1 (.t 26) (.t 24), none⟩])
    (.keep [0, 1, 2, 4] (.seq (.ops [⟨some 27, none, .mv (.t 1), none⟩,
      ⟨some 28, none, .bin .add (.t 27) (.c (.int .i64 1)), none⟩,
      ⟨some 29, none, .mv (.t 2), none⟩,
      ⟨some 30, none, .bin .sub (.t 29) (.c (.int .i64 1)), none⟩,
      ⟨some 11, none, .mv (.t 28), none⟩,
      ⟨some 12, none, .mv (.t 30), none⟩])
     (.keep [0, 1, 4, 11, 12] (.seq (.block 0 (.loop [0, 1, 4, 11, 12] (J_slices_partitionEqualCmpFunc_api_Word_j6)))
      (J_slices_partitionEqualCmpFunc_api_Word_j1)))))))⟩
theorem J_slices_partitionEqualCmpFunc_api_Word_ok : chkFn Try.prog 139 J_slices_partitionEqualCmpFunc_api_Word = true := by kernel_rfl

/- behind: Q -/
def J_slices_partitionCmpFunc_api_Word_j1 : ACode :=
  .keep [0, 1, 13] (.seq (.draw [13] [⟨some 163, none, .mv (.t 0), none⟩,
      ⟨some 164, none, .mv (.t 13), none⟩,
      ⟨some 165, none, .mv (.t 0), none⟩,
      ⟨some 166, none, .mv (.t 1), none⟩,
      ⟨some 167, none, .mv (.t 0), none⟩,
      ⟨some 168, none, .mv (.t 1), none⟩,
      ⟨some 169, none, .idxa 1 (.t 167) (.t 168), none⟩,
      ⟨some 170, none, .load none (.t 169), none⟩,
      ⟨some 171, none, .mv (.t 0), none⟩,
      ⟨some 172, none, .mv (.t 13), none⟩,
      ⟨some 173, none, .idxa 1 (.t 171) (.t 172), none⟩,
      ⟨some 174, none, .load none (.t 173), none⟩,
      ⟨some 175, none, .idxa 1 (.t 163) (.t 164), none⟩,
      ⟨none, none, .store 1 (.t 175) (.t 170), none⟩,
      ⟨some 176, none, .idxa 1 (.t 165) (.t 166), none⟩,
      ⟨none, none, .store 1 (.t 176) (.t 174), none⟩])
             (.keep [13] (.seq (.ops [⟨some 177, none, .mv (.t 13), none⟩,
      ⟨some 10, none, .mv (.t 177), none⟩,
      ⟨some 11, none, .mv (.c (.bool false)), none⟩])
              (.ret))))

/- behind: (kblock 5 Q) -/
def J_slices_partitionCmpFunc_api_Word_j2 : ACode :=
  .keep [0, 1, 4, 12, 13] (.seq (.seq (.ops [⟨some 142, none, .mv (.t 12), none⟩,
      ⟨some 143, none, .mv (.t 13), none⟩,
      ⟨some 144, none, .bin .gtr (.t 142) (.t 143), none⟩])
                   (.keep [0, 1, 4, 12, 13, 144] (.cond (.t 144)
                    (.exit 4)
                    (.skip))))
                  (.keep [0, 1, 4, 12, 13] (.seq (.draw [0, 1, 4, 12, 13] [⟨some 145, none, .mv (.t 0), none⟩,
      ⟨some 146, none, .mv (.t 12), none⟩,
      ⟨some 147, none, .mv (.t 0), none⟩,
      ⟨some 148, none, .mv (.t 13), none⟩,
      ⟨some 149, none, .mv (.t 0), none⟩,
      ⟨some 150, none, .mv (.t 13), none⟩,
      ⟨some 151, none, .idxa 1 (.t 149) (.t 150), none⟩,
      ⟨some 152, none, .load none (.t 151), none⟩,
      ⟨some 153, none, .mv (.t 0), none⟩,
      ⟨some 154, none, .mv (.t 12), none⟩,
      ⟨some 155, none, .idxa 1 (.t 153) (.t 154), none⟩,
      ⟨some 156, none, .load none (.t 155), none⟩,
      ⟨some 157, none, .idxa 1 (.t 145) (.t 146), none⟩,
      ⟨none, none, .store 1 (.t 157) (.t 152), none⟩,
      ⟨some 158, none, .idxa 1 (.t 147) (.t 148), none⟩,
      ⟨none, none, .store 1 (.t 158) (.t 156), none⟩])
                   (.keep [0, 1, 4, 12, 13] (.seq (.ops [⟨some 159, none, .mv (.t 12), none⟩,
      ⟨some 160, none, .bin .add (.t 159) (.c (.int .i64 1)), none⟩,
      ⟨some 12, none, .mv (.t 160), none⟩])
                    (.keep [0, 1, 4, 12, 13] (.ops [⟨some 161, none, .mv (.t 13), none⟩,
      ⟨some 162, none, .bin .sub (.t 161) (.c (.int .i64 1)), none⟩,
      ⟨some 13, none, .mv (.t 162), none⟩])))))))

/- behind: Q = kloop [0, 1, 4, 12, 13] I n (kblock 8 (kseq P (J_slices_partitionCmpFunc_api_Word_j2) (kblock 5 Q))) -/
def J_slices_partitionCmpFunc_api_Word_j3 : ACode :=
  .seq (.seq (.draw [0, 1, 4, 12, 13, 139] [⟨some 123, none, .mv (.t 12), none⟩,
      ⟨some 124, none, .mv (.t 13), none⟩,
      ⟨some 125, none, .bin .leq (.t 123) (.t 124), none⟩,
      ⟨some 126, none, .mv (.t 125), none⟩,
      ⟨some 127, (some (126, true)), .mv (.t 4), none⟩,
      ⟨some 128, (some (126, true)), .mv (.t 0), none⟩,
      ⟨some 129, (some (126, true)), .mv (.t 13), none⟩,
      ⟨some 130, (some (126, true)), .idxa 1 (.t 128) (.t 129), none⟩,
      ⟨some 131, (some (126, true)), .load none (.t 130), none⟩,
      ⟨some 132, (some (126, true)), .mv (.t 0), none⟩,
      ⟨some 133, (some (126, true)), .mv (.t 1), none⟩,
      ⟨some 134, (some (126, true)), .idxa 1 (.t 132) (.t 133), none⟩,
      ⟨some 135, (some (126, true)), .load none (.t 134), none⟩,
      ⟨some 136, (some (126, true)), .call (.t 127) [(.t 131), (.t 135)], none⟩,
      ⟨some 137, (some (126, true)), .bin .lss (.t 136) (.c (.int .i64 0)), none⟩,
      ⟨some 138, (some (126, true)), .not (.t 137), none⟩,
      ⟨some 139, none, .pick (.t 126) (.t 138) (.c (.bool false)), none⟩])
                     (.keep [0, 1, 4, 12, 13, 139] (.cond (.t 139)
                      (.skip)
                      (.exit 8))))
                    (.keep [0, 1, 4, 12, 13] (.block 9 (.ops [⟨some 140, none, .mv (.t 13), none⟩,
      ⟨some 141, none, .bin .sub (.t 140) (.c (.int .i64 1)), none⟩,
      ⟨some 13, none, .mv (.t 141), none⟩])))

/- behind: (kblock 5 Q) -/
def J_slices_partitionCmpFunc_api_Word_j4 : ACode :=
  .keep [0, 1, 4, 12, 13] (.seq (.block 8 (.loop [0, 1, 4, 12, 13] (J_slices_partitionCmpFunc_api_Word_j3)))
                 (J_slices_partitionCmpFunc_api_Word_j2))

/- behind: Q = kloop [0, 1, 4, 12, 13] I n (kblock 6 (kseq P (J_slices_partitionCmpFunc_api_Word_j4) (kblock 5 Q))) -/
def J_slices_partitionCmpFunc_api_Word_j5 : ACode :=
  .seq (.seq (.draw [0, 1, 4, 12, 13, 120] [⟨some 105, none, .mv (.t 12), none⟩,
      ⟨some 106, none, .mv (.t 13), none⟩,
      ⟨some 107, none, .bin .leq (.t 105) (.t 106), none⟩,
      ⟨some 108, none, .mv (.t 107), none⟩,
      ⟨some 109, (some (108, true)), .mv (.t 4), none⟩,
      ⟨some 110, (some (108, true)), .mv (.t 0), none⟩,
      ⟨some 111, (some (108, true)), .mv (.t 12), none⟩,
      ⟨some 112, (some (108, true)), .idxa 1 (.t 110) (.t 111), none⟩,
      ⟨some 113, (some (108, true)), .load none (.t 112), none⟩,
      ⟨some 114, (some (108, true)), .mv (.t 0), none⟩,
      ⟨some 115, (some (108, true)), .mv (.t 1), none⟩,
      ⟨some 116, (some (108, true)), .idxa 1 (.t 114) (.t 115), none⟩,
      ⟨some 117, (some (108, true)), .load none (.t 116), none⟩,
      ⟨some 118, (some (108, true)), .call (.t 109) [(.t 113), (.t 117)], none⟩,
      ⟨some 119, (some (108, true)), .bin .lss (.t 118) (.c (.int .i64 0)), none⟩,
      ⟨some 120, none, .pick (.t 108) (.t 119) (.c (.bool false)), none⟩])
                    (.keep [0, 1, 4, 12, 13, 120] (.cond (.t 120)
                     (.skip)
                     (.exit 6))))
                   (.keep [0, 1, 4, 12, 13] (.block 7 (.ops [⟨some 121, none, .mv (.t 12), none⟩,
      ⟨some 122, none, .bin .add (.t 121) (.c (.int .i64 1)), none⟩,
      ⟨some 12, none, .mv (.t 122), none⟩])))

/- behind: Q = kloop [0, 1, 4, 12, 13] I n (kblock 4 (kseq P (J_slices_partitionCmpFunc_api_Word_j1) Q)) -/
def J_slices_partitionCmpFunc_api_Word_j6 : ACode :=
  .block 5 (.seq (.block 6 (.loop [0, 1, 4, 12, 13] (J_slices_partitionCmpFunc_api_Word_j5)))
                (J_slices_partitionCmpFunc_api_Word_j4))

/- behind: Q -/
def J_slices_partitionCmpFunc_api_Word_j7 : ACode :=
  .keep [0, 1, 4, 12, 13] (.seq (.seq (.ops [⟨some 69, none, .mv (.t 12), none⟩,
      ⟨some 70, none, .mv (.t 13), none⟩,
      ⟨some 71, none, .bin .gtr (.t 69) (.t 70), none⟩])
         (.keep [0, 1, 4, 12, 13, 71] (.cond (.t 71)
          (.seq (.draw [13] [⟨some 72, none, .mv (.t 0), none⟩,
      ⟨some 73, none, .mv (.t 13), none⟩,
      ⟨some 74, none, .mv (.t 0), none⟩,
      ⟨some 75, none, .mv (.t 1), none⟩,
      ⟨some 76, none, .mv (.t 0), none⟩,
      ⟨some 77, none, .mv (.t 1), none⟩,
      ⟨some 78, none, .idxa 1 (.t 76) (.t 77), none⟩,
      ⟨some 79, none, .load none (.t 78), none⟩,
      ⟨some 80, none, .mv (.t 0), none⟩,
      ⟨some 81, none, .mv (.t 13), none⟩,
      ⟨some 82, none, .idxa 1 (.t 80) (.t 81), none⟩,
      ⟨some 83, none, .load none (.t 82), none⟩,
      ⟨some 84, none, .idxa 1 (.t 72) (.t 73), none⟩,
      ⟨none, none, .store 1 (.t 84) (.t 79), none⟩,
      ⟨some 85, none, .idxa 1 (.t 74) (.t 75), none⟩,
      ⟨none, none, .store 1 (.t 85) (.t 83), none⟩])
           (.keep [13] (.seq (.ops [⟨some 86, none, .mv (.t 13), none⟩,
      ⟨some 10, none, .mv (.t 86), none⟩,
      ⟨some 11, none, .mv (.c (.bool true)), none⟩])
            (.ret))))
          (.skip))))
        (.keep [0, 1, 4, 12, 13] (.seq (.draw [0, 1, 4, 12, 13] [⟨some 87, none, .mv (.t 0), none⟩,
      ⟨some 88, none, .mv (.t 12), none⟩,
      ⟨some 89, none, .mv (.t 0), none⟩,
      ⟨some 90, none, .mv (.t 13), none⟩,
      ⟨some 91, none, .mv (.t 0), none⟩,
      ⟨some 92, none, .mv (.t 13), none⟩,
      ⟨some 93, none, .idxa 1 (.t 91) (.t 92), none⟩,
      ⟨some 94, none, .load none (.t 93), none⟩,
      ⟨some 95, none, .mv (.t 0), none⟩,
      ⟨some 96, none, .mv (.t 12), none⟩,
      ⟨some 97, none, .idxa 1 (.t 95) (.t 96), none⟩,
      ⟨some 98, none, .load none (.t 97), none⟩,
      ⟨some 99, none, .idxa 1 (.t 87) (.t 88), none⟩,
      ⟨none, none, .store 1 (.t 99) (.t 94), none⟩,
      ⟨some 100, none, .idxa 1 (.t 89) (.t 90), none⟩,
      ⟨none, none, .store 1 (.t 100) (.t 98), none⟩])
         (.keep [0, 1, 4, 12, 13] (.seq (.ops [⟨some 101, none, .mv (.t 12), none⟩,
      ⟨some 102, none, .bin .add (.t 101) (.c (.int .i64 1)), none⟩,
      ⟨some 12, none, .mv (.t 102), none⟩])
          (.keep [0, 1, 4, 12, 13] (.seq (.ops [⟨some 103, none, .mv (.t 13), none⟩,
      ⟨some 104, none, .bin .sub (.t 103) (.c (.int .i64 1)), none⟩,
      ⟨some 13, none, .mv (.t 104), none⟩])
           (.keep [0, 1, 4, 12, 13] (.seq (.block 4 (.loop [0, 1, 4, 12, 13] (J_slices_partitionCmpFunc_api_Word_j6)))
            (J_slices_partitionCmpFunc_api_Word_j1))))))))))

/- behind: Q = kloop [0, 1, 4, 12, 13] I n (kblock 2 (kseq P (J_slices_partitionCmpFunc_api_Word_j7) Q)) -/
def J_slices_partitionCmpFunc_api_Word_j8 : ACode :=
  .seq (.seq (.draw [0, 1, 4, 12, 13, 66] [⟨some 50, none, .mv (.t 12), none⟩,
      ⟨some 51, none, .mv (.t 13), none⟩,
      ⟨some 52, none, .bin .leq (.t 50) (.t 51), none⟩,
      ⟨some 53, none, .mv (.t 52), none⟩,
      ⟨some 54, (some (53, true)), .mv (.t 4), none⟩,
      ⟨some 55, (some (53, true)), .mv (.t 0), none⟩,
      ⟨some 56, (some (53, true)), .mv (.t 13), none⟩,
      ⟨some 57, (some (53, true)), .idxa 1 (.t 55) (.t 56), none⟩,
      ⟨some 58, (some (53, true)), .load none (.t 57), none⟩,
      ⟨some 59, (some (53, true)), .mv (.t 0), none⟩,
      ⟨some 60, (some (53, true)), .mv (.t 1), none⟩,
      ⟨some 61, (some (53, true)), .idxa 1 (.t 59) (.t 60), none⟩,
      ⟨some 62, (some (53, true)), .load none (.t 61), none⟩,
      ⟨some 63, (some (53, true)), .call (.t 54) [(.t 58), (.t 62)], none⟩,
      ⟨some 64, (some (53, true)), .bin .lss (.t 63) (.c (.int .i64 0)), none⟩,
      ⟨some 65, (some (53, true)), .not (.t 64), none⟩,
      ⟨some 66, none, .pick (.t 53) (.t 65) (.c (.bool false)), none⟩])
           (.keep [0, 1, 4, 12, 13, 66] (.cond (.t 66)
            (.skip)
            (.exit 2))))
          (.keep [0, 1, 4, 12, 13] (.block 3 (.ops [⟨some 67, none, .mv (.t 13), none⟩,
      ⟨some 68, none, .bin .sub (.t 67) (.c (.int .i64 1)), none⟩,
      ⟨some 13, none, .mv (.t 68), none⟩])))

/- behind: Q -/
def J_slices_partitionCmpFunc_api_Word_j9 : ACode :=
  .keep [0, 1, 4, 12, 13] (.seq (.block 2 (.loop [0, 1, 4, 12, 13] (J_slices_partitionCmpFunc_api_Word_j8)))
       (J_slices_partitionCmpFunc_api_Word_j7))

/- behind: Q = kloop [0, 1, 4, 12, 13] I n (kblock 0 (kseq P (J_slices_partitionCmpFunc_api_Word_j9) Q)) -/
def J_slices_partitionCmpFunc_api_Word_j10 : ACode :=
  .seq (.seq (.draw [0, 1, 4, 12, 13, 47] [⟨some 32, none, .mv (.t 12), none⟩,
      ⟨some 33, none, .mv (.t 13), none⟩,
      ⟨some 34, none, .bin .leq (.t 32) (.t 33), none⟩,
      ⟨some 35, none, .mv (.t 34), none⟩,
      ⟨some 36, (some (35, true)), .mv (.t 4), none⟩,
      ⟨some 37, (some (35, true)), .mv (.t 0), none⟩,
      ⟨some 38, (some (35, true)), .mv (.t 12), none⟩,
      ⟨some 39, (some (35, true)), .idxa 1 (.t 37) (.t 38), none⟩,
      ⟨some 40, (some (35, true)), .load none (.t 39), none⟩,
      ⟨some 41, (some (35, true)), .mv (.t 0), none⟩,
      ⟨some 42, (some (35, true)), .mv (.t 1), none⟩,
      ⟨some 43, (some (35, true)), .idxa 1 (.t 41) (.t 42), none⟩,
      ⟨some 44, (some (35, true)), .load none (.t 43), none⟩,
      ⟨some 45, (some (35, true)), .call (.t 36) [(.t 40), (.t 44)], none⟩,
      ⟨some 46, (some (35, true)), .bin .lss (.t 45) (.c (.int .i64 0)), none⟩,
      ⟨some 47, none, .pick (.t 35) (.t 46) (.c (.bool false)), none⟩])
          (.keep [0, 1, 4, 12, 13, 47] (.cond (.t 47)
           (.skip)
           (.exit 0))))
         (.keep [0, 1, 4, 12, 13] (.block 1 (.ops [⟨some 48, none, .mv (.t 12), none⟩,
      ⟨some 49, none, .bin .add (.t 48) (.c (.int .i64 1)), none⟩,
      ⟨some 12, none, .mv (.t 49), none⟩])))

/-- slices.partitionCmpFunc[attorney/api.Word] -/
def J_slices_partitionCmpFunc_api_Word : AFn :=
  ⟨178, [.t 10, .t 11], .seq (.ops [⟨some 10, none, .mv (.c (.int .i64 0)), none⟩,
      ⟨some 11, none, .mv (.c (.bool false)), none⟩])
   (.keep [0, 1, 2, 3, 4] (.seq (.draw [0, 1, 2, 4] [⟨some 14, none, .mv (.t 0), none⟩,
      ⟨some 15, none, .mv (.t 1), none⟩,
      ⟨some 16, none, .mv (.t 0), none⟩,
      ⟨some 17, none, .mv (.t 3), none⟩,
      ⟨some 18, none, .mv (.t 0), none⟩,
      ⟨some 19, none, .mv (.t 3), none⟩,
      ⟨some 20, none, .idxa 1 (.t 18) (.t 19), none⟩,
      ⟨some 21, none, .load none (.t 20), none⟩,
      ⟨some 22, none, .mv (.t 0), none⟩,
      ⟨some 23, none, .mv (.t 1), none⟩,
      ⟨some 24, none, .idxa 1 (.t 22) (.t 23), none⟩,
      ⟨some 25, none, .load none (.t 24), none⟩,
      ⟨some 26, none, .idxa 1 (.t 14) (.t 15), none⟩,
      ⟨none, none, .store 1 (.t 26) (.t 21), none⟩,
      ⟨some 27, none, .idxa 1 (.t 16) (.t 17), none⟩,
      ⟨none, none, .store 1 (.t 27) (.t 25), none⟩])
    (.keep [0, 1, 2, 4] (.seq (.ops [⟨some 28, none, .mv (.t 1), none⟩,
      ⟨some 29, none, .bin .add (.t 28) (.c (.int .i64 1)), none⟩,
      ⟨some 30, none, .mv (.t 2), none⟩,
      ⟨some 31, none, .bin .sub (.t 30) (.c (.int .i64 1)), none⟩,
      ⟨some 12, none, .mv (.t 29), none⟩,
      ⟨some 13, none, .mv (.t 31), none⟩])
     (.keep [0, 1, 4, 12, 13] (.seq (.block 0 (.loop [0, 1, 4, 12, 13] (J_slices_partitionCmpFunc_api_Word_j10)))
      (J_slices_partitionCmpFunc_api_Word_j9)))))))⟩
theorem J_slices_partitionCmpFunc_api_Word_ok : chkFn Try.prog 140 J_slices_partitionCmpFunc_api_Word = true := by kernel_rfl

/- behind: (kblock 1 Q) -/
def J_slices_siftDownCmpFunc_api_Word_j1 : ACode :=
  .keep [0, 2, 3, 4, 10, 11] (.seq (.seq (.draw [0, 2, 3, 4, 10, 11, 58] [⟨some 43, none, .mv (.t 4), none⟩,
      ⟨some 44, none, .mv (.t 0), none⟩,
      ⟨some 45, none, .mv (.t 3), none⟩,
      ⟨some 46, none, .mv (.t 10), none⟩,
      ⟨some 47, none, .bin .add (.t 45) (.t 46), none⟩,
      ⟨some 48, none, .idxa 1 (.t 44) (.t 47), none⟩,
      ⟨some 49, none, .load none (.t 48), none⟩,
      ⟨some 50, none, .mv (.t 0), none⟩,
      ⟨some 51, none, .mv (.t 3), none⟩,
      ⟨some 52, none, .mv (.t 11), none⟩,
      ⟨some 53, none, .bin .add (.t 51) (.t 52), none⟩,
      ⟨some 54, none, .idxa 1 (.t 50) (.t 53), none⟩,
      ⟨some 55, none, .load none (.t 54), none⟩,
      ⟨some 56, none, .call (.t 43) [(.t 49), (.t 55)], none⟩,
      ⟨some 57, none, .bin .lss (.t 56) (.c (.int .i64 0)), none⟩,
      ⟨some 58, none, .not (.t 57), none⟩])
           (.keep [0, 2, 3, 4, 10, 11, 58] (.cond (.t 58)
            (.ret)
            (.skip))))
          (.keep [0, 2, 3, 4, 10, 11] (.seq (.draw [0, 2, 3, 4, 11] [⟨some 59, none, .mv (.t 0), none⟩,
      ⟨some 60, none, .mv (.t 3), none⟩,
      ⟨some 61, none, .mv (.t 10), none⟩,
      ⟨some 62, none, .bin .add (.t 60) (.t 61), none⟩,
      ⟨some 63, none, .mv (.t 0), none⟩,
      ⟨some 64, none, .mv (.t 3), none⟩,
      ⟨some 65, none, .mv (.t 11), none⟩,
      ⟨some 66, none, .bin .add (.t 64) (.t 65), none⟩,
      ⟨some 67, none, .mv (.t 0), none⟩,
      ⟨some 68, none, .mv (.t 3), none⟩,
      ⟨some 69, none, .mv (.t 11), none⟩,
      ⟨some 70, none, .bin .add (.t 68) (.t 69), none⟩,
      ⟨some 71, none, .idxa 1 (.t 67) (.t 70), none⟩,
      ⟨some 72, none, .load none (.t 71), none⟩,
      ⟨some 73, none, .mv (.t 0), none⟩,
      ⟨some 74, none, .mv (.t 3), none⟩,
      ⟨some 75, none, .mv (.t 10), none⟩,
      ⟨some 76, none, .bin .add (.t 74) (.t 75), none⟩,
      ⟨some 77, none, .idxa 1 (.t 73) (.t 76), none⟩,
      ⟨some 78, none, .load none (.t 77), none⟩,
      ⟨some 79, none, .idxa 1 (.t 59) (.t 62), none⟩,
      ⟨none, none, .store 1 (.t 79) (.t 72), none⟩,
      ⟨some 80, none, .idxa 1 (.t 63) (.t 66), none⟩,
      ⟨none, none, .store 1 (.t 80) (.t 78), none⟩])
           (.keep [0, 2, 3, 4, 11] (.ops [⟨some 81, none, .mv (.t 11), none⟩,
      ⟨some 10, none, .mv (.t 81), none⟩])))))

/- behind: Q = kloop [0, 2, 3, 4, 10] I n (kblock 0 Q) -/
def J_slices_siftDownCmpFunc_api_Word_j2 : ACode :=
  .block 1 (.seq (.ops [⟨some 13, none, .mv (.t 10), none⟩,
      ⟨some 14, none, .bin .mul (.c (.int .i64 2)) (.t 13), none⟩,
      ⟨some 15, none, .bin .add (.t 14) (.c (.int .i64 1)), none⟩,
      ⟨some 11, none, .mv (.t 15), none⟩])
       (.keep [0, 2, 3, 4, 10, 11] (.seq (.seq (.ops [⟨some 16, none, .mv (.t 11), none⟩,
      ⟨some 17, none, .mv (.t 2), none⟩,
      ⟨some 18, none, .bin .geq (.t 16) (.t 17), none⟩])
         (.keep [0, 2, 3, 4, 10, 11, 18] (.cond (.t 18)
          (.exit 0)
          (.skip))))
        (.keep [0, 2, 3, 4, 10, 11] (.seq (.seq (.draw [0, 2, 3, 4, 10, 11, 40] [⟨some 19, none, .mv (.t 11), none⟩,
      ⟨some 20, none, .bin .add (.t 19) (.c (.int .i64 1)), none⟩,
      ⟨some 21, none, .mv (.t 2), none⟩,
      ⟨some 22, none, .bin .lss (.t 20) (.t 21), none⟩,
      ⟨some 23, none, .mv (.t 22), none⟩,
      ⟨some 24, (some (23, true)), .mv (.t 4), none⟩,
      ⟨some 25, (some (23, true)), .mv (.t 0), none⟩,
      ⟨some 26, (some (23, true)), .mv (.t 3), none⟩,
      ⟨some 27, (some (23, true)), .mv (.t 11), none⟩,
      ⟨some 28, (some (23, true)), .bin .add (.t 26) (.t 27), none⟩,
      ⟨some 29, (some (23, true)), .idxa 1 (.t 25) (.t 28), none⟩,
      ⟨some 30, (some (23, true)), .load none (.t 29), none⟩,
      ⟨some 31, (some (23, true)), .mv (.t 0), none⟩,
      ⟨some 32, (some (23, true)), .mv (.t 3), none⟩,
      ⟨some 33, (some (23, true)), .mv (.t 11), none⟩,
      ⟨some 34, (some (23, true)), .bin .add (.t 32) (.t 33), none⟩,
      ⟨some 35, (some (23, true)), .bin .add (.t 34) (.c (.int .i64 1)), none⟩,
      ⟨some 36, (some (23, true)), .idxa 1 (.t 31) (.t 35), none⟩,
      ⟨some 37, (some (23, true)), .load none (.t 36), none⟩,
      ⟨some 38, (some (23, true)), .call (.t 24) [(.t 30), (.t 37)], none⟩,
      ⟨some 39, (some (23, true)), .bin .lss (.t 38) (.c (.int .i64 0)), none⟩,
      ⟨some 40, none, .pick (.t 23) (.t 39) (.c (.bool false)), none⟩])
          (.keep [0, 2, 3, 4, 10, 11, 40] (.cond (.t 40)
           (.ops [⟨some 41, none, .mv (.t 11), none⟩,
      ⟨some 42, none, .bin .add (.t 41) (.c (.int .i64 1)), none⟩,
      ⟨some 11, none, .mv (.t 42), none⟩])
           (.skip))))
         (J_slices_siftDownCmpFunc_api_Word_j1))))))

/-- slices.siftDownCmpFunc[attorney/api.Word] -/
def J_slices_siftDownCmpFunc_api_Word : AFn :=
  ⟨82, [], .seq (.ops [⟨some 12, none, .mv (.t 1), none⟩,
      ⟨some 10, none, .mv (.t 12), none⟩])
   (.keep [0, 2, 3, 4, 10] (.block 0 (.loop [0, 2, 3, 4, 10] (J_slices_siftDownCmpFunc_api_Word_j2))))⟩
theorem J_slices_siftDownCmpFunc_api_Word_ok : chkFn Try.prog 143 J_slices_siftDownCmpFunc_api_Word = true := by kernel_rfl

/-- slices.nextPowerOfTwo -/
def J_slices_nextPowerOfTwo : AFn :=
  ⟨7, [.t 2], .seq (.ops [⟨some 2, none, .mv (.c (.int .u64 0)), none⟩])
   (.keep [0] (.seq (.ops [⟨some 3, none, .mv (.t 0), none⟩,
      ⟨some 4, none, .conv .u64 (.t 3), none⟩,
      ⟨some 5, none, .call (.f 132) [(.t 4)], none⟩,
      ⟨some 6, none, .bin .shl (.c (.int .u64 1)) (.t 5), none⟩,
      ⟨some 2, none, .mv (.t 6), none⟩])
    (.ret)))⟩
theorem J_slices_nextPowerOfTwo_ok : chkFn Try.prog 144 J_slices_nextPowerOfTwo = true := by kernel_rfl

/-- slices.medianAdjacentCmpFunc[attorney/api.Word] -/
def J_slices_medianAdjacentCmpFunc_api_Word : AFn :=
  ⟨18, [.t 8], .seq (.ops [⟨some 8, none, .mv (.c (.int .i64 0)), none⟩])
   (.keep [0, 1, 2, 3] (.seq (.ops [⟨some 9, none, .mv (.t 0), none⟩,
      ⟨some 10, none, .mv (.t 1), none⟩,
      ⟨some 11, none, .bin .sub (.t 10) (.c (.int .i64 1)), none⟩,
      ⟨some 12, none, .mv (.t 1), none⟩,
      ⟨some 13, none, .mv (.t 1), none⟩,
      ⟨some 14, none, .bin .add (.t 13) (.c (.int .i64 1)), none⟩,
      ⟨some 15, none, .mv (.t 2), none⟩,
      ⟨some 16, none, .mv (.t 3), none⟩,
      ⟨some 17, none, .call (.f 147) [(.t 9), (.t 11), (.t 12), (.t 14), (.t 15), (.t 16)], none⟩,
      ⟨some 8, none, .mv (.t 17), none⟩])
    (.ret)))⟩
theorem J_slices_medianAdjacentCmpFunc_api_Word_ok : chkFn Try.prog 146 J_slices_medianAdjacentCmpFunc_api_Word = true := by kernel_rfl

/-- slices.medianCmpFunc[attorney/api.Word] -/
def J_slices_medianCmpFunc_api_Word : AFn :=
  ⟨41, [.t 12], .seq (.ops [⟨some 12, none, .mv (.c (.int .i64 0)), none⟩])
   (.keep [0, 1, 2, 3, 4, 5] (.seq (.ops [⟨some 14, none, .mv (.t 0), none⟩,
      ⟨some 15, none, .mv (.t 1), none⟩,
      ⟨some 16, none, .mv (.t 2), none⟩,
      ⟨some 17, none, .mv (.t 4), none⟩,
      ⟨some 18, none, .mv (.t 5), none⟩,
      ⟨some 19, none, .call (.f 148) [(.t 14), (.t 15), (.t 16), (.t 17), (.t 18)], none⟩,
      ⟨some 13, none, .mv (.t 19), none⟩,
      ⟨some 20, none, .ext 0 (.t 13), none⟩,
      ⟨some 21, none, .ext 1 (.t 13), none⟩,
      ⟨some 1, none, .mv (.t 20), none⟩,
      ⟨some 2, none, .mv (.t 21), none⟩])
    (.keep [0, 1, 2, 3, 4, 5] (.seq (.ops [⟨some 23, none, .mv (.t 0), none⟩,
      ⟨some 24, none, .mv (.t 2), none⟩,
      ⟨some 25, none, .mv (.t 3), none⟩,
      ⟨some 26, none, .mv (.t 4), none⟩,
      ⟨some 27, none, .mv (.t 5), none⟩,
      ⟨some 28, none, .call (.f 148) [(.t 23), (.t 24), (.t 25), (.t 26), (.t 27)], none⟩,
      ⟨some 22, none, .mv (.t 28), none⟩,
      ⟨some 29, none, .ext 0 (.t 22), none⟩,
      ⟨some 30, none, .ext 1 (.t 22), none⟩,
      ⟨some 2, none, .mv (.t 29), none⟩,
      ⟨some 3, none, .mv (.t 30), none⟩])
     (.keep [0, 1, 2, 4, 5] (.seq (.ops [⟨some 32, none, .mv (.t 0), none⟩,
      ⟨some 33, none, .mv (.t 1), none⟩,
      ⟨some 34, none, .mv (.t 2), none⟩,
      ⟨some 35, none, .mv (.t 4), none⟩,
      ⟨some 36, none, .mv (.t 5), none⟩,
      ⟨some 37, none, .call (.f 148) [(.t 32), (.t 33), (.t 34), (.t 35), (.t 36)], none⟩,
      ⟨some 31, none, .mv (.t 37), none⟩,
      ⟨some 38, none, .ext 0 (.t 31), none⟩,
      ⟨some 39, none, .ext 1 (.t 31), none⟩,
      ⟨some 1, none, .mv (.t 38), none⟩,
      ⟨some 2, none, .mv (.t 39), none⟩])
      (.keep [2] (.seq (.ops [⟨some 40, none, .mv (.t 2), none⟩,
      ⟨some 12, none, .mv (.t 40), none⟩])
       (.ret)))))))))⟩
theorem J_slices_medianCmpFunc_api_Word_ok : chkFn Try.prog 147 J_slices_medianCmpFunc_api_Word = true := by kernel_rfl

/-- slices.order2CmpFunc[attorney/api.Word] -/
def J_slices_order2CmpFunc_api_Word : AFn :=
  ⟨32, [.t 10, .t 11], .seq (.ops [⟨some 10, none, .mv (.c (.int .i64 0)), none⟩,
      ⟨some 11, none, .mv (.c (.int .i64 0)), none⟩])
   (.keep [0, 1, 2, 3, 4] (.seq (.seq (.draw [1, 2, 3, 22] [⟨some 12, none, .mv (.t 4), none⟩,
      ⟨some 13, none, .mv (.t 0), none⟩,
      ⟨some 14, none, .mv (.t 2), none⟩,
      ⟨some 15, none, .idxa 1 (.t 13) (.t 14), none⟩,
      ⟨some 16, none, .load none (.t 15), none⟩,
      ⟨some 17, none, .mv (.t 0), none⟩,
      ⟨some 18, none, .mv (.t 1), none⟩,
      ⟨some 19, none, .idxa 1 (.t 17) (.t 18), none⟩,
      ⟨some 20, none, .load none (.t 19), none⟩,
      ⟨some 21, none, .call (.t 12) [(.t 16), (.t 20)], none⟩,
      ⟨some 22, none, .bin .lss (.t 21) (.c (.int .i64 0)), none⟩])
     (.keep [1, 2, 3, 22] (.cond (.t 22)
      (.seq (.ops [⟨some 23, none, .mv (.t 3), none⟩,
      ⟨some 24, none, .nilck (.t 23), none⟩,
      ⟨some 25, none, .load none (.t 24), none⟩,
      ⟨some 26, none, .bin .add (.t 25) (.c (.int .i64 1)), none⟩,
      ⟨some 27, none, .nilck (.t 23), none⟩,
      ⟨none, none, .store 1 (.t 27) (.t 26), none⟩])
       (.keep [1, 2] (.seq (.ops [⟨some 28, none, .mv (.t 2), none⟩,
      ⟨some 29, none, .mv (.t 1), none⟩,
      ⟨some 10, none, .mv (.t 28), none⟩,
      ⟨some 11, none, .mv (.t 29), none⟩])
        (.ret))))
      (.skip))))
    (.keep [1, 2] (.seq (.ops [⟨some 30, none, .mv (.t 1), none⟩,
      ⟨some 31, none, .mv (.t 2), none⟩,
      ⟨some 10, none, .mv (.t 30), none⟩,
      ⟨some 11, none, .mv (.t 31), none⟩])
     (.ret)))))⟩
theorem J_slices_order2CmpFunc_api_Word_ok : chkFn Try.prog 148 J_slices_order2CmpFunc_api_Word = true := by kernel_rfl

end Go.Proofs.Ytaepikkaogfhbaa

/- What the reference's sets do: words in order, each once. -/
namespace Go.Proofs.Ytaepikkaogfhbaa
set_option linter.unusedSimpArgs false
set_option linter.unusedVariables false
open Go.RowKit Go.Lib

theorem rising_get {r : List ByteArray} (hr : rising r = true) : ∀ {i j : Nat} (hi : i < j) (hj : j < r.length), wless (r[i]'(by omega)) r[j] = true := by
  induction r with
  | nil => intro i j _ hj; simp at hj
  | cons x r ih =>
    obtain ⟨h1, h2⟩ := rising_cons.1 hr
    intro i j hi hj
    cases j with
    | zero => omega
    | succ j =>
      cases i with
      | zero => exact h1 _ (List.getElem_mem _)
      | succ i => exact ih h2 (by omega) (by simpa using hj)
/-- comes a word behind those that were taken? -/
def aft (r : List ByteArray) (k : Nat) (x : ByteArray) : Prop := k = 0 ∨ ∃ h : k - 1 < r.length, wless r[k - 1] x = true
theorem aft_iff {r : List ByteArray} (hr : rising r = true) {k j : Nat} (hk : k ≤ r.length) (hj : j < r.length) : aft r k r[j] ↔ k ≤ j := by
  unfold aft
  constructor
  · rintro (h | ⟨h, hw⟩)
    · omega
    · rcases Nat.lt_or_ge j k with hlt | hge
      · by_cases e : j = k - 1
        · subst e; rw [wless_irrefl] at hw; cases hw
        · have := rising_get hr (i := j) (j := k - 1) (by omega) (by omega)
          rw [wless_asymm this] at hw; cases hw
      · exact hge
  · intro h
    by_cases h0 : k = 0
    · exact .inl h0
    · exact .inr ⟨by omega, rising_get hr (by omega) hj⟩
structure RInv (l : List ByteArray) (k i : Nat) (best : ByteArray) (found : Bool) : Prop where
  no : found = false → ∀ x ∈ l.take i, ¬ aft (nrm l) k x
  mem : found = true → best ∈ l ∧ aft (nrm l) k best
  least : found = true → ∀ x ∈ l.take i, aft (nrm l) k x → wless x best = false
theorem RInv.zero (l : List ByteArray) (k : Nat) : RInv l k 0 ⟨#[]⟩ false := ⟨fun _ x hx => by simp at hx, fun h => (nomatch h), fun h => (nomatch h)⟩
theorem RInv.take {l : List ByteArray} {k i : Nat} {best : ByteArray} {found : Bool} (h : RInv l k i best found) (hi : i < l.length) (ha : aft (nrm l) k l[i]) (hb : found = true → wless l[i] best = true) : RInv l k (i + 1) l[i] true := by
  refine ⟨fun h => (nomatch h), fun _ => ⟨List.getElem_mem hi, ha⟩, fun _ x hx hax => ?_⟩
  rcases (by rw [List.take_succ_eq_append_getElem hi, List.mem_append] at hx; simpa using hx : x ∈ l.take i ∨ x = l[i]) with hx | rfl
  · cases found with
    | false => exact absurd hax (h.no rfl x hx)
    | true =>
      cases hw : wless x l[i] with
      | false => rfl
      | true =>
        have := wless_trans hw (hb rfl)
        rw [h.least rfl x hx hax] at this; cases this
  · exact wless_irrefl _
theorem RInv.skip {l : List ByteArray} {k i : Nat} {best : ByteArray} {found : Bool} (h : RInv l k i best found) (hi : i < l.length) (hs : ¬ aft (nrm l) k l[i] ∨ (found = true ∧ wless l[i] best = false)) : RInv l k (i + 1) best found := by
  have key : ∀ x, x ∈ l.take (i + 1) → x ∈ l.take i ∨ x = l[i] := fun x hx => by rw [List.take_succ_eq_append_getElem hi, List.mem_append] at hx; simpa using hx
  refine ⟨fun hf x hx => ?_, h.mem, fun hf x hx hax => ?_⟩
  · rcases key x hx with hx | rfl
    · exact h.no hf x hx
    · rcases hs with hs | ⟨hs, _⟩
      · exact hs
      · rw [hf] at hs; cases hs
  · rcases key x hx with hx | rfl
    · exact h.least hf x hx hax
    · rcases hs with hs | ⟨_, hs⟩
      · exact absurd hax hs
      · exact hs
theorem RInv.stop {l : List ByteArray} {k : Nat} {best : ByteArray} (h : RInv l k l.length best false) (hk : k ≤ (nrm l).length) : k = (nrm l).length := by
  rcases Nat.lt_or_ge k (nrm l).length with hlt | hge
  · have hm : (nrm l)[k] ∈ l := mem_nrm.1 (List.getElem_mem hlt)
    exact absurd ((aft_iff (rising_nrm l) hk hlt).2 (Nat.le_refl _)) (h.no rfl _ (by rw [List.take_length]; exact hm))
  · omega
theorem RInv.next {l : List ByteArray} {k : Nat} {best : ByteArray} (h : RInv l k l.length best true) (hk : k ≤ (nrm l).length) : ∃ hlt : k < (nrm l).length, best = (nrm l)[k] := by
  obtain ⟨hm, ha⟩ := h.mem rfl
  obtain ⟨j, hj, e⟩ := List.mem_iff_getElem.1 (mem_nrm.2 hm)
  subst e
  have hkj := (aft_iff (rising_nrm l) hk hj).1 ha
  refine ⟨by omega, ?_⟩
  by_cases e : j = k
  · subst e; rfl
  · have hlt : k < (nrm l).length := by omega
    have h1 := h.least rfl (nrm l)[k] (by rw [List.take_length]; exact mem_nrm.1 (List.getElem_mem hlt)) ((aft_iff (rising_nrm l) hk hlt).2 (Nat.le_refl _))
    rw [rising_get (rising_nrm l) (by omega) hj] at h1; cases h1
theorem nrm_len : ∀ l : List ByteArray, (nrm l).length ≤ l.length := by
  have h : ∀ (x : ByteArray) (l : List ByteArray), (ins x l).length ≤ l.length + 1 := by
    intro x l
    induction l with
    | nil => simp [ins]
    | cons y l ih => simp only [ins]; split; simp; split <;> simp only [List.length_cons] <;> omega
  intro l
  induction l with
  | nil => simp [nrm]
  | cons x l ih => simp only [nrm, List.length_cons]; have := h x (nrm l); omega
set_option maxRecDepth 100000 in
set_option maxHeartbeats 2000000 in
theorem p_rright (l : List ByteArray) (hl : l.length ≤ 1000000) (hs : ∀ x ∈ l, x.size ≤ 1000000) : PCalls Try.prog 113 [.lst .ro l.length (l.map .str)] (.lst .ro (nrm l).length ((nrm l).map .str)) := by
  refine pcalls_of (by first | rfl | simp [free, free.frees, frees_str, frees_u8, frees_u16]) (by first | rfl | simp [free, free.frees, frees_str, frees_u8, frees_u16]) (acalls_of mixed J_ref03_Right_ok (Nat.le_of_ble_eq_true rfl) ?_); simp only [J_ref03_Right, wk,if_true,if_false,forall_const,implies_true,ne_eq,eq_self,Nat.reduceEqDiff,Nat.reduceAdd,Nat.reduceMul,Nat.reduceSub,Nat.reduceLeDiff,Nat.reduceLT,Int.reduceEq,Int.reduceLT,Int.reduceLE,Int.reduceAdd,Int.reduceSub,Int.reduceMul,Int.reduceNeg,Int.reduceNe,reduceCtorEq,Int.reduceToNat,↓reduceIte]
  have hnl := nrm_len l
  refine W_loop (fun n fr h => ∃ k : Nat, k ≤ (nrm l).length ∧ n = (nrm l).length - k ∧ fr = [(0, .lst .ro l.length (l.map .str)), (3, .lst (.own 44) k (((nrm l).take k).map .str))]) (nrm l).length ⟨0, by omega, by omega, rfl⟩ ?_
  rintro n fr h ⟨k, hk, rfl, rfl⟩
  simp only [J_ref03_Right_j4, wk,if_true,if_false,forall_const,implies_true,ne_eq,eq_self,Nat.reduceEqDiff,Nat.reduceAdd,Nat.reduceMul,Nat.reduceSub,Nat.reduceLeDiff,Nat.reduceLT,Int.reduceEq,Int.reduceLT,Int.reduceLE,Int.reduceAdd,Int.reduceSub,Int.reduceMul,Int.reduceNeg,Int.reduceNe,reduceCtorEq,Int.reduceToNat,↓reduceIte]
  refine W_loop (fun n fr h => ∃ (i : Nat) (best : ByteArray) (found : Bool), i ≤ l.length ∧ n = l.length - i ∧ best.size ≤ 1000000 ∧ RInv l k i best found ∧ fr = [(0, .lst .ro l.length (l.map .str)), (3, .lst (.own 44) k (((nrm l).take k).map .str)), (4, .str best), (5, .bool found), (6, .int .i64 i)]) l.length ⟨0, ⟨#[]⟩, false, by omega, by omega, by decide, RInv.zero l k, rfl⟩ ?_
  rintro n fr h ⟨i, best, found, hi, rfl, hbs, hinv, rfl⟩
  simp only [J_ref03_Right_j3, wk,if_true,if_false,forall_const,implies_true,ne_eq,eq_self,Nat.reduceEqDiff,Nat.reduceAdd,Nat.reduceMul,Nat.reduceSub,Nat.reduceLeDiff,Nat.reduceLT,Int.reduceEq,Int.reduceLT,Int.reduceLE,Int.reduceAdd,Int.reduceSub,Int.reduceMul,Int.reduceNeg,Int.reduceNe,reduceCtorEq,Int.reduceToNat,↓reduceIte]
  refine ⟨fun hlt => ?_, fun hge => ?_⟩
  · have hil : i < l.length := by omega
    have hxs := hs l[i] (List.getElem_mem hil)
    have hd : (l.map AV.str).drop (i : Int).toNat = .str l[i] :: (l.map AV.str).drop (i + 1) := by rw [show (i : Int).toNat = i by omega, drop_str hil]
    have hz : (0 ≤ (i : Int)) = True := eq_true (by omega)
    have hlt' : ((i : Int) < (l.length : Int)) = True := eq_true (by omega)
    have htk : ∀ {fr0 : Fr} {Q : Exit → Fr → Hp → Prop} {h : Hp}, restr [0, 3, 4, 5, 6] fr0 = [(0, .lst .ro l.length (l.map .str)), (3, .lst (.own 44) k (((nrm l).take k).map .str)), (4, .str l[i]), (5, .bool true), (6, .int .i64 i)] → aft (nrm l) k l[i] → (found = true → wless l[i] best = true) → W Try.prog J_ref03_Right_j2 fr0 h (kloop [0, 3, 4, 5, 6] (fun n fr h => ∃ (i : Nat) (best : ByteArray) (found : Bool), i ≤ l.length ∧ n = l.length - i ∧ best.size ≤ 1000000 ∧ RInv l k i best found ∧ fr = [(0, .lst .ro l.length (l.map .str)), (3, .lst (.own 44) k (((nrm l).take k).map .str)), (4, .str best), (5, .bool found), (6, .int .i64 i)]) (l.length - i) Q) := by
      intro fr0 Q h hf ha hb
      simp only [J_ref03_Right_j2, W_keep]
      rw [hf]
      simp only [wk,if_true,if_false,forall_const,implies_true,ne_eq,eq_self,Nat.reduceEqDiff,Nat.reduceAdd,Nat.reduceMul,Nat.reduceSub,Nat.reduceLeDiff,Nat.reduceLT,Int.reduceEq,Int.reduceLT,Int.reduceLE,Int.reduceAdd,Int.reduceSub,Int.reduceMul,Int.reduceNeg,Int.reduceNe,reduceCtorEq,Int.reduceToNat,↓reduceIte]
      exact ⟨inR_of (by omega) (by omega), l.length - (i + 1), by omega, i + 1, l[i], true, by omega, rfl, hxs, hinv.take hil ha hb, rfl⟩
    have hsk : ∀ {fr0 : Fr} {Q : Exit → Fr → Hp → Prop} {h : Hp}, restr [0, 3, 4, 5, 6] fr0 = [(0, .lst .ro l.length (l.map .str)), (3, .lst (.own 44) k (((nrm l).take k).map .str)), (4, .str best), (5, .bool found), (6, .int .i64 i)] → (¬ aft (nrm l) k l[i] ∨ (found = true ∧ wless l[i] best = false)) → W Try.prog J_ref03_Right_j2 fr0 h (kloop [0, 3, 4, 5, 6] (fun n fr h => ∃ (i : Nat) (best : ByteArray) (found : Bool), i ≤ l.length ∧ n = l.length - i ∧ best.size ≤ 1000000 ∧ RInv l k i best found ∧ fr = [(0, .lst .ro l.length (l.map .str)), (3, .lst (.own 44) k (((nrm l).take k).map .str)), (4, .str best), (5, .bool found), (6, .int .i64 i)]) (l.length - i) Q) := by
      intro fr0 Q h hf hss
      simp only [J_ref03_Right_j2, W_keep]
      rw [hf]
      simp only [wk,if_true,if_false,forall_const,implies_true,ne_eq,eq_self,Nat.reduceEqDiff,Nat.reduceAdd,Nat.reduceMul,Nat.reduceSub,Nat.reduceLeDiff,Nat.reduceLT,Int.reduceEq,Int.reduceLT,Int.reduceLE,Int.reduceAdd,Int.reduceSub,Int.reduceMul,Int.reduceNeg,Int.reduceNe,reduceCtorEq,Int.reduceToNat,↓reduceIte]
      exact ⟨inR_of (by omega) (by omega), l.length - (i + 1), by omega, i + 1, best, found, by omega, rfl, hbs, hinv.skip hil hss, rfl⟩
    simp only [wk,if_true,if_false,forall_const,implies_true,ne_eq,eq_self,Nat.reduceEqDiff,Nat.reduceAdd,Nat.reduceMul,Nat.reduceSub,Nat.reduceLeDiff,Nat.reduceLT,Int.reduceEq,Int.reduceLT,Int.reduceLE,Int.reduceAdd,Int.reduceSub,Int.reduceMul,Int.reduceNeg,Int.reduceNe,reduceCtorEq,Int.reduceToNat,↓reduceIte, hd, hz, hlt']
    refine ⟨fun hk0 => ?_, fun hk0 => ?_⟩
    · -- some were taken
      have hkp : 0 < k := by omega
      have hkl : k - 1 < ((nrm l).take k).length := by rw [List.length_take]; omega
      have hd2 : (((nrm l).take k).map AV.str).drop ((k : Int) - 1).toNat = .str ((nrm l)[k - 1]'(by omega)) :: (((nrm l).take k).map AV.str).drop k := by
        rw [show ((k : Int) - 1).toNat = k - 1 by omega, drop_str hkl, List.getElem_take, show k - 1 + 1 = k by omega]
      refine ⟨inR_of (by omega) (by omega), ⟨by omega, by omega⟩, ?_⟩
      simp only [wk,if_true,if_false,forall_const,implies_true,ne_eq,eq_self,Nat.reduceEqDiff,Nat.reduceAdd,Nat.reduceMul,Nat.reduceSub,Nat.reduceLeDiff,Nat.reduceLT,Int.reduceEq,Int.reduceLT,Int.reduceLE,Int.reduceAdd,Int.reduceSub,Int.reduceMul,Int.reduceNeg,Int.reduceNe,reduceCtorEq,Int.reduceToNat,↓reduceIte, hd2, hd, hz, hlt']
      refine ⟨_, p_rwless (nrm l)[k - 1] l[i] (by have := hs _ (mem_nrm.1 (List.getElem_mem (l := nrm l) (n := k - 1) (by omega))); omega), ?_⟩
      have haf : ∀ b, wless (nrm l)[k - 1] l[i] = b → (b = true ↔ aft (nrm l) k l[i]) := by
        intro b hb
        unfold aft
        constructor
        · intro h; exact .inr ⟨by omega, by rw [hb, h]⟩
        · rintro (h | ⟨_, h⟩)
          · omega
          · rw [← hb]; exact h
      cases hwb : wless (nrm l)[k - 1] l[i] with
      | true =>
        simp only [wk,if_true,if_false,forall_const,implies_true,ne_eq,eq_self,Nat.reduceEqDiff,Nat.reduceAdd,Nat.reduceMul,Nat.reduceSub,Nat.reduceLeDiff,Nat.reduceLT,Int.reduceEq,Int.reduceLT,Int.reduceLE,Int.reduceAdd,Int.reduceSub,Int.reduceMul,Int.reduceNeg,Int.reduceNe,reduceCtorEq,Int.reduceToNat,↓reduceIte, hd, hz, hlt']
        refine ⟨fun hfo => ?_, fun hfo => htk (by first | rfl | (subst hfo; rfl)) ((haf true hwb).1 rfl) (fun h => by rw [hfo] at h; cases h)⟩
        subst hfo
        refine PCalls.use (p_rwless l[i] best (by omega)) ?_; simp only [wk,if_true,if_false,forall_const,implies_true,ne_eq,eq_self,Nat.reduceEqDiff,Nat.reduceAdd,Nat.reduceMul,Nat.reduceSub,Nat.reduceLeDiff,Nat.reduceLT,Int.reduceEq,Int.reduceLT,Int.reduceLE,Int.reduceAdd,Int.reduceSub,Int.reduceMul,Int.reduceNeg,Int.reduceNe,reduceCtorEq,Int.reduceToNat,↓reduceIte]
        refine ⟨fun hw => ?_, fun hw => ?_⟩
        · simp only [wk,if_true,if_false,forall_const,implies_true,ne_eq,eq_self,Nat.reduceEqDiff,Nat.reduceAdd,Nat.reduceMul,Nat.reduceSub,Nat.reduceLeDiff,Nat.reduceLT,Int.reduceEq,Int.reduceLT,Int.reduceLE,Int.reduceAdd,Int.reduceSub,Int.reduceMul,Int.reduceNeg,Int.reduceNe,reduceCtorEq,Int.reduceToNat,↓reduceIte, hd, hz, hlt']
          exact htk rfl ((haf true hwb).1 rfl) (fun _ => hw)
        · exact hsk rfl (.inr ⟨rfl, hw⟩)
      | false =>
        simp only [wk,if_true,if_false,forall_const,implies_true,ne_eq,eq_self,Nat.reduceEqDiff,Nat.reduceAdd,Nat.reduceMul,Nat.reduceSub,Nat.reduceLeDiff,Nat.reduceLT,Int.reduceEq,Int.reduceLT,Int.reduceLE,Int.reduceAdd,Int.reduceSub,Int.reduceMul,Int.reduceNeg,Int.reduceNe,reduceCtorEq,Int.reduceToNat,↓reduceIte]
        exact hsk rfl (.inl (fun h => by have := (haf false hwb).2 h; cases this))
    · have haf : aft (nrm l) k l[i] := .inl (by omega)
      refine ⟨fun hfo => ?_, fun hfo => htk (by first | rfl | (subst hfo; rfl)) haf (fun h => by rw [hfo] at h; cases h)⟩
      subst hfo
      refine PCalls.use (p_rwless l[i] best (by omega)) ?_; simp only [wk,if_true,if_false,forall_const,implies_true,ne_eq,eq_self,Nat.reduceEqDiff,Nat.reduceAdd,Nat.reduceMul,Nat.reduceSub,Nat.reduceLeDiff,Nat.reduceLT,Int.reduceEq,Int.reduceLT,Int.reduceLE,Int.reduceAdd,Int.reduceSub,Int.reduceMul,Int.reduceNeg,Int.reduceNe,reduceCtorEq,Int.reduceToNat,↓reduceIte]
      refine ⟨fun hw => ?_, fun hw => ?_⟩
      · simp only [wk,if_true,if_false,forall_const,implies_true,ne_eq,eq_self,Nat.reduceEqDiff,Nat.reduceAdd,Nat.reduceMul,Nat.reduceSub,Nat.reduceLeDiff,Nat.reduceLT,Int.reduceEq,Int.reduceLT,Int.reduceLE,Int.reduceAdd,Int.reduceSub,Int.reduceMul,Int.reduceNeg,Int.reduceNe,reduceCtorEq,Int.reduceToNat,↓reduceIte, hd, hz, hlt']
        exact htk rfl haf (fun _ => hw)
      · exact hsk rfl (.inr ⟨rfl, hw⟩)
  · have hie : i = l.length := by omega
    subst hie
    simp only [J_ref03_Right_j1, wk,if_true,if_false,forall_const,implies_true,ne_eq,eq_self,Nat.reduceEqDiff,Nat.reduceAdd,Nat.reduceMul,Nat.reduceSub,Nat.reduceLeDiff,Nat.reduceLT,Int.reduceEq,Int.reduceLT,Int.reduceLE,Int.reduceAdd,Int.reduceSub,Int.reduceMul,Int.reduceNeg,Int.reduceNe,reduceCtorEq,Int.reduceToNat,↓reduceIte]
    cases found with
    | false =>
      obtain rfl := hinv.stop hk
      exact ⟨fun _ => by rw [List.take_length], fun h => (nomatch h)⟩
    | true =>
      obtain ⟨hkl, rfl⟩ := hinv.next hk
      refine ⟨fun h => (nomatch h), fun _ => ⟨⟨by omega, by omega⟩, (nrm l).length - (k + 1), by omega, k + 1, by omega, rfl, ?_⟩⟩
      rw [List.take_succ_eq_append_getElem hkl, List.map_append]
      rfl
end Go.Proofs.Ytaepikkaogfhbaa

/- What the reference's sets do: Of, And, Quote, As, For, and what is asked. -/
namespace Go.Proofs.Ytaepikkaogfhbaa
set_option linter.unusedSimpArgs false
set_option linter.unusedVariables false
open Go.RowKit Go.Lib

/-- a set and what is wrong, as told -/
def vSet (r : List ByteArray × Int) : AV := .tup [.lst .ro r.1.length (r.1.map .str), .int .i64 r.2]
theorem free_vSet (r : List ByteArray × Int) : free (vSet r) = true := by simp [vSet, free, free.frees, frees_str]
def boundE (l : List ByteArray) : List ByteArray × Int := if 1 ≤ l.length ∧ l.length ≤ 16 then (l, 0) else ([], 3)
theorem ofE_may {l : List ByteArray} (h : ∀ x ∈ l, wordMay x = true) : ofE l = boundE (nrm l) := by
  unfold ofE
  rw [if_neg (by rw [List.all_eq_true.2 h]; simp)]; rfl
theorem p_rbound (l : List ByteArray) (hl : l.length ≤ 1000000) : PCalls Try.prog 116 [.lst .ro l.length (l.map .str)] (vSet (boundE l)) := by
  refine pcalls_of (by simp [free, free.frees, frees_str]) (free_vSet _) (ACalls.weak (acalls_of mixed J_ref03_bound_ok (Nat.le_of_ble_eq_true rfl) ?_)); simp only [J_ref03_bound, wk,if_true,if_false,forall_const,implies_true,ne_eq,eq_self,Nat.reduceEqDiff,Nat.reduceAdd,Nat.reduceMul,Nat.reduceSub,Nat.reduceLeDiff,Nat.reduceLT,Int.reduceEq,Int.reduceLT,Int.reduceLE,Int.reduceAdd,Int.reduceSub,Int.reduceMul,Int.reduceNeg,Int.reduceNe,reduceCtorEq,Int.reduceToNat,↓reduceIte]
  refine ⟨fun h1 => ⟨fun h2 => ?_, fun h2 => ?_⟩, fun h1 => ?_⟩
  all_goals unfold boundE
  · rw [if_neg (by omega)]; rfl
  · rw [if_pos (by omega)]; rfl
  · rw [if_neg (by omega)]; rfl
set_option maxHeartbeats 1000000 in
theorem p_rand (a b : List ByteArray) (ha : a.length ≤ 10000) (hb : b.length ≤ 10000) (hsa : ∀ x ∈ a, x.size ≤ 1000000) (hsb : ∀ x ∈ b, x.size ≤ 1000000) : PCalls Try.prog 91 [.lst .ro a.length (a.map .str), .lst .ro b.length (b.map .str)] (vSet (andE a b)) := by
  refine pcalls_of (by simp [free, free.frees, frees_str]) (free_vSet _) (ACalls.weak (acalls_of mixed J_ref03_And_ok (Nat.le_of_ble_eq_true rfl) ?_)); simp only [J_ref03_And, wk,if_true,if_false,forall_const,implies_true,ne_eq,eq_self,Nat.reduceEqDiff,Nat.reduceAdd,Nat.reduceMul,Nat.reduceSub,Nat.reduceLeDiff,Nat.reduceLT,Int.reduceEq,Int.reduceLT,Int.reduceLE,Int.reduceAdd,Int.reduceSub,Int.reduceMul,Int.reduceNeg,Int.reduceNe,reduceCtorEq,Int.reduceToNat,↓reduceIte]
  refine PCalls.use (p_rsmay a (by omega) (fun x hx => by have := hsa x hx; omega)) ?_; simp only [wk,if_true,if_false,forall_const,implies_true,ne_eq,eq_self,Nat.reduceEqDiff,Nat.reduceAdd,Nat.reduceMul,Nat.reduceSub,Nat.reduceLeDiff,Nat.reduceLT,Int.reduceEq,Int.reduceLT,Int.reduceLE,Int.reduceAdd,Int.reduceSub,Int.reduceMul,Int.reduceNeg,Int.reduceNe,reduceCtorEq,Int.reduceToNat,↓reduceIte]
  refine ⟨fun hm => ?_, fun hm => ?_⟩
  · refine PCalls.use (p_rsmay b (by omega) (fun x hx => by have := hsb x hx; omega)) ?_; simp only [wk,if_true,if_false,forall_const,implies_true,ne_eq,eq_self,Nat.reduceEqDiff,Nat.reduceAdd,Nat.reduceMul,Nat.reduceSub,Nat.reduceLeDiff,Nat.reduceLT,Int.reduceEq,Int.reduceLT,Int.reduceLE,Int.reduceAdd,Int.reduceSub,Int.reduceMul,Int.reduceNeg,Int.reduceNe,reduceCtorEq,Int.reduceToNat,↓reduceIte]
    refine ⟨fun hm2 => ?_, fun hm2 => ?_⟩
    · unfold andE; rw [if_pos (.inr hm2)]; rfl
    · refine ⟨⟨by simp, by omega, by omega⟩, ⟨by simp, by omega, by omega⟩, ?_⟩
      rw [show a.length + b.length = (a ++ b).length by simp, ← List.map_append]
      refine PCalls.use (p_rright (a ++ b) (by simp; omega) (fun x hx => by rcases List.mem_append.1 hx with h | h; exact hsa x h; exact hsb x h)) ?_; simp only [wk,if_true,if_false,forall_const,implies_true,ne_eq,eq_self,Nat.reduceEqDiff,Nat.reduceAdd,Nat.reduceMul,Nat.reduceSub,Nat.reduceLeDiff,Nat.reduceLT,Int.reduceEq,Int.reduceLT,Int.reduceLE,Int.reduceAdd,Int.reduceSub,Int.reduceMul,Int.reduceNeg,Int.reduceNe,reduceCtorEq,Int.reduceToNat,↓reduceIte]
      refine PCalls.use (p_rbound (nrm (a ++ b)) (by have := nrm_len (a ++ b); simp at this; omega)) ?_; simp only [wk,if_true,if_false,forall_const,implies_true,ne_eq,eq_self,Nat.reduceEqDiff,Nat.reduceAdd,Nat.reduceMul,Nat.reduceSub,Nat.reduceLeDiff,Nat.reduceLT,Int.reduceEq,Int.reduceLT,Int.reduceLE,Int.reduceAdd,Int.reduceSub,Int.reduceMul,Int.reduceNeg,Int.reduceNe,reduceCtorEq,Int.reduceToNat,↓reduceIte]
      unfold andE
      rw [if_neg (by simp [hm, hm2]), ofE_may (fun x hx => by rcases List.mem_append.1 hx with h | h; exact (setMay_words hm).2 x h; exact (setMay_words hm2).2 x h)]
      simp only [vSet, rod_tup, ro_ro, ro_int, wk,if_true,if_false,forall_const,implies_true,ne_eq,eq_self,Nat.reduceEqDiff,Nat.reduceAdd,Nat.reduceMul,Nat.reduceSub,Nat.reduceLeDiff,Nat.reduceLT,Int.reduceEq,Int.reduceLT,Int.reduceLE,Int.reduceAdd,Int.reduceSub,Int.reduceMul,Int.reduceNeg,Int.reduceNe,reduceCtorEq,Int.reduceToNat,↓reduceIte]
  · unfold andE; rw [if_pos (.inl hm)]; rfl
/-- a word's atoms, as numbers -/
def atomNs (s : ByteArray) : List Nat := (List.range (s.size / 2)).map (atomAt s)
theorem atomsL_eq (s : ByteArray) : atomsL s (s.size / 2) = u16s (atomNs s) := by simp [atomsL, atomNs, u16s]
theorem atomNs_len (s : ByteArray) : (atomNs s).length = s.size / 2 := by simp [atomNs]
theorem atomNs_lt (s : ByteArray) : ∀ a ∈ atomNs s, a < 65536 := by
  intro a ha
  obtain ⟨i, _, rfl⟩ := List.mem_map.1 ha
  exact atomAt_lt s i
theorem atomBytes_app (a b : List Nat) : atomBytes (a ++ b) = atomBytes a ++ atomBytes b := by simp [atomBytes]
theorem atomBytes_atoms {s : ByteArray} (h : s.size % 2 = 0) : atomBytes (atomNs s) = s.data.toList := by
  have key : ∀ k, 2 * k ≤ s.size → atomBytes ((List.range k).map (atomAt s)) = s.data.toList.take (2 * k) := by
    intro k
    induction k with
    | zero => intro _; rfl
    | succ k ih =>
      intro hk
      rw [List.range_succ, List.map_append, atomBytes_app, ih (by omega)]
      have h1 : 2 * k < s.data.toList.length := by simp; omega
      have h2 : 2 * k + 1 < s.data.toList.length := by simp; omega
      rw [show 2 * (k + 1) = 2 * k + 1 + 1 by omega, List.take_succ_eq_append_getElem h2, List.take_succ_eq_append_getElem h1, List.append_assoc]
      congr 1
      have ha : atomAt s k = s[2 * k].toNat * 256 + s[2 * k + 1].toNat := by unfold atomAt; rw [dif_pos (by omega)]
      have b1 := s[2 * k].toNat_lt
      have b2 := s[2 * k + 1].toNat_lt
      simp only [List.map_cons, List.map_nil, atomBytes, List.flatMap_cons, List.flatMap_nil, List.append_nil, ha]
      have e1 : (s[2 * k].toNat * 256 + s[2 * k + 1].toNat) / 256 = s[2 * k].toNat := by omega
      have e2 : (s[2 * k].toNat * 256 + s[2 * k + 1].toNat) % 256 = s[2 * k + 1].toNat := by omega
      rw [e1, e2]
      simp
      exact ⟨rfl, rfl⟩
  have := key (s.size / 2) (by omega)
  unfold atomNs
  rw [this, List.take_of_length_le (by simp; omega)]
/-- words one behind the other -/
def catN (l : List ByteArray) : List Nat := l.flatMap atomNs
def catE (l : List ByteArray) : ByteArray × Int := if 8 < (catN l).length then (⟨#[]⟩, 4) else (⟨(l.flatMap fun s => s.data.toList).toArray⟩, 0)
theorem catN_bytes {l : List ByteArray} (h : ∀ x ∈ l, x.size % 2 = 0) : atomBytes (catN l) = l.flatMap fun s => s.data.toList := by
  induction l with
  | nil => rfl
  | cons x l ih => simp only [catN, List.flatMap_cons] at ih ⊢; rw [atomBytes_app, atomBytes_atoms (h x (by simp)), ih (fun y hy => h y (by simp [hy]))]
set_option maxHeartbeats 1000000 in
theorem p_rcat (l : List ByteArray) (hl : l.length ≤ 1000) (hs : ∀ x ∈ l, x.size ≤ 1000) (hev : ∀ x ∈ l, x.size % 2 = 0) : PCalls Try.prog 115 [.lst .ro l.length (l.map .str)] (.tup [.str (catE l).1, .int .i64 (catE l).2]) := by
  refine pcalls_of (by first | rfl | simp [free, free.frees, frees_str, frees_u8, frees_u16]) (by first | rfl | simp [free, free.frees, frees_str, frees_u8, frees_u16]) (acalls_of mixed J_ref02_Cat_ok (Nat.le_of_ble_eq_true rfl) ?_); simp only [J_ref02_Cat, wk,if_true,if_false,forall_const,implies_true,ne_eq,eq_self,Nat.reduceEqDiff,Nat.reduceAdd,Nat.reduceMul,Nat.reduceSub,Nat.reduceLeDiff,Nat.reduceLT,Int.reduceEq,Int.reduceLT,Int.reduceLE,Int.reduceAdd,Int.reduceSub,Int.reduceMul,Int.reduceNeg,Int.reduceNe,reduceCtorEq,Int.reduceToNat,↓reduceIte]
  have hd : ∀ {i : Nat} (h : i < l.length), (l.map AV.str).drop (i : Int).toNat = .str l[i] :: (l.map AV.str).drop (i + 1) := fun h => by rw [show ∀ i : Nat, (i : Int).toNat = i from fun i => by omega, drop_str h]
  have hlen : ∀ i, (catN (l.take i)).length ≤ 500 * i := by
    intro i
    induction i with
    | zero => simp [catN]
    | succ i ih =>
      by_cases h : i < l.length
      · rw [List.take_succ_eq_append_getElem h]
        have := hs l[i] (List.getElem_mem h)
        simp only [catN, List.flatMap_append, List.length_append, List.flatMap_cons, List.flatMap_nil, List.append_nil, atomNs_len] at ih ⊢; omega
      · rw [List.take_of_length_le (by omega)] at ih ⊢; omega
  refine W_loop (fun n fr h => ∃ i : Nat, i ≤ l.length ∧ n = l.length - i ∧ fr = [(0, .lst .ro l.length (l.map .str)), (4, .lst (.own 54) 0 []), (5, .int .i64 i)]) l.length ⟨0, by omega, by omega, rfl⟩ ?_
  rintro n fr h ⟨i, hi, rfl, rfl⟩
  simp only [J_ref02_Cat_j4, wk,if_true,if_false,forall_const,implies_true,ne_eq,eq_self,Nat.reduceEqDiff,Nat.reduceAdd,Nat.reduceMul,Nat.reduceSub,Nat.reduceLeDiff,Nat.reduceLT,Int.reduceEq,Int.reduceLT,Int.reduceLE,Int.reduceAdd,Int.reduceSub,Int.reduceMul,Int.reduceNeg,Int.reduceNe,reduceCtorEq,Int.reduceToNat,↓reduceIte]
  refine ⟨fun hlt => ?_, fun hge => ?_⟩
  · have hil : i < l.length := by omega
    have he := hev l[i] (List.getElem_mem hil)
    refine ⟨⟨by omega, by omega⟩, ?_⟩
    simp only [hd hil, wk,if_true,if_false,forall_const,implies_true,ne_eq,eq_self,Nat.reduceEqDiff,Nat.reduceAdd,Nat.reduceMul,Nat.reduceSub,Nat.reduceLeDiff,Nat.reduceLT,Int.reduceEq,Int.reduceLT,Int.reduceLE,Int.reduceAdd,Int.reduceSub,Int.reduceMul,Int.reduceNeg,Int.reduceNe,reduceCtorEq,Int.reduceToNat,↓reduceIte]
    refine ⟨fun h1 => ?_, fun _ => ⟨inR_of (by omega) (by omega), l.length - (i + 1), by omega, i + 1, by omega, rfl, rfl⟩⟩
    rw [Int.tmod_eq_emod_of_nonneg (by omega)] at h1
    omega
  · simp only [J_ref02_Cat_j3, wk,if_true,if_false,forall_const,implies_true,ne_eq,eq_self,Nat.reduceEqDiff,Nat.reduceAdd,Nat.reduceMul,Nat.reduceSub,Nat.reduceLeDiff,Nat.reduceLT,Int.reduceEq,Int.reduceLT,Int.reduceLE,Int.reduceAdd,Int.reduceSub,Int.reduceMul,Int.reduceNeg,Int.reduceNe,reduceCtorEq,Int.reduceToNat,↓reduceIte]
    refine W_loop (fun n fr h => ∃ i : Nat, i ≤ l.length ∧ n = l.length - i ∧ fr = [(0, .lst .ro l.length (l.map .str)), (4, .lst (.own 54) (catN (l.take i)).length (u16s (catN (l.take i)))), (6, .int .i64 i)] ∧ (catN (l.take i)).length ≤ 8) l.length ⟨0, by omega, by omega, rfl, by simp [catN]⟩ ?_
    rintro n fr h ⟨i, hi, rfl, rfl, h8⟩
    simp only [J_ref02_Cat_j2, wk,if_true,if_false,forall_const,implies_true,ne_eq,eq_self,Nat.reduceEqDiff,Nat.reduceAdd,Nat.reduceMul,Nat.reduceSub,Nat.reduceLeDiff,Nat.reduceLT,Int.reduceEq,Int.reduceLT,Int.reduceLE,Int.reduceAdd,Int.reduceSub,Int.reduceMul,Int.reduceNeg,Int.reduceNe,reduceCtorEq,Int.reduceToNat,↓reduceIte]
    refine ⟨fun hlt => ?_, fun hge => ?_⟩
    · have hil : i < l.length := by omega
      have hx := hs l[i] (List.getElem_mem hil)
      have hnx : catN (l.take (i + 1)) = catN (l.take i) ++ atomNs l[i] := by unfold catN; rw [List.take_succ_eq_append_getElem hil, List.flatMap_append]; simp only [List.flatMap_cons, List.flatMap_nil, List.append_nil]
      refine ⟨⟨by omega, by omega⟩, ?_⟩
      simp only [hd hil, wk,if_true,if_false,forall_const,implies_true,ne_eq,eq_self,Nat.reduceEqDiff,Nat.reduceAdd,Nat.reduceMul,Nat.reduceSub,Nat.reduceLeDiff,Nat.reduceLT,Int.reduceEq,Int.reduceLT,Int.reduceLE,Int.reduceAdd,Int.reduceSub,Int.reduceMul,Int.reduceNeg,Int.reduceNe,reduceCtorEq,Int.reduceToNat,↓reduceIte]
      refine PCalls.use (p_ratoms l[i] (by omega)) ?_; simp only [wk,if_true,if_false,forall_const,implies_true,ne_eq,eq_self,Nat.reduceEqDiff,Nat.reduceAdd,Nat.reduceMul,Nat.reduceSub,Nat.reduceLeDiff,Nat.reduceLT,Int.reduceEq,Int.reduceLT,Int.reduceLE,Int.reduceAdd,Int.reduceSub,Int.reduceMul,Int.reduceNeg,Int.reduceNe,reduceCtorEq,Int.reduceToNat,↓reduceIte]
      rw [atomsL_eq]
      refine ⟨⟨by simp [atomNs_len], by omega, by omega⟩, ?_⟩
      rw [← atomNs_len, ← List.length_append, ← List.map_append, ← hnx]
      refine ⟨fun hgt => ?_, fun hng => ?_⟩
      · have hbig : 8 < (catN l).length := by
          have : catN l = catN (l.take (i + 1)) ++ catN (l.drop (i + 1)) := by unfold catN; rw [← List.flatMap_append, List.take_append_drop]
          rw [this, List.length_append]; omega
        unfold catE; rw [if_pos hbig]
      · exact ⟨inR_of (by omega) (by omega), l.length - (i + 1), by omega, i + 1, by omega, rfl, rfl, by omega⟩
    · obtain rfl : i = l.length := by omega
      rw [List.take_length] at h8 ⊢
      simp only [J_ref02_Cat_j1, wk,if_true,if_false,forall_const,implies_true,ne_eq,eq_self,Nat.reduceEqDiff,Nat.reduceAdd,Nat.reduceMul,Nat.reduceSub,Nat.reduceLeDiff,Nat.reduceLT,Int.reduceEq,Int.reduceLT,Int.reduceLE,Int.reduceAdd,Int.reduceSub,Int.reduceMul,Int.reduceNeg,Int.reduceNe,reduceCtorEq,Int.reduceToNat,↓reduceIte]
      refine PCalls.use (p_rof (catN l) (by omega) (fun a ha => by obtain ⟨s, _, hs⟩ := List.mem_flatMap.1 ha; exact atomNs_lt s a hs)) ?_; simp only [wk,if_true,if_false,forall_const,implies_true,ne_eq,eq_self,Nat.reduceEqDiff,Nat.reduceAdd,Nat.reduceMul,Nat.reduceSub,Nat.reduceLeDiff,Nat.reduceLT,Int.reduceEq,Int.reduceLT,Int.reduceLE,Int.reduceAdd,Int.reduceSub,Int.reduceMul,Int.reduceNeg,Int.reduceNe,reduceCtorEq,Int.reduceToNat,↓reduceIte]
      unfold catE
      rw [if_neg (by omega), catN_bytes hev]
end Go.Proofs.Ytaepikkaogfhbaa

/- What the reference's sets do: Quote, As, For. -/
namespace Go.Proofs.Ytaepikkaogfhbaa
set_option linter.unusedSimpArgs false
set_option linter.unusedVariables false
open Go.RowKit Go.Lib

theorem wordMay_even {s : ByteArray} (h : wordMay s = true) : s.size % 2 = 0 ∧ s.size ≤ 16 := by have := wordMay_size h; omega
theorem catE_two {x y : ByteArray} (hx : wordMay x = true) (hy : wordMay y = true) : catE [x, y] = if 8 < (x ++ y).size / 2 then (⟨#[]⟩, 4) else (x ++ y, 0) := by
  have h1 := wordMay_even hx
  have h2 := wordMay_even hy
  have e : (catN [x, y]).length = (x ++ y).size / 2 := by
    simp only [catN, List.flatMap_cons, List.flatMap_nil, List.append_nil, List.length_append, atomNs_len, ByteArray.size_append]; omega
  have e2 : (⟨([x, y].flatMap fun s => s.data.toList).toArray⟩ : ByteArray) = x ++ y := by
    apply ByteArray.ext; apply Array.ext'; simp
  unfold catE
  rw [e, e2]
/-- the pairs up to a place -/
def prodTo (a b : List ByteArray) (i k : Nat) : List ByteArray := prodW (a.take i) b ++ (match a[i]? with | some x => (b.take k).map fun y => x ++ y | none => [])
theorem prodTo_zero (a b : List ByteArray) (i : Nat) : prodTo a b i 0 = prodW (a.take i) b := by unfold prodTo; cases a[i]? <;> simp
theorem prodTo_succ {a b : List ByteArray} {i k : Nat} (hi : i < a.length) (hk : k < b.length) : prodTo a b i (k + 1) = prodTo a b i k ++ [a[i] ++ b[k]] := by
  unfold prodTo
  rw [List.getElem?_eq_getElem hi]
  simp only
  rw [List.take_succ_eq_append_getElem hk, List.map_append, List.append_assoc]; rfl
theorem prodTo_next {a b : List ByteArray} {i : Nat} (hi : i < a.length) : prodTo a b i b.length = prodW (a.take (i + 1)) b := by
  unfold prodTo prodW
  rw [List.getElem?_eq_getElem hi, List.take_succ_eq_append_getElem hi, List.flatMap_append, List.take_length]
  simp
theorem prodTo_len {a b : List ByteArray} {i k : Nat} (ha : a.length ≤ 16) (hb : b.length ≤ 16) : (prodTo a b i k).length ≤ 272 := by
  have h1 : ∀ l : List ByteArray, (prodW l b).length = l.length * b.length := by
    intro l
    induction l with
    | nil => simp [prodW]
    | cons x l ih => simp only [prodW, List.flatMap_cons, List.length_append, List.length_map, List.length_cons] at ih ⊢; rw [ih, Nat.add_mul]; omega
  unfold prodTo
  rw [List.length_append, h1]
  have h2 : (a.take i).length * b.length ≤ 16 * 16 := Nat.mul_le_mul (by rw [List.length_take]; omega) hb
  have h3 : (match a[i]? with | some x => (b.take k).map fun y => x ++ y | none => []).length ≤ 16 := by
    cases a[i]? with
    | none => simp
    | some x => simp only [List.length_map, List.length_take]; omega
  omega
theorem mem_prodW {a b : List ByteArray} {w : ByteArray} : w ∈ prodW a b ↔ ∃ x ∈ a, ∃ y ∈ b, w = x ++ y := by
  unfold prodW
  simp only [List.mem_flatMap, List.mem_map]
  constructor
  · rintro ⟨x, hx, y, hy, rfl⟩; exact ⟨x, hx, y, hy, rfl⟩
  · rintro ⟨x, hx, y, hy, rfl⟩; exact ⟨x, hx, y, hy, rfl⟩
theorem atomAt_app_left {x y : ByteArray} {i : Nat} (h : 2 * i + 1 < x.size) : atomAt (x ++ y) i = atomAt x i := by
  unfold atomAt
  rw [dif_pos (by rw [ByteArray.size_append]; omega), dif_pos h, ByteArray.getElem_append_left (by omega), ByteArray.getElem_append_left h]
theorem atomAt_app_right {x y : ByteArray} {i : Nat} (hx : x.size % 2 = 0) (h : x.size ≤ 2 * i) (h2 : 2 * i + 1 < (x ++ y).size) : atomAt (x ++ y) i = atomAt y (i - x.size / 2) := by
  rw [ByteArray.size_append] at h2
  unfold atomAt
  rw [dif_pos (by rw [ByteArray.size_append]; omega), dif_pos (by omega), ByteArray.getElem_append_right (by omega), ByteArray.getElem_append_right (by omega)]
  have e1 : 2 * (i - x.size / 2) = 2 * i - x.size := by omega
  have e2 : 2 * i + 1 - x.size = 2 * i - x.size + 1 := by omega
  simp only [e1, e2]
theorem wordMay_app {x y : ByteArray} (hx : wordMay x = true) (hy : wordMay y = true) (h8 : (x ++ y).size / 2 ≤ 8) : wordMay (x ++ y) = true := by
  have h1 := wordMay_size hx
  have h2 := wordMay_size hy
  simp only [wordMay, decide_eq_true_eq] at hx hy ⊢
  rw [ByteArray.size_append] at h8 ⊢
  refine ⟨by omega, by omega, by omega, fun i hi => ?_⟩
  by_cases h : 2 * i < x.size
  · rw [atomAt_app_left (by omega)]; exact hx.2.2.2 i (by omega)
  · rw [atomAt_app_right (by omega) (by omega) (by rw [ByteArray.size_append]; omega)]; exact hy.2.2.2 _ (by omega)
theorem quoteE_big {a b : List ByteArray} (ha : setMay a = true) (hb : setMay b = true) {x y : ByteArray} (hx : x ∈ a) (hy : y ∈ b) (h : 8 < (x ++ y).size / 2) : quoteE a b = ([], 4) := by
  unfold quoteE
  rw [if_neg (by simp [ha, hb]), if_pos]
  rw [List.any_eq_true]
  exact ⟨x ++ y, mem_prodW.2 ⟨x, hx, y, hy, rfl⟩, by simpa using h⟩
theorem quoteE_fit {a b : List ByteArray} (ha : setMay a = true) (hb : setMay b = true) (h : ∀ w ∈ prodW a b, w.size / 2 ≤ 8) : quoteE a b = boundE (nrm (prodW a b)) := by
  unfold quoteE
  rw [if_neg (by simp [ha, hb]), if_neg]
  · refine ofE_may fun w hw => ?_
    have h8 := h w hw
    obtain ⟨x, hx, y, hy, rfl⟩ := mem_prodW.1 hw
    exact wordMay_app ((setMay_words ha).2 x hx) ((setMay_words hb).2 y hy) h8
  · rw [List.any_eq_true]
    rintro ⟨w, hw, h1⟩
    have := h w hw
    simp only [decide_eq_true_eq] at h1
    omega
set_option maxRecDepth 100000 in
set_option maxHeartbeats 2000000 in
theorem p_rquote (a b : List ByteArray) (ha : a.length ≤ 10000) (hb : b.length ≤ 10000) (hsa : ∀ x ∈ a, x.size ≤ 1000000) (hsb : ∀ x ∈ b, x.size ≤ 1000000) : PCalls Try.prog 90 [.lst .ro a.length (a.map .str), .lst .ro b.length (b.map .str)] (vSet (quoteE a b)) := by
  refine pcalls_of (by simp [free, free.frees, frees_str]) (free_vSet _) (ACalls.weak (acalls_of mixed J_ref03_Quote_ok (Nat.le_of_ble_eq_true rfl) ?_)); simp only [J_ref03_Quote, wk,if_true,if_false,forall_const,implies_true,ne_eq,eq_self,Nat.reduceEqDiff,Nat.reduceAdd,Nat.reduceMul,Nat.reduceSub,Nat.reduceLeDiff,Nat.reduceLT,Int.reduceEq,Int.reduceLT,Int.reduceLE,Int.reduceAdd,Int.reduceSub,Int.reduceMul,Int.reduceNeg,Int.reduceNe,reduceCtorEq,Int.reduceToNat,↓reduceIte]
  refine PCalls.use (p_rsmay a (by omega) (fun x hx => by have := hsa x hx; omega)) ?_; simp only [wk,if_true,if_false,forall_const,implies_true,ne_eq,eq_self,Nat.reduceEqDiff,Nat.reduceAdd,Nat.reduceMul,Nat.reduceSub,Nat.reduceLeDiff,Nat.reduceLT,Int.reduceEq,Int.reduceLT,Int.reduceLE,Int.reduceAdd,Int.reduceSub,Int.reduceMul,Int.reduceNeg,Int.reduceNe,reduceCtorEq,Int.reduceToNat,↓reduceIte]
  refine ⟨fun hm => ?_, fun hm => by unfold quoteE; rw [if_pos (.inl hm)]; rfl⟩
  refine PCalls.use (p_rsmay b (by omega) (fun x hx => by have := hsb x hx; omega)) ?_; simp only [wk,if_true,if_false,forall_const,implies_true,ne_eq,eq_self,Nat.reduceEqDiff,Nat.reduceAdd,Nat.reduceMul,Nat.reduceSub,Nat.reduceLeDiff,Nat.reduceLT,Int.reduceEq,Int.reduceLT,Int.reduceLE,Int.reduceAdd,Int.reduceSub,Int.reduceMul,Int.reduceNeg,Int.reduceNe,reduceCtorEq,Int.reduceToNat,↓reduceIte]
  refine ⟨fun hm2 => by unfold quoteE; rw [if_pos (.inr hm2)]; rfl, fun hm2 => ?_⟩
  have hwa := setMay_words hm
  have hwb := setMay_words hm2
  refine W_loop (fun n fr h => ∃ i : Nat, i ≤ a.length ∧ n = a.length - i ∧ fr = [(0, .lst .ro a.length (a.map .str)), (1, .lst .ro b.length (b.map .str)), (6, .lst (.own 44) (prodTo a b i 0).length ((prodTo a b i 0).map .str)), (7, .int .i64 i)] ∧ ∀ w ∈ prodTo a b i 0, w.size / 2 ≤ 8) a.length ⟨0, by omega, by omega, by simp [prodTo_zero, prodW]; rfl, by simp [prodTo_zero, prodW]⟩ ?_
  rintro n fr h ⟨i, hi, rfl, rfl, hfit⟩
  simp only [J_ref03_Quote_j4, wk,if_true,if_false,forall_const,implies_true,ne_eq,eq_self,Nat.reduceEqDiff,Nat.reduceAdd,Nat.reduceMul,Nat.reduceSub,Nat.reduceLeDiff,Nat.reduceLT,Int.reduceEq,Int.reduceLT,Int.reduceLE,Int.reduceAdd,Int.reduceSub,Int.reduceMul,Int.reduceNeg,Int.reduceNe,reduceCtorEq,Int.reduceToNat,↓reduceIte]
  refine ⟨fun hlt => ?_, fun hge => ?_⟩
  · have hil : i < a.length := by omega
    have hda : (a.map AV.str).drop (i : Int).toNat = .str a[i] :: (a.map AV.str).drop (i + 1) := by rw [show (i : Int).toNat = i by omega, drop_str hil]
    refine W_loop (fun n fr h => ∃ k : Nat, k ≤ b.length ∧ n = b.length - k ∧ fr = [(0, .lst .ro a.length (a.map .str)), (1, .lst .ro b.length (b.map .str)), (6, .lst (.own 44) (prodTo a b i k).length ((prodTo a b i k).map .str)), (7, .int .i64 i), (8, .int .i64 k)] ∧ ∀ w ∈ prodTo a b i k, w.size / 2 ≤ 8) b.length ⟨0, by omega, by omega, rfl, hfit⟩ ?_
    rintro n fr h ⟨k, hk, rfl, rfl, hfit2⟩
    simp only [J_ref03_Quote_j3, wk,if_true,if_false,forall_const,implies_true,ne_eq,eq_self,Nat.reduceEqDiff,Nat.reduceAdd,Nat.reduceMul,Nat.reduceSub,Nat.reduceLeDiff,Nat.reduceLT,Int.reduceEq,Int.reduceLT,Int.reduceLE,Int.reduceAdd,Int.reduceSub,Int.reduceMul,Int.reduceNeg,Int.reduceNe,reduceCtorEq,Int.reduceToNat,↓reduceIte]
    refine ⟨fun hlt2 => ?_, fun hge2 => ?_⟩
    · have hkl : k < b.length := by omega
      have hdb : (b.map AV.str).drop (k : Int).toNat = .str b[k] :: (b.map AV.str).drop (k + 1) := by rw [show (k : Int).toNat = k by omega, drop_str hkl]
      have hplen := prodTo_len (a := a) (b := b) (i := i) (k := k) (by omega) (by omega)
      have hwx := hwa.2 a[i] (List.getElem_mem hil)
      have hwy := hwb.2 b[k] (List.getElem_mem hkl)
      refine ⟨⟨by omega, by omega⟩, ?_⟩
      simp only [hda, wk,if_true,if_false,forall_const,implies_true,ne_eq,eq_self,Nat.reduceEqDiff,Nat.reduceAdd,Nat.reduceMul,Nat.reduceSub,Nat.reduceLeDiff,Nat.reduceLT,Int.reduceEq,Int.reduceLT,Int.reduceLE,Int.reduceAdd,Int.reduceSub,Int.reduceMul,Int.reduceNeg,Int.reduceNe,reduceCtorEq,Int.reduceToNat,↓reduceIte]
      refine ⟨⟨by omega, by omega⟩, ?_⟩
      simp only [hdb, wk,if_true,if_false,forall_const,implies_true,ne_eq,eq_self,Nat.reduceEqDiff,Nat.reduceAdd,Nat.reduceMul,Nat.reduceSub,Nat.reduceLeDiff,Nat.reduceLT,Int.reduceEq,Int.reduceLT,Int.reduceLE,Int.reduceAdd,Int.reduceSub,Int.reduceMul,Int.reduceNeg,Int.reduceNe,reduceCtorEq,Int.reduceToNat,↓reduceIte]
      have hcat := p_rcat [a[i], b[k]] (by simp) (by intro x hx; simp at hx; rcases hx with rfl | rfl; exact (by have := wordMay_even hwx; omega); exact (by have := wordMay_even hwy; omega)) (by intro x hx; simp at hx; rcases hx with rfl | rfl; exact (wordMay_even hwx).1; exact (wordMay_even hwy).1)
      rw [catE_two hwx hwy] at hcat
      refine ⟨_, hcat, ?_⟩
      by_cases h8 : 8 < (a[i] ++ b[k]).size / 2
      · simp only [if_pos h8, wk,if_true,if_false,forall_const,implies_true,ne_eq,eq_self,Nat.reduceEqDiff,Nat.reduceAdd,Nat.reduceMul,Nat.reduceSub,Nat.reduceLeDiff,Nat.reduceLT,Int.reduceEq,Int.reduceLT,Int.reduceLE,Int.reduceAdd,Int.reduceSub,Int.reduceMul,Int.reduceNeg,Int.reduceNe,reduceCtorEq,Int.reduceToNat,↓reduceIte]
        rw [quoteE_big hm hm2 (List.getElem_mem hil) (List.getElem_mem hkl) h8]; rfl
      · simp only [if_neg h8, wk,if_true,if_false,forall_const,implies_true,ne_eq,eq_self,Nat.reduceEqDiff,Nat.reduceAdd,Nat.reduceMul,Nat.reduceSub,Nat.reduceLeDiff,Nat.reduceLT,Int.reduceEq,Int.reduceLT,Int.reduceLE,Int.reduceAdd,Int.reduceSub,Int.reduceMul,Int.reduceNeg,Int.reduceNe,reduceCtorEq,Int.reduceToNat,↓reduceIte]
        (repeat (refine And.intro (by first | omega | exact inR_of (by omega) (by omega) | exact ⟨by omega, by omega⟩ | exact ⟨by omega, by omega, by omega⟩ | rfl) ?_))
        refine ⟨b.length - (k + 1), by omega, k + 1, by omega, rfl, ?_, fun w hw => ?_⟩
        · rw [prodTo_succ hil hkl]; simp
        · rw [prodTo_succ hil hkl, List.mem_append] at hw
          rcases hw with hw | hw
          · exact hfit2 w hw
          · simp at hw; subst hw; omega
    · obtain rfl : k = b.length := by omega
      simp only [J_ref03_Quote_j2, wk,if_true,if_false,forall_const,implies_true,ne_eq,eq_self,Nat.reduceEqDiff,Nat.reduceAdd,Nat.reduceMul,Nat.reduceSub,Nat.reduceLeDiff,Nat.reduceLT,Int.reduceEq,Int.reduceLT,Int.reduceLE,Int.reduceAdd,Int.reduceSub,Int.reduceMul,Int.reduceNeg,Int.reduceNe,reduceCtorEq,Int.reduceToNat,↓reduceIte]
      refine ⟨inR_of (by omega) (by omega), a.length - (i + 1), by omega, i + 1, by omega, rfl, ?_, ?_⟩
      · rw [prodTo_zero, ← prodTo_next hil]; rfl
      · rw [prodTo_zero, ← prodTo_next hil]; exact hfit2
  · obtain rfl : i = a.length := by omega
    rw [prodTo_zero, List.take_length] at hfit ⊢
    have hpl : (prodW a b).length ≤ 272 := by
      have := prodTo_len (a := a) (b := b) (i := a.length) (k := 0) (by omega) (by omega)
      rwa [prodTo_zero, List.take_length] at this
    simp only [J_ref03_Quote_j1, wk,if_true,if_false,forall_const,implies_true,ne_eq,eq_self,Nat.reduceEqDiff,Nat.reduceAdd,Nat.reduceMul,Nat.reduceSub,Nat.reduceLeDiff,Nat.reduceLT,Int.reduceEq,Int.reduceLT,Int.reduceLE,Int.reduceAdd,Int.reduceSub,Int.reduceMul,Int.reduceNeg,Int.reduceNe,reduceCtorEq,Int.reduceToNat,↓reduceIte]
    refine PCalls.use (p_rright (prodW a b) (by omega) (fun w hw => by have := hfit w hw; omega)) ?_; simp only [wk,if_true,if_false,forall_const,implies_true,ne_eq,eq_self,Nat.reduceEqDiff,Nat.reduceAdd,Nat.reduceMul,Nat.reduceSub,Nat.reduceLeDiff,Nat.reduceLT,Int.reduceEq,Int.reduceLT,Int.reduceLE,Int.reduceAdd,Int.reduceSub,Int.reduceMul,Int.reduceNeg,Int.reduceNe,reduceCtorEq,Int.reduceToNat,↓reduceIte]
    refine PCalls.use (p_rbound (nrm (prodW a b)) (by have := nrm_len (prodW a b); omega)) ?_; simp only [wk,if_true,if_false,forall_const,implies_true,ne_eq,eq_self,Nat.reduceEqDiff,Nat.reduceAdd,Nat.reduceMul,Nat.reduceSub,Nat.reduceLeDiff,Nat.reduceLT,Int.reduceEq,Int.reduceLT,Int.reduceLE,Int.reduceAdd,Int.reduceSub,Int.reduceMul,Int.reduceNeg,Int.reduceNe,reduceCtorEq,Int.reduceToNat,↓reduceIte]
    rw [quoteE_fit hm hm2 hfit]
    simp only [vSet, rod_tup, ro_ro, ro_int, wk,if_true,if_false,forall_const,implies_true,ne_eq,eq_self,Nat.reduceEqDiff,Nat.reduceAdd,Nat.reduceMul,Nat.reduceSub,Nat.reduceLeDiff,Nat.reduceLT,Int.reduceEq,Int.reduceLT,Int.reduceLE,Int.reduceAdd,Int.reduceSub,Int.reduceMul,Int.reduceNeg,Int.reduceNe,reduceCtorEq,Int.reduceToNat,↓reduceIte]
theorem atomBytes_one (r : Nat) : (⟨(atomBytes [r]).toArray⟩ : ByteArray) = atomW r := by
  apply ByteArray.ext; apply Array.ext'; simp [atomBytes, atomW]
theorem ofE_good {l r : List ByteArray} (h : ofE l = (r, 0)) : setMay r = true := by
  unfold ofE at h
  split at h
  · cases h
  · next hall =>
    split at h
    · next hlen =>
      simp only [Prod.mk.injEq, and_true] at h
      subst h
      refine setMay_mk hlen.1 hlen.2 (fun x hx => ?_) (rising_nrm l)
      have : l.all wordMay = true := by simpa using hall
      exact List.all_eq_true.1 this x (mem_nrm.1 hx)
    · cases h
theorem ofE_zero {l : List ByteArray} (h : (ofE l).2 ≠ 0) : (ofE l).1 = [] := by
  unfold ofE at h ⊢
  split
  · rfl
  · next h1 =>
    split
    · next h2 => rw [if_neg h1, if_pos h2] at h; exact absurd rfl h
    · rfl
theorem andE_zero {a b : List ByteArray} (h : (andE a b).2 ≠ 0) : (andE a b).1 = [] := by
  unfold andE at h ⊢
  split
  · rfl
  · next h1 => rw [if_neg h1] at h; exact ofE_zero h
theorem quoteE_zero {a b : List ByteArray} (h : (quoteE a b).2 ≠ 0) : (quoteE a b).1 = [] := by
  unfold quoteE at h ⊢
  split
  · rfl
  · next h1 =>
    split
    · rfl
    · next h2 => rw [if_neg h1, if_neg h2] at h; exact ofE_zero h
theorem quoteE_good {a b : List ByteArray} (h : (quoteE a b).2 = 0) : setMay (quoteE a b).1 = true := by
  have e : quoteE a b = ((quoteE a b).1, 0) := by rw [← h]
  unfold quoteE at e
  split at e
  · simp at e
  · split at e
    · simp at e
    · next h1 h2 => rw [show quoteE a b = ofE (prodW a b) by unfold quoteE; rw [if_neg h1, if_neg h2]]; exact ofE_good e
theorem setMay_small {l : List ByteArray} (h : setMay l = true) : l.length ≤ 16 ∧ ∀ x ∈ l, x.size ≤ 16 := ⟨(setMay_words h).1.2, fun x hx => by have := wordMay_size ((setMay_words h).2 x hx); omega⟩
theorem p_rfor (a b : List ByteArray) (ha : a.length ≤ 10000) (hb : b.length ≤ 10000) (hsa : ∀ x ∈ a, x.size ≤ 1000000) (hsb : ∀ x ∈ b, x.size ≤ 1000000) : PCalls Try.prog 48 [.lst .ro a.length (a.map .str), .lst .ro b.length (b.map .str)] (vSet (forE a b)) := by
  refine pcalls_of (by simp [free, free.frees, frees_str]) (free_vSet _) (ACalls.weak (acalls_of mixed J_ref03_For_ok (Nat.le_of_ble_eq_true rfl) ?_)); simp only [J_ref03_For, wk,if_true,if_false,forall_const,implies_true,ne_eq,eq_self,Nat.reduceEqDiff,Nat.reduceAdd,Nat.reduceMul,Nat.reduceSub,Nat.reduceLeDiff,Nat.reduceLT,Int.reduceEq,Int.reduceLT,Int.reduceLE,Int.reduceAdd,Int.reduceSub,Int.reduceMul,Int.reduceNeg,Int.reduceNe,reduceCtorEq,Int.reduceToNat,↓reduceIte]
  refine PCalls.use (p_rquote a b ha hb hsa hsb) ?_; simp only [wk,if_true,if_false,forall_const,implies_true,ne_eq,eq_self,Nat.reduceEqDiff,Nat.reduceAdd,Nat.reduceMul,Nat.reduceSub,Nat.reduceLeDiff,Nat.reduceLT,Int.reduceEq,Int.reduceLT,Int.reduceLE,Int.reduceAdd,Int.reduceSub,Int.reduceMul,Int.reduceNeg,Int.reduceNe,reduceCtorEq,Int.reduceToNat,↓reduceIte]
  simp only [vSet, wk,if_true,if_false,forall_const,implies_true,ne_eq,eq_self,Nat.reduceEqDiff,Nat.reduceAdd,Nat.reduceMul,Nat.reduceSub,Nat.reduceLeDiff,Nat.reduceLT,Int.reduceEq,Int.reduceLT,Int.reduceLE,Int.reduceAdd,Int.reduceSub,Int.reduceMul,Int.reduceNeg,Int.reduceNe,reduceCtorEq,Int.reduceToNat,↓reduceIte]
  refine ⟨fun hne => ?_, fun h0 => ?_⟩
  · unfold forE; rw [if_neg hne]; rfl
  · refine PCalls.use (p_rof [1] (by simp) (by simp)) ?_; simp only [wk,if_true,if_false,forall_const,implies_true,ne_eq,eq_self,Nat.reduceEqDiff,Nat.reduceAdd,Nat.reduceMul,Nat.reduceSub,Nat.reduceLeDiff,Nat.reduceLT,Int.reduceEq,Int.reduceLT,Int.reduceLE,Int.reduceAdd,Int.reduceSub,Int.reduceMul,Int.reduceNeg,Int.reduceNe,reduceCtorEq,Int.reduceToNat,↓reduceIte]
    rw [atomBytes_one]
    refine PCalls.use (p_rquote [atomW 1] b (by simp) hb (by intro x hx; simp at hx; subst hx; have : (atomW 1).size = 2 := rfl; omega) hsb) ?_; simp only [wk,if_true,if_false,forall_const,implies_true,ne_eq,eq_self,Nat.reduceEqDiff,Nat.reduceAdd,Nat.reduceMul,Nat.reduceSub,Nat.reduceLeDiff,Nat.reduceLT,Int.reduceEq,Int.reduceLT,Int.reduceLE,Int.reduceAdd,Int.reduceSub,Int.reduceMul,Int.reduceNeg,Int.reduceNe,reduceCtorEq,Int.reduceToNat,↓reduceIte]
    simp only [vSet, wk,if_true,if_false,forall_const,implies_true,ne_eq,eq_self,Nat.reduceEqDiff,Nat.reduceAdd,Nat.reduceMul,Nat.reduceSub,Nat.reduceLeDiff,Nat.reduceLT,Int.reduceEq,Int.reduceLT,Int.reduceLE,Int.reduceAdd,Int.reduceSub,Int.reduceMul,Int.reduceNeg,Int.reduceNe,reduceCtorEq,Int.reduceToNat,↓reduceIte]
    refine ⟨fun hne => ?_, fun h1 => ?_⟩
    · unfold forE; rw [if_pos h0, if_neg hne]; rfl
    · have g1 := setMay_small (quoteE_good h0)
      have g2 := setMay_small (quoteE_good h1)
      refine PCalls.use (p_rand (quoteE a b).1 (quoteE [atomW 1] b).1 (by omega) (by omega) (fun x hx => by have := g1.2 x hx; omega) (fun x hx => by have := g2.2 x hx; omega)) ?_; simp only [wk,if_true,if_false,forall_const,implies_true,ne_eq,eq_self,Nat.reduceEqDiff,Nat.reduceAdd,Nat.reduceMul,Nat.reduceSub,Nat.reduceLeDiff,Nat.reduceLT,Int.reduceEq,Int.reduceLT,Int.reduceLE,Int.reduceAdd,Int.reduceSub,Int.reduceMul,Int.reduceNeg,Int.reduceNe,reduceCtorEq,Int.reduceToNat,↓reduceIte]
      unfold forE; rw [if_pos h0, if_pos h1]
      simp only [vSet, rod_tup, ro_ro, ro_int, wk,if_true,if_false,forall_const,implies_true,ne_eq,eq_self,Nat.reduceEqDiff,Nat.reduceAdd,Nat.reduceMul,Nat.reduceSub,Nat.reduceLeDiff,Nat.reduceLT,Int.reduceEq,Int.reduceLT,Int.reduceLE,Int.reduceAdd,Int.reduceSub,Int.reduceMul,Int.reduceNeg,Int.reduceNe,reduceCtorEq,Int.reduceToNat,↓reduceIte]
end Go.Proofs.Ytaepikkaogfhbaa

/- What the library's Index, Contains, Equal do with words; Has, Heavy; a word of atoms. -/
namespace Go.Proofs.Ytaepikkaogfhbaa
set_option linter.unusedSimpArgs false
set_option linter.unusedVariables false
open Go.RowKit Go.Lib

/-- the first place of a word; below 0: none -/
def idxW (w : ByteArray) : List ByteArray → Int
  | [] => -1
  | x :: r => if w = x then 0 else if idxW w r < 0 then -1 else idxW w r + 1
theorem idxW_ge (w : ByteArray) : ∀ l, -1 ≤ idxW w l
  | [] => by simp [idxW]
  | x :: r => by
    have := idxW_ge w r
    simp only [idxW]
    split
    · omega
    · split <;> omega
theorem idxW_none {w : ByteArray} : ∀ {l : List ByteArray}, w ∉ l → idxW w l = -1
  | [], _ => rfl
  | x :: r, h => by
    simp only [List.mem_cons, not_or] at h
    simp only [idxW]
    rw [if_neg h.1, idxW_none h.2]; rfl
theorem idxW_at {w : ByteArray} : ∀ {l : List ByteArray} {i : Nat}, l[i]? = some w → w ∉ l.take i → idxW w l = i
  | [], i, h, _ => by simp at h
  | x :: r, 0, h, _ => by simp at h; subst h; simp [idxW]
  | x :: r, i + 1, h, hn => by
    simp only [List.getElem?_cons_succ] at h
    simp only [List.take_succ_cons, List.mem_cons, not_or] at hn
    have := idxW_at h hn.2
    simp only [idxW]
    rw [if_neg hn.1, if_neg (by omega), this]; omega
theorem idxW_mem (w : ByteArray) (l : List ByteArray) : decide (0 ≤ idxW w l) = hasW l w := by
  by_cases h : w ∈ l
  · have hk : ∀ (l : List ByteArray), w ∈ l → 0 ≤ idxW w l := by
      intro l
      induction l with
      | nil => intro h; simp at h
      | cons x r ih =>
        intro h
        simp only [idxW]
        split
        · omega
        · next hx =>
          have := ih (by rcases List.mem_cons.1 h with h | h; exact absurd h hx; exact h)
          rw [if_neg (by omega)]; omega
    rw [decide_eq_true (hk l h), hasW_iff.2 h]
  · rw [idxW_none h, hasW_no.2 h]; rfl
theorem take_mem_succ {α : Type} {x : α} {l : List α} {i : Nat} (h : i < l.length) : x ∈ l.take (i + 1) ↔ x ∈ l.take i ∨ x = l[i] := by
  rw [List.take_succ_eq_append_getElem h, List.mem_append]; simp
set_option maxHeartbeats 1000000 in
theorem p_sequal (a b : List ByteArray) (ha : a.length ≤ 9223372036854775807) : PCalls Try.prog 89 [.lst .ro a.length (a.map .str), .lst .ro b.length (b.map .str)] (.bool (decide (a = b))) := by
  refine pcalls_of (by first | rfl | simp [free, free.frees, frees_str, frees_u8, frees_u16]) (by first | rfl | simp [free, free.frees, frees_str, frees_u8, frees_u16]) (acalls_of mixed J_slices_Equal_api_Set_api_Word_ok (Nat.le_of_ble_eq_true rfl) ?_); simp only [J_slices_Equal_api_Set_api_Word, wk,if_true,if_false,forall_const,implies_true,ne_eq,eq_self,Nat.reduceEqDiff,Nat.reduceAdd,Nat.reduceMul,Nat.reduceSub,Nat.reduceLeDiff,Nat.reduceLT,Int.reduceEq,Int.reduceLT,Int.reduceLE,Int.reduceAdd,Int.reduceSub,Int.reduceMul,Int.reduceNeg,Int.reduceNe,reduceCtorEq,Int.reduceToNat,↓reduceIte]
  refine ⟨fun h => bool_eq ?_, fun h => ?_⟩
  · symm; rw [decide_eq_false_iff_not]; intro e; rw [e] at h; exact h rfl
  have hab : a.length = b.length := by omega
  refine W_loop (fun n fr h => ∃ i : Nat, i ≤ a.length ∧ n = a.length - i ∧ fr = [(0, .lst .ro a.length (a.map .str)), (1, .lst .ro b.length (b.map .str)), (12, .int .i64 a.length), (13, .int .i64 i)] ∧ a.take i = b.take i) a.length ⟨0, by omega, by omega, rfl, rfl⟩ ?_
  rintro n fr h ⟨i, hi, rfl, rfl, hall⟩
  simp only [J_slices_Equal_api_Set_api_Word_j2, J_slices_Equal_api_Set_api_Word_j1, wk,if_true,if_false,forall_const,implies_true,ne_eq,eq_self,Nat.reduceEqDiff,Nat.reduceAdd,Nat.reduceMul,Nat.reduceSub,Nat.reduceLeDiff,Nat.reduceLT,Int.reduceEq,Int.reduceLT,Int.reduceLE,Int.reduceAdd,Int.reduceSub,Int.reduceMul,Int.reduceNeg,Int.reduceNe,reduceCtorEq,Int.reduceToNat,↓reduceIte]
  refine ⟨fun hlt => ?_, fun hge => bool_eq ?_⟩
  · have hia : i < a.length := by omega
    have hib : i < b.length := by omega
    (repeat (refine And.intro (by first | omega | exact inR_of (by omega) (by omega) | exact ⟨by omega, by omega⟩ | exact ⟨by omega, by omega, by omega⟩ | rfl) ?_))
    rw [show (i : Int).toNat = i by omega, drop_str hia]
    simp only [wk,if_true,if_false,forall_const,implies_true,ne_eq,eq_self,Nat.reduceEqDiff,Nat.reduceAdd,Nat.reduceMul,Nat.reduceSub,Nat.reduceLeDiff,Nat.reduceLT,Int.reduceEq,Int.reduceLT,Int.reduceLE,Int.reduceAdd,Int.reduceSub,Int.reduceMul,Int.reduceNeg,Int.reduceNe,reduceCtorEq,Int.reduceToNat,↓reduceIte]
    (repeat (refine And.intro (by first | omega | exact inR_of (by omega) (by omega) | exact ⟨by omega, by omega⟩ | exact ⟨by omega, by omega, by omega⟩ | rfl) ?_))
    rw [show (i : Int).toNat = i by omega, drop_str hib]
    simp only [wk,if_true,if_false,forall_const,implies_true,ne_eq,eq_self,Nat.reduceEqDiff,Nat.reduceAdd,Nat.reduceMul,Nat.reduceSub,Nat.reduceLeDiff,Nat.reduceLT,Int.reduceEq,Int.reduceLT,Int.reduceLE,Int.reduceAdd,Int.reduceSub,Int.reduceMul,Int.reduceNeg,Int.reduceNe,reduceCtorEq,Int.reduceToNat,↓reduceIte]
    refine ⟨fun hne => bool_eq ?_, fun he => ?_⟩
    · symm; rw [decide_eq_false_iff_not]; intro e; subst e; exact hne rfl
    · refine ⟨inR_of (by omega) (by omega), a.length - (i + 1), by omega, i + 1, by omega, rfl, rfl, ?_⟩
      rw [List.take_succ_eq_append_getElem hia, List.take_succ_eq_append_getElem hib, hall, he]
  · symm; rw [decide_eq_true_eq]
    rw [List.take_of_length_le (by omega), List.take_of_length_le (by omega)] at hall
    exact hall
theorem heavy_take {l : List ByteArray} {i : Nat} (h : i < l.length) : heavyE (l.take (i + 1)) = max (heavyE (l.take i)) (l[i].size / 2) := by
  unfold heavyE; rw [List.take_succ_eq_append_getElem h, List.foldl_append]; rfl
theorem heavy_le : ∀ (l : List ByteArray) (m : Nat), (∀ x ∈ l, x.size ≤ m) → heavyE l ≤ m := by
  intro l m h
  have : ∀ (l : List ByteArray) (n : Nat), n ≤ m → (∀ x ∈ l, x.size ≤ m) → l.foldl (fun n w => max n (w.size / 2)) n ≤ m := by
    intro l
    induction l with
    | nil => intro n hn _; exact hn
    | cons x l ih => intro n hn hx; exact ih _ (by have := hx x (by simp); simp only [Nat.max_def]; split <;> omega) (fun y hy => hx y (by simp [hy]))
  exact this l 0 (by omega) h
set_option maxHeartbeats 1000000 in
theorem p_wof (l : List Nat) (hl : l.length ≤ 1000000) (ha : ∀ a ∈ l, a < 65536) : PCalls Try.prog 110 [.lst .ro l.length (u16s l)] (.str ⟨(atomBytes l).toArray⟩) := by
  refine pcalls_of (by first | rfl | simp [free, free.frees, frees_str, frees_u8, frees_u16]) (by first | rfl | simp [free, free.frees, frees_str, frees_u8, frees_u16]) (acalls_of mixed J_word_Of_ok (Nat.le_of_ble_eq_true rfl) ?_); simp only [J_word_Of, wk,if_true,if_false,forall_const,implies_true,ne_eq,eq_self,Nat.reduceEqDiff,Nat.reduceAdd,Nat.reduceMul,Nat.reduceSub,Nat.reduceLeDiff,Nat.reduceLT,Int.reduceEq,Int.reduceLT,Int.reduceLE,Int.reduceAdd,Int.reduceSub,Int.reduceMul,Int.reduceNeg,Int.reduceNe,reduceCtorEq,Int.reduceToNat,↓reduceIte]
  refine ⟨inR_of (by omega) (by omega), ⟨by omega, by omega, by omega⟩, ?_⟩
  refine W_loop (fun n fr h => ∃ i : Nat, i ≤ l.length ∧ n = l.length - i ∧ fr = [(3, .lst (.own 5) (2 * i) (u8s (atomBytes (l.take i)))), (10, .lst .ro l.length (u16s l)), (11, .int .i64 l.length), (12, .int .i64 i)]) l.length ⟨0, by omega, by omega, rfl⟩ ?_
  rintro n fr h ⟨i, hi, rfl, rfl⟩
  simp only [J_word_Of_j2, J_word_Of_j1, wk,if_true,if_false,forall_const,implies_true,ne_eq,eq_self,Nat.reduceEqDiff,Nat.reduceAdd,Nat.reduceMul,Nat.reduceSub,Nat.reduceLeDiff,Nat.reduceLT,Int.reduceEq,Int.reduceLT,Int.reduceLE,Int.reduceAdd,Int.reduceSub,Int.reduceMul,Int.reduceNeg,Int.reduceNe,reduceCtorEq,Int.reduceToNat,↓reduceIte]
  refine ⟨fun hlt => ?_, fun hge => ?_⟩
  · have hil : i < l.length := by omega
    have hx := ha l[i] (List.getElem_mem hil)
    (repeat (refine And.intro (by first | omega | exact inR_of (by omega) (by omega) | exact ⟨by omega, by omega⟩ | exact ⟨by omega, by omega, by omega⟩ | rfl) ?_))
    rw [show (i : Int).toNat = i by omega, u16s_drop hil]
    simp only [wk,if_true,if_false,forall_const,implies_true,ne_eq,eq_self,Nat.reduceEqDiff,Nat.reduceAdd,Nat.reduceMul,Nat.reduceSub,Nat.reduceLeDiff,Nat.reduceLT,Int.reduceEq,Int.reduceLT,Int.reduceLE,Int.reduceAdd,Int.reduceSub,Int.reduceMul,Int.reduceNeg,Int.reduceNe,reduceCtorEq,Int.reduceToNat,↓reduceIte]
    have e1 : IntKind.u8.wrap ((l[i] : Int).fdiv (2 ^ (min 8 IntKind.u16.bits))) = ((UInt8.ofNat (l[i] / 256)).toNat : Int) := by
      rw [show (min 8 IntKind.u16.bits) = 8 by decide, Int.fdiv_eq_ediv_of_nonneg _ (by omega), IntKind.wrap_u8]
      simp only [UInt8.toNat_ofNat']; omega
    have e2 : IntKind.u8.wrap (l[i] : Int) = ((UInt8.ofNat (l[i] % 256)).toNat : Int) := by
      rw [IntKind.wrap_u8]; simp only [UInt8.toNat_ofNat']; omega
    refine ⟨⟨by omega, by omega⟩, inR_of (by omega) (by omega), l.length - (i + 1), by omega, i + 1, by omega, rfl, ?_⟩
    have e3 : atomBytes (l.take (i + 1)) = atomBytes (l.take i) ++ [UInt8.ofNat (l[i] / 256), UInt8.ofNat (l[i] % 256)] := by
      unfold atomBytes; rw [List.take_succ_eq_append_getElem hil, List.flatMap_append]; simp
    rw [e1, e2, e3, ← u8s_app]
    rfl
  · obtain rfl : i = l.length := by omega
    rw [List.take_length]
    refine ⟨atomBytes l, rfl, ?_, rfl⟩
    have : ∀ l : List Nat, (atomBytes l).length = 2 * l.length := by
      intro l
      induction l with
      | nil => rfl
      | cons a l ih => simp only [atomBytes, List.flatMap_cons, List.length_append, List.length_cons, List.length_nil] at ih ⊢; omega
    rw [this]
end Go.Proofs.Ytaepikkaogfhbaa
