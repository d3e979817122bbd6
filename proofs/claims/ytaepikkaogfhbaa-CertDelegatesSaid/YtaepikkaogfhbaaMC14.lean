/- Texts of one proof, laid together: FnC Po Pi Pj Pb Pc Az FnR Pr. -/
import Derived.Test.YtaepikkaogfhbaaProg
import Derived.Test.YtaepikkaogfhbaaMC11
import Derived.Test.YtaepikkaogfhbaaMC12

/- The functions' abstract code, written by a program (acode.py), and that it is theirs. -/
namespace Go.Proofs.Ytaepikkaogfhbaa
open Go.RowKit

/-- attorney/attorneylaw08.CertTells -/
def J_law08_CertTells : AFn :=
  ⟨66, [.t 4], .seq (.ops [⟨some 2, none, .box (.t 0) [], none⟩,
      ⟨some 4, none, .mv (.c (.bool false)), none⟩])
   (.keep [1, 2] (.seq (.seq (.ops [⟨some 10, none, .call (.f 33) [], none⟩,
      ⟨some 11, none, .not (.t 10), none⟩])
     (.keep [1, 2, 11] (.cond (.t 11)
      (.seq (.ops [⟨some 4, none, .mv (.c (.bool false)), none⟩])
       (.ret))
      (.skip))))
    (.keep [1, 2] (.seq (.seq (.ops [⟨some 12, none, .load (some 7) (.t 2), none⟩,
      ⟨some 13, none, .call (.f 34) [(.t 12)], none⟩])
      (.keep [1, 2, 13] (.cond (.t 13)
       (.seq (.ops [⟨some 4, none, .mv (.c (.bool true)), none⟩])
        (.ret))
       (.skip))))
     (.keep [1, 2] (.seq (.ops [⟨some 14, none, .load (some 7) (.t 2), none⟩,
      ⟨some 5, none, .new [(.int .i64 0), (.int .u16 0), (.str ⟨#[]⟩), (.lst .clip 0 []), (.int .i64 0), (.int .i64 0), (.int .i64 0)] [], none⟩,
      ⟨none, none, .store 7 (.t 5) (.t 14), none⟩])
      (.keep [1, 2, 5] (.seq (.ops [⟨some 15, none, .bsl 44 1 0 [] [], none⟩,
      ⟨some 16, none, .fld 3 (.t 2), none⟩,
      ⟨some 17, none, .load none (.t 16), none⟩,
      ⟨some 18, none, .appo 44 1 16 15 (.t 17), none⟩,
      ⟨some 19, none, .fld 3 (.t 5), none⟩,
      ⟨none, none, .storeo (.t 19) 18, none⟩])
       (.keep [1, 2, 5] (.seq (.ops [⟨some 21, none, .load (some 7) (.t 5), none⟩,
      ⟨some 22, none, .call (.f 35) [(.t 21)], none⟩,
      ⟨some 20, none, .mv (.t 22), none⟩,
      ⟨some 23, none, .ext 0 (.t 20), none⟩,
      ⟨some 24, none, .ext 1 (.t 20), none⟩,
      ⟨some 6, none, .mv (.t 23), none⟩,
      ⟨some 7, none, .mv (.t 24), none⟩])
        (.keep [1, 2, 5, 6, 7] (.seq (.ops [⟨some 26, none, .load (some 7) (.t 2), none⟩,
      ⟨some 27, none, .call (.f 36) [(.t 26)], none⟩,
      ⟨some 25, none, .mv (.t 27), none⟩,
      ⟨some 28, none, .ext 0 (.t 25), none⟩,
      ⟨some 29, none, .ext 1 (.t 25), none⟩,
      ⟨some 8, none, .mv (.t 28), none⟩,
      ⟨some 9, none, .mv (.t 29), none⟩])
         (.keep [1, 2, 5, 6, 7, 8, 9] (.seq (.draw [4] [⟨some 30, none, .load (some 7) (.t 5), none⟩,
      ⟨some 31, none, .call (.f 37) [(.t 30)], none⟩,
      ⟨some 32, none, .load (some 7) (.t 2), none⟩,
      ⟨some 33, none, .call (.f 38) [(.t 32)], none⟩,
      ⟨some 34, none, .bin .eql (.t 31) (.t 33), none⟩,
      ⟨some 35, none, .mv (.t 34), none⟩,
      ⟨some 36, (some (35, true)), .mv (.t 6), none⟩,
      ⟨some 37, (some (35, true)), .mv (.t 8), none⟩,
      ⟨some 38, (some (35, true)), .bin .eql (.t 36) (.t 37), none⟩,
      ⟨some 39, none, .pick (.t 35) (.t 38) (.c (.bool false)), none⟩,
      ⟨some 40, none, .mv (.t 39), none⟩,
      ⟨some 41, (some (40, true)), .mv (.t 7), none⟩,
      ⟨some 42, (some (40, true)), .mv (.t 9), none⟩,
      ⟨some 43, (some (40, true)), .bin .eql (.t 41) (.t 42), none⟩,
      ⟨some 44, none, .pick (.t 40) (.t 43) (.c (.bool false)), none⟩,
      ⟨some 45, none, .mv (.t 44), none⟩,
      ⟨some 46, (some (45, true)), .load (some 7) (.t 5), none⟩,
      ⟨some 47, (some (45, true)), .mv (.t 1), none⟩,
      ⟨some 48, (some (45, true)), .call (.f 39) [(.t 46), (.t 47)], none⟩,
      ⟨some 49, (some (45, true)), .load (some 7) (.t 2), none⟩,
      ⟨some 50, (some (45, true)), .mv (.t 1), none⟩,
      ⟨some 51, (some (45, true)), .call (.f 40) [(.t 49), (.t 50)], none⟩,
      ⟨some 52, (some (45, true)), .bbin false (.t 48) (.t 51), none⟩,
      ⟨some 53, none, .pick (.t 45) (.t 52) (.c (.bool false)), none⟩,
      ⟨some 54, none, .mv (.t 53), none⟩,
      ⟨some 55, (some (54, true)), .load (some 7) (.t 5), none⟩,
      ⟨some 56, (some (54, true)), .call (.f 42) [(.t 55)], none⟩,
      ⟨some 57, (some (54, true)), .load (some 7) (.t 2), none⟩,
      ⟨some 58, (some (54, true)), .call (.f 43) [(.t 57)], none⟩,
      ⟨some 59, (some (54, true)), .call (.f 41) [(.t 56), (.t 58)], none⟩,
      ⟨some 60, none, .pick (.t 54) (.t 59) (.c (.bool false)), none⟩,
      ⟨some 61, none, .mv (.t 60), none⟩,
      ⟨some 62, (some (61, true)), .load (some 7) (.t 5), none⟩,
      ⟨some 63, (some (61, true)), .load (some 7) (.t 2), none⟩,
      ⟨some 64, (some (61, true)), .call (.f 44) [(.t 62), (.t 63)], none⟩,
      ⟨some 65, none, .pick (.t 61) (.t 64) (.c (.bool false)), none⟩,
      ⟨some 4, none, .mv (.t 65), none⟩])
          (.ret)))))))))))))))⟩
theorem J_law08_CertTells_ok : chkFn Try.prog 8 J_law08_CertTells = true := by kernel_rfl

/-- attorney/attorneylaw08.CertReads -/
def J_law08_CertReads : AFn :=
  ⟨30, [.t 2], .seq (.ops [⟨some 2, none, .mv (.c (.bool false)), none⟩])
   (.keep [0] (.seq (.seq (.ops [⟨some 7, none, .call (.f 33) [], none⟩,
      ⟨some 8, none, .not (.t 7), none⟩])
     (.keep [0, 8] (.cond (.t 8)
      (.seq (.ops [⟨some 2, none, .mv (.c (.bool false)), none⟩])
       (.ret))
      (.skip))))
    (.keep [0] (.seq (.seq (.ops [⟨some 9, none, .mv (.t 0), none⟩,
      ⟨some 10, none, .lens (.t 9), none⟩,
      ⟨some 11, none, .bin .gtr (.t 10) (.c (.int .i64 4096)), none⟩])
      (.keep [0, 11] (.cond (.t 11)
       (.seq (.ops [⟨some 2, none, .mv (.c (.bool true)), none⟩])
        (.ret))
       (.skip))))
     (.keep [0] (.seq (.ops [⟨some 13, none, .mv (.t 0), none⟩,
      ⟨some 14, none, .call (.f 45) [(.t 13)], none⟩,
      ⟨some 12, none, .mv (.t 14), none⟩,
      ⟨some 15, none, .ext 0 (.t 12), none⟩,
      ⟨some 16, none, .ext 1 (.t 12), none⟩,
      ⟨some 3, none, .new [(.int .i64 0), (.int .u16 0), (.str ⟨#[]⟩), (.lst .clip 0 []), (.int .i64 0), (.int .i64 0), (.int .i64 0)] [], none⟩,
      ⟨none, none, .stores 7 (.t 3) (.t 15), none⟩,
      ⟨some 4, none, .mv (.t 16), none⟩])
      (.keep [0, 3, 4] (.seq (.ops [⟨some 18, none, .mv (.t 0), none⟩,
      ⟨some 19, none, .call (.f 46) [(.t 18)], none⟩,
      ⟨some 17, none, .mv (.t 19), none⟩,
      ⟨some 20, none, .ext 0 (.t 17), none⟩,
      ⟨some 21, none, .ext 1 (.t 17), none⟩,
      ⟨some 5, none, .new [(.int .i64 0), (.int .u16 0), (.str ⟨#[]⟩), (.lst .clip 0 []), (.int .i64 0), (.int .i64 0), (.int .i64 0)] [], none⟩,
      ⟨none, none, .stores 7 (.t 5) (.t 20), none⟩,
      ⟨some 6, none, .mv (.t 21), none⟩])
       (.keep [3, 4, 5, 6] (.seq (.ops [⟨some 22, none, .load (some 7) (.t 3), none⟩,
      ⟨some 23, none, .load (some 7) (.t 5), none⟩,
      ⟨some 24, none, .call (.f 44) [(.t 22), (.t 23)], none⟩,
      ⟨some 25, none, .mv (.t 24), none⟩,
      ⟨some 26, (some (25, true)), .mv (.t 4), none⟩,
      ⟨some 27, (some (25, true)), .mv (.t 6), none⟩,
      ⟨some 28, (some (25, true)), .bin .eql (.t 26) (.t 27), none⟩,
      ⟨some 29, none, .pick (.t 25) (.t 28) (.c (.bool false)), none⟩,
      ⟨some 2, none, .mv (.t 29), none⟩])
        (.ret)))))))))))⟩
theorem J_law08_CertReads_ok : chkFn Try.prog 9 J_law08_CertReads = true := by kernel_rfl

/- behind: Q -/
def J_law08_CertBack_j1 : ACode :=
  .keep [1] (.seq (.ops [⟨some 51, none, .mv (.t 1), none⟩,
      ⟨some 52, none, .call (.f 45) [(.t 51)], none⟩,
      ⟨some 50, none, .mv (.t 52), none⟩,
      ⟨some 53, none, .ext 0 (.t 50), none⟩,
      ⟨some 54, none, .ext 1 (.t 50), none⟩,
      ⟨some 9, none, .new [(.int .i64 0), (.int .u16 0), (.str ⟨#[]⟩), (.lst .clip 0 []), (.int .i64 0), (.int .i64 0), (.int .i64 0)] [], none⟩,
      ⟨none, none, .stores 7 (.t 9) (.t 53), none⟩,
      ⟨some 10, none, .mv (.t 54), none⟩])
       (.keep [1, 9, 10] (.seq (.seq (.ops [⟨some 55, none, .mv (.t 10), none⟩,
      ⟨some 56, none, .bin .neq (.t 55) (.c (.int .i64 0)), none⟩])
         (.keep [1, 9, 56] (.cond (.t 56)
          (.seq (.ops [⟨some 57, none, .load (some 7) (.t 9), none⟩,
      ⟨some 58, none, .build [(.int .i64 0), (.int .u16 0), (.str ⟨#[]⟩), (.lst .clip 0 []), (.int .i64 0), (.int .i64 0), (.int .i64 0)] [], none⟩,
      ⟨some 59, none, .call (.f 44) [(.t 57), (.t 58)], none⟩,
      ⟨some 4, none, .mv (.t 59), none⟩])
           (.ret))
          (.skip))))
        (.keep [1, 9] (.seq (.ops [⟨some 61, none, .load (some 7) (.t 9), none⟩,
      ⟨some 62, none, .call (.f 35) [(.t 61)], none⟩,
      ⟨some 60, none, .mv (.t 62), none⟩,
      ⟨some 63, none, .ext 0 (.t 60), none⟩,
      ⟨some 64, none, .ext 1 (.t 60), none⟩,
      ⟨some 11, none, .mv (.t 63), none⟩,
      ⟨some 12, none, .mv (.t 64), none⟩])
         (.keep [1, 9, 11, 12] (.seq (.ops [⟨some 65, none, .mv (.t 12), none⟩,
      ⟨some 66, none, .bin .eql (.t 65) (.c (.int .i64 0)), none⟩,
      ⟨some 67, none, .mv (.t 66), none⟩,
      ⟨some 68, (some (67, true)), .mv (.t 11), none⟩,
      ⟨some 69, (some (67, true)), .mv (.t 1), none⟩,
      ⟨some 70, (some (67, true)), .bin .eql (.t 68) (.t 69), none⟩,
      ⟨some 71, none, .pick (.t 67) (.t 70) (.c (.bool false)), none⟩,
      ⟨some 72, none, .mv (.t 71), none⟩,
      ⟨some 73, (some (72, true)), .load (some 7) (.t 9), none⟩,
      ⟨some 74, (some (72, true)), .call (.f 37) [(.t 73)], none⟩,
      ⟨some 75, (some (72, true)), .bin .eql (.t 74) (.c (.int .i64 0)), none⟩,
      ⟨some 76, none, .pick (.t 72) (.t 75) (.c (.bool false)), none⟩,
      ⟨some 4, none, .mv (.t 76), none⟩])
          (.ret))))))))

/-- attorney/attorneylaw08.CertBack -/
def J_law08_CertBack : AFn :=
  ⟨77, [.t 4], .seq (.ops [⟨some 2, none, .box (.t 0) [], none⟩,
      ⟨some 4, none, .mv (.c (.bool false)), none⟩])
   (.keep [1, 2] (.seq (.seq (.ops [⟨some 13, none, .call (.f 33) [], none⟩,
      ⟨some 14, none, .not (.t 13), none⟩])
     (.keep [1, 2, 14] (.cond (.t 14)
      (.seq (.ops [⟨some 4, none, .mv (.c (.bool false)), none⟩])
       (.ret))
      (.skip))))
    (.keep [1, 2] (.seq (.seq (.ops [⟨some 15, none, .load (some 7) (.t 2), none⟩,
      ⟨some 16, none, .call (.f 34) [(.t 15)], none⟩,
      ⟨some 17, none, .mv (.t 16), none⟩,
      ⟨some 18, (some (17, false)), .mv (.t 1), none⟩,
      ⟨some 19, (some (17, false)), .lens (.t 18), none⟩,
      ⟨some 20, (some (17, false)), .bin .gtr (.t 19) (.c (.int .i64 4096)), none⟩,
      ⟨some 21, none, .pick (.t 17) (.c (.bool true)) (.t 20), none⟩])
      (.keep [1, 2, 21] (.cond (.t 21)
       (.seq (.ops [⟨some 4, none, .mv (.c (.bool true)), none⟩])
        (.ret))
       (.skip))))
     (.keep [1, 2] (.seq (.seq (.ops [⟨some 23, none, .load (some 7) (.t 2), none⟩,
      ⟨some 24, none, .call (.f 35) [(.t 23)], none⟩,
      ⟨some 22, none, .mv (.t 24), none⟩,
      ⟨some 25, none, .ext 0 (.t 22), none⟩,
      ⟨some 26, none, .ext 1 (.t 22), none⟩,
      ⟨some 5, none, .mv (.t 25), none⟩,
      ⟨some 6, none, .mv (.t 26), none⟩])
       (.keep [1, 2, 5, 6] (.seq (.ops [⟨some 27, none, .mv (.t 6), none⟩,
      ⟨some 28, none, .bin .eql (.t 27) (.c (.int .i64 0)), none⟩])
        (.keep [1, 2, 5, 6, 28] (.cond (.t 28)
         (.seq (.ops [⟨some 30, none, .mv (.t 5), none⟩,
      ⟨some 31, none, .call (.f 45) [(.t 30)], none⟩,
      ⟨some 29, none, .mv (.t 31), none⟩,
      ⟨some 32, none, .ext 0 (.t 29), none⟩,
      ⟨some 33, none, .ext 1 (.t 29), none⟩,
      ⟨some 7, none, .new [(.int .i64 0), (.int .u16 0), (.str ⟨#[]⟩), (.lst .clip 0 []), (.int .i64 0), (.int .i64 0), (.int .i64 0)] [], none⟩,
      ⟨none, none, .stores 7 (.t 7) (.t 32), none⟩,
      ⟨some 8, none, .mv (.t 33), none⟩])
          (.keep [1, 2, 7, 8] (.seq (.ops [⟨some 34, none, .mv (.t 8), none⟩,
      ⟨some 35, none, .bin .neq (.t 34) (.c (.int .i64 0)), none⟩,
      ⟨some 36, none, .mv (.t 35), none⟩,
      ⟨some 37, (some (36, false)), .load (some 7) (.t 2), none⟩,
      ⟨some 38, (some (36, false)), .load (some 7) (.t 7), none⟩,
      ⟨some 39, (some (36, false)), .call (.f 47) [(.t 37), (.t 38)], none⟩,
      ⟨some 40, (some (36, false)), .not (.t 39), none⟩,
      ⟨some 41, none, .pick (.t 36) (.c (.bool true)) (.t 40), none⟩])
           (.keep [1, 41] (.cond (.t 41)
            (.seq (.ops [⟨some 4, none, .mv (.c (.bool false)), none⟩])
             (.ret))
            (.skip))))))
         (.seq (.ops [⟨some 42, none, .mv (.t 5), none⟩,
      ⟨some 43, none, .bin .neq (.t 42) (.c (.str ⟨#[]⟩)), none⟩,
      ⟨some 44, none, .mv (.t 43), none⟩,
      ⟨some 45, (some (44, false)), .load (some 7) (.t 2), none⟩,
      ⟨some 46, (some (44, false)), .call (.f 37) [(.t 45)], none⟩,
      ⟨some 47, (some (44, false)), .mv (.t 6), none⟩,
      ⟨some 48, (some (44, false)), .bin .neq (.t 46) (.t 47), none⟩,
      ⟨some 49, none, .pick (.t 44) (.c (.bool true)) (.t 48), none⟩])
          (.keep [1, 49] (.cond (.t 49)
           (.seq (.ops [⟨some 4, none, .mv (.c (.bool false)), none⟩])
            (.ret))
           (.skip)))))))))
      (J_law08_CertBack_j1)))))))⟩
theorem J_law08_CertBack_ok : chkFn Try.prog 10 J_law08_CertBack = true := by kernel_rfl

/- behind: Q -/
def J_law08_CertShort_j1 : ACode :=
  .keep [] (.seq (.ops [⟨some 2, none, .mv (.c (.bool true)), none⟩])
         (.ret))

/- behind: Q = kloop [1, 3, 28, 29] I n (kblock 0 (kseq P (J_law08_CertShort_j1) Q)) -/
def J_law08_CertShort_j2 : ACode :=
  .seq (.ops [⟨some 30, none, .bin .lss (.t 29) (.t 28), none⟩])
            (.keep [1, 3, 28, 29, 30] (.seq (.cond (.t 30)
              (.skip)
              (.exit 0))
             (.keep [1, 3, 28, 29] (.seq (.block 1 (.seq (.ops [⟨some 31, none, .mv (.t 29), none⟩,
      ⟨some 4, none, .mv (.t 31), none⟩])
                (.keep [1, 3, 4, 28, 29] (.seq (.draw [1, 3, 28, 29, 67] [⟨some 32, none, .mv (.t 3), none⟩,
      ⟨some 33, none, .mv (.t 4), none⟩,
      ⟨some 34, none, .idxa 2 (.t 32) (.t 33), none⟩,
      ⟨some 35, none, .fld 1 (.t 34), none⟩,
      ⟨some 36, none, .load none (.t 35), none⟩,
      ⟨some 37, none, .fld 2 (.t 1), none⟩,
      ⟨some 38, none, .load none (.t 37), none⟩,
      ⟨some 39, none, .bin .neq (.t 36) (.t 38), none⟩,
      ⟨some 40, none, .mv (.t 39), none⟩,
      ⟨some 41, (some (40, false)), .mv (.t 3), none⟩,
      ⟨some 42, (some (40, false)), .mv (.t 4), none⟩,
      ⟨some 43, (some (40, false)), .idxa 2 (.t 41) (.t 42), none⟩,
      ⟨some 44, (some (40, false)), .fld 0 (.t 43), none⟩,
      ⟨some 45, (some (40, false)), .load none (.t 44), none⟩,
      ⟨some 46, (some (40, false)), .fld 3 (.t 1), none⟩,
      ⟨some 47, (some (40, false)), .load none (.t 46), none⟩,
      ⟨some 48, (some (40, false)), .mv (.t 4), none⟩,
      ⟨some 49, (some (40, false)), .idxa 1 (.t 47) (.t 48), none⟩,
      ⟨some 50, (some (40, false)), .load none (.t 49), none⟩,
      ⟨some 51, (some (40, false)), .bin .neq (.t 45) (.t 50), none⟩,
      ⟨some 52, none, .pick (.t 40) (.c (.bool true)) (.t 51), none⟩,
      ⟨some 53, none, .mv (.t 52), none⟩,
      ⟨some 54, (some (53, false)), .mv (.t 3), none⟩,
      ⟨some 55, (some (53, false)), .mv (.t 4), none⟩,
      ⟨some 56, (some (53, false)), .idxa 2 (.t 54) (.t 55), none⟩,
      ⟨some 57, (some (53, false)), .fld 1 (.t 56), none⟩,
      ⟨some 58, (some (53, false)), .load none (.t 57), none⟩,
      ⟨some 59, (some (53, false)), .lens (.t 58), none⟩,
      ⟨some 60, (some (53, false)), .mv (.t 3), none⟩,
      ⟨some 61, (some (53, false)), .mv (.t 4), none⟩,
      ⟨some 62, (some (53, false)), .idxa 2 (.t 60) (.t 61), none⟩,
      ⟨some 63, (some (53, false)), .fld 0 (.t 62), none⟩,
      ⟨some 64, (some (53, false)), .load none (.t 63), none⟩,
      ⟨some 65, (some (53, false)), .lens (.t 64), none⟩,
      ⟨some 66, (some (53, false)), .bin .gtr (.t 59) (.t 65), none⟩,
      ⟨some 67, none, .pick (.t 53) (.c (.bool true)) (.t 66), none⟩])
                 (.keep [1, 3, 28, 29, 67] (.cond (.t 67)
                  (.seq (.ops [⟨some 2, none, .mv (.c (.bool false)), none⟩])
                   (.ret))
                  (.skip)))))))
              (.keep [1, 3, 28, 29] (.ops [⟨some 68, none, .bin .add (.t 29) (.c (.int .i64 1)), none⟩,
      ⟨some 29, none, .mv (.t 68), none⟩]))))))

/-- attorney/attorneylaw08.CertShort -/
def J_law08_CertShort : AFn :=
  ⟨69, [.t 2], .seq (.ops [⟨some 1, none, .box (.t 0) [], none⟩,
      ⟨some 2, none, .mv (.c (.bool false)), none⟩])
   (.keep [1] (.seq (.seq (.ops [⟨some 5, none, .call (.f 33) [], none⟩,
      ⟨some 6, none, .not (.t 5), none⟩])
     (.keep [1, 6] (.cond (.t 6)
      (.seq (.ops [⟨some 2, none, .mv (.c (.bool false)), none⟩])
       (.ret))
      (.skip))))
    (.keep [1] (.seq (.seq (.ops [⟨some 7, none, .load (some 7) (.t 1), none⟩,
      ⟨some 8, none, .call (.f 34) [(.t 7)], none⟩,
      ⟨some 9, none, .mv (.t 8), none⟩,
      ⟨some 10, (some (9, false)), .load (some 7) (.t 1), none⟩,
      ⟨some 11, (some (9, false)), .call (.f 37) [(.t 10)], none⟩,
      ⟨some 12, (some (9, false)), .bin .neq (.t 11) (.c (.int .i64 0)), none⟩,
      ⟨some 13, none, .pick (.t 9) (.c (.bool true)) (.t 12), none⟩])
      (.keep [1, 13] (.cond (.t 13)
       (.seq (.ops [⟨some 2, none, .mv (.c (.bool true)), none⟩])
        (.ret))
       (.skip))))
     (.keep [1] (.seq (.ops [⟨some 14, none, .load (some 7) (.t 1), none⟩,
      ⟨some 15, none, .call (.f 42) [(.t 14)], none⟩,
      ⟨some 3, none, .mv (.t 15), none⟩])
      (.keep [1, 3] (.seq (.seq (.ops [⟨some 16, none, .mv (.t 3), none⟩,
      ⟨some 17, none, .lenl (.t 16), none⟩,
      ⟨some 18, none, .fld 3 (.t 1), none⟩,
      ⟨some 19, none, .load none (.t 18), none⟩,
      ⟨some 20, none, .lenl (.t 19), none⟩,
      ⟨some 21, none, .bin .neq (.t 17) (.t 20), none⟩,
      ⟨some 22, none, .mv (.t 21), none⟩,
      ⟨some 23, (some (22, false)), .mv (.t 3), none⟩,
      ⟨some 24, (some (22, false)), .lenl (.t 23), none⟩,
      ⟨some 25, (some (22, false)), .bin .eql (.t 24) (.c (.int .i64 0)), none⟩,
      ⟨some 26, none, .pick (.t 22) (.c (.bool true)) (.t 25), none⟩])
        (.keep [1, 3, 26] (.cond (.t 26)
         (.seq (.ops [⟨some 2, none, .mv (.c (.bool false)), none⟩])
          (.ret))
         (.skip))))
       (.keep [1, 3] (.seq (.seq (.ops [⟨some 27, none, .mv (.t 3), none⟩,
      ⟨some 28, none, .lenl (.t 27), none⟩,
      ⟨some 29, none, .mv (.c (.int .i64 0)), none⟩])
         (.keep [1, 3, 28, 29] (.block 0 (.loop [1, 3, 28, 29] (J_law08_CertShort_j2)))))
        (J_law08_CertShort_j1)))))))))))⟩
theorem J_law08_CertShort_ok : chkFn Try.prog 11 J_law08_CertShort = true := by kernel_rfl

/-- attorney/attorneylaw08.CertDelegates -/
def J_law08_CertDelegates : AFn :=
  ⟨87, [.t 10], .seq (.ops [⟨some 10, none, .mv (.c (.bool false)), none⟩])
   (.keep [0, 1, 2, 3, 4] (.seq (.seq (.ops [⟨some 15, none, .call (.f 33) [], none⟩,
      ⟨some 16, none, .not (.t 15), none⟩])
     (.keep [0, 1, 2, 3, 4, 16] (.cond (.t 16)
      (.seq (.ops [⟨some 10, none, .mv (.c (.bool false)), none⟩])
       (.ret))
      (.skip))))
    (.keep [0, 1, 2, 3, 4] (.seq (.seq (.ops [⟨some 17, none, .mv (.t 1), none⟩,
      ⟨some 18, none, .lens (.t 17), none⟩,
      ⟨some 19, none, .bin .gtr (.t 18) (.c (.int .i64 100)), none⟩])
      (.keep [0, 1, 2, 3, 4, 19] (.cond (.t 19)
       (.seq (.ops [⟨some 10, none, .mv (.c (.bool true)), none⟩])
        (.ret))
       (.skip))))
     (.keep [0, 1, 2, 3, 4] (.seq (.ops [⟨some 21, none, .mv (.t 0), none⟩,
      ⟨some 22, none, .bsl 54 1 1 [(.int .u16 0)] [(0, 1, (.t 21))], none⟩,
      ⟨some 23, none, .call (.f 49) [(.t 22)], none⟩,
      ⟨some 24, none, .bsl 44 1 1 [(.str ⟨#[]⟩)] [(0, 1, (.t 23))], none⟩,
      ⟨some 25, none, .mv (.t 1), none⟩,
      ⟨some 26, none, .bsl 44 1 1 [(.str ⟨#[]⟩)] [(0, 1, (.t 25))], none⟩,
      ⟨some 27, none, .call (.f 48) [(.t 24), (.t 26)], none⟩,
      ⟨some 20, none, .mv (.t 27), none⟩,
      ⟨some 28, none, .ext 0 (.t 20), none⟩,
      ⟨some 29, none, .ext 1 (.t 20), none⟩,
      ⟨some 11, none, .mv (.t 28), none⟩,
      ⟨some 12, none, .mv (.t 29), none⟩])
      (.keep [0, 1, 2, 3, 4, 11, 12] (.seq (.seq (.ops [⟨some 30, none, .mv (.t 12), none⟩,
      ⟨some 31, none, .bin .neq (.t 30) (.c (.int .i64 0)), none⟩])
        (.keep [0, 1, 2, 3, 4, 11, 31] (.cond (.t 31)
         (.seq (.ops [⟨some 10, none, .mv (.c (.bool true)), none⟩])
          (.ret))
         (.skip))))
       (.keep [0, 1, 2, 3, 4, 11] (.seq (.ops [⟨some 32, none, .mv (.t 2), none⟩,
      ⟨some 33, none, .mv (.t 0), none⟩,
      ⟨some 34, none, .bsl 54 1 1 [(.int .u16 0)] [(0, 1, (.t 33))], none⟩,
      ⟨some 35, none, .call (.f 49) [(.t 34)], none⟩,
      ⟨some 36, none, .mv (.t 1), none⟩,
      ⟨some 37, none, .bin .add (.t 35) (.t 36), none⟩,
      ⟨some 38, none, .mv (.t 11), none⟩,
      ⟨some 39, none, .mv (.t 3), none⟩,
      ⟨some 40, none, .mv (.t 4), none⟩,
      ⟨some 41, none, .build [(.int .i64 0), (.int .u16 0), (.str ⟨#[]⟩), (.lst .clip 0 []), (.int .i64 0), (.int .i64 0), (.int .i64 0)] [(0, 1, (.c (.int .i64 7))), (1, 1, (.t 32)), (2, 1, (.t 37)), (3, 1, (.t 38)), (4, 1, (.t 39)), (5, 1, (.t 40))], none⟩,
      ⟨some 13, none, .new [(.int .i64 0), (.int .u16 0), (.str ⟨#[]⟩), (.lst .clip 0 []), (.int .i64 0), (.int .i64 0), (.int .i64 0)] [], none⟩,
      ⟨none, none, .stores 7 (.t 13) (.t 41), none⟩])
        (.keep [2, 3, 4, 11, 13] (.seq (.ops [⟨some 42, none, .load (some 7) (.t 13), none⟩,
      ⟨some 43, none, .call (.f 37) [(.t 42)], none⟩,
      ⟨some 14, none, .mv (.t 43), none⟩])
         (.keep [2, 3, 4, 11, 13, 14] (.seq (.seq (.ops [⟨some 44, none, .mv (.t 14), none⟩,
      ⟨some 45, none, .bin .eql (.t 44) (.c (.int .i64 0)), none⟩])
           (.keep [2, 3, 4, 11, 13, 14, 45] (.cond (.t 45)
            (.seq (.ops [⟨some 46, none, .load (some 7) (.t 13), none⟩,
      ⟨some 47, none, .call (.f 42) [(.t 46)], none⟩,
      ⟨some 48, none, .lenl (.t 47), none⟩,
      ⟨some 49, none, .mv (.t 11), none⟩,
      ⟨some 50, none, .lenl (.t 49), none⟩,
      ⟨some 51, none, .bin .eql (.t 48) (.t 50), none⟩,
      ⟨some 10, none, .mv (.t 51), none⟩])
             (.ret))
            (.skip))))
          (.keep [2, 3, 4, 14] (.seq (.ops [⟨some 52, none, .mv (.t 14), none⟩,
      ⟨some 53, none, .bin .eql (.t 52) (.c (.int .i64 2)), none⟩,
      ⟨some 54, none, .mv (.t 53), none⟩,
      ⟨some 55, (some (54, true)), .mv (.t 2), none⟩,
      ⟨some 56, (some (54, true)), .bin .lss (.t 55) (.c (.int .u16 8192)), none⟩,
      ⟨some 57, (some (54, true)), .mv (.t 56), none⟩,
      ⟨some 58, (some (57, false)), .mv (.t 2), none⟩,
      ⟨some 59, (some (57, false)), .bin .geq (.t 58) (.c (.int .u16 16384)), none⟩,
      ⟨some 60, (some (54, true)), .pick (.t 57) (.c (.bool true)) (.t 59), none⟩,
      ⟨some 61, (some (54, true)), .mv (.t 60), none⟩,
      ⟨some 62, (some (61, false)), .mv (.t 3), none⟩,
      ⟨some 63, (some (61, false)), .bin .lss (.t 62) (.c (.int .i64 0)), none⟩,
      ⟨some 64, (some (54, true)), .pick (.t 61) (.c (.bool true)) (.t 63), none⟩,
      ⟨some 65, (some (54, true)), .mv (.t 64), none⟩,
      ⟨some 66, (some (65, false)), .mv (.t 4), none⟩,
      ⟨some 67, (some (65, false)), .bin .lss (.t 66) (.c (.int .i64 0)), none⟩,
      ⟨some 68, (some (54, true)), .pick (.t 65) (.c (.bool true)) (.t 67), none⟩,
      ⟨some 69, (some (54, true)), .mv (.t 68), none⟩,
      ⟨some 70, (some (69, false)), .mv (.t 3), none⟩,
      ⟨some 71, (some (69, false)), .bin .gtr (.t 70) (.c (.int .i64 4611686018427387904)), none⟩,
      ⟨some 72, (some (54, true)), .pick (.t 69) (.c (.bool true)) (.t 71), none⟩,
      ⟨some 73, (some (54, true)), .mv (.t 72), none⟩,
      ⟨some 74, (some (73, false)), .mv (.t 4), none⟩,
      ⟨some 75, (some (73, false)), .bin .gtr (.t 74) (.c (.int .i64 4611686018427387904)), none⟩,
      ⟨some 76, (some (54, true)), .pick (.t 73) (.c (.bool true)) (.t 75), none⟩,
      ⟨some 77, none, .pick (.t 54) (.t 76) (.c (.bool false)), none⟩,
      ⟨some 78, none, .mv (.t 77), none⟩,
      ⟨some 79, (some (78, false)), .mv (.t 14), none⟩,
      ⟨some 80, (some (78, false)), .bin .eql (.t 79) (.c (.int .i64 5)), none⟩,
      ⟨some 81, (some (78, false)), .mv (.t 80), none⟩,
      ⟨some 82, (some (81, true)), .mv (.t 3), none⟩,
      ⟨some 83, (some (81, true)), .mv (.t 4), none⟩,
      ⟨some 84, (some (81, true)), .bin .gtr (.t 82) (.t 83), none⟩,
      ⟨some 85, (some (78, false)), .pick (.t 81) (.t 84) (.c (.bool false)), none⟩,
      ⟨some 86, none, .pick (.t 78) (.c (.bool true)) (.t 85), none⟩,
      ⟨some 10, none, .mv (.t 86), none⟩])
           (.ret)))))))))))))))))⟩
theorem J_law08_CertDelegates_ok : chkFn Try.prog 12 J_law08_CertDelegates = true := by kernel_rfl

/-- attorney/attorneylaw08.CertSame -/
def J_law08_CertSame : AFn :=
  ⟨55, [.t 4], .seq (.ops [⟨some 2, none, .box (.t 0) [], none⟩,
      ⟨some 3, none, .box (.t 1) [], none⟩,
      ⟨some 4, none, .mv (.c (.bool false)), none⟩])
   (.keep [2, 3] (.seq (.seq (.ops [⟨some 9, none, .call (.f 33) [], none⟩,
      ⟨some 10, none, .not (.t 9), none⟩])
     (.keep [2, 3, 10] (.cond (.t 10)
      (.seq (.ops [⟨some 4, none, .mv (.c (.bool false)), none⟩])
       (.ret))
      (.skip))))
    (.keep [2, 3] (.seq (.seq (.ops [⟨some 11, none, .load (some 7) (.t 2), none⟩,
      ⟨some 12, none, .call (.f 34) [(.t 11)], none⟩,
      ⟨some 13, none, .mv (.t 12), none⟩,
      ⟨some 14, (some (13, false)), .load (some 7) (.t 3), none⟩,
      ⟨some 15, (some (13, false)), .call (.f 34) [(.t 14)], none⟩,
      ⟨some 16, none, .pick (.t 13) (.c (.bool true)) (.t 15), none⟩])
      (.keep [2, 3, 16] (.cond (.t 16)
       (.seq (.ops [⟨some 4, none, .mv (.c (.bool true)), none⟩])
        (.ret))
       (.skip))))
     (.keep [2, 3] (.seq (.seq (.draw [2, 3, 29] [⟨some 17, none, .load (some 7) (.t 2), none⟩,
      ⟨some 18, none, .load (some 7) (.t 2), none⟩,
      ⟨some 19, none, .call (.f 47) [(.t 17), (.t 18)], none⟩,
      ⟨some 20, none, .not (.t 19), none⟩,
      ⟨some 21, none, .mv (.t 20), none⟩,
      ⟨some 22, (some (21, false)), .load (some 7) (.t 2), none⟩,
      ⟨some 23, (some (21, false)), .load (some 7) (.t 3), none⟩,
      ⟨some 24, (some (21, false)), .call (.f 47) [(.t 22), (.t 23)], none⟩,
      ⟨some 25, (some (21, false)), .load (some 7) (.t 3), none⟩,
      ⟨some 26, (some (21, false)), .load (some 7) (.t 2), none⟩,
      ⟨some 27, (some (21, false)), .call (.f 47) [(.t 25), (.t 26)], none⟩,
      ⟨some 28, (some (21, false)), .bbin true (.t 24) (.t 27), none⟩,
      ⟨some 29, none, .pick (.t 21) (.c (.bool true)) (.t 28), none⟩])
       (.keep [2, 3, 29] (.cond (.t 29)
        (.seq (.ops [⟨some 4, none, .mv (.c (.bool false)), none⟩])
         (.ret))
        (.skip))))
      (.keep [2, 3] (.seq (.ops [⟨some 31, none, .load (some 7) (.t 2), none⟩,
      ⟨some 32, none, .call (.f 35) [(.t 31)], none⟩,
      ⟨some 30, none, .mv (.t 32), none⟩,
      ⟨some 33, none, .ext 0 (.t 30), none⟩,
      ⟨some 34, none, .ext 1 (.t 30), none⟩,
      ⟨some 5, none, .mv (.t 33), none⟩,
      ⟨some 6, none, .mv (.t 34), none⟩])
       (.keep [2, 3, 5, 6] (.seq (.ops [⟨some 36, none, .load (some 7) (.t 3), none⟩,
      ⟨some 37, none, .call (.f 35) [(.t 36)], none⟩,
      ⟨some 35, none, .mv (.t 37), none⟩,
      ⟨some 38, none, .ext 0 (.t 35), none⟩,
      ⟨some 39, none, .ext 1 (.t 35), none⟩,
      ⟨some 7, none, .mv (.t 38), none⟩,
      ⟨some 8, none, .mv (.t 39), none⟩])
        (.keep [2, 3, 5, 6, 7, 8] (.seq (.ops [⟨some 40, none, .mv (.t 6), none⟩,
      ⟨some 41, none, .bin .neq (.t 40) (.c (.int .i64 0)), none⟩,
      ⟨some 42, none, .mv (.t 41), none⟩,
      ⟨some 43, (some (42, false)), .mv (.t 8), none⟩,
      ⟨some 44, (some (42, false)), .bin .neq (.t 43) (.c (.int .i64 0)), none⟩,
      ⟨some 45, none, .pick (.t 42) (.c (.bool true)) (.t 44), none⟩,
      ⟨some 46, none, .mv (.t 45), none⟩,
      ⟨some 47, (some (46, false)), .mv (.t 5), none⟩,
      ⟨some 48, (some (46, false)), .mv (.t 7), none⟩,
      ⟨some 49, (some (46, false)), .bin .eql (.t 47) (.t 48), none⟩,
      ⟨some 50, (some (46, false)), .load (some 7) (.t 2), none⟩,
      ⟨some 51, (some (46, false)), .load (some 7) (.t 3), none⟩,
      ⟨some 52, (some (46, false)), .call (.f 47) [(.t 50), (.t 51)], none⟩,
      ⟨some 53, (some (46, false)), .bbin false (.t 49) (.t 52), none⟩,
      ⟨some 54, none, .pick (.t 46) (.c (.bool true)) (.t 53), none⟩,
      ⟨some 4, none, .mv (.t 54), none⟩])
         (.ret)))))))))))))⟩
theorem J_law08_CertSame_ok : chkFn Try.prog 13 J_law08_CertSame = true := by kernel_rfl

/-- attorney/attorneylaw08.CertHolds -/
def J_law08_CertHolds : AFn :=
  ⟨67, [.t 4], .seq (.ops [⟨some 2, none, .box (.t 0) [], none⟩,
      ⟨some 4, none, .mv (.c (.bool false)), none⟩])
   (.keep [1, 2] (.seq (.seq (.ops [⟨some 5, none, .call (.f 33) [], none⟩,
      ⟨some 6, none, .not (.t 5), none⟩])
     (.keep [1, 2, 6] (.cond (.t 6)
      (.seq (.ops [⟨some 4, none, .mv (.c (.bool false)), none⟩])
       (.ret))
      (.skip))))
    (.keep [1, 2] (.seq (.seq (.ops [⟨some 7, none, .load (some 7) (.t 2), none⟩,
      ⟨some 8, none, .call (.f 34) [(.t 7)], none⟩,
      ⟨some 9, none, .mv (.t 8), none⟩,
      ⟨some 10, (some (9, false)), .load (some 7) (.t 2), none⟩,
      ⟨some 11, (some (9, false)), .call (.f 37) [(.t 10)], none⟩,
      ⟨some 12, (some (9, false)), .bin .neq (.t 11) (.c (.int .i64 0)), none⟩,
      ⟨some 13, none, .pick (.t 9) (.c (.bool true)) (.t 12), none⟩])
      (.keep [1, 2, 13] (.cond (.t 13)
       (.seq (.ops [⟨some 4, none, .mv (.c (.bool true)), none⟩])
        (.ret))
       (.skip))))
     (.keep [1, 2] (.seq (.seq (.ops [⟨some 14, none, .load (some 7) (.t 2), none⟩,
      ⟨some 15, none, .fld 4 (.t 2), none⟩,
      ⟨some 16, none, .load none (.t 15), none⟩,
      ⟨some 17, none, .call (.f 39) [(.t 14), (.t 16)], none⟩,
      ⟨some 18, none, .not (.t 17), none⟩,
      ⟨some 19, none, .mv (.t 18), none⟩,
      ⟨some 20, (some (19, false)), .load (some 7) (.t 2), none⟩,
      ⟨some 21, (some (19, false)), .fld 5 (.t 2), none⟩,
      ⟨some 22, (some (19, false)), .load none (.t 21), none⟩,
      ⟨some 23, (some (19, false)), .call (.f 39) [(.t 20), (.t 22)], none⟩,
      ⟨some 24, (some (19, false)), .not (.t 23), none⟩,
      ⟨some 25, none, .pick (.t 19) (.c (.bool true)) (.t 24), none⟩,
      ⟨some 26, none, .mv (.t 25), none⟩,
      ⟨some 27, (some (26, false)), .load (some 7) (.t 2), none⟩,
      ⟨some 28, (some (26, false)), .fld 4 (.t 2), none⟩,
      ⟨some 29, (some (26, false)), .load none (.t 28), none⟩,
      ⟨some 30, (some (26, false)), .bin .sub (.t 29) (.c (.int .i64 1)), none⟩,
      ⟨some 31, (some (26, false)), .call (.f 39) [(.t 27), (.t 30)], none⟩,
      ⟨some 32, none, .pick (.t 26) (.c (.bool true)) (.t 31), none⟩,
      ⟨some 33, none, .mv (.t 32), none⟩,
      ⟨some 34, (some (33, false)), .load (some 7) (.t 2), none⟩,
      ⟨some 35, (some (33, false)), .fld 5 (.t 2), none⟩,
      ⟨some 36, (some (33, false)), .load none (.t 35), none⟩,
      ⟨some 37, (some (33, false)), .bin .add (.t 36) (.c (.int .i64 1)), none⟩,
      ⟨some 38, (some (33, false)), .call (.f 39) [(.t 34), (.t 37)], none⟩,
      ⟨some 39, none, .pick (.t 33) (.c (.bool true)) (.t 38), none⟩])
       (.keep [1, 2, 39] (.cond (.t 39)
        (.seq (.ops [⟨some 4, none, .mv (.c (.bool false)), none⟩])
         (.ret))
        (.skip))))
      (.keep [1, 2] (.seq (.draw [4] [⟨some 40, none, .load (some 7) (.t 2), none⟩,
      ⟨some 41, none, .mv (.t 1), none⟩,
      ⟨some 42, none, .call (.f 39) [(.t 40), (.t 41)], none⟩,
      ⟨some 43, none, .mv (.t 1), none⟩,
      ⟨some 44, none, .fld 4 (.t 2), none⟩,
      ⟨some 45, none, .load none (.t 44), none⟩,
      ⟨some 46, none, .bin .geq (.t 43) (.t 45), none⟩,
      ⟨some 47, none, .mv (.t 46), none⟩,
      ⟨some 48, (some (47, true)), .mv (.t 1), none⟩,
      ⟨some 49, (some (47, true)), .fld 5 (.t 2), none⟩,
      ⟨some 50, (some (47, true)), .load none (.t 49), none⟩,
      ⟨some 51, (some (47, true)), .bin .leq (.t 48) (.t 50), none⟩,
      ⟨some 52, none, .pick (.t 47) (.t 51) (.c (.bool false)), none⟩,
      ⟨some 53, none, .bbin false (.t 42) (.t 52), none⟩,
      ⟨some 54, none, .mv (.t 53), none⟩,
      ⟨some 55, (some (54, true)), .load (some 7) (.t 2), none⟩,
      ⟨some 56, (some (54, true)), .fld 4 (.t 2), none⟩,
      ⟨some 57, (some (54, true)), .load none (.t 56), none⟩,
      ⟨some 58, (some (54, true)), .fld 5 (.t 2), none⟩,
      ⟨some 59, (some (54, true)), .load none (.t 58), none⟩,
      ⟨some 60, (some (54, true)), .fld 4 (.t 2), none⟩,
      ⟨some 61, (some (54, true)), .load none (.t 60), none⟩,
      ⟨some 62, (some (54, true)), .bin .sub (.t 59) (.t 61), none⟩,
      ⟨some 63, (some (54, true)), .bin .quo (.t 62) (.c (.int .i64 2)), none⟩,
      ⟨some 64, (some (54, true)), .bin .add (.t 57) (.t 63), none⟩,
      ⟨some 65, (some (54, true)), .call (.f 39) [(.t 55), (.t 64)], none⟩,
      ⟨some 66, none, .pick (.t 54) (.t 65) (.c (.bool false)), none⟩,
      ⟨some 4, none, .mv (.t 66), none⟩])
       (.ret)))))))))⟩
theorem J_law08_CertHolds_ok : chkFn Try.prog 14 J_law08_CertHolds = true := by kernel_rfl

/-- attorney/attorneylaw08.awake -/
def J_law08_awake : AFn :=
  ⟨119, [.t 0], .seq (.ops [⟨some 0, none, .mv (.c (.bool false)), none⟩])
   (.keep [] (.seq (.ops [⟨some 1, none, .mv (.c (.int .u16 24577)), none⟩,
      ⟨some 2, none, .mv (.c (.int .u16 24578)), none⟩])
    (.keep [1, 2] (.seq (.ops [⟨some 12, none, .mv (.t 1), none⟩,
      ⟨some 13, none, .mv (.t 2), none⟩,
      ⟨some 14, none, .bsl 54 1 2 [(.int .u16 0), (.int .u16 0)] [(0, 1, (.t 12)), (1, 1, (.t 13))], none⟩,
      ⟨some 15, none, .call (.f 49) [(.t 14)], none⟩,
      ⟨some 16, none, .mv (.t 2), none⟩,
      ⟨some 17, none, .bsl 54 1 2 [(.int .u16 0), (.int .u16 0)] [(0, 1, (.c (.int .u16 1))), (1, 1, (.t 16))], none⟩,
      ⟨some 18, none, .call (.f 49) [(.t 17)], none⟩,
      ⟨some 19, none, .mv (.t 1), none⟩,
      ⟨some 20, none, .mv (.t 2), none⟩,
      ⟨some 21, none, .bsl 54 1 2 [(.int .u16 0), (.int .u16 0)] [(0, 1, (.t 19)), (1, 1, (.t 20))], none⟩,
      ⟨some 22, none, .call (.f 49) [(.t 21)], none⟩,
      ⟨some 23, none, .bsl 44 1 2 [(.str ⟨#[]⟩), (.str ⟨#[]⟩)] [(0, 1, (.t 18)), (1, 1, (.t 22))], none⟩,
      ⟨some 24, none, .build [(.int .i64 0), (.int .u16 0), (.str ⟨#[]⟩), (.lst .clip 0 []), (.int .i64 0), (.int .i64 0), (.int .i64 0)] [(0, 1, (.c (.int .i64 7))), (1, 1, (.c (.int .u16 8193))), (2, 1, (.t 15)), (3, 1, (.t 23)), (4, 1, (.c (.int .i64 5))), (5, 1, (.c (.int .i64 9))), (6, 1, (.c (.int .i64 7)))], none⟩,
      ⟨some 3, none, .new [(.int .i64 0), (.int .u16 0), (.str ⟨#[]⟩), (.lst .clip 0 []), (.int .i64 0), (.int .i64 0), (.int .i64 0)] [], none⟩,
      ⟨none, none, .stores 7 (.t 3) (.t 24), none⟩])
     (.keep [1, 2, 3] (.seq (.ops [⟨some 26, none, .load (some 7) (.t 3), none⟩,
      ⟨some 27, none, .call (.f 35) [(.t 26)], none⟩,
      ⟨some 25, none, .mv (.t 27), none⟩,
      ⟨some 28, none, .ext 0 (.t 25), none⟩,
      ⟨some 29, none, .ext 1 (.t 25), none⟩,
      ⟨some 4, none, .mv (.t 28), none⟩,
      ⟨some 5, none, .mv (.t 29), none⟩])
      (.keep [1, 2, 3, 4, 5] (.seq (.ops [⟨some 31, none, .mv (.t 4), none⟩,
      ⟨some 32, none, .call (.f 45) [(.t 31)], none⟩,
      ⟨some 30, none, .mv (.t 32), none⟩,
      ⟨some 33, none, .ext 0 (.t 30), none⟩,
      ⟨some 34, none, .ext 1 (.t 30), none⟩,
      ⟨some 6, none, .new [(.int .i64 0), (.int .u16 0), (.str ⟨#[]⟩), (.lst .clip 0 []), (.int .i64 0), (.int .i64 0), (.int .i64 0)] [], none⟩,
      ⟨none, none, .stores 7 (.t 6) (.t 33), none⟩,
      ⟨some 7, none, .mv (.t 34), none⟩])
       (.keep [1, 2, 3, 4, 5, 6, 7] (.seq (.ops [⟨some 35, none, .load (some 7) (.t 3), none⟩,
      ⟨some 8, none, .new [(.int .i64 0), (.int .u16 0), (.str ⟨#[]⟩), (.lst .clip 0 []), (.int .i64 0), (.int .i64 0), (.int .i64 0)] [], none⟩,
      ⟨none, none, .store 7 (.t 8) (.t 35), none⟩])
        (.keep [1, 2, 3, 4, 5, 6, 7, 8] (.seq (.ops [⟨some 36, none, .fld 0 (.t 8), none⟩,
      ⟨none, none, .store 1 (.t 36) (.c (.int .i64 6)), none⟩])
         (.keep [1, 2, 3, 4, 5, 6, 7, 8] (.seq (.ops [⟨some 37, none, .mv (.t 2), none⟩,
      ⟨some 38, none, .bsl 54 1 1 [(.int .u16 0)] [(0, 1, (.t 37))], none⟩,
      ⟨some 39, none, .call (.f 49) [(.t 38)], none⟩,
      ⟨some 40, none, .bsl 44 1 1 [(.str ⟨#[]⟩)] [(0, 1, (.t 39))], none⟩,
      ⟨some 41, none, .fld 3 (.t 8), none⟩,
      ⟨none, none, .storeo (.t 41) 40, none⟩])
          (.keep [1, 2, 3, 4, 5, 6, 7, 8] (.seq (.ops [⟨some 42, none, .load (some 7) (.t 3), none⟩,
      ⟨some 43, none, .call (.f 42) [(.t 42)], none⟩,
      ⟨some 9, none, .mv (.t 43), none⟩])
           (.keep [1, 2, 3, 4, 5, 6, 7, 8, 9] (.seq (.ops [⟨some 45, none, .mv (.t 4), none⟩,
      ⟨some 46, none, .bin .add (.t 45) (.c (.str ⟨#[63]⟩)), none⟩,
      ⟨some 47, none, .call (.f 45) [(.t 46)], none⟩,
      ⟨some 44, none, .mv (.t 47), none⟩,
      ⟨some 48, none, .ext 0 (.t 44), none⟩,
      ⟨some 49, none, .ext 1 (.t 44), none⟩,
      ⟨some 10, none, .new [(.int .i64 0), (.int .u16 0), (.str ⟨#[]⟩), (.lst .clip 0 []), (.int .i64 0), (.int .i64 0), (.int .i64 0)] [], none⟩,
      ⟨none, none, .stores 7 (.t 10) (.t 48), none⟩,
      ⟨some 11, none, .mv (.t 49), none⟩])
            (.keep [1, 2, 3, 4, 5, 6, 7, 8, 9, 11] (.seq (.draw [0] [⟨some 50, none, .lds (some 7) (.t 3), none⟩,
      ⟨some 51, none, .call (.f 37) [(.t 50)], none⟩,
      ⟨some 52, none, .bin .eql (.t 51) (.c (.int .i64 0)), none⟩,
      ⟨some 53, none, .mv (.t 52), none⟩,
      ⟨some 54, (some (53, true)), .mv (.t 5), none⟩,
      ⟨some 55, (some (53, true)), .bin .eql (.t 54) (.c (.int .i64 0)), none⟩,
      ⟨some 56, none, .pick (.t 53) (.t 55) (.c (.bool false)), none⟩,
      ⟨some 57, none, .mv (.t 56), none⟩,
      ⟨some 58, (some (57, true)), .mv (.t 7), none⟩,
      ⟨some 59, (some (57, true)), .bin .eql (.t 58) (.c (.int .i64 0)), none⟩,
      ⟨some 60, none, .pick (.t 57) (.t 59) (.c (.bool false)), none⟩,
      ⟨some 61, none, .mv (.t 60), none⟩,
      ⟨some 62, (some (61, true)), .lds (some 7) (.t 3), none⟩,
      ⟨some 63, (some (61, true)), .lds (some 7) (.t 6), none⟩,
      ⟨some 64, (some (61, true)), .call (.f 47) [(.t 62), (.t 63)], none⟩,
      ⟨some 65, none, .pick (.t 61) (.t 64) (.c (.bool false)), none⟩,
      ⟨some 66, none, .mv (.t 65), none⟩,
      ⟨some 67, (some (66, true)), .lds (some 7) (.t 3), none⟩,
      ⟨some 68, (some (66, true)), .load (some 7) (.t 8), none⟩,
      ⟨some 69, (some (66, true)), .call (.f 47) [(.t 67), (.t 68)], none⟩,
      ⟨some 70, (some (66, true)), .not (.t 69), none⟩,
      ⟨some 71, none, .pick (.t 66) (.t 70) (.c (.bool false)), none⟩,
      ⟨some 72, none, .mv (.t 71), none⟩,
      ⟨some 73, (some (72, true)), .load (some 7) (.t 8), none⟩,
      ⟨some 74, (some (72, true)), .call (.f 37) [(.t 73)], none⟩,
      ⟨some 75, (some (72, true)), .bin .eql (.t 74) (.c (.int .i64 4)), none⟩,
      ⟨some 76, none, .pick (.t 72) (.t 75) (.c (.bool false)), none⟩,
      ⟨some 77, none, .mv (.t 76), none⟩,
      ⟨some 78, (some (77, true)), .mv (.t 9), none⟩,
      ⟨some 79, (some (77, true)), .lenl (.t 78), none⟩,
      ⟨some 80, (some (77, true)), .bin .eql (.t 79) (.c (.int .i64 2)), none⟩,
      ⟨some 81, none, .pick (.t 77) (.t 80) (.c (.bool false)), none⟩,
      ⟨some 82, none, .mv (.t 81), none⟩,
      ⟨some 83, (some (82, true)), .mv (.t 9), none⟩,
      ⟨some 84, (some (82, true)), .idxa 2 (.t 83) (.c (.int .i64 0)), none⟩,
      ⟨some 85, (some (82, true)), .load (some 2) (.t 84), none⟩,
      ⟨some 86, (some (82, true)), .mv (.t 2), none⟩,
      ⟨some 87, (some (82, true)), .bsl 54 1 2 [(.int .u16 0), (.int .u16 0)] [(0, 1, (.c (.int .u16 1))), (1, 1, (.t 86))], none⟩,
      ⟨some 88, (some (82, true)), .call (.f 49) [(.t 87)], none⟩,
      ⟨some 89, (some (82, true)), .mv (.t 1), none⟩,
      ⟨some 90, (some (82, true)), .mv (.t 2), none⟩,
      ⟨some 91, (some (82, true)), .bsl 54 1 2 [(.int .u16 0), (.int .u16 0)] [(0, 1, (.t 89)), (1, 1, (.t 90))], none⟩,
      ⟨some 92, (some (82, true)), .call (.f 49) [(.t 91)], none⟩,
      ⟨some 93, (some (82, true)), .build [(.str ⟨#[]⟩), (.str ⟨#[]⟩)] [(0, 1, (.t 88)), (1, 1, (.t 92))], none⟩,
      ⟨some 94, (some (82, true)), .ex (.aeq false [1, 1]) [(.t 85), (.t 93)], none⟩,
      ⟨some 95, none, .pick (.t 82) (.t 94) (.c (.bool false)), none⟩,
      ⟨some 96, none, .mv (.t 95), none⟩,
      ⟨some 97, (some (96, true)), .lds (some 7) (.t 3), none⟩,
      ⟨some 98, (some (96, true)), .call (.f 39) [(.t 97), (.c (.int .i64 9))], none⟩,
      ⟨some 99, none, .pick (.t 96) (.t 98) (.c (.bool false)), none⟩,
      ⟨some 100, none, .mv (.t 99), none⟩,
      ⟨some 101, (some (100, true)), .lds (some 7) (.t 3), none⟩,
      ⟨some 102, (some (100, true)), .call (.f 39) [(.t 101), (.c (.int .i64 10))], none⟩,
      ⟨some 103, (some (100, true)), .not (.t 102), none⟩,
      ⟨some 104, none, .pick (.t 100) (.t 103) (.c (.bool false)), none⟩,
      ⟨some 105, none, .mv (.t 104), none⟩,
      ⟨some 106, (some (105, true)), .mv (.t 11), none⟩,
      ⟨some 107, (some (105, true)), .bin .eql (.t 106) (.c (.int .i64 2)), none⟩,
      ⟨some 108, none, .pick (.t 105) (.t 107) (.c (.bool false)), none⟩,
      ⟨some 109, none, .mv (.t 108), none⟩,
      ⟨some 110, (some (109, true)), .mv (.t 4), none⟩,
      ⟨some 111, (some (109, true)), .lens (.t 110), none⟩,
      ⟨some 112, (some (109, true)), .bin .gtr (.t 111) (.c (.int .i64 0)), none⟩,
      ⟨some 113, none, .pick (.t 109) (.t 112) (.c (.bool false)), none⟩,
      ⟨some 114, none, .mv (.t 113), none⟩,
      ⟨some 115, (some (114, true)), .mv (.t 4), none⟩,
      ⟨some 116, (some (114, true)), .idxs (.t 115) (.c (.int .i64 0)), none⟩,
      ⟨some 117, (some (114, true)), .bin .eql (.t 116) (.c (.int .u8 7)), none⟩,
      ⟨some 118, none, .pick (.t 114) (.t 117) (.c (.bool false)), none⟩,
      ⟨some 0, none, .mv (.t 118), none⟩])
             (.ret)))))))))))))))))))))⟩
theorem J_law08_awake_ok : chkFn Try.prog 33 J_law08_awake = true := by kernel_rfl

/- behind: Q -/
def J_law08_large_j1 : ACode :=
  .keep [] (.seq (.ops [⟨some 2, none, .mv (.c (.bool false)), none⟩])
      (.ret))

/- behind: Q = kloop [1, 16, 17] I n (kblock 0 (kseq P (J_law08_large_j1) Q)) -/
def J_law08_large_j2 : ACode :=
  .seq (.ops [⟨some 18, none, .bin .lss (.t 17) (.t 16), none⟩])
         (.keep [1, 16, 17, 18] (.seq (.cond (.t 18)
           (.skip)
           (.exit 0))
          (.keep [1, 16, 17] (.seq (.block 1 (.seq (.ops [⟨some 19, none, .mv (.t 17), none⟩,
      ⟨some 3, none, .mv (.t 19), none⟩])
             (.keep [1, 3, 16, 17] (.seq (.ops [⟨some 20, none, .fld 3 (.t 1), none⟩,
      ⟨some 21, none, .load none (.t 20), none⟩,
      ⟨some 22, none, .mv (.t 3), none⟩,
      ⟨some 23, none, .idxa 1 (.t 21) (.t 22), none⟩,
      ⟨some 24, none, .load none (.t 23), none⟩,
      ⟨some 25, none, .lens (.t 24), none⟩,
      ⟨some 26, none, .bin .gtr (.t 25) (.c (.int .i64 100)), none⟩])
              (.keep [1, 16, 17, 26] (.cond (.t 26)
               (.seq (.ops [⟨some 2, none, .mv (.c (.bool true)), none⟩])
                (.ret))
               (.skip)))))))
           (.keep [1, 16, 17] (.ops [⟨some 27, none, .bin .add (.t 17) (.c (.int .i64 1)), none⟩,
      ⟨some 17, none, .mv (.t 27), none⟩]))))))

/-- attorney/attorneylaw08.large -/
def J_law08_large : AFn :=
  ⟨28, [.t 2], .seq (.ops [⟨some 1, none, .box (.t 0) [], none⟩,
      ⟨some 2, none, .mv (.c (.bool false)), none⟩])
   (.keep [1] (.seq (.seq (.ops [⟨some 4, none, .fld 2 (.t 1), none⟩,
      ⟨some 5, none, .load none (.t 4), none⟩,
      ⟨some 6, none, .lens (.t 5), none⟩,
      ⟨some 7, none, .bin .gtr (.t 6) (.c (.int .i64 100)), none⟩,
      ⟨some 8, none, .mv (.t 7), none⟩,
      ⟨some 9, (some (8, false)), .fld 3 (.t 1), none⟩,
      ⟨some 10, (some (8, false)), .load none (.t 9), none⟩,
      ⟨some 11, (some (8, false)), .lenl (.t 10), none⟩,
      ⟨some 12, (some (8, false)), .bin .gtr (.t 11) (.c (.int .i64 60)), none⟩,
      ⟨some 13, none, .pick (.t 8) (.c (.bool true)) (.t 12), none⟩])
     (.keep [1, 13] (.cond (.t 13)
      (.seq (.ops [⟨some 2, none, .mv (.c (.bool true)), none⟩])
       (.ret))
      (.skip))))
    (.keep [1] (.seq (.seq (.ops [⟨some 14, none, .fld 3 (.t 1), none⟩,
      ⟨some 15, none, .load none (.t 14), none⟩,
      ⟨some 16, none, .lenl (.t 15), none⟩,
      ⟨some 17, none, .mv (.c (.int .i64 0)), none⟩])
      (.keep [1, 16, 17] (.block 0 (.loop [1, 16, 17] (J_law08_large_j2)))))
     (J_law08_large_j1)))))⟩
theorem J_law08_large_ok : chkFn Try.prog 34 J_law08_large = true := by kernel_rfl

/-- attorney/cert.Encode -/
def J_cert_Encode : AFn :=
  ⟨39, [.t 2, .t 3], .seq (.ops [⟨some 1, none, .box (.t 0) [], none⟩,
      ⟨some 2, none, .mv (.c (.str ⟨#[]⟩)), none⟩,
      ⟨some 3, none, .mv (.c (.int .i64 0)), none⟩])
   (.keep [1] (.seq (.seq (.ops [⟨some 6, none, .load (some 7) (.t 1), none⟩,
      ⟨some 7, none, .call (.f 37) [(.t 6)], none⟩,
      ⟨some 4, none, .mv (.t 7), none⟩])
     (.keep [1, 4] (.seq (.ops [⟨some 8, none, .mv (.t 4), none⟩,
      ⟨some 9, none, .bin .neq (.t 8) (.c (.int .i64 0)), none⟩])
      (.keep [1, 4, 9] (.cond (.t 9)
       (.seq (.ops [⟨some 10, none, .mv (.t 4), none⟩,
      ⟨some 2, none, .mv (.c (.str ⟨#[]⟩)), none⟩,
      ⟨some 3, none, .mv (.t 10), none⟩])
        (.ret))
       (.skip))))))
    (.keep [1] (.seq (.ops [⟨some 5, none, .new [(.int .i64 0), (.lst .clip 0 [])] [(1, 5, 1)], none⟩])
     (.keep [1, 5] (.seq (.ops [⟨some 11, none, .fld 0 (.t 1), none⟩,
      ⟨some 12, none, .load none (.t 11), none⟩,
      ⟨some 13, none, .call (.f 62) [(.t 5), (.t 12)], none⟩])
      (.keep [1, 5] (.seq (.ops [⟨some 14, none, .fld 1 (.t 1), none⟩,
      ⟨some 15, none, .load none (.t 14), none⟩,
      ⟨some 16, none, .conv .i64 (.t 15), none⟩,
      ⟨some 17, none, .call (.f 62) [(.t 5), (.t 16)], none⟩])
       (.keep [1, 5] (.seq (.ops [⟨some 18, none, .fld 2 (.t 1), none⟩,
      ⟨some 19, none, .load none (.t 18), none⟩,
      ⟨some 20, none, .call (.f 76) [(.t 5), (.t 19)], none⟩])
        (.keep [1, 5] (.seq (.ops [⟨some 21, none, .fld 3 (.t 1), none⟩,
      ⟨some 22, none, .load none (.t 21), none⟩,
      ⟨some 23, none, .call (.f 63) [(.t 5), (.t 22)], none⟩])
         (.keep [1, 5] (.seq (.ops [⟨some 24, none, .fld 4 (.t 1), none⟩,
      ⟨some 25, none, .load none (.t 24), none⟩,
      ⟨some 26, none, .call (.f 62) [(.t 5), (.t 25)], none⟩])
          (.keep [1, 5] (.seq (.ops [⟨some 27, none, .fld 5 (.t 1), none⟩,
      ⟨some 28, none, .load none (.t 27), none⟩,
      ⟨some 29, none, .fld 4 (.t 1), none⟩,
      ⟨some 30, none, .load none (.t 29), none⟩,
      ⟨some 31, none, .bin .sub (.t 28) (.t 30), none⟩,
      ⟨some 32, none, .call (.f 62) [(.t 5), (.t 31)], none⟩])
           (.keep [1, 5] (.seq (.ops [⟨some 33, none, .fld 6 (.t 1), none⟩,
      ⟨some 34, none, .load none (.t 33), none⟩,
      ⟨some 35, none, .call (.f 62) [(.t 5), (.t 34)], none⟩])
            (.keep [5] (.seq (.ops [⟨some 36, none, .call (.f 64) [(.t 5)], none⟩,
      ⟨some 37, none, .ext 0 (.t 36), none⟩,
      ⟨some 38, none, .ext 1 (.t 36), none⟩,
      ⟨some 2, none, .mv (.t 37), none⟩,
      ⟨some 3, none, .mv (.t 38), none⟩])
             (.ret)))))))))))))))))))))⟩
theorem J_cert_Encode_ok : chkFn Try.prog 35 J_cert_Encode = true := by kernel_rfl

/-- attorney/attorneyref08.Encode -/
def J_ref08_Encode : AFn :=
  ⟨41, [.t 2, .t 3], .seq (.ops [⟨some 1, none, .box (.t 0) [], none⟩,
      ⟨some 2, none, .mv (.c (.str ⟨#[]⟩)), none⟩,
      ⟨some 3, none, .mv (.c (.int .i64 0)), none⟩])
   (.keep [1] (.seq (.ops [⟨some 5, none, .load (some 7) (.t 1), none⟩,
      ⟨some 6, none, .call (.f 38) [(.t 5)], none⟩,
      ⟨some 4, none, .mv (.t 6), none⟩])
    (.keep [1, 4] (.seq (.seq (.ops [⟨some 7, none, .mv (.t 4), none⟩,
      ⟨some 8, none, .bin .neq (.t 7) (.c (.int .i64 0)), none⟩])
      (.keep [1, 4, 8] (.cond (.t 8)
       (.seq (.ops [⟨some 9, none, .mv (.t 4), none⟩,
      ⟨some 2, none, .mv (.c (.str ⟨#[]⟩)), none⟩,
      ⟨some 3, none, .mv (.t 9), none⟩])
        (.ret))
       (.skip))))
     (.keep [1] (.seq (.draw [2, 3] [⟨some 10, none, .fld 0 (.t 1), none⟩,
      ⟨some 11, none, .load none (.t 10), none⟩,
      ⟨some 12, none, .call (.f 65) [(.t 11)], none⟩,
      ⟨some 13, none, .fld 1 (.t 1), none⟩,
      ⟨some 14, none, .load none (.t 13), none⟩,
      ⟨some 15, none, .conv .i64 (.t 14), none⟩,
      ⟨some 16, none, .call (.f 65) [(.t 15)], none⟩,
      ⟨some 17, none, .bin .add (.t 12) (.t 16), none⟩,
      ⟨some 18, none, .fld 2 (.t 1), none⟩,
      ⟨some 19, none, .load none (.t 18), none⟩,
      ⟨some 20, none, .call (.f 77) [(.t 19)], none⟩,
      ⟨some 21, none, .bin .add (.t 17) (.t 20), none⟩,
      ⟨some 22, none, .fld 3 (.t 1), none⟩,
      ⟨some 23, none, .load none (.t 22), none⟩,
      ⟨some 24, none, .call (.f 66) [(.t 23)], none⟩,
      ⟨some 25, none, .bin .add (.t 21) (.t 24), none⟩,
      ⟨some 26, none, .fld 4 (.t 1), none⟩,
      ⟨some 27, none, .load none (.t 26), none⟩,
      ⟨some 28, none, .call (.f 65) [(.t 27)], none⟩,
      ⟨some 29, none, .bin .add (.t 25) (.t 28), none⟩,
      ⟨some 30, none, .fld 5 (.t 1), none⟩,
      ⟨some 31, none, .load none (.t 30), none⟩,
      ⟨some 32, none, .fld 4 (.t 1), none⟩,
      ⟨some 33, none, .load none (.t 32), none⟩,
      ⟨some 34, none, .bin .sub (.t 31) (.t 33), none⟩,
      ⟨some 35, none, .call (.f 65) [(.t 34)], none⟩,
      ⟨some 36, none, .bin .add (.t 29) (.t 35), none⟩,
      ⟨some 37, none, .fld 6 (.t 1), none⟩,
      ⟨some 38, none, .load none (.t 37), none⟩,
      ⟨some 39, none, .call (.f 65) [(.t 38)], none⟩,
      ⟨some 40, none, .bin .add (.t 36) (.t 39), none⟩,
      ⟨some 2, none, .mv (.t 40), none⟩,
      ⟨some 3, none, .mv (.c (.int .i64 0)), none⟩])
      (.ret)))))))⟩
theorem J_ref08_Encode_ok : chkFn Try.prog 36 J_ref08_Encode = true := by kernel_rfl

/- behind: Q -/
def J_cert_Check_j1 : ACode :=
  .keep [1] (.seq (.seq (.ops [⟨some 60, none, .load (some 7) (.t 1), none⟩,
      ⟨some 61, none, .call (.f 82) [(.t 60)], none⟩,
      ⟨some 62, none, .not (.t 61), none⟩])
         (.keep [62] (.cond (.t 62)
          (.seq (.ops [⟨some 2, none, .mv (.c (.int .i64 13)), none⟩])
           (.ret))
          (.skip))))
        (.keep [] (.seq (.ops [⟨some 2, none, .mv (.c (.int .i64 0)), none⟩])
         (.ret))))

/- behind: Q = kloop [1, 47, 48, 49] I n (kblock 0 (kseq P (J_cert_Check_j1) Q)) -/
def J_cert_Check_j2 : ACode :=
  .seq (.ops [⟨some 50, none, .bin .lss (.t 49) (.t 48), none⟩])
           (.keep [1, 47, 48, 49, 50] (.seq (.cond (.t 50)
             (.skip)
             (.exit 0))
            (.keep [1, 47, 48, 49] (.seq (.block 1 (.seq (.ops [⟨some 51, none, .idxa 1 (.t 47) (.t 49), none⟩,
      ⟨some 52, none, .load none (.t 51), none⟩,
      ⟨some 4, none, .mv (.t 52), none⟩])
               (.keep [1, 4, 47, 48, 49] (.seq (.ops [⟨some 53, none, .fld 2 (.t 1), none⟩,
      ⟨some 54, none, .load none (.t 53), none⟩,
      ⟨some 55, none, .call (.f 81) [(.t 54)], none⟩,
      ⟨some 56, none, .mv (.t 4), none⟩,
      ⟨some 57, none, .call (.f 81) [(.t 56)], none⟩,
      ⟨some 58, none, .bin .gtr (.t 55) (.t 57), none⟩])
                (.keep [1, 47, 48, 49, 58] (.cond (.t 58)
                 (.seq (.ops [⟨some 2, none, .mv (.c (.int .i64 4)), none⟩])
                  (.ret))
                 (.skip)))))))
             (.keep [1, 47, 48, 49] (.ops [⟨some 59, none, .bin .add (.t 49) (.c (.int .i64 1)), none⟩,
      ⟨some 49, none, .mv (.t 59), none⟩]))))))

/-- attorney/cert.Check -/
def J_cert_Check : AFn :=
  ⟨63, [.t 2], .seq (.ops [⟨some 1, none, .box (.t 0) [], none⟩,
      ⟨some 2, none, .mv (.c (.int .i64 0)), none⟩])
   (.keep [1] (.seq (.seq (.ops [⟨some 5, none, .fld 0 (.t 1), none⟩,
      ⟨some 6, none, .load none (.t 5), none⟩,
      ⟨some 7, none, .bin .lss (.t 6) (.c (.int .i64 1)), none⟩,
      ⟨some 8, none, .mv (.t 7), none⟩,
      ⟨some 9, (some (8, false)), .fld 0 (.t 1), none⟩,
      ⟨some 10, (some (8, false)), .load none (.t 9), none⟩,
      ⟨some 11, (some (8, false)), .bin .gtr (.t 10) (.c (.int .i64 7)), none⟩,
      ⟨some 12, none, .pick (.t 8) (.c (.bool true)) (.t 11), none⟩])
     (.keep [1, 12] (.cond (.t 12)
      (.seq (.ops [⟨some 2, none, .mv (.c (.int .i64 1)), none⟩])
       (.ret))
      (.skip))))
    (.keep [1] (.seq (.seq (.ops [⟨some 13, none, .fld 1 (.t 1), none⟩,
      ⟨some 14, none, .load none (.t 13), none⟩,
      ⟨some 15, none, .bsl 3 1 1 [(.int .i64 0)] [(0, 1, (.c (.int .i64 1)))], none⟩,
      ⟨some 16, none, .call (.f 78) [(.t 14), (.t 15)], none⟩,
      ⟨some 17, none, .not (.t 16), none⟩,
      ⟨some 18, none, .mv (.t 17), none⟩,
      ⟨some 19, (some (18, false)), .fld 2 (.t 1), none⟩,
      ⟨some 20, (some (18, false)), .load none (.t 19), none⟩,
      ⟨some 21, (some (18, false)), .call (.f 79) [(.t 20)], none⟩,
      ⟨some 22, (some (18, false)), .not (.t 21), none⟩,
      ⟨some 23, none, .pick (.t 18) (.c (.bool true)) (.t 22), none⟩,
      ⟨some 24, none, .mv (.t 23), none⟩,
      ⟨some 25, (some (24, false)), .fld 3 (.t 1), none⟩,
      ⟨some 26, (some (24, false)), .load none (.t 25), none⟩,
      ⟨some 27, (some (24, false)), .call (.f 60) [(.t 26)], none⟩,
      ⟨some 28, (some (24, false)), .not (.t 27), none⟩,
      ⟨some 29, none, .pick (.t 24) (.c (.bool true)) (.t 28), none⟩,
      ⟨some 30, none, .mv (.t 29), none⟩,
      ⟨some 31, (some (30, false)), .fld 4 (.t 1), none⟩,
      ⟨some 32, (some (30, false)), .load none (.t 31), none⟩,
      ⟨some 33, (some (30, false)), .fld 5 (.t 1), none⟩,
      ⟨some 34, (some (30, false)), .load none (.t 33), none⟩,
      ⟨some 35, (some (30, false)), .fld 6 (.t 1), none⟩,
      ⟨some 36, (some (30, false)), .load none (.t 35), none⟩,
      ⟨some 37, (some (30, false)), .bsl 2 1 3 [(.int .i64 0), (.int .i64 0), (.int .i64 0)] [(0, 1, (.t 32)), (1, 1, (.t 34)), (2, 1, (.t 36))], none⟩,
      ⟨some 38, (some (30, false)), .call (.f 80) [(.t 37)], none⟩,
      ⟨some 39, (some (30, false)), .not (.t 38), none⟩,
      ⟨some 40, none, .pick (.t 30) (.c (.bool true)) (.t 39), none⟩])
      (.keep [1, 40] (.cond (.t 40)
       (.seq (.ops [⟨some 2, none, .mv (.c (.int .i64 2)), none⟩])
        (.ret))
       (.skip))))
     (.keep [1] (.seq (.seq (.ops [⟨some 41, none, .fld 4 (.t 1), none⟩,
      ⟨some 42, none, .load none (.t 41), none⟩,
      ⟨some 43, none, .fld 5 (.t 1), none⟩,
      ⟨some 44, none, .load none (.t 43), none⟩,
      ⟨some 45, none, .bin .gtr (.t 42) (.t 44), none⟩])
       (.keep [1, 45] (.cond (.t 45)
        (.seq (.ops [⟨some 2, none, .mv (.c (.int .i64 5)), none⟩])
         (.ret))
        (.skip))))
      (.keep [1] (.seq (.seq (.ops [⟨some 46, none, .fld 3 (.t 1), none⟩,
      ⟨some 47, none, .load none (.t 46), none⟩,
      ⟨some 48, none, .lenl (.t 47), none⟩,
      ⟨some 49, none, .mv (.c (.int .i64 0)), none⟩])
        (.keep [1, 47, 48, 49] (.block 0 (.loop [1, 47, 48, 49] (J_cert_Check_j2)))))
       (J_cert_Check_j1)))))))))⟩
theorem J_cert_Check_ok : chkFn Try.prog 37 J_cert_Check = true := by kernel_rfl

/- behind: Q -/
def J_ref08_Check_j1 : ACode :=
  .keep [1] (.seq (.seq (.ops [⟨some 68, none, .load (some 7) (.t 1), none⟩,
      ⟨some 69, none, .call (.f 86) [(.t 68)], none⟩,
      ⟨some 70, none, .not (.t 69), none⟩])
         (.keep [70] (.cond (.t 70)
          (.seq (.ops [⟨some 2, none, .mv (.c (.int .i64 13)), none⟩])
           (.ret))
          (.skip))))
        (.keep [] (.seq (.ops [⟨some 2, none, .mv (.c (.int .i64 0)), none⟩])
         (.ret))))

/- behind: Q = kloop [1, 3] I n (kblock 0 (kseq P (J_ref08_Check_j1) Q)) -/
def J_ref08_Check_j2 : ACode :=
  .seq (.seq (.ops [⟨some 51, none, .mv (.t 3), none⟩,
      ⟨some 52, none, .fld 3 (.t 1), none⟩,
      ⟨some 53, none, .load none (.t 52), none⟩,
      ⟨some 54, none, .lenl (.t 53), none⟩,
      ⟨some 55, none, .bin .lss (.t 51) (.t 54), none⟩])
            (.keep [1, 3, 55] (.cond (.t 55)
             (.skip)
             (.exit 0))))
           (.keep [1, 3] (.seq (.block 1 (.seq (.draw [1, 3, 67] [⟨some 58, none, .fld 3 (.t 1), none⟩,
      ⟨some 59, none, .load none (.t 58), none⟩,
      ⟨some 60, none, .mv (.t 3), none⟩,
      ⟨some 61, none, .idxa 1 (.t 59) (.t 60), none⟩,
      ⟨some 62, none, .load none (.t 61), none⟩,
      ⟨some 63, none, .lens (.t 62), none⟩,
      ⟨some 64, none, .fld 2 (.t 1), none⟩,
      ⟨some 65, none, .load none (.t 64), none⟩,
      ⟨some 66, none, .lens (.t 65), none⟩,
      ⟨some 67, none, .bin .lss (.t 63) (.t 66), none⟩])
              (.keep [1, 3, 67] (.cond (.t 67)
               (.seq (.ops [⟨some 2, none, .mv (.c (.int .i64 4)), none⟩])
                (.ret))
               (.skip)))))
            (.keep [1, 3] (.ops [⟨some 56, none, .mv (.t 3), none⟩,
      ⟨some 57, none, .bin .add (.t 56) (.c (.int .i64 1)), none⟩,
      ⟨some 3, none, .mv (.t 57), none⟩]))))

/-- attorney/attorneyref08.Check -/
def J_ref08_Check : AFn :=
  ⟨71, [.t 2], .seq (.ops [⟨some 1, none, .box (.t 0) [], none⟩,
      ⟨some 2, none, .mv (.c (.int .i64 0)), none⟩])
   (.keep [1] (.seq (.seq (.ops [⟨some 4, none, .fld 0 (.t 1), none⟩,
      ⟨some 5, none, .load none (.t 4), none⟩,
      ⟨some 6, none, .bin .lss (.t 5) (.c (.int .i64 1)), none⟩,
      ⟨some 7, none, .mv (.t 6), none⟩,
      ⟨some 8, (some (7, false)), .fld 0 (.t 1), none⟩,
      ⟨some 9, (some (7, false)), .load none (.t 8), none⟩,
      ⟨some 10, (some (7, false)), .bin .gtr (.t 9) (.c (.int .i64 7)), none⟩,
      ⟨some 11, none, .pick (.t 7) (.c (.bool true)) (.t 10), none⟩])
     (.keep [1, 11] (.cond (.t 11)
      (.seq (.ops [⟨some 2, none, .mv (.c (.int .i64 1)), none⟩])
       (.ret))
      (.skip))))
    (.keep [1] (.seq (.seq (.ops [⟨some 12, none, .fld 1 (.t 1), none⟩,
      ⟨some 13, none, .load none (.t 12), none⟩,
      ⟨some 14, none, .call (.f 83) [(.t 13)], none⟩,
      ⟨some 15, none, .bin .neq (.t 14) (.c (.int .i64 1)), none⟩,
      ⟨some 16, none, .mv (.t 15), none⟩,
      ⟨some 17, (some (16, false)), .fld 2 (.t 1), none⟩,
      ⟨some 18, (some (16, false)), .load none (.t 17), none⟩,
      ⟨some 19, (some (16, false)), .call (.f 84) [(.t 18)], none⟩,
      ⟨some 20, (some (16, false)), .not (.t 19), none⟩,
      ⟨some 21, none, .pick (.t 16) (.c (.bool true)) (.t 20), none⟩,
      ⟨some 22, none, .mv (.t 21), none⟩,
      ⟨some 23, (some (22, false)), .fld 3 (.t 1), none⟩,
      ⟨some 24, (some (22, false)), .load none (.t 23), none⟩,
      ⟨some 25, (some (22, false)), .call (.f 61) [(.t 24)], none⟩,
      ⟨some 26, (some (22, false)), .not (.t 25), none⟩,
      ⟨some 27, none, .pick (.t 22) (.c (.bool true)) (.t 26), none⟩,
      ⟨some 28, none, .mv (.t 27), none⟩,
      ⟨some 29, (some (28, false)), .fld 4 (.t 1), none⟩,
      ⟨some 30, (some (28, false)), .load none (.t 29), none⟩,
      ⟨some 31, (some (28, false)), .call (.f 85) [(.t 30)], none⟩,
      ⟨some 32, (some (28, false)), .not (.t 31), none⟩,
      ⟨some 33, none, .pick (.t 28) (.c (.bool true)) (.t 32), none⟩,
      ⟨some 34, none, .mv (.t 33), none⟩,
      ⟨some 35, (some (34, false)), .fld 5 (.t 1), none⟩,
      ⟨some 36, (some (34, false)), .load none (.t 35), none⟩,
      ⟨some 37, (some (34, false)), .call (.f 85) [(.t 36)], none⟩,
      ⟨some 38, (some (34, false)), .not (.t 37), none⟩,
      ⟨some 39, none, .pick (.t 34) (.c (.bool true)) (.t 38), none⟩,
      ⟨some 40, none, .mv (.t 39), none⟩,
      ⟨some 41, (some (40, false)), .fld 6 (.t 1), none⟩,
      ⟨some 42, (some (40, false)), .load none (.t 41), none⟩,
      ⟨some 43, (some (40, false)), .call (.f 85) [(.t 42)], none⟩,
      ⟨some 44, (some (40, false)), .not (.t 43), none⟩,
      ⟨some 45, none, .pick (.t 40) (.c (.bool true)) (.t 44), none⟩])
      (.keep [1, 45] (.cond (.t 45)
       (.seq (.ops [⟨some 2, none, .mv (.c (.int .i64 2)), none⟩])
        (.ret))
       (.skip))))
     (.keep [1] (.seq (.seq (.ops [⟨some 46, none, .fld 4 (.t 1), none⟩,
      ⟨some 47, none, .load none (.t 46), none⟩,
      ⟨some 48, none, .fld 5 (.t 1), none⟩,
      ⟨some 49, none, .load none (.t 48), none⟩,
      ⟨some 50, none, .bin .gtr (.t 47) (.t 49), none⟩])
       (.keep [1, 50] (.cond (.t 50)
        (.seq (.ops [⟨some 2, none, .mv (.c (.int .i64 5)), none⟩])
         (.ret))
        (.skip))))
      (.keep [1] (.seq (.seq (.ops [⟨some 3, none, .mv (.c (.int .i64 0)), none⟩])
        (.keep [1, 3] (.block 0 (.loop [1, 3] (J_ref08_Check_j2)))))
       (J_ref08_Check_j1)))))))))⟩
theorem J_ref08_Check_ok : chkFn Try.prog 38 J_ref08_Check = true := by kernel_rfl

/-- attorney/cert.Holds -/
def J_cert_Holds : AFn :=
  ⟨15, [.t 4], .seq (.ops [⟨some 2, none, .box (.t 0) [], none⟩,
      ⟨some 4, none, .mv (.c (.bool false)), none⟩])
   (.keep [1, 2] (.seq (.ops [⟨some 5, none, .fld 4 (.t 2), none⟩,
      ⟨some 6, none, .load none (.t 5), none⟩,
      ⟨some 7, none, .mv (.t 1), none⟩,
      ⟨some 8, none, .bin .leq (.t 6) (.t 7), none⟩,
      ⟨some 9, none, .mv (.t 8), none⟩,
      ⟨some 10, (some (9, true)), .mv (.t 1), none⟩,
      ⟨some 11, (some (9, true)), .fld 5 (.t 2), none⟩,
      ⟨some 12, (some (9, true)), .load none (.t 11), none⟩,
      ⟨some 13, (some (9, true)), .bin .leq (.t 10) (.t 12), none⟩,
      ⟨some 14, none, .pick (.t 9) (.t 13) (.c (.bool false)), none⟩,
      ⟨some 4, none, .mv (.t 14), none⟩])
    (.ret)))⟩
theorem J_cert_Holds_ok : chkFn Try.prog 39 J_cert_Holds = true := by kernel_rfl

/-- attorney/attorneyref08.Holds -/
def J_ref08_Holds : AFn :=
  ⟨15, [.t 4], .seq (.ops [⟨some 2, none, .box (.t 0) [], none⟩,
      ⟨some 4, none, .mv (.c (.bool false)), none⟩])
   (.keep [1, 2] (.seq (.ops [⟨some 5, none, .fld 4 (.t 2), none⟩,
      ⟨some 6, none, .load none (.t 5), none⟩,
      ⟨some 7, none, .mv (.t 1), none⟩,
      ⟨some 8, none, .bin .leq (.t 6) (.t 7), none⟩,
      ⟨some 9, none, .mv (.t 8), none⟩,
      ⟨some 10, (some (9, true)), .mv (.t 1), none⟩,
      ⟨some 11, (some (9, true)), .fld 5 (.t 2), none⟩,
      ⟨some 12, (some (9, true)), .load none (.t 11), none⟩,
      ⟨some 13, (some (9, true)), .bin .leq (.t 10) (.t 12), none⟩,
      ⟨some 14, none, .pick (.t 9) (.t 13) (.c (.bool false)), none⟩,
      ⟨some 4, none, .mv (.t 14), none⟩])
    (.ret)))⟩
theorem J_ref08_Holds_ok : chkFn Try.prog 40 J_ref08_Holds = true := by kernel_rfl

/- behind: Q -/
def J_law08_rules_j1 : ACode :=
  .keep [] (.seq (.ops [⟨some 4, none, .mv (.c (.bool true)), none⟩])
      (.ret))

/- behind: Q = kloop [0, 1, 12, 13] I n (kblock 0 (kseq P (J_law08_rules_j1) Q)) -/
def J_law08_rules_j2 : ACode :=
  .seq (.ops [⟨some 14, none, .bin .lss (.t 13) (.t 12), none⟩])
         (.keep [0, 1, 12, 13, 14] (.seq (.cond (.t 14)
           (.skip)
           (.exit 0))
          (.keep [0, 1, 12, 13] (.seq (.block 1 (.seq (.ops [⟨some 15, none, .mv (.t 13), none⟩,
      ⟨some 5, none, .mv (.t 15), none⟩])
             (.keep [0, 1, 5, 12, 13] (.seq (.draw [0, 1, 12, 13, 24] [⟨some 16, none, .mv (.t 0), none⟩,
      ⟨some 17, none, .mv (.t 5), none⟩,
      ⟨some 18, none, .idxa 2 (.t 16) (.t 17), none⟩,
      ⟨some 19, none, .load (some 2) (.t 18), none⟩,
      ⟨some 20, none, .mv (.t 1), none⟩,
      ⟨some 21, none, .mv (.t 5), none⟩,
      ⟨some 22, none, .idxa 2 (.t 20) (.t 21), none⟩,
      ⟨some 23, none, .load (some 2) (.t 22), none⟩,
      ⟨some 24, none, .ex (.aeq true [1, 1]) [(.t 19), (.t 23)], none⟩])
              (.keep [0, 1, 12, 13, 24] (.cond (.t 24)
               (.seq (.ops [⟨some 4, none, .mv (.c (.bool false)), none⟩])
                (.ret))
               (.skip)))))))
           (.keep [0, 1, 12, 13] (.ops [⟨some 25, none, .bin .add (.t 13) (.c (.int .i64 1)), none⟩,
      ⟨some 13, none, .mv (.t 25), none⟩]))))))

/-- attorney/attorneylaw08.rules -/
def J_law08_rules : AFn :=
  ⟨26, [.t 4], .seq (.ops [⟨some 4, none, .mv (.c (.bool false)), none⟩])
   (.keep [0, 1] (.seq (.seq (.ops [⟨some 6, none, .mv (.t 0), none⟩,
      ⟨some 7, none, .lenl (.t 6), none⟩,
      ⟨some 8, none, .mv (.t 1), none⟩,
      ⟨some 9, none, .lenl (.t 8), none⟩,
      ⟨some 10, none, .bin .neq (.t 7) (.t 9), none⟩])
     (.keep [0, 1, 10] (.cond (.t 10)
      (.seq (.ops [⟨some 4, none, .mv (.c (.bool false)), none⟩])
       (.ret))
      (.skip))))
    (.keep [0, 1] (.seq (.seq (.ops [⟨some 11, none, .mv (.t 0), none⟩,
      ⟨some 12, none, .lenl (.t 11), none⟩,
      ⟨some 13, none, .mv (.c (.int .i64 0)), none⟩])
      (.keep [0, 1, 12, 13] (.block 0 (.loop [0, 1, 12, 13] (J_law08_rules_j2)))))
     (J_law08_rules_j1)))))⟩
theorem J_law08_rules_ok : chkFn Try.prog 41 J_law08_rules = true := by kernel_rfl

/- behind: Q -/
def J_cert_Rules_j1 : ACode :=
  .keep [3] (.seq (.ops [⟨some 25, none, .mv (.t 3), none⟩,
      ⟨some 2, none, .mv (.t 25), none⟩])
      (.ret))

/- behind: Q = kloop [1, 3, 11, 12, 13] I n (kblock 0 (kseq P (J_cert_Rules_j1) Q)) -/
def J_cert_Rules_j2 : ACode :=
  .seq (.ops [⟨some 14, none, .bin .lss (.t 13) (.t 12), none⟩])
         (.keep [1, 3, 11, 12, 13, 14] (.seq (.cond (.t 14)
           (.skip)
           (.exit 0))
          (.keep [1, 3, 11, 12, 13] (.seq (.block 1 (.seq (.ops [⟨some 15, none, .idxa 1 (.t 11) (.t 13), none⟩,
      ⟨some 16, none, .load none (.t 15), none⟩,
      ⟨some 5, none, .mv (.t 16), none⟩])
             (.keep [1, 3, 5, 11, 12, 13] (.ops [⟨some 17, none, .mvo 3, none⟩,
      ⟨some 18, none, .mv (.t 5), none⟩,
      ⟨some 19, none, .fld 2 (.t 1), none⟩,
      ⟨some 20, none, .load none (.t 19), none⟩,
      ⟨some 21, none, .build [(.str ⟨#[]⟩), (.str ⟨#[]⟩)] [(0, 1, (.t 18)), (1, 1, (.t 20))], none⟩,
      ⟨some 22, none, .bsl 70 2 1 [(.str ⟨#[]⟩), (.str ⟨#[]⟩)] [(0, 2, (.t 21))], none⟩,
      ⟨some 23, none, .appo 70 2 32 17 (.t 22), none⟩,
      ⟨some 3, none, .mvo 23, none⟩]))))
           (.keep [1, 3, 11, 12, 13] (.ops [⟨some 24, none, .bin .add (.t 13) (.c (.int .i64 1)), none⟩,
      ⟨some 13, none, .mv (.t 24), none⟩]))))))

/-- attorney/cert.Rules -/
def J_cert_Rules : AFn :=
  ⟨26, [.t 2], .seq (.ops [⟨some 1, none, .box (.t 0) [], none⟩,
      ⟨some 2, none, .mv (.c (.lst .clip 0 [])), none⟩])
   (.keep [1] (.seq (.ops [⟨some 6, none, .fld 3 (.t 1), none⟩,
      ⟨some 7, none, .load none (.t 6), none⟩,
      ⟨some 8, none, .lenl (.t 7), none⟩,
      ⟨some 9, none, .mk0 70 2 32 (.t 8), none⟩,
      ⟨some 3, none, .mvo 9, none⟩])
    (.keep [1, 3] (.seq (.seq (.ops [⟨some 10, none, .fld 3 (.t 1), none⟩,
      ⟨some 11, none, .load none (.t 10), none⟩,
      ⟨some 12, none, .lenl (.t 11), none⟩,
      ⟨some 13, none, .mv (.c (.int .i64 0)), none⟩])
      (.keep [1, 3, 11, 12, 13] (.block 0 (.loop [1, 3, 11, 12, 13] (J_cert_Rules_j2)))))
     (J_cert_Rules_j1)))))⟩
theorem J_cert_Rules_ok : chkFn Try.prog 42 J_cert_Rules = true := by kernel_rfl

/- behind: Q -/
def J_ref08_Rules_j1 : ACode :=
  .keep [3] (.seq (.ops [⟨some 24, none, .mv (.t 3), none⟩,
      ⟨some 2, none, .mv (.t 24), none⟩])
      (.ret))

/- behind: Q = kloop [1, 3, 4] I n (kblock 0 (kseq P (J_ref08_Rules_j1) Q)) -/
def J_ref08_Rules_j2 : ACode :=
  .seq (.seq (.ops [⟨some 6, none, .mv (.t 4), none⟩,
      ⟨some 7, none, .fld 3 (.t 1), none⟩,
      ⟨some 8, none, .load none (.t 7), none⟩,
      ⟨some 9, none, .lenl (.t 8), none⟩,
      ⟨some 10, none, .bin .lss (.t 6) (.t 9), none⟩])
          (.keep [1, 3, 4, 10] (.cond (.t 10)
           (.skip)
           (.exit 0))))
         (.keep [1, 3, 4] (.seq (.block 1 (.draw [1, 3, 4] [⟨some 13, none, .mvo 3, none⟩,
      ⟨some 14, none, .fld 3 (.t 1), none⟩,
      ⟨some 15, none, .load none (.t 14), none⟩,
      ⟨some 16, none, .mv (.t 4), none⟩,
      ⟨some 17, none, .idxa 1 (.t 15) (.t 16), none⟩,
      ⟨some 18, none, .load none (.t 17), none⟩,
      ⟨some 19, none, .fld 2 (.t 1), none⟩,
      ⟨some 20, none, .load none (.t 19), none⟩,
      ⟨some 21, none, .build [(.str ⟨#[]⟩), (.str ⟨#[]⟩)] [(0, 1, (.t 18)), (1, 1, (.t 20))], none⟩,
      ⟨some 22, none, .bsl 70 2 1 [(.str ⟨#[]⟩), (.str ⟨#[]⟩)] [(0, 2, (.t 21))], none⟩,
      ⟨some 23, none, .appo 70 2 32 13 (.t 22), none⟩,
      ⟨some 3, none, .mvo 23, none⟩]))
          (.keep [1, 3, 4] (.ops [⟨some 11, none, .mv (.t 4), none⟩,
      ⟨some 12, none, .bin .add (.t 11) (.c (.int .i64 1)), none⟩,
      ⟨some 4, none, .mv (.t 12), none⟩]))))

/-- attorney/attorneyref08.Rules -/
def J_ref08_Rules : AFn :=
  ⟨25, [.t 2], .seq (.ops [⟨some 1, none, .box (.t 0) [], none⟩,
      ⟨some 2, none, .mv (.c (.lst .clip 0 [])), none⟩])
   (.keep [1] (.seq (.ops [⟨some 5, none, .bsl 70 2 0 [] [], none⟩,
      ⟨some 3, none, .mvo 5, none⟩])
    (.keep [1, 3] (.seq (.seq (.ops [⟨some 4, none, .mv (.c (.int .i64 0)), none⟩])
      (.keep [1, 3, 4] (.block 0 (.loop [1, 3, 4] (J_ref08_Rules_j2)))))
     (J_ref08_Rules_j1)))))⟩
theorem J_ref08_Rules_ok : chkFn Try.prog 43 J_ref08_Rules = true := by kernel_rfl

/-- attorney/attorneyref08.Same -/
def J_ref08_Same : AFn :=
  ⟨52, [.t 4], .seq (.ops [⟨some 2, none, .box (.t 0) [], none⟩,
      ⟨some 3, none, .box (.t 1) [], none⟩,
      ⟨some 4, none, .mv (.c (.bool false)), none⟩])
   (.keep [2, 3] (.seq (.ops [⟨some 5, none, .fld 0 (.t 2), none⟩,
      ⟨some 6, none, .load none (.t 5), none⟩,
      ⟨some 7, none, .fld 0 (.t 3), none⟩,
      ⟨some 8, none, .load none (.t 7), none⟩,
      ⟨some 9, none, .bin .eql (.t 6) (.t 8), none⟩,
      ⟨some 10, none, .mv (.t 9), none⟩,
      ⟨some 11, (some (10, true)), .fld 1 (.t 2), none⟩,
      ⟨some 12, (some (10, true)), .load none (.t 11), none⟩,
      ⟨some 13, (some (10, true)), .fld 1 (.t 3), none⟩,
      ⟨some 14, (some (10, true)), .load none (.t 13), none⟩,
      ⟨some 15, (some (10, true)), .bin .eql (.t 12) (.t 14), none⟩,
      ⟨some 16, none, .pick (.t 10) (.t 15) (.c (.bool false)), none⟩,
      ⟨some 17, none, .mv (.t 16), none⟩,
      ⟨some 18, (some (17, true)), .fld 2 (.t 2), none⟩,
      ⟨some 19, (some (17, true)), .load none (.t 18), none⟩,
      ⟨some 20, (some (17, true)), .fld 2 (.t 3), none⟩,
      ⟨some 21, (some (17, true)), .load none (.t 20), none⟩,
      ⟨some 22, (some (17, true)), .bin .eql (.t 19) (.t 21), none⟩,
      ⟨some 23, none, .pick (.t 17) (.t 22) (.c (.bool false)), none⟩,
      ⟨some 24, none, .mv (.t 23), none⟩,
      ⟨some 25, (some (24, true)), .fld 3 (.t 2), none⟩,
      ⟨some 26, (some (24, true)), .load none (.t 25), none⟩,
      ⟨some 27, (some (24, true)), .fld 3 (.t 3), none⟩,
      ⟨some 28, (some (24, true)), .load none (.t 27), none⟩,
      ⟨some 29, (some (24, true)), .call (.f 75) [(.t 26), (.t 28)], none⟩,
      ⟨some 30, none, .pick (.t 24) (.t 29) (.c (.bool false)), none⟩,
      ⟨some 31, none, .mv (.t 30), none⟩,
      ⟨some 32, (some (31, true)), .fld 4 (.t 2), none⟩,
      ⟨some 33, (some (31, true)), .load none (.t 32), none⟩,
      ⟨some 34, (some (31, true)), .fld 4 (.t 3), none⟩,
      ⟨some 35, (some (31, true)), .load none (.t 34), none⟩,
      ⟨some 36, (some (31, true)), .bin .eql (.t 33) (.t 35), none⟩,
      ⟨some 37, none, .pick (.t 31) (.t 36) (.c (.bool false)), none⟩,
      ⟨some 38, none, .mv (.t 37), none⟩,
      ⟨some 39, (some (38, true)), .fld 5 (.t 2), none⟩,
      ⟨some 40, (some (38, true)), .load none (.t 39), none⟩,
      ⟨some 41, (some (38, true)), .fld 5 (.t 3), none⟩,
      ⟨some 42, (some (38, true)), .load none (.t 41), none⟩,
      ⟨some 43, (some (38, true)), .bin .eql (.t 40) (.t 42), none⟩,
      ⟨some 44, none, .pick (.t 38) (.t 43) (.c (.bool false)), none⟩,
      ⟨some 45, none, .mv (.t 44), none⟩,
      ⟨some 46, (some (45, true)), .fld 6 (.t 2), none⟩,
      ⟨some 47, (some (45, true)), .load none (.t 46), none⟩,
      ⟨some 48, (some (45, true)), .fld 6 (.t 3), none⟩,
      ⟨some 49, (some (45, true)), .load none (.t 48), none⟩,
      ⟨some 50, (some (45, true)), .bin .eql (.t 47) (.t 49), none⟩,
      ⟨some 51, none, .pick (.t 45) (.t 50) (.c (.bool false)), none⟩,
      ⟨some 4, none, .mv (.t 51), none⟩])
    (.ret)))⟩
theorem J_ref08_Same_ok : chkFn Try.prog 44 J_ref08_Same = true := by kernel_rfl

/-- attorney/cert.Decode -/
def J_cert_Decode : AFn :=
  ⟨46, [.c 2 (some 7), .t 3], .seq (.ops [⟨some 2, none, .new [(.int .i64 0), (.int .u16 0), (.str ⟨#[]⟩), (.lst .clip 0 []), (.int .i64 0), (.int .i64 0), (.int .i64 0)] [], none⟩,
      ⟨some 3, none, .mv (.c (.int .i64 0)), none⟩])
   (.keep [0, 2] (.seq (.ops [⟨some 6, none, .mv (.t 0), none⟩,
      ⟨some 7, none, .call (.f 67) [(.t 6)], none⟩,
      ⟨some 4, none, .mv (.t 7), none⟩])
    (.keep [2, 4] (.seq (.ops [⟨some 5, none, .new [(.int .i64 0), (.int .u16 0), (.str ⟨#[]⟩), (.lst .clip 0 []), (.int .i64 0), (.int .i64 0), (.int .i64 0)] [], none⟩])
     (.keep [2, 4, 5] (.seq (.ops [⟨some 8, none, .mv (.t 4), none⟩,
      ⟨some 9, none, .call (.f 68) [(.t 8), (.c (.int .i64 7))], none⟩,
      ⟨some 10, none, .fld 0 (.t 5), none⟩,
      ⟨none, none, .store 1 (.t 10) (.t 9), none⟩])
      (.keep [2, 4, 5] (.seq (.ops [⟨some 11, none, .mv (.t 4), none⟩,
      ⟨some 12, none, .call (.f 68) [(.t 11), (.c (.int .i64 49151))], none⟩,
      ⟨some 13, none, .conv .u16 (.t 12), none⟩,
      ⟨some 14, none, .fld 1 (.t 5), none⟩,
      ⟨none, none, .store 1 (.t 14) (.t 13), none⟩])
       (.keep [2, 4, 5] (.seq (.ops [⟨some 15, none, .mv (.t 4), none⟩,
      ⟨some 16, none, .call (.f 87) [(.t 15)], none⟩,
      ⟨some 17, none, .fld 2 (.t 5), none⟩,
      ⟨none, none, .store 1 (.t 17) (.t 16), none⟩])
        (.keep [2, 4, 5] (.seq (.ops [⟨some 18, none, .mv (.t 4), none⟩,
      ⟨some 19, none, .call (.f 69) [(.t 18)], none⟩,
      ⟨some 20, none, .fld 3 (.t 5), none⟩,
      ⟨none, none, .store 1 (.t 20) (.t 19), none⟩])
         (.keep [2, 4, 5] (.seq (.ops [⟨some 21, none, .mv (.t 4), none⟩,
      ⟨some 22, none, .call (.f 68) [(.t 21), (.c (.int .i64 4611686018427387904))], none⟩,
      ⟨some 23, none, .fld 4 (.t 5), none⟩,
      ⟨none, none, .store 1 (.t 23) (.t 22), none⟩])
          (.keep [2, 4, 5] (.seq (.draw [2, 4, 5] [⟨some 24, none, .fld 4 (.t 5), none⟩,
      ⟨some 25, none, .load none (.t 24), (some (.s 5, [4]))⟩,
      ⟨some 26, none, .mv (.t 4), none⟩,
      ⟨some 27, none, .fld 4 (.t 5), none⟩,
      ⟨some 28, none, .load none (.t 27), none⟩,
      ⟨some 29, none, .bin .sub (.c (.int .i64 4611686018427387904)) (.t 28), none⟩,
      ⟨some 30, none, .calli (.f 68) [(.t 26), (.t 29)], (some (.s 4, [5]))⟩,
      ⟨some 31, none, .bin .add (.t 25) (.t 30), none⟩,
      ⟨some 32, none, .fld 5 (.t 5), none⟩,
      ⟨none, none, .store 1 (.t 32) (.t 31), none⟩])
           (.keep [2, 4, 5] (.seq (.ops [⟨some 33, none, .mv (.t 4), none⟩,
      ⟨some 34, none, .call (.f 68) [(.t 33), (.c (.int .i64 4611686018427387904))], none⟩,
      ⟨some 35, none, .fld 6 (.t 5), none⟩,
      ⟨none, none, .store 1 (.t 35) (.t 34), none⟩])
            (.keep [2, 4, 5] (.seq (.seq (.ops [⟨some 36, none, .mv (.t 4), none⟩,
      ⟨some 37, none, .call (.f 70) [(.t 36)], none⟩,
      ⟨some 38, none, .bin .neq (.t 37) (.c (.int .i64 0)), none⟩,
      ⟨some 39, none, .mv (.t 38), none⟩,
      ⟨some 40, (some (39, false)), .load (some 7) (.t 5), none⟩,
      ⟨some 41, (some (39, false)), .call (.f 37) [(.t 40)], none⟩,
      ⟨some 42, (some (39, false)), .bin .neq (.t 41) (.c (.int .i64 0)), none⟩,
      ⟨some 43, none, .pick (.t 39) (.c (.bool true)) (.t 42), none⟩])
              (.keep [2, 5, 43] (.cond (.t 43)
               (.seq (.ops [⟨some 44, none, .build [(.int .i64 0), (.int .u16 0), (.str ⟨#[]⟩), (.lst .clip 0 []), (.int .i64 0), (.int .i64 0), (.int .i64 0)] [], none⟩,
      ⟨none, none, .store 7 (.t 2) (.t 44), none⟩,
      ⟨some 3, none, .mv (.c (.int .i64 2)), none⟩])
                (.ret))
               (.skip))))
             (.keep [2, 5] (.seq (.ops [⟨some 45, none, .load (some 7) (.t 5), none⟩,
      ⟨none, none, .store 7 (.t 2) (.t 45), none⟩,
      ⟨some 3, none, .mv (.c (.int .i64 0)), none⟩])
              (.ret)))))))))))))))))))))))⟩
theorem J_cert_Decode_ok : chkFn Try.prog 45 J_cert_Decode = true := by kernel_rfl

/-- attorney/attorneyref08.Decode -/
def J_ref08_Decode : AFn :=
  ⟨45, [.c 2 (some 7), .t 3], .seq (.ops [⟨some 2, none, .new [(.int .i64 0), (.int .u16 0), (.str ⟨#[]⟩), (.lst .clip 0 []), (.int .i64 0), (.int .i64 0), (.int .i64 0)] [], none⟩,
      ⟨some 3, none, .mv (.c (.int .i64 0)), none⟩])
   (.keep [0, 2] (.seq (.ops [⟨some 6, none, .mv (.t 0), none⟩,
      ⟨some 7, none, .build [(.str ⟨#[]⟩), (.int .i64 0), (.bool false)] [(0, 1, (.t 6))], none⟩,
      ⟨some 8, none, .box (.t 7) [], none⟩,
      ⟨some 4, none, .mv (.t 8), none⟩])
    (.keep [2, 4] (.seq (.ops [⟨some 9, none, .build [(.int .i64 0), (.int .u16 0), (.str ⟨#[]⟩), (.lst .clip 0 []), (.int .i64 0), (.int .i64 0), (.int .i64 0)] [], none⟩,
      ⟨some 5, none, .new [(.int .i64 0), (.int .u16 0), (.str ⟨#[]⟩), (.lst .clip 0 []), (.int .i64 0), (.int .i64 0), (.int .i64 0)] [], none⟩,
      ⟨none, none, .store 7 (.t 5) (.t 9), none⟩])
     (.keep [2, 4, 5] (.seq (.ops [⟨some 10, none, .mv (.t 4), none⟩,
      ⟨some 11, none, .call (.f 71) [(.t 10), (.c (.int .i64 7))], none⟩,
      ⟨some 12, none, .fld 0 (.t 5), none⟩,
      ⟨none, none, .store 1 (.t 12) (.t 11), none⟩])
      (.keep [2, 4, 5] (.seq (.ops [⟨some 13, none, .mv (.t 4), none⟩,
      ⟨some 14, none, .call (.f 71) [(.t 13), (.c (.int .i64 65535))], none⟩,
      ⟨some 15, none, .conv .u16 (.t 14), none⟩,
      ⟨some 16, none, .fld 1 (.t 5), none⟩,
      ⟨none, none, .store 1 (.t 16) (.t 15), none⟩])
       (.keep [2, 4, 5] (.seq (.ops [⟨some 17, none, .mv (.t 4), none⟩,
      ⟨some 18, none, .call (.f 88) [(.t 17)], none⟩,
      ⟨some 19, none, .fld 2 (.t 5), none⟩,
      ⟨none, none, .store 1 (.t 19) (.t 18), none⟩])
        (.keep [2, 4, 5] (.seq (.ops [⟨some 20, none, .mv (.t 4), none⟩,
      ⟨some 21, none, .call (.f 72) [(.t 20)], none⟩,
      ⟨some 22, none, .fld 3 (.t 5), none⟩,
      ⟨none, none, .store 1 (.t 22) (.t 21), none⟩])
         (.keep [2, 4, 5] (.seq (.ops [⟨some 23, none, .mv (.t 4), none⟩,
      ⟨some 24, none, .call (.f 71) [(.t 23), (.c (.int .i64 4611686018427387904))], none⟩,
      ⟨some 25, none, .fld 4 (.t 5), none⟩,
      ⟨none, none, .store 1 (.t 25) (.t 24), none⟩])
          (.keep [2, 4, 5] (.seq (.draw [2, 4, 5] [⟨some 26, none, .fld 4 (.t 5), none⟩,
      ⟨some 27, none, .load none (.t 26), (some (.s 5, [4]))⟩,
      ⟨some 28, none, .mv (.t 4), none⟩,
      ⟨some 29, none, .calli (.f 71) [(.t 28), (.c (.int .i64 4611686018427387904))], (some (.s 4, [5]))⟩,
      ⟨some 30, none, .ex (.binw .add) [(.t 27), (.t 29)], none⟩,
      ⟨some 31, none, .fld 5 (.t 5), none⟩,
      ⟨none, none, .store 1 (.t 31) (.t 30), none⟩])
           (.keep [2, 4, 5] (.seq (.ops [⟨some 32, none, .mv (.t 4), none⟩,
      ⟨some 33, none, .call (.f 71) [(.t 32), (.c (.int .i64 4611686018427387904))], none⟩,
      ⟨some 34, none, .fld 6 (.t 5), none⟩,
      ⟨none, none, .store 1 (.t 34) (.t 33), none⟩])
            (.keep [2, 4, 5] (.seq (.seq (.ops [⟨some 35, none, .mv (.t 4), none⟩,
      ⟨some 36, none, .call (.f 73) [(.t 35)], none⟩,
      ⟨some 37, none, .bin .neq (.t 36) (.c (.int .i64 0)), none⟩,
      ⟨some 38, none, .mv (.t 37), none⟩,
      ⟨some 39, (some (38, false)), .load (some 7) (.t 5), none⟩,
      ⟨some 40, (some (38, false)), .call (.f 38) [(.t 39)], none⟩,
      ⟨some 41, (some (38, false)), .bin .neq (.t 40) (.c (.int .i64 0)), none⟩,
      ⟨some 42, none, .pick (.t 38) (.c (.bool true)) (.t 41), none⟩])
              (.keep [2, 5, 42] (.cond (.t 42)
               (.seq (.ops [⟨some 43, none, .build [(.int .i64 0), (.int .u16 0), (.str ⟨#[]⟩), (.lst .clip 0 []), (.int .i64 0), (.int .i64 0), (.int .i64 0)] [], none⟩,
      ⟨none, none, .store 7 (.t 2) (.t 43), none⟩,
      ⟨some 3, none, .mv (.c (.int .i64 2)), none⟩])
                (.ret))
               (.skip))))
             (.keep [2, 5] (.seq (.ops [⟨some 44, none, .load (some 7) (.t 5), none⟩,
      ⟨none, none, .store 7 (.t 2) (.t 44), none⟩,
      ⟨some 3, none, .mv (.c (.int .i64 0)), none⟩])
              (.ret)))))))))))))))))))))))⟩
theorem J_ref08_Decode_ok : chkFn Try.prog 46 J_ref08_Decode = true := by kernel_rfl

/-- attorney/cert.Same -/
def J_cert_Same : AFn :=
  ⟨52, [.t 4], .seq (.ops [⟨some 2, none, .box (.t 0) [], none⟩,
      ⟨some 3, none, .box (.t 1) [], none⟩,
      ⟨some 4, none, .mv (.c (.bool false)), none⟩])
   (.keep [2, 3] (.seq (.ops [⟨some 5, none, .fld 0 (.t 2), none⟩,
      ⟨some 6, none, .load none (.t 5), none⟩,
      ⟨some 7, none, .fld 0 (.t 3), none⟩,
      ⟨some 8, none, .load none (.t 7), none⟩,
      ⟨some 9, none, .bin .eql (.t 6) (.t 8), none⟩,
      ⟨some 10, none, .mv (.t 9), none⟩,
      ⟨some 11, (some (10, true)), .fld 1 (.t 2), none⟩,
      ⟨some 12, (some (10, true)), .load none (.t 11), none⟩,
      ⟨some 13, (some (10, true)), .fld 1 (.t 3), none⟩,
      ⟨some 14, (some (10, true)), .load none (.t 13), none⟩,
      ⟨some 15, (some (10, true)), .bin .eql (.t 12) (.t 14), none⟩,
      ⟨some 16, none, .pick (.t 10) (.t 15) (.c (.bool false)), none⟩,
      ⟨some 17, none, .mv (.t 16), none⟩,
      ⟨some 18, (some (17, true)), .fld 2 (.t 2), none⟩,
      ⟨some 19, (some (17, true)), .load none (.t 18), none⟩,
      ⟨some 20, (some (17, true)), .fld 2 (.t 3), none⟩,
      ⟨some 21, (some (17, true)), .load none (.t 20), none⟩,
      ⟨some 22, (some (17, true)), .bin .eql (.t 19) (.t 21), none⟩,
      ⟨some 23, none, .pick (.t 17) (.t 22) (.c (.bool false)), none⟩,
      ⟨some 24, none, .mv (.t 23), none⟩,
      ⟨some 25, (some (24, true)), .fld 3 (.t 2), none⟩,
      ⟨some 26, (some (24, true)), .load none (.t 25), none⟩,
      ⟨some 27, (some (24, true)), .fld 3 (.t 3), none⟩,
      ⟨some 28, (some (24, true)), .load none (.t 27), none⟩,
      ⟨some 29, (some (24, true)), .call (.f 89) [(.t 26), (.t 28)], none⟩,
      ⟨some 30, none, .pick (.t 24) (.t 29) (.c (.bool false)), none⟩,
      ⟨some 31, none, .mv (.t 30), none⟩,
      ⟨some 32, (some (31, true)), .fld 4 (.t 2), none⟩,
      ⟨some 33, (some (31, true)), .load none (.t 32), none⟩,
      ⟨some 34, (some (31, true)), .fld 4 (.t 3), none⟩,
      ⟨some 35, (some (31, true)), .load none (.t 34), none⟩,
      ⟨some 36, (some (31, true)), .bin .eql (.t 33) (.t 35), none⟩,
      ⟨some 37, none, .pick (.t 31) (.t 36) (.c (.bool false)), none⟩,
      ⟨some 38, none, .mv (.t 37), none⟩,
      ⟨some 39, (some (38, true)), .fld 5 (.t 2), none⟩,
      ⟨some 40, (some (38, true)), .load none (.t 39), none⟩,
      ⟨some 41, (some (38, true)), .fld 5 (.t 3), none⟩,
      ⟨some 42, (some (38, true)), .load none (.t 41), none⟩,
      ⟨some 43, (some (38, true)), .bin .eql (.t 40) (.t 42), none⟩,
      ⟨some 44, none, .pick (.t 38) (.t 43) (.c (.bool false)), none⟩,
      ⟨some 45, none, .mv (.t 44), none⟩,
      ⟨some 46, (some (45, true)), .fld 6 (.t 2), none⟩,
      ⟨some 47, (some (45, true)), .load none (.t 46), none⟩,
      ⟨some 48, (some (45, true)), .fld 6 (.t 3), none⟩,
      ⟨some 49, (some (45, true)), .load none (.t 48), none⟩,
      ⟨some 50, (some (45, true)), .bin .eql (.t 47) (.t 49), none⟩,
      ⟨some 51, none, .pick (.t 45) (.t 50) (.c (.bool false)), none⟩,
      ⟨some 4, none, .mv (.t 51), none⟩])
    (.ret)))⟩
theorem J_cert_Same_ok : chkFn Try.prog 47 J_cert_Same = true := by kernel_rfl

/-- attorney/cert.isOf -/
def J_cert_isOf : AFn :=
  ⟨10, [.t 4], .seq (.ops [⟨some 4, none, .mv (.c (.bool false)), none⟩])
   (.keep [0, 1] (.seq (.ops [⟨some 5, none, .mv (.t 1), none⟩,
      ⟨some 6, none, .mv (.t 0), none⟩,
      ⟨some 7, none, .conv .i64 (.t 6), none⟩,
      ⟨some 8, none, .bin .quo (.t 7) (.c (.int .i64 8192)), none⟩,
      ⟨some 9, none, .call (.f 105) [(.t 5), (.t 8)], none⟩,
      ⟨some 4, none, .mv (.t 9), none⟩])
    (.ret)))⟩
theorem J_cert_isOf_ok : chkFn Try.prog 78 J_cert_isOf = true := by kernel_rfl

/- behind: Q -/
def J_cert_num_j1 : ACode :=
  .keep [] (.seq (.ops [⟨some 2, none, .mv (.c (.bool true)), none⟩])
     (.ret))

/- behind: Q = kloop [5, 6, 7] I n (kblock 0 (kseq P (J_cert_num_j1) Q)) -/
def J_cert_num_j2 : ACode :=
  .seq (.ops [⟨some 8, none, .bin .lss (.t 7) (.t 6), none⟩])
        (.keep [5, 6, 7, 8] (.seq (.cond (.t 8)
          (.skip)
          (.exit 0))
         (.keep [5, 6, 7] (.seq (.block 1 (.seq (.ops [⟨some 9, none, .idxa 1 (.t 5) (.t 7), none⟩,
      ⟨some 10, none, .load none (.t 9), none⟩,
      ⟨some 4, none, .mv (.t 10), none⟩])
            (.keep [4, 5, 6, 7] (.seq (.ops [⟨some 11, none, .mv (.t 4), none⟩,
      ⟨some 12, none, .bin .lss (.t 11) (.c (.int .i64 0)), none⟩,
      ⟨some 13, none, .mv (.t 12), none⟩,
      ⟨some 14, (some (13, false)), .mv (.t 4), none⟩,
      ⟨some 15, (some (13, false)), .bin .gtr (.t 14) (.c (.int .i64 4611686018427387904)), none⟩,
      ⟨some 16, none, .pick (.t 13) (.c (.bool true)) (.t 15), none⟩])
             (.keep [5, 6, 7, 16] (.cond (.t 16)
              (.seq (.ops [⟨some 2, none, .mv (.c (.bool false)), none⟩])
               (.ret))
              (.skip)))))))
          (.keep [5, 6, 7] (.ops [⟨some 17, none, .bin .add (.t 7) (.c (.int .i64 1)), none⟩,
      ⟨some 7, none, .mv (.t 17), none⟩]))))))

/-- attorney/cert.num -/
def J_cert_num : AFn :=
  ⟨18, [.t 2], .seq (.ops [⟨some 2, none, .mv (.c (.bool false)), none⟩])
   (.keep [0] (.seq (.seq (.ops [⟨some 5, none, .mv (.t 0), none⟩,
      ⟨some 6, none, .lenl (.t 5), none⟩,
      ⟨some 7, none, .mv (.c (.int .i64 0)), none⟩])
     (.keep [5, 6, 7] (.block 0 (.loop [5, 6, 7] (J_cert_num_j2)))))
    (J_cert_num_j1)))⟩
theorem J_cert_num_ok : chkFn Try.prog 80 J_cert_num = true := by kernel_rfl

/-- attorney/cert.like -/
def J_cert_like : AFn :=
  ⟨96, [.t 2], .seq (.ops [⟨some 1, none, .box (.t 0) [], none⟩,
      ⟨some 2, none, .mv (.c (.bool false)), none⟩])
   (.keep [1] (.seq (.seq (.ops [⟨some 5, none, .fld 0 (.t 1), none⟩,
      ⟨some 6, none, .load none (.t 5), none⟩])
     (.keep [1, 6] (.block 0 (.seq (.ops [⟨some 8, none, .bin .eql (.t 6) (.c (.int .i64 6)), none⟩,
      ⟨some 7, none, .mv (.t 8), none⟩])
       (.keep [1, 6, 7] (.cond (.t 7)
        (.seq (.ops [⟨some 2, none, .mv (.c (.bool true)), none⟩])
         (.ret))
        (.seq (.ops [⟨some 10, none, .bin .eql (.t 6) (.c (.int .i64 7)), none⟩,
      ⟨some 9, none, .mv (.t 10), none⟩])
         (.keep [1, 9] (.cond (.t 9)
          (.seq (.ops [⟨some 11, none, .load (some 7) (.t 1), none⟩,
      ⟨some 12, none, .call (.f 108) [(.t 11)], none⟩,
      ⟨some 2, none, .mv (.t 12), none⟩])
           (.ret))
          (.skip))))))))))
    (.keep [1] (.seq (.seq (.ops [⟨some 13, none, .fld 3 (.t 1), none⟩,
      ⟨some 14, none, .load none (.t 13), none⟩,
      ⟨some 15, none, .lenl (.t 14), none⟩,
      ⟨some 16, none, .bin .neq (.t 15) (.c (.int .i64 1)), none⟩])
      (.keep [1, 16] (.cond (.t 16)
       (.seq (.ops [⟨some 2, none, .mv (.c (.bool false)), none⟩])
        (.ret))
       (.skip))))
     (.keep [1] (.seq (.ops [⟨some 17, none, .fld 3 (.t 1), none⟩,
      ⟨some 18, none, .load none (.t 17), none⟩,
      ⟨some 19, none, .idxa 1 (.t 18) (.c (.int .i64 0)), none⟩,
      ⟨some 20, none, .load none (.t 19), none⟩,
      ⟨some 3, none, .mv (.t 20), none⟩])
      (.keep [1, 3] (.seq (.ops [⟨some 21, none, .mv (.t 3), none⟩,
      ⟨some 22, none, .call (.f 81) [(.t 21)], none⟩,
      ⟨some 4, none, .mv (.t 22), none⟩])
       (.keep [1, 3, 4] (.seq (.seq (.ops [⟨some 23, none, .fld 0 (.t 1), none⟩,
      ⟨some 24, none, .load none (.t 23), none⟩])
         (.keep [1, 3, 4, 24] (.block 1 (.seq (.ops [⟨some 26, none, .bin .eql (.t 24) (.c (.int .i64 1)), none⟩,
      ⟨some 25, none, .mv (.t 26), none⟩])
           (.keep [1, 3, 4, 24, 25] (.cond (.t 25)
            (.seq (.ops [⟨some 27, none, .fld 2 (.t 1), none⟩,
      ⟨some 28, none, .load none (.t 27), none⟩,
      ⟨some 29, none, .bsl 3 1 1 [(.int .i64 0)] [(0, 1, (.c (.int .i64 1)))], none⟩,
      ⟨some 30, none, .call (.f 109) [(.t 28), (.t 29)], none⟩,
      ⟨some 31, none, .mv (.t 30), none⟩,
      ⟨some 32, (some (31, true)), .mv (.t 4), none⟩,
      ⟨some 33, (some (31, true)), .bin .eql (.t 32) (.c (.int .i64 2)), none⟩,
      ⟨some 34, none, .pick (.t 31) (.t 33) (.c (.bool false)), none⟩,
      ⟨some 35, none, .mv (.t 34), none⟩,
      ⟨some 36, (some (35, true)), .mv (.t 3), none⟩,
      ⟨some 37, (some (35, true)), .call (.f 107) [(.t 36), (.c (.int .i64 0))], none⟩,
      ⟨some 38, (some (35, true)), .bsl 3 1 1 [(.int .i64 0)] [(0, 1, (.c (.int .i64 3)))], none⟩,
      ⟨some 39, (some (35, true)), .call (.f 78) [(.t 37), (.t 38)], none⟩,
      ⟨some 40, none, .pick (.t 35) (.t 39) (.c (.bool false)), none⟩,
      ⟨some 41, none, .mv (.t 40), none⟩,
      ⟨some 42, (some (41, true)), .mv (.t 3), none⟩,
      ⟨some 43, (some (41, true)), .call (.f 107) [(.t 42), (.c (.int .i64 1))], none⟩,
      ⟨some 44, (some (41, true)), .bsl 3 1 1 [(.int .i64 0)] [(0, 1, (.c (.int .i64 5)))], none⟩,
      ⟨some 45, (some (41, true)), .call (.f 78) [(.t 43), (.t 44)], none⟩,
      ⟨some 46, none, .pick (.t 41) (.t 45) (.c (.bool false)), none⟩,
      ⟨some 2, none, .mv (.t 46), none⟩])
             (.ret))
            (.seq (.ops [⟨some 48, none, .bin .eql (.t 24) (.c (.int .i64 2)), none⟩,
      ⟨some 47, none, .mv (.t 48), none⟩])
             (.keep [1, 3, 4, 24, 47] (.cond (.t 47)
              (.seq (.ops [⟨some 49, none, .fld 2 (.t 1), none⟩,
      ⟨some 50, none, .load none (.t 49), none⟩,
      ⟨some 51, none, .bsl 3 1 1 [(.int .i64 0)] [(0, 1, (.c (.int .i64 1)))], none⟩,
      ⟨some 52, none, .call (.f 109) [(.t 50), (.t 51)], none⟩,
      ⟨some 53, none, .mv (.t 52), none⟩,
      ⟨some 54, (some (53, true)), .mv (.t 3), none⟩,
      ⟨some 55, (some (53, true)), .fld 1 (.t 1), none⟩,
      ⟨some 56, (some (53, true)), .load none (.t 55), none⟩,
      ⟨some 57, (some (53, true)), .bsl 54 1 1 [(.int .u16 0)] [(0, 1, (.t 56))], none⟩,
      ⟨some 58, (some (53, true)), .call (.f 110) [(.t 57)], none⟩,
      ⟨some 59, (some (53, true)), .bin .eql (.t 54) (.t 58), none⟩,
      ⟨some 60, none, .pick (.t 53) (.t 59) (.c (.bool false)), none⟩,
      ⟨some 2, none, .mv (.t 60), none⟩])
               (.ret))
              (.seq (.ops [⟨some 62, none, .bin .eql (.t 24) (.c (.int .i64 3)), none⟩,
      ⟨some 61, none, .mv (.t 62), none⟩])
               (.keep [1, 3, 4, 24, 61] (.cond (.t 61)
                (.seq (.ops [⟨some 63, none, .fld 2 (.t 1), none⟩,
      ⟨some 64, none, .load none (.t 63), none⟩,
      ⟨some 65, none, .bsl 3 1 1 [(.int .i64 0)] [(0, 1, (.c (.int .i64 2)))], none⟩,
      ⟨some 66, none, .call (.f 109) [(.t 64), (.t 65)], none⟩,
      ⟨some 2, none, .mv (.t 66), none⟩])
                 (.ret))
                (.seq (.ops [⟨some 68, none, .bin .eql (.t 24) (.c (.int .i64 4)), none⟩,
      ⟨some 67, none, .mv (.t 68), none⟩])
                 (.keep [1, 3, 4, 24, 67] (.cond (.t 67)
                  (.seq (.ops [⟨some 69, none, .fld 2 (.t 1), none⟩,
      ⟨some 70, none, .load none (.t 69), none⟩,
      ⟨some 71, none, .bsl 3 1 1 [(.int .i64 0)] [(0, 1, (.c (.int .i64 3)))], none⟩,
      ⟨some 72, none, .call (.f 109) [(.t 70), (.t 71)], none⟩,
      ⟨some 73, none, .mv (.t 72), none⟩,
      ⟨some 74, (some (73, true)), .mv (.t 3), none⟩,
      ⟨some 75, (some (73, true)), .bsl 3 1 1 [(.int .i64 0)] [(0, 1, (.c (.int .i64 4)))], none⟩,
      ⟨some 76, (some (73, true)), .call (.f 109) [(.t 74), (.t 75)], none⟩,
      ⟨some 77, none, .pick (.t 73) (.t 76) (.c (.bool false)), none⟩,
      ⟨some 2, none, .mv (.t 77), none⟩])
                   (.ret))
                  (.seq (.ops [⟨some 79, none, .bin .eql (.t 24) (.c (.int .i64 5)), none⟩,
      ⟨some 78, none, .mv (.t 79), none⟩])
                   (.keep [1, 3, 4, 78] (.cond (.t 78)
                    (.seq (.ops [⟨some 80, none, .fld 2 (.t 1), none⟩,
      ⟨some 81, none, .load none (.t 80), none⟩,
      ⟨some 82, none, .bsl 3 1 2 [(.int .i64 0), (.int .i64 0)] [(0, 1, (.c (.int .i64 1))), (1, 1, (.c (.int .i64 2)))], none⟩,
      ⟨some 83, none, .call (.f 109) [(.t 81), (.t 82)], none⟩,
      ⟨some 84, none, .mv (.t 83), none⟩,
      ⟨some 85, (some (84, true)), .mv (.t 4), none⟩,
      ⟨some 86, (some (84, true)), .bin .geq (.t 85) (.c (.int .i64 2)), none⟩,
      ⟨some 87, none, .pick (.t 84) (.t 86) (.c (.bool false)), none⟩,
      ⟨some 88, none, .mv (.t 87), none⟩,
      ⟨some 89, (some (88, true)), .mv (.t 3), none⟩,
      ⟨some 90, (some (88, true)), .mv (.t 4), none⟩,
      ⟨some 91, (some (88, true)), .bin .sub (.t 90) (.c (.int .i64 1)), none⟩,
      ⟨some 92, (some (88, true)), .call (.f 107) [(.t 89), (.t 91)], none⟩,
      ⟨some 93, (some (88, true)), .bsl 3 1 1 [(.int .i64 0)] [(0, 1, (.c (.int .i64 5)))], none⟩,
      ⟨some 94, (some (88, true)), .call (.f 78) [(.t 92), (.t 93)], none⟩,
      ⟨some 95, none, .pick (.t 88) (.t 94) (.c (.bool false)), none⟩,
      ⟨some 2, none, .mv (.t 95), none⟩])
                     (.ret))
                    (.skip)))))))))))))))))))
        (.keep [] (.seq (.ops [⟨some 2, none, .mv (.c (.bool false)), none⟩])
         (.ret)))))))))))))⟩
theorem J_cert_like_ok : chkFn Try.prog 82 J_cert_like = true := by kernel_rfl

/-- attorney/attorneyref01.Kind -/
def J_ref01_Kind : AFn :=
  ⟨10, [.t 2], .seq (.ops [⟨some 2, none, .mv (.c (.int .i64 0)), none⟩])
   (.keep [0] (.seq (.ops [⟨some 3, none, .mv (.t 0), none⟩,
      ⟨some 4, none, .conv .i64 (.t 3), none⟩,
      ⟨some 5, none, .mv (.t 0), none⟩,
      ⟨some 6, none, .conv .i64 (.t 5), none⟩,
      ⟨some 7, none, .bin .rem (.t 6) (.c (.int .i64 8192)), none⟩,
      ⟨some 8, none, .bin .sub (.t 4) (.t 7), none⟩,
      ⟨some 9, none, .bin .quo (.t 8) (.c (.int .i64 8192)), none⟩,
      ⟨some 2, none, .mv (.t 9), none⟩])
    (.ret)))⟩
theorem J_ref01_Kind_ok : chkFn Try.prog 83 J_ref01_Kind = true := by kernel_rfl

/-- attorney/attorneyref08.num -/
def J_ref08_num : AFn :=
  ⟨9, [.t 2], .seq (.ops [⟨some 2, none, .mv (.c (.bool false)), none⟩])
   (.keep [0] (.seq (.ops [⟨some 3, none, .mv (.t 0), none⟩,
      ⟨some 4, none, .bin .geq (.t 3) (.c (.int .i64 0)), none⟩,
      ⟨some 5, none, .mv (.t 4), none⟩,
      ⟨some 6, (some (5, true)), .mv (.t 0), none⟩,
      ⟨some 7, (some (5, true)), .bin .leq (.t 6) (.c (.int .i64 4611686018427387904)), none⟩,
      ⟨some 8, none, .pick (.t 5) (.t 7) (.c (.bool false)), none⟩,
      ⟨some 2, none, .mv (.t 8), none⟩])
    (.ret)))⟩
theorem J_ref08_num_ok : chkFn Try.prog 85 J_ref08_num = true := by kernel_rfl

/-- attorney/attorneyref08.like -/
def J_ref08_like : AFn :=
  ⟨147, [.t 2], .seq (.ops [⟨some 1, none, .box (.t 0) [], none⟩,
      ⟨some 2, none, .mv (.c (.bool false)), none⟩])
   (.keep [1] (.seq (.ops [⟨some 8, none, .fld 3 (.t 1), none⟩,
      ⟨some 9, none, .load none (.t 8), none⟩,
      ⟨some 10, none, .idxa 1 (.t 9) (.c (.int .i64 0)), none⟩,
      ⟨some 11, none, .load none (.t 10), none⟩,
      ⟨some 12, none, .call (.f 111) [(.t 11)], none⟩,
      ⟨some 3, none, .mv (.t 12), none⟩])
    (.keep [1, 3] (.seq (.ops [⟨some 13, none, .mv (.t 3), none⟩,
      ⟨some 14, none, .mv (.t 3), none⟩,
      ⟨some 15, none, .lenl (.t 14), none⟩,
      ⟨some 16, none, .bin .sub (.t 15) (.c (.int .i64 1)), none⟩,
      ⟨some 17, none, .idxa 1 (.t 13) (.t 16), none⟩,
      ⟨some 18, none, .load none (.t 17), none⟩,
      ⟨some 19, none, .call (.f 83) [(.t 18)], none⟩,
      ⟨some 4, none, .mv (.t 19), none⟩])
     (.keep [1, 3, 4] (.seq (.ops [⟨some 20, none, .fld 2 (.t 1), none⟩,
      ⟨some 21, none, .load none (.t 20), none⟩,
      ⟨some 22, none, .call (.f 112) [(.t 21)], none⟩,
      ⟨some 5, none, .mv (.t 22), none⟩])
      (.keep [1, 3, 4, 5] (.seq (.seq (.ops [⟨some 23, none, .fld 0 (.t 1), none⟩,
      ⟨some 24, none, .load none (.t 23), none⟩])
        (.keep [1, 3, 4, 5, 24] (.block 0 (.seq (.ops [⟨some 26, none, .bin .eql (.t 24) (.c (.int .i64 1)), none⟩,
      ⟨some 25, none, .mv (.t 26), none⟩])
          (.keep [1, 3, 4, 5, 24, 25] (.cond (.t 25)
           (.seq (.ops [⟨some 27, none, .fld 3 (.t 1), none⟩,
      ⟨some 28, none, .load none (.t 27), none⟩,
      ⟨some 29, none, .lenl (.t 28), none⟩,
      ⟨some 30, none, .bin .eql (.t 29) (.c (.int .i64 1)), none⟩,
      ⟨some 31, none, .mv (.t 30), none⟩,
      ⟨some 32, (some (31, true)), .mv (.t 5), none⟩,
      ⟨some 33, (some (31, true)), .bin .eql (.t 32) (.c (.int .i64 1)), none⟩,
      ⟨some 34, none, .pick (.t 31) (.t 33) (.c (.bool false)), none⟩,
      ⟨some 35, none, .mv (.t 34), none⟩,
      ⟨some 36, (some (35, true)), .mv (.t 3), none⟩,
      ⟨some 37, (some (35, true)), .lenl (.t 36), none⟩,
      ⟨some 38, (some (35, true)), .bin .eql (.t 37) (.c (.int .i64 2)), none⟩,
      ⟨some 39, none, .pick (.t 35) (.t 38) (.c (.bool false)), none⟩,
      ⟨some 40, none, .mv (.t 39), none⟩,
      ⟨some 41, (some (40, true)), .mv (.t 3), none⟩,
      ⟨some 42, (some (40, true)), .idxa 1 (.t 41) (.c (.int .i64 0)), none⟩,
      ⟨some 43, (some (40, true)), .load none (.t 42), none⟩,
      ⟨some 44, (some (40, true)), .call (.f 83) [(.t 43)], none⟩,
      ⟨some 45, (some (40, true)), .bin .eql (.t 44) (.c (.int .i64 3)), none⟩,
      ⟨some 46, none, .pick (.t 40) (.t 45) (.c (.bool false)), none⟩,
      ⟨some 47, none, .mv (.t 46), none⟩,
      ⟨some 48, (some (47, true)), .mv (.t 4), none⟩,
      ⟨some 49, (some (47, true)), .bin .eql (.t 48) (.c (.int .i64 5)), none⟩,
      ⟨some 50, none, .pick (.t 47) (.t 49) (.c (.bool false)), none⟩,
      ⟨some 2, none, .mv (.t 50), none⟩])
            (.ret))
           (.seq (.ops [⟨some 52, none, .bin .eql (.t 24) (.c (.int .i64 2)), none⟩,
      ⟨some 51, none, .mv (.t 52), none⟩])
            (.keep [1, 3, 4, 5, 24, 51] (.cond (.t 51)
             (.seq (.draw [2] [⟨some 53, none, .fld 3 (.t 1), none⟩,
      ⟨some 54, none, .load none (.t 53), none⟩,
      ⟨some 55, none, .lenl (.t 54), none⟩,
      ⟨some 56, none, .bin .eql (.t 55) (.c (.int .i64 1)), none⟩,
      ⟨some 57, none, .mv (.t 56), none⟩,
      ⟨some 58, (some (57, true)), .mv (.t 5), none⟩,
      ⟨some 59, (some (57, true)), .bin .eql (.t 58) (.c (.int .i64 1)), none⟩,
      ⟨some 60, none, .pick (.t 57) (.t 59) (.c (.bool false)), none⟩,
      ⟨some 61, none, .mv (.t 60), none⟩,
      ⟨some 62, (some (61, true)), .mv (.t 3), none⟩,
      ⟨some 63, (some (61, true)), .lenl (.t 62), none⟩,
      ⟨some 64, (some (61, true)), .bin .eql (.t 63) (.c (.int .i64 1)), none⟩,
      ⟨some 65, none, .pick (.t 61) (.t 64) (.c (.bool false)), none⟩,
      ⟨some 66, none, .mv (.t 65), none⟩,
      ⟨some 67, (some (66, true)), .mv (.t 3), none⟩,
      ⟨some 68, (some (66, true)), .idxa 1 (.t 67) (.c (.int .i64 0)), none⟩,
      ⟨some 69, (some (66, true)), .load none (.t 68), none⟩,
      ⟨some 70, (some (66, true)), .fld 1 (.t 1), none⟩,
      ⟨some 71, (some (66, true)), .load none (.t 70), none⟩,
      ⟨some 72, (some (66, true)), .bin .eql (.t 69) (.t 71), none⟩,
      ⟨some 73, none, .pick (.t 66) (.t 72) (.c (.bool false)), none⟩,
      ⟨some 2, none, .mv (.t 73), none⟩])
              (.ret))
             (.seq (.ops [⟨some 75, none, .bin .eql (.t 24) (.c (.int .i64 3)), none⟩,
      ⟨some 74, none, .mv (.t 75), none⟩])
              (.keep [1, 3, 4, 5, 24, 74] (.cond (.t 74)
               (.seq (.ops [⟨some 76, none, .fld 3 (.t 1), none⟩,
      ⟨some 77, none, .load none (.t 76), none⟩,
      ⟨some 78, none, .lenl (.t 77), none⟩,
      ⟨some 79, none, .bin .eql (.t 78) (.c (.int .i64 1)), none⟩,
      ⟨some 80, none, .mv (.t 79), none⟩,
      ⟨some 81, (some (80, true)), .mv (.t 5), none⟩,
      ⟨some 82, (some (80, true)), .bin .eql (.t 81) (.c (.int .i64 2)), none⟩,
      ⟨some 83, none, .pick (.t 80) (.t 82) (.c (.bool false)), none⟩,
      ⟨some 2, none, .mv (.t 83), none⟩])
                (.ret))
               (.seq (.ops [⟨some 85, none, .bin .eql (.t 24) (.c (.int .i64 4)), none⟩,
      ⟨some 84, none, .mv (.t 85), none⟩])
                (.keep [1, 3, 4, 5, 24, 84] (.cond (.t 84)
                 (.seq (.ops [⟨some 86, none, .fld 3 (.t 1), none⟩,
      ⟨some 87, none, .load none (.t 86), none⟩,
      ⟨some 88, none, .lenl (.t 87), none⟩,
      ⟨some 89, none, .bin .eql (.t 88) (.c (.int .i64 1)), none⟩,
      ⟨some 90, none, .mv (.t 89), none⟩,
      ⟨some 91, (some (90, true)), .mv (.t 5), none⟩,
      ⟨some 92, (some (90, true)), .bin .eql (.t 91) (.c (.int .i64 3)), none⟩,
      ⟨some 93, none, .pick (.t 90) (.t 92) (.c (.bool false)), none⟩,
      ⟨some 94, none, .mv (.t 93), none⟩,
      ⟨some 95, (some (94, true)), .mv (.t 3), none⟩,
      ⟨some 96, (some (94, true)), .lenl (.t 95), none⟩,
      ⟨some 97, (some (94, true)), .bin .eql (.t 96) (.c (.int .i64 1)), none⟩,
      ⟨some 98, none, .pick (.t 94) (.t 97) (.c (.bool false)), none⟩,
      ⟨some 99, none, .mv (.t 98), none⟩,
      ⟨some 100, (some (99, true)), .mv (.t 4), none⟩,
      ⟨some 101, (some (99, true)), .bin .eql (.t 100) (.c (.int .i64 4)), none⟩,
      ⟨some 102, none, .pick (.t 99) (.t 101) (.c (.bool false)), none⟩,
      ⟨some 2, none, .mv (.t 102), none⟩])
                  (.ret))
                 (.seq (.ops [⟨some 104, none, .bin .eql (.t 24) (.c (.int .i64 5)), none⟩,
      ⟨some 103, none, .mv (.t 104), none⟩])
                  (.keep [1, 3, 4, 5, 24, 103] (.cond (.t 103)
                   (.seq (.ops [⟨some 105, none, .fld 3 (.t 1), none⟩,
      ⟨some 106, none, .load none (.t 105), none⟩,
      ⟨some 107, none, .lenl (.t 106), none⟩,
      ⟨some 108, none, .bin .eql (.t 107) (.c (.int .i64 1)), none⟩,
      ⟨some 109, none, .mv (.t 108), none⟩,
      ⟨some 110, (some (109, true)), .mv (.t 5), none⟩,
      ⟨some 111, (some (109, true)), .bin .eql (.t 110) (.c (.int .i64 1)), none⟩,
      ⟨some 112, (some (109, true)), .mv (.t 111), none⟩,
      ⟨some 113, (some (112, false)), .mv (.t 5), none⟩,
      ⟨some 114, (some (112, false)), .bin .eql (.t 113) (.c (.int .i64 2)), none⟩,
      ⟨some 115, (some (109, true)), .pick (.t 112) (.c (.bool true)) (.t 114), none⟩,
      ⟨some 116, none, .pick (.t 109) (.t 115) (.c (.bool false)), none⟩,
      ⟨some 117, none, .mv (.t 116), none⟩,
      ⟨some 118, (some (117, true)), .mv (.t 3), none⟩,
      ⟨some 119, (some (117, true)), .lenl (.t 118), none⟩,
      ⟨some 120, (some (117, true)), .bin .gtr (.t 119) (.c (.int .i64 1)), none⟩,
      ⟨some 121, none, .pick (.t 117) (.t 120) (.c (.bool false)), none⟩,
      ⟨some 122, none, .mv (.t 121), none⟩,
      ⟨some 123, (some (122, true)), .mv (.t 4), none⟩,
      ⟨some 124, (some (122, true)), .bin .eql (.t 123) (.c (.int .i64 5)), none⟩,
      ⟨some 125, none, .pick (.t 122) (.t 124) (.c (.bool false)), none⟩,
      ⟨some 2, none, .mv (.t 125), none⟩])
                    (.ret))
                   (.seq (.ops [⟨some 127, none, .bin .eql (.t 24) (.c (.int .i64 7)), none⟩,
      ⟨some 126, none, .mv (.t 127), none⟩])
                    (.keep [1, 126] (.cond (.t 126)
                     (.seq (.ops [⟨some 128, none, .fld 2 (.t 1), none⟩,
      ⟨some 129, none, .load none (.t 128), none⟩,
      ⟨some 130, none, .call (.f 111) [(.t 129)], none⟩,
      ⟨some 6, none, .mv (.t 130), none⟩])
                      (.keep [1, 6] (.seq (.seq (.ops [⟨some 131, none, .mv (.t 6), none⟩,
      ⟨some 132, none, .lenl (.t 131), none⟩,
      ⟨some 133, none, .bin .lss (.t 132) (.c (.int .i64 2)), none⟩])
                        (.keep [1, 6, 133] (.cond (.t 133)
                         (.seq (.ops [⟨some 2, none, .mv (.c (.bool false)), none⟩])
                          (.ret))
                         (.skip))))
                       (.keep [1, 6] (.seq (.ops [⟨some 134, none, .bsl 54 1 1 [(.int .u16 0)] [(0, 1, (.c (.int .u16 1)))], none⟩,
      ⟨some 135, none, .mv (.t 6), none⟩,
      ⟨some 136, none, .slcl 1 (.t 135) (some (.c (.int .i64 1))) none none, none⟩,
      ⟨some 137, none, .appo 54 1 2 134 (.t 136), none⟩,
      ⟨some 7, none, .mvo 137, none⟩])
                        (.keep [1, 7] (.seq (.draw [2] [⟨some 138, none, .fld 3 (.t 1), none⟩,
      ⟨some 139, none, .load none (.t 138), none⟩,
      ⟨some 140, none, .fld 2 (.t 1), none⟩,
      ⟨some 141, none, .load none (.t 140), none⟩,
      ⟨some 142, none, .mv (.t 7), none⟩,
      ⟨some 143, none, .call (.f 49) [(.t 142)], none⟩,
      ⟨some 144, none, .bsl 44 1 2 [(.str ⟨#[]⟩), (.str ⟨#[]⟩)] [(0, 1, (.t 141)), (1, 1, (.t 143))], none⟩,
      ⟨some 145, none, .call (.f 113) [(.t 144)], none⟩,
      ⟨some 146, none, .call (.f 75) [(.t 139), (.t 145)], none⟩,
      ⟨some 2, none, .mv (.t 146), none⟩])
                         (.ret))))))))
                     (.skip))))))))))))))))))))))
       (.keep [] (.seq (.ops [⟨some 2, none, .mv (.c (.bool true)), none⟩])
        (.ret)))))))))))⟩
theorem J_ref08_like_ok : chkFn Try.prog 86 J_ref08_like = true := by kernel_rfl

/-- attorney/cert.delegate -/
def J_cert_delegate : AFn :=
  ⟨36, [.t 2], .seq (.ops [⟨some 1, none, .box (.t 0) [], none⟩,
      ⟨some 2, none, .mv (.c (.bool false)), none⟩])
   (.keep [1] (.seq (.seq (.ops [⟨some 6, none, .fld 2 (.t 1), none⟩,
      ⟨some 7, none, .load none (.t 6), none⟩,
      ⟨some 8, none, .call (.f 81) [(.t 7)], none⟩,
      ⟨some 9, none, .bin .lss (.t 8) (.c (.int .i64 2)), none⟩])
     (.keep [1, 9] (.cond (.t 9)
      (.seq (.ops [⟨some 2, none, .mv (.c (.bool false)), none⟩])
       (.ret))
      (.skip))))
    (.keep [1] (.seq (.draw [1, 3, 4] [⟨some 11, none, .fld 2 (.t 1), none⟩,
      ⟨some 12, none, .load none (.t 11), none⟩,
      ⟨some 13, none, .bsl 54 1 1 [(.int .u16 0)] [(0, 1, (.c (.int .u16 1)))], none⟩,
      ⟨some 14, none, .call (.f 110) [(.t 13)], none⟩,
      ⟨some 15, none, .call (.f 121) [(.t 12), (.c (.int .i64 0)), (.c (.int .i64 1)), (.t 14)], none⟩,
      ⟨some 10, none, .mv (.t 15), none⟩,
      ⟨some 16, none, .ext 0 (.t 10), none⟩,
      ⟨some 17, none, .ext 1 (.t 10), none⟩,
      ⟨some 3, none, .mv (.t 16), none⟩,
      ⟨some 4, none, .mv (.t 17), none⟩])
     (.keep [1, 3, 4] (.seq (.seq (.ops [⟨some 18, none, .mv (.t 4), none⟩,
      ⟨some 19, none, .bin .neq (.t 18) (.c (.int .i64 0)), none⟩])
       (.keep [1, 3, 19] (.cond (.t 19)
        (.seq (.ops [⟨some 2, none, .mv (.c (.bool false)), none⟩])
         (.ret))
        (.skip))))
      (.keep [1, 3] (.seq (.ops [⟨some 21, none, .fld 2 (.t 1), none⟩,
      ⟨some 22, none, .load none (.t 21), none⟩,
      ⟨some 23, none, .mv (.t 3), none⟩,
      ⟨some 24, none, .bsl 44 1 2 [(.str ⟨#[]⟩), (.str ⟨#[]⟩)] [(0, 1, (.t 22)), (1, 1, (.t 23))], none⟩,
      ⟨some 25, none, .call (.f 122) [(.t 24)], none⟩,
      ⟨some 20, none, .mv (.t 25), none⟩,
      ⟨some 26, none, .ext 0 (.t 20), none⟩,
      ⟨some 27, none, .ext 1 (.t 20), none⟩,
      ⟨some 5, none, .mv (.t 26), none⟩,
      ⟨some 4, none, .mv (.t 27), none⟩])
       (.keep [1, 4, 5] (.seq (.ops [⟨some 28, none, .mv (.t 4), none⟩,
      ⟨some 29, none, .bin .eql (.t 28) (.c (.int .i64 0)), none⟩,
      ⟨some 30, none, .mv (.t 29), none⟩,
      ⟨some 31, (some (30, true)), .fld 3 (.t 1), none⟩,
      ⟨some 32, (some (30, true)), .load none (.t 31), none⟩,
      ⟨some 33, (some (30, true)), .mv (.t 5), none⟩,
      ⟨some 34, (some (30, true)), .call (.f 123) [(.t 32), (.t 33)], none⟩,
      ⟨some 35, none, .pick (.t 30) (.t 34) (.c (.bool false)), none⟩,
      ⟨some 2, none, .mv (.t 35), none⟩])
        (.ret)))))))))))⟩
theorem J_cert_delegate_ok : chkFn Try.prog 108 J_cert_delegate = true := by kernel_rfl

/-- attorney/cert.alone -/
def J_cert_alone : AFn :=
  ⟨14, [.t 4], .seq (.ops [⟨some 4, none, .mv (.c (.bool false)), none⟩])
   (.keep [0, 1] (.seq (.ops [⟨some 5, none, .mv (.t 0), none⟩,
      ⟨some 6, none, .call (.f 81) [(.t 5)], none⟩,
      ⟨some 7, none, .bin .eql (.t 6) (.c (.int .i64 1)), none⟩,
      ⟨some 8, none, .mv (.t 7), none⟩,
      ⟨some 9, (some (8, true)), .mv (.t 0), none⟩,
      ⟨some 10, (some (8, true)), .call (.f 107) [(.t 9), (.c (.int .i64 0))], none⟩,
      ⟨some 11, (some (8, true)), .mv (.t 1), none⟩,
      ⟨some 12, (some (8, true)), .call (.f 78) [(.t 10), (.t 11)], none⟩,
      ⟨some 13, none, .pick (.t 8) (.t 12) (.c (.bool false)), none⟩,
      ⟨some 4, none, .mv (.t 13), none⟩])
    (.ret)))⟩
theorem J_cert_alone_ok : chkFn Try.prog 109 J_cert_alone = true := by kernel_rfl

/-- attorney/attorneyref08.single -/
def J_ref08_single : AFn :=
  ⟨13, [.t 2], .seq (.ops [⟨some 2, none, .mv (.c (.int .i64 0)), none⟩])
   (.keep [0] (.seq (.ops [⟨some 4, none, .mv (.t 0), none⟩,
      ⟨some 5, none, .call (.f 111) [(.t 4)], none⟩,
      ⟨some 3, none, .mv (.t 5), none⟩])
    (.keep [3] (.seq (.seq (.ops [⟨some 6, none, .mv (.t 3), none⟩,
      ⟨some 7, none, .lenl (.t 6), none⟩,
      ⟨some 8, none, .bin .neq (.t 7) (.c (.int .i64 1)), none⟩])
      (.keep [3, 8] (.cond (.t 8)
       (.seq (.ops [⟨some 2, none, .mv (.c (.int .i64 (-1))), none⟩])
        (.ret))
       (.skip))))
     (.keep [3] (.seq (.ops [⟨some 9, none, .mv (.t 3), none⟩,
      ⟨some 10, none, .idxa 1 (.t 9) (.c (.int .i64 0)), none⟩,
      ⟨some 11, none, .load none (.t 10), none⟩,
      ⟨some 12, none, .call (.f 83) [(.t 11)], none⟩,
      ⟨some 2, none, .mv (.t 12), none⟩])
      (.ret)))))))⟩
theorem J_ref08_single_ok : chkFn Try.prog 112 J_ref08_single = true := by kernel_rfl

end Go.Proofs.Ytaepikkaogfhbaa

/- What pack's Out and its reference do, over the abstract code. -/
namespace Go.Proofs.Ytaepikkaogfhbaa
set_option linter.unusedSimpArgs false
set_option linter.unusedVariables false
open Go.RowKit Go.Lib

theorem hset {h : Hp} {id : Nat} {y : Option (Bool × List AV)} (ho : h[id]? = some y) (x : Option (Bool × List AV)) : (h.set id x)[id]? = some x := by
  have : id < h.length := (List.getElem?_eq_some_iff.1 ho).1
  rw [List.getElem?_set_self this]
theorem hself {h : Hp} {id : Nat} {y : Option (Bool × List AV)} (ho : h[id]? = some y) : h.set id y = h := by
  obtain ⟨h1, h2⟩ := List.getElem?_eq_some_iff.1 ho
  rw [← h2, List.set_getElem_self]

/-- an error's number -/
def eI : Bool → Int
  | true => 2
  | false => 0
theorem a_well {h : Hp} {id : Nat} {fl bad : Bool} {rest : List AV} (ho : h[id]? = some (some (fl, .int .i64 (eI bad) :: rest))) :
    ACalls Try.prog 101 [.ptr id 0] h (fun a h' => a = .bool (!bad) ∧ h = h') := by
  refine acalls_of mixed F_pack_met_well_ok (Nat.le_of_ble_eq_true rfl) ?_; simp only [F_pack_met_well, wk,if_true,if_false,forall_const,implies_true,ne_eq,eq_self,Nat.reduceEqDiff,Nat.reduceAdd,Nat.reduceMul,Nat.reduceSub,Nat.reduceLeDiff,Nat.reduceLT,Int.reduceEq,Int.reduceLT,Int.reduceLE,Int.reduceAdd,Int.reduceSub,Int.reduceMul,Int.reduceNeg,Int.reduceNe,reduceCtorEq,Int.reduceToNat,↓reduceIte]
  simp only [wk,if_true,if_false,forall_const,implies_true,ne_eq,eq_self,Nat.reduceEqDiff,Nat.reduceAdd,Nat.reduceMul,Nat.reduceSub,Nat.reduceLeDiff,Nat.reduceLT,Int.reduceEq,Int.reduceLT,Int.reduceLE,Int.reduceAdd,Int.reduceSub,Int.reduceMul,Int.reduceNeg,Int.reduceNe,reduceCtorEq,Int.reduceToNat,↓reduceIte, ho]
  cases bad <;> rfl
theorem a_fail {h : Hp} {id : Nat} {bad : Bool} {rest : List AV} (ho : h[id]? = some (some (false, .int .i64 (eI bad) :: rest))) :
    ACalls Try.prog 100 [.ptr id 0] h (fun a h' => a = .tup [] ∧ h' = h.set id (some (false, .int .i64 (eI true) :: rest))) := by
  refine acalls_of mixed F_pack_met_fail_ok (Nat.le_of_ble_eq_true rfl) ?_; simp only [F_pack_met_fail, wk,if_true,if_false,forall_const,implies_true,ne_eq,eq_self,Nat.reduceEqDiff,Nat.reduceAdd,Nat.reduceMul,Nat.reduceSub,Nat.reduceLeDiff,Nat.reduceLT,Int.reduceEq,Int.reduceLT,Int.reduceLE,Int.reduceAdd,Int.reduceSub,Int.reduceMul,Int.reduceNeg,Int.reduceNe,reduceCtorEq,Int.reduceToNat,↓reduceIte]
  refine ACalls.use (a_well ho) ?_; rintro _ _ ⟨rfl, rfl⟩; simp only [wk,if_true,if_false,forall_const,implies_true,ne_eq,eq_self,Nat.reduceEqDiff,Nat.reduceAdd,Nat.reduceMul,Nat.reduceSub,Nat.reduceLeDiff,Nat.reduceLT,Int.reduceEq,Int.reduceLT,Int.reduceLE,Int.reduceAdd,Int.reduceSub,Int.reduceMul,Int.reduceNeg,Int.reduceNe,reduceCtorEq,Int.reduceToNat,↓reduceIte]
  simp only [wk,if_true,if_false,forall_const,implies_true,ne_eq,eq_self,Nat.reduceEqDiff,Nat.reduceAdd,Nat.reduceMul,Nat.reduceSub,Nat.reduceLeDiff,Nat.reduceLT,Int.reduceEq,Int.reduceLT,Int.reduceLE,Int.reduceAdd,Int.reduceSub,Int.reduceMul,Int.reduceNeg,Int.reduceNe,reduceCtorEq,Int.reduceToNat,↓reduceIte, ho]
  refine ⟨fun h0 => ?_, fun h0 => ?_⟩
  · rfl
  · subst h0; rw [hself ho]

/-- what was written: is it wrong, and the bytes -/
abbrev oObj (s : Bool × List UInt8) : Option (Bool × List AV) := some (false, [.int .i64 (eI s.1), .lst (.own 5) s.2.length (u8s s.2)])
abbrev rObj (s : Bool × List UInt8) : Option (Bool × List AV) := some (false, [.str ⟨s.2.toArray⟩, .bool s.1])
def wri (ok : Bool) (add : List UInt8) (s : Bool × List UInt8) : Bool × List UInt8 := if s.1 then s else if ok then (false, s.2 ++ add) else (true, s.2)
def okNum (z : Int) : Bool := decide (0 ≤ z ∧ z ≤ 4611686018427387904)
theorem or_128 (m : Nat) : bitV .or .u8 (IntKind.u8.wrap (m : Int)) 128 = ((UInt8.ofNat (m % 128 + 128)).toNat : Int) := by
  have e1 : IntKind.u8.wrap (m : Int) = ((m % 256 : Nat) : Int) := by rw [IntKind.wrap_u8]; omega
  rw [e1]
  show bits .or .u8 _ ((128 : Nat) : Int) = _
  rw [u8_or_nat _ _ (by omega) (by omega)]
  have : m % 256 ||| 128 = m % 128 + 128 := by
    by_cases hb : m % 256 < 128
    · rw [Nat.or_comm, nat_join 7 128 (m % 256) (by omega) (by omega)]; omega
    · have h1 : m % 256 = 128 ||| (m % 128) := by rw [nat_join 7 128 (m % 128) (by omega) (by omega)]; omega
      rw [h1, Nat.or_comm, ← Nat.or_assoc, Nat.or_self, nat_join 7 128 (m % 128) (by omega) (by omega)]; omega
  rw [this]; simp only [UInt8.toNat_ofNat']; omega
theorem shr_7 (m : Nat) : (m : Int).fdiv (2 ^ (min 7 IntKind.i64.bits)) = ((m / 128 : Nat) : Int) := by
  rw [show (min 7 IntKind.i64.bits) = 7 by decide, Int.fdiv_eq_ediv_of_nonneg _ (by omega)]; omega
theorem wri_bad {ok : Bool} {add bs : List UInt8} : wri ok add (true, bs) = (true, bs) := rfl
theorem wri_not {add bs : List UInt8} {bad : Bool} : wri false add (bad, bs) = (true, bs) := by cases bad <;> rfl
theorem wri_yes {add bs : List UInt8} : wri true add (false, bs) = (false, bs ++ add) := rfl
set_option maxHeartbeats 1000000 in
theorem a_onum {h : Hp} {id : Nat} {s : Bool × List UInt8} (z : Int) (ho : h[id]? = some (oObj s)) (hl : s.2.length ≤ 1000000000000) :
    ACalls Try.prog 62 [.ptr id 0, .int .i64 z] h (fun a h' => a = .tup [] ∧ h' = h.set id (oObj (wri (okNum z) (num z.toNat) s))) := by
  obtain ⟨bad, bs⟩ := s
  simp only [oObj] at ho hl ⊢
  refine acalls_of mixed F_pack_Out_Num_ok (Nat.le_of_ble_eq_true rfl) ?_; simp only [F_pack_Out_Num, wk,if_true,if_false,forall_const,implies_true,ne_eq,eq_self,Nat.reduceEqDiff,Nat.reduceAdd,Nat.reduceMul,Nat.reduceSub,Nat.reduceLeDiff,Nat.reduceLT,Int.reduceEq,Int.reduceLT,Int.reduceLE,Int.reduceAdd,Int.reduceSub,Int.reduceMul,Int.reduceNeg,Int.reduceNe,reduceCtorEq,Int.reduceToNat,↓reduceIte]
  refine ⟨fun h0 => ⟨fun h1 => ?_, fun h1 => ?_⟩, fun h0 => ?_⟩
  · refine ACalls.use (a_fail ho) ?_; rintro _ _ ⟨rfl, rfl⟩; simp only [wk,if_true,if_false,forall_const,implies_true,ne_eq,eq_self,Nat.reduceEqDiff,Nat.reduceAdd,Nat.reduceMul,Nat.reduceSub,Nat.reduceLeDiff,Nat.reduceLT,Int.reduceEq,Int.reduceLT,Int.reduceLE,Int.reduceAdd,Int.reduceSub,Int.reduceMul,Int.reduceNeg,Int.reduceNe,reduceCtorEq,Int.reduceToNat,↓reduceIte, hset ho]
    refine ACalls.use (a_well (hset ho _)) ?_; rintro _ _ ⟨rfl, rfl⟩; simp only [wk,if_true,if_false,forall_const,implies_true,ne_eq,eq_self,Nat.reduceEqDiff,Nat.reduceAdd,Nat.reduceMul,Nat.reduceSub,Nat.reduceLeDiff,Nat.reduceLT,Int.reduceEq,Int.reduceLT,Int.reduceLE,Int.reduceAdd,Int.reduceSub,Int.reduceMul,Int.reduceNeg,Int.reduceNe,reduceCtorEq,Int.reduceToNat,↓reduceIte, hset ho]
    rw [show okNum z = false by unfold okNum; rw [decide_eq_false_iff_not]; omega, wri_not]
  · refine ACalls.use (a_well ho) ?_; rintro _ _ ⟨rfl, rfl⟩; simp only [wk,if_true,if_false,forall_const,implies_true,ne_eq,eq_self,Nat.reduceEqDiff,Nat.reduceAdd,Nat.reduceMul,Nat.reduceSub,Nat.reduceLeDiff,Nat.reduceLT,Int.reduceEq,Int.reduceLT,Int.reduceLE,Int.reduceAdd,Int.reduceSub,Int.reduceMul,Int.reduceNeg,Int.reduceNe,reduceCtorEq,Int.reduceToNat,↓reduceIte, ho]
    refine ⟨fun hb => ?_, fun hb => ?_⟩
    · subst hb; rw [wri_bad, hself ho]
    subst hb
    obtain ⟨n, rfl⟩ : ∃ n : Nat, z = n := ⟨z.toNat, by omega⟩
    rw [show okNum (n : Int) = true by unfold okNum; rw [decide_eq_true_eq]; omega, wri_yes]
    have hn9 := num_len9 (n := n) (by omega)
    refine W_loop (fun k fr h' => ∃ (pre : List UInt8) (m : Nat), k = m ∧ m ≤ n ∧ pre ++ num m = num n ∧ fr = [(0, .ptr id 0), (1, .int .i64 m)] ∧ h' = h.set id (oObj (false, bs ++ pre))) n ⟨[], n, rfl, by omega, rfl, rfl, by rw [List.append_nil, hself ho]⟩ ?_
    rintro k fr h' ⟨pre, m, rfl, hm, hpre, rfl, rfl⟩
    have htot : pre.length + (num k).length = (num n).length := by rw [← hpre, List.length_append]
    have hb1 : bs.length + pre.length + 1 ≤ 9223372036854775807 := by omega
    have hla : (bs ++ pre).length = bs.length + pre.length := List.length_append
    simp only [wk,if_true,if_false,forall_const,implies_true,ne_eq,eq_self,Nat.reduceEqDiff,Nat.reduceAdd,Nat.reduceMul,Nat.reduceSub,Nat.reduceLeDiff,Nat.reduceLT,Int.reduceEq,Int.reduceLT,Int.reduceLE,Int.reduceAdd,Int.reduceSub,Int.reduceMul,Int.reduceNeg,Int.reduceNe,reduceCtorEq,Int.reduceToNat,↓reduceIte, oObj]
    refine ⟨fun hge => ?_, fun hlt => ?_⟩
    · have hk := num_ge (n := k) (by omega)
      simp only [wk,if_true,if_false,forall_const,implies_true,ne_eq,eq_self,Nat.reduceEqDiff,Nat.reduceAdd,Nat.reduceMul,Nat.reduceSub,Nat.reduceLeDiff,Nat.reduceLT,Int.reduceEq,Int.reduceLT,Int.reduceLE,Int.reduceAdd,Int.reduceSub,Int.reduceMul,Int.reduceNeg,Int.reduceNe,reduceCtorEq,Int.reduceToNat,↓reduceIte, hset ho]
      (repeat (refine And.intro (by first | omega | exact inR_of (by omega) (by omega) | exact ⟨by omega, by omega⟩ | exact ⟨by omega, by omega, by omega⟩ | rfl) ?_))
      rw [shr_7, or_128]
      refine ⟨k / 128, by omega, pre ++ [UInt8.ofNat (k % 128 + 128)], k / 128, rfl, by omega, ?_, rfl, ?_⟩
      · rw [← hpre, hk]; simp
      · simp [Nat.add_assoc]
    · have hk := num_lt (n := k) (by omega)
      simp only [wk,if_true,if_false,forall_const,implies_true,ne_eq,eq_self,Nat.reduceEqDiff,Nat.reduceAdd,Nat.reduceMul,Nat.reduceSub,Nat.reduceLeDiff,Nat.reduceLT,Int.reduceEq,Int.reduceLT,Int.reduceLE,Int.reduceAdd,Int.reduceSub,Int.reduceMul,Int.reduceNeg,Int.reduceNe,reduceCtorEq,Int.reduceToNat,↓reduceIte, hset ho]
      (repeat (refine And.intro (by first | omega | exact inR_of (by omega) (by omega) | exact ⟨by omega, by omega⟩ | exact ⟨by omega, by omega, by omega⟩ | rfl) ?_))
      have e1 : IntKind.u8.wrap (k : Int) = ((UInt8.ofNat k).toNat : Int) := by rw [IntKind.wrap_u8]; simp only [UInt8.toNat_ofNat']; omega
      rw [e1, Int.toNat_natCast, ← hpre, hk]
      simp [Nat.add_assoc]
  · refine ACalls.use (a_fail ho) ?_; rintro _ _ ⟨rfl, rfl⟩; simp only [wk,if_true,if_false,forall_const,implies_true,ne_eq,eq_self,Nat.reduceEqDiff,Nat.reduceAdd,Nat.reduceMul,Nat.reduceSub,Nat.reduceLeDiff,Nat.reduceLT,Int.reduceEq,Int.reduceLT,Int.reduceLE,Int.reduceAdd,Int.reduceSub,Int.reduceMul,Int.reduceNeg,Int.reduceNe,reduceCtorEq,Int.reduceToNat,↓reduceIte, hset ho]
    refine ACalls.use (a_well (hset ho _)) ?_; rintro _ _ ⟨rfl, rfl⟩; simp only [wk,if_true,if_false,forall_const,implies_true,ne_eq,eq_self,Nat.reduceEqDiff,Nat.reduceAdd,Nat.reduceMul,Nat.reduceSub,Nat.reduceLeDiff,Nat.reduceLT,Int.reduceEq,Int.reduceLT,Int.reduceLE,Int.reduceAdd,Int.reduceSub,Int.reduceMul,Int.reduceNeg,Int.reduceNe,reduceCtorEq,Int.reduceToNat,↓reduceIte, hset ho]
    rw [show okNum z = false by unfold okNum; rw [decide_eq_false_iff_not]; omega, wri_not]
theorem wri_wri {a b : List UInt8} {bs : List UInt8} : wri true b (wri true a (false, bs)) = wri true (a ++ b) (false, bs) := by simp [wri]
theorem ba_len (s : ByteArray) : s.data.toList.length = s.size := by simp
set_option maxHeartbeats 1000000 in
theorem a_oword {h : Hp} {id : Nat} {s : Bool × List UInt8} (x : ByteArray) (ho : h[id]? = some (oObj s)) (hl : s.2.length ≤ 1000000000000) (hx : x.size ≤ 1000000000000) :
    ACalls Try.prog 76 [.ptr id 0, .str x] h (fun a h' => a = .tup [] ∧ h' = h.set id (oObj (wri (wordMay x) (wordBytes x) s))) := by
  obtain ⟨bad, bs⟩ := s
  simp only [oObj] at ho hl ⊢
  refine acalls_of mixed F_pack_Out_Word_ok (Nat.le_of_ble_eq_true rfl) ?_; simp only [F_pack_Out_Word, wk,if_true,if_false,forall_const,implies_true,ne_eq,eq_self,Nat.reduceEqDiff,Nat.reduceAdd,Nat.reduceMul,Nat.reduceSub,Nat.reduceLeDiff,Nat.reduceLT,Int.reduceEq,Int.reduceLT,Int.reduceLE,Int.reduceAdd,Int.reduceSub,Int.reduceMul,Int.reduceNeg,Int.reduceNe,reduceCtorEq,Int.reduceToNat,↓reduceIte]
  refine PCalls.use (p_wmay x (by omega)) ?_; simp only [wk,if_true,if_false,forall_const,implies_true,ne_eq,eq_self,Nat.reduceEqDiff,Nat.reduceAdd,Nat.reduceMul,Nat.reduceSub,Nat.reduceLeDiff,Nat.reduceLT,Int.reduceEq,Int.reduceLT,Int.reduceLE,Int.reduceAdd,Int.reduceSub,Int.reduceMul,Int.reduceNeg,Int.reduceNe,reduceCtorEq,Int.reduceToNat,↓reduceIte]
  refine ⟨fun hw => ?_, fun hw => ?_⟩
  · refine ACalls.use (a_fail ho) ?_; rintro _ _ ⟨rfl, rfl⟩; simp only [wk,if_true,if_false,forall_const,implies_true,ne_eq,eq_self,Nat.reduceEqDiff,Nat.reduceAdd,Nat.reduceMul,Nat.reduceSub,Nat.reduceLeDiff,Nat.reduceLT,Int.reduceEq,Int.reduceLT,Int.reduceLE,Int.reduceAdd,Int.reduceSub,Int.reduceMul,Int.reduceNeg,Int.reduceNe,reduceCtorEq,Int.reduceToNat,↓reduceIte, hset ho]
    refine ACalls.use (a_well (hset ho _)) ?_; rintro _ _ ⟨rfl, rfl⟩; simp only [wk,if_true,if_false,forall_const,implies_true,ne_eq,eq_self,Nat.reduceEqDiff,Nat.reduceAdd,Nat.reduceMul,Nat.reduceSub,Nat.reduceLeDiff,Nat.reduceLT,Int.reduceEq,Int.reduceLT,Int.reduceLE,Int.reduceAdd,Int.reduceSub,Int.reduceMul,Int.reduceNeg,Int.reduceNe,reduceCtorEq,Int.reduceToNat,↓reduceIte, hset ho]
    rw [hw, wri_not]
  · refine ACalls.use (a_well ho) ?_; rintro _ _ ⟨rfl, rfl⟩; simp only [wk,if_true,if_false,forall_const,implies_true,ne_eq,eq_self,Nat.reduceEqDiff,Nat.reduceAdd,Nat.reduceMul,Nat.reduceSub,Nat.reduceLeDiff,Nat.reduceLT,Int.reduceEq,Int.reduceLT,Int.reduceLE,Int.reduceAdd,Int.reduceSub,Int.reduceMul,Int.reduceNeg,Int.reduceNe,reduceCtorEq,Int.reduceToNat,↓reduceIte, ho]
    refine ⟨fun hb => ?_, fun hb => ?_⟩
    · subst hb
      refine ⟨_, p_wlen x (by omega), ?_⟩; simp only [wk,if_true,if_false,forall_const,implies_true,ne_eq,eq_self,Nat.reduceEqDiff,Nat.reduceAdd,Nat.reduceMul,Nat.reduceSub,Nat.reduceLeDiff,Nat.reduceLT,Int.reduceEq,Int.reduceLT,Int.reduceLE,Int.reduceAdd,Int.reduceSub,Int.reduceMul,Int.reduceNeg,Int.reduceNe,reduceCtorEq,Int.reduceToNat,↓reduceIte]
      simp only [wk,if_true,if_false,forall_const,implies_true,ne_eq,eq_self,Nat.reduceEqDiff,Nat.reduceAdd,Nat.reduceMul,Nat.reduceSub,Nat.reduceLeDiff,Nat.reduceLT,Int.reduceEq,Int.reduceLT,Int.reduceLE,Int.reduceAdd,Int.reduceSub,Int.reduceMul,Int.reduceNeg,Int.reduceNe,reduceCtorEq,Int.reduceToNat,↓reduceIte, hset ho]
      (repeat (refine And.intro (by first | omega | exact inR_of (by omega) (by omega) | exact ⟨by omega, by omega⟩ | exact ⟨by omega, by omega, by omega⟩ | rfl) ?_))
      rw [hw, wri_yes]
      have e1 : IntKind.u8.wrap ((x.size / 2 : Nat) : Int) = ((UInt8.ofNat (x.size / 2)).toNat : Int) := by rw [IntKind.wrap_u8]; simp only [UInt8.toNat_ofNat']; omega
      rw [e1]
      rw [Nat.add_assoc]
      simp [wordBytes, Nat.add_comm]
    · subst hb; rw [wri_bad, hself ho]
theorem setMay_word {l : List ByteArray} (h : setMay l = true) : ∀ x ∈ l, wordMay x = true := (setMay_words h).2
set_option maxHeartbeats 1000000 in
theorem a_oset {h : Hp} {id : Nat} {s : Bool × List UInt8} (l : List ByteArray) (ho : h[id]? = some (oObj s)) (hl : s.2.length ≤ 1000000000) (hx : l.length ≤ 10000) (hs : ∀ x ∈ l, x.size ≤ 10000) :
    ACalls Try.prog 63 [.ptr id 0, .lst .ro l.length (l.map .str)] h (fun a h' => a = .tup [] ∧ h' = h.set id (oObj (wri (setMay l) (setBytes l) s))) := by
  obtain ⟨bad, bs⟩ := s
  simp only [oObj] at ho hl ⊢
  refine acalls_of mixed F_pack_Out_Set_ok (Nat.le_of_ble_eq_true rfl) ?_; simp only [F_pack_Out_Set, wk,if_true,if_false,forall_const,implies_true,ne_eq,eq_self,Nat.reduceEqDiff,Nat.reduceAdd,Nat.reduceMul,Nat.reduceSub,Nat.reduceLeDiff,Nat.reduceLT,Int.reduceEq,Int.reduceLT,Int.reduceLE,Int.reduceAdd,Int.reduceSub,Int.reduceMul,Int.reduceNeg,Int.reduceNe,reduceCtorEq,Int.reduceToNat,↓reduceIte]
  refine PCalls.use (p_smay l (by omega) (fun x h => by have := hs x h; omega)) ?_; simp only [wk,if_true,if_false,forall_const,implies_true,ne_eq,eq_self,Nat.reduceEqDiff,Nat.reduceAdd,Nat.reduceMul,Nat.reduceSub,Nat.reduceLeDiff,Nat.reduceLT,Int.reduceEq,Int.reduceLT,Int.reduceLE,Int.reduceAdd,Int.reduceSub,Int.reduceMul,Int.reduceNeg,Int.reduceNe,reduceCtorEq,Int.reduceToNat,↓reduceIte]
  refine ⟨fun hw => ?_, fun hw => ?_⟩
  · refine ACalls.use (a_fail ho) ?_; rintro _ _ ⟨rfl, rfl⟩; simp only [wk,if_true,if_false,forall_const,implies_true,ne_eq,eq_self,Nat.reduceEqDiff,Nat.reduceAdd,Nat.reduceMul,Nat.reduceSub,Nat.reduceLeDiff,Nat.reduceLT,Int.reduceEq,Int.reduceLT,Int.reduceLE,Int.reduceAdd,Int.reduceSub,Int.reduceMul,Int.reduceNeg,Int.reduceNe,reduceCtorEq,Int.reduceToNat,↓reduceIte, hset ho]
    refine ACalls.use (a_well (hset ho _)) ?_; rintro _ _ ⟨rfl, rfl⟩; simp only [wk,if_true,if_false,forall_const,implies_true,ne_eq,eq_self,Nat.reduceEqDiff,Nat.reduceAdd,Nat.reduceMul,Nat.reduceSub,Nat.reduceLeDiff,Nat.reduceLT,Int.reduceEq,Int.reduceLT,Int.reduceLE,Int.reduceAdd,Int.reduceSub,Int.reduceMul,Int.reduceNeg,Int.reduceNe,reduceCtorEq,Int.reduceToNat,↓reduceIte, hset ho]
    rw [hw, wri_not]
  · refine ACalls.use (a_well ho) ?_; rintro _ _ ⟨rfl, rfl⟩; simp only [wk,if_true,if_false,forall_const,implies_true,ne_eq,eq_self,Nat.reduceEqDiff,Nat.reduceAdd,Nat.reduceMul,Nat.reduceSub,Nat.reduceLeDiff,Nat.reduceLT,Int.reduceEq,Int.reduceLT,Int.reduceLE,Int.reduceAdd,Int.reduceSub,Int.reduceMul,Int.reduceNeg,Int.reduceNe,reduceCtorEq,Int.reduceToNat,↓reduceIte, ho]
    refine ⟨fun hb => ?_, fun hb => ?_⟩
    · subst hb; rw [wri_bad, hself ho]
    · subst hb
      simp only [wk,if_true,if_false,forall_const,implies_true,ne_eq,eq_self,Nat.reduceEqDiff,Nat.reduceAdd,Nat.reduceMul,Nat.reduceSub,Nat.reduceLeDiff,Nat.reduceLT,Int.reduceEq,Int.reduceLT,Int.reduceLE,Int.reduceAdd,Int.reduceSub,Int.reduceMul,Int.reduceNeg,Int.reduceNe,reduceCtorEq,Int.reduceToNat,↓reduceIte, hset ho]
      (repeat (refine And.intro (by first | omega | exact inR_of (by omega) (by omega) | exact ⟨by omega, by omega⟩ | exact ⟨by omega, by omega, by omega⟩ | rfl) ?_))
      have e1 : IntKind.u8.wrap ((l.length : Nat) : Int) = ((UInt8.ofNat l.length).toNat : Int) := by rw [IntKind.wrap_u8]; simp only [UInt8.toNat_ofNat']; omega
      rw [e1]
      have hlen : ∀ i, ((l.take i).flatMap wordBytes).length ≤ 20000 * i := by
        intro i
        induction i with
        | zero => simp
        | succ i ih =>
          by_cases h : i < l.length
          · rw [List.take_succ_eq_append_getElem h, List.flatMap_append, List.length_append]
            have := hs l[i] (List.getElem_mem h)
            have e : l[i].data.toList.length = l[i].size := by simp
            simp only [List.flatMap_cons, List.flatMap_nil, List.append_nil, wordBytes, List.length_cons, e]; omega
          · rw [List.take_of_length_le (by omega)] at ih ⊢; omega
      refine W_loop (fun k fr h' => ∃ i : Nat, i ≤ l.length ∧ k = l.length - i ∧ fr = [(0, .ptr id 0), (30, .lst .ro l.length (l.map .str)), (31, .int .i64 l.length), (32, .int .i64 i)] ∧ h' = h.set id (oObj (false, bs ++ UInt8.ofNat l.length :: (l.take i).flatMap wordBytes))) l.length ⟨0, by omega, by omega, rfl, by simp [oObj]⟩ ?_
      rintro k fr h' ⟨i, hi, rfl, rfl, rfl⟩
      simp only [wk,if_true,if_false,forall_const,implies_true,ne_eq,eq_self,Nat.reduceEqDiff,Nat.reduceAdd,Nat.reduceMul,Nat.reduceSub,Nat.reduceLeDiff,Nat.reduceLT,Int.reduceEq,Int.reduceLT,Int.reduceLE,Int.reduceAdd,Int.reduceSub,Int.reduceMul,Int.reduceNeg,Int.reduceNe,reduceCtorEq,Int.reduceToNat,↓reduceIte]
      refine ⟨fun hlt => ?_, fun hge => ?_⟩
      · have hil : i < l.length := by omega
        refine ⟨⟨by omega, hlt⟩, ?_⟩
        rw [show (i : Int).toNat = i by omega, drop_str hil]
        simp only [wk,if_true,if_false,forall_const,implies_true,ne_eq,eq_self,Nat.reduceEqDiff,Nat.reduceAdd,Nat.reduceMul,Nat.reduceSub,Nat.reduceLeDiff,Nat.reduceLT,Int.reduceEq,Int.reduceLT,Int.reduceLE,Int.reduceAdd,Int.reduceSub,Int.reduceMul,Int.reduceNeg,Int.reduceNe,reduceCtorEq,Int.reduceToNat,↓reduceIte]
        have h1 := hlen i
        have h2 := hs l[i] (List.getElem_mem hil)
        refine ACalls.use (a_oword l[i] (hset ho _) (by simp only [List.length_append, List.length_cons]; omega) (by omega)) ?_; rintro _ _ ⟨rfl, rfl⟩; simp only [wk,if_true,if_false,forall_const,implies_true,ne_eq,eq_self,Nat.reduceEqDiff,Nat.reduceAdd,Nat.reduceMul,Nat.reduceSub,Nat.reduceLeDiff,Nat.reduceLT,Int.reduceEq,Int.reduceLT,Int.reduceLE,Int.reduceAdd,Int.reduceSub,Int.reduceMul,Int.reduceNeg,Int.reduceNe,reduceCtorEq,Int.reduceToNat,↓reduceIte]
        refine ⟨inR_of (by omega) (by omega), l.length - (i + 1), by omega, i + 1, by omega, rfl, rfl, ?_⟩
        rw [setMay_word hw _ (List.getElem_mem hil), wri_yes, List.take_succ_eq_append_getElem hil, List.flatMap_append]
        simp
      · have : i = l.length := by omega
        subst this
        rw [hw, wri_yes, List.take_length, setBytes]
theorem words_len (l : List ByteArray) (hs : ∀ x ∈ l, x.size ≤ 1000) : (l.flatMap wordBytes).length ≤ 1001 * l.length := by
  induction l with
  | nil => simp
  | cons x l ih =>
    have h1 := ih (fun y hy => hs y (List.mem_cons_of_mem _ hy))
    have h2 := hs x List.mem_cons_self
    rw [List.flatMap_cons, List.length_append, wordBytes, List.length_cons, ba_len, List.length_cons]; omega
theorem setBytes_len (l : List ByteArray) (hl : l.length ≤ 1000) (hs : ∀ x ∈ l, x.size ≤ 1000) : (setBytes l).length ≤ 1002000 := by
  have := words_len l hs
  rw [setBytes, List.length_cons]; omega
/-- what a writer tells -/
def told (s : Bool × List UInt8) : AV := .tup [.str (if s.1 then ⟨#[]⟩ else ⟨s.2.toArray⟩), .int .i64 (eI s.1)]
theorem a_odone {h : Hp} {id : Nat} {s : Bool × List UInt8} (ho : h[id]? = some (oObj s)) :
    ACalls Try.prog 64 [.ptr id 0] h (fun a h' => a = told s ∧ h = h') := by
  obtain ⟨bad, bs⟩ := s
  simp only [oObj] at ho ⊢
  refine acalls_of mixed F_pack_Out_Done_ok (Nat.le_of_ble_eq_true rfl) ?_; simp only [F_pack_Out_Done, wk,if_true,if_false,forall_const,implies_true,ne_eq,eq_self,Nat.reduceEqDiff,Nat.reduceAdd,Nat.reduceMul,Nat.reduceSub,Nat.reduceLeDiff,Nat.reduceLT,Int.reduceEq,Int.reduceLT,Int.reduceLE,Int.reduceAdd,Int.reduceSub,Int.reduceMul,Int.reduceNeg,Int.reduceNe,reduceCtorEq,Int.reduceToNat,↓reduceIte]
  refine ACalls.use (a_well ho) ?_; rintro _ _ ⟨rfl, rfl⟩; simp only [wk,if_true,if_false,forall_const,implies_true,ne_eq,eq_self,Nat.reduceEqDiff,Nat.reduceAdd,Nat.reduceMul,Nat.reduceSub,Nat.reduceLeDiff,Nat.reduceLT,Int.reduceEq,Int.reduceLT,Int.reduceLE,Int.reduceAdd,Int.reduceSub,Int.reduceMul,Int.reduceNeg,Int.reduceNe,reduceCtorEq,Int.reduceToNat,↓reduceIte, ho]
  cases bad with
  | true => exact ⟨fun _ => rfl, fun hb => (nomatch hb)⟩
  | false => exact ⟨fun hb => (nomatch hb), fun _ => ⟨bs, rfl, rfl, rfl⟩⟩

theorem str_app' (a : List UInt8) (x : ByteArray) : (⟨a.toArray⟩ ++ x : ByteArray) = ⟨(a ++ x.data.toList).toArray⟩ := by
  apply ByteArray.ext; apply Array.ext'; simp
theorem ba_size (l : List UInt8) : (⟨l.toArray⟩ : ByteArray).size = l.length := by show l.toArray.size = _; simp
end Go.Proofs.Ytaepikkaogfhbaa

/- What pack's In does, over the abstract code. -/
namespace Go.Proofs.Ytaepikkaogfhbaa
set_option linter.unusedSimpArgs false
set_option linter.unusedVariables false
open Go.RowKit Go.Lib

/-- what is read: is it wrong, and the place -/
abbrev iObj (S : ByteArray) (s : Bool × Nat) : Option (Bool × List AV) := some (false, [.int .i64 (eI s.1), .str S, .int .i64 s.2])
abbrev jObj (S : ByteArray) (s : Bool × Nat) : Option (Bool × List AV) := some (false, [.str S, .int .i64 s.2, .bool s.1])
theorem wrap_small {z : Int} (h0 : 0 ≤ z) (h1 : z ≤ 4611686018427387904) : IntKind.i64.wrap z = z := by
  rw [IntKind.wrap_i64]; omega
/-- a number and its length, as told -/
def nums : Option (Nat × Nat) → AV
  | some (n, m) => .tup [.int .i64 n, .int .i64 m]
  | none => .tup [.int .i64 0, .int .i64 0]
theorem and_127 (c : Nat) (h : c < 256) : bitV .and .u8 (c : Int) 127 = ((c % 128 : Nat) : Int) := by
  show bits .and .u8 _ ((127 : Nat) : Int) = _
  rw [u8_and_nat _ _ h (by omega), nat_mask7]
theorem shl_7k (c k : Nat) (hk : k ≤ 8) (hc : c < 128) : IntKind.u64.wrap (IntKind.u64.wrap (c : Int) * 2 ^ (min (7 * (k : Int)).toNat IntKind.u64.bits)) = ((c * 128 ^ k : Nat) : Int) := by
  have e0 : min (7 * (k : Int)).toNat IntKind.u64.bits = 7 * k := by rw [show IntKind.u64.bits = 64 by decide]; omega
  have e1 : IntKind.u64.wrap (c : Int) = c := by rw [IntKind.wrap_u64]; omega
  have e2 : (2 : Int) ^ (7 * k) = ((128 ^ k : Nat) : Int) := by rw [show (128 : Nat) = 2 ^ 7 by rfl, ← Nat.pow_mul]; simp
  have e3 : c * 128 ^ k < 18446744073709551616 := by
    have h1 : 128 ^ k ≤ 128 ^ 8 := Nat.pow_le_pow_right (by omega) hk
    have h2 : c * 128 ^ k ≤ 127 * 128 ^ 8 := Nat.mul_le_mul (by omega) h1
    omega
  rw [e0, e1, e2, IntKind.wrap_u64]
  rw [← Int.natCast_mul]; omega
theorem or_acc (a c k : Nat) (hk : k ≤ 8) (hc : c < 128) (ha : a < 128 ^ k) : bitV .or .u64 (a : Int) ((c * 128 ^ k : Nat) : Int) = ((a + c * 128 ^ k : Nat) : Int) := by
  have h1 : 128 ^ k ≤ 128 ^ 8 := Nat.pow_le_pow_right (by omega) hk
  have h2 : c * 128 ^ k ≤ 127 * 128 ^ 8 := Nat.mul_le_mul (by omega) h1
  have e : 128 ^ k = 2 ^ (7 * k) := by rw [Nat.pow_mul]
  show bits .or .u64 _ _ = _
  rw [u64_or_nat _ _ (by omega) (by omega), Nat.or_comm, nat_join (7 * k) _ _ (by rw [e]; exact Nat.mul_mod_left _ _) (by rw [← e]; exact ha), Nat.add_comm]
set_option maxRecDepth 100000 in
set_option maxHeartbeats 1000000 in
theorem p_number (s : ByteArray) (hs : s.size ≤ 1000000000000) : PCalls Try.prog 102 [.str s] (nums (rdNum s.data.toList)) := by
  refine pcalls_of rfl (by cases rdNum s.data.toList <;> rfl) (acalls_of mixed F_pack_number_ok (Nat.le_of_ble_eq_true rfl) ?_); simp only [F_pack_number, wk,if_true,if_false,forall_const,implies_true,ne_eq,eq_self,Nat.reduceEqDiff,Nat.reduceAdd,Nat.reduceMul,Nat.reduceSub,Nat.reduceLeDiff,Nat.reduceLT,Int.reduceEq,Int.reduceLT,Int.reduceLE,Int.reduceAdd,Int.reduceSub,Int.reduceMul,Int.reduceNeg,Int.reduceNe,reduceCtorEq,Int.reduceToNat,↓reduceIte]
  refine W_loop (fun n fr h => ∃ (k acc : Nat), k ≤ 9 ∧ n = 9 - k ∧ k ≤ s.size ∧ acc < 128 ^ k ∧ fr = [(0, .str s), (4, .int .u64 acc), (5, .int .i64 k)] ∧ rdNum s.data.toList = rdNumAt k acc (s.data.toList.drop k)) 9 ⟨0, 0, by omega, rfl, by omega, by simp, rfl, rfl⟩ ?_
  rintro n fr h ⟨k, acc, hk9, rfl, hks, hacc, rfl, hrd⟩
  simp only [wk,if_true,if_false,forall_const,implies_true,ne_eq,eq_self,Nat.reduceEqDiff,Nat.reduceAdd,Nat.reduceMul,Nat.reduceSub,Nat.reduceLeDiff,Nat.reduceLT,Int.reduceEq,Int.reduceLT,Int.reduceLE,Int.reduceAdd,Int.reduceSub,Int.reduceMul,Int.reduceNeg,Int.reduceNe,reduceCtorEq,Int.reduceToNat,↓reduceIte]
  refine ⟨fun hlt => ⟨fun h9 => ?_, fun h9 => ?_⟩, fun hge => ?_⟩
  · have hkl : k < s.size := by omega
    have hkd : k < s.data.toList.length := by simpa using hkl
    have hdrop : s.data.toList.drop k = s[k] :: s.data.toList.drop (k + 1) := by rw [List.drop_eq_getElem_cons hkd]; rfl
    have hb := s[k].toNat_lt
    (repeat (refine And.intro (by first | omega | exact inR_of (by omega) (by omega) | exact ⟨by omega, by omega⟩ | exact ⟨by omega, by omega, by omega⟩ | rfl) ?_))
    rw [show (k : Int).toNat = k by omega, byteAt_eq hkl, and_127 _ hb, shl_7k _ k (by omega) (by omega), or_acc _ _ k (by omega) (by omega) hacc]
    rw [hdrop, rdNumAt, if_neg (by omega)] at hrd
    have hp1 : 128 ^ k ≤ 128 ^ 8 := Nat.pow_le_pow_right (by omega) (by omega)
    have hp2 : s[k].toNat % 128 * 128 ^ k ≤ 127 * 128 ^ 8 := Nat.mul_le_mul (by omega) hp1
    have hp3 : acc + s[k].toNat % 128 * 128 ^ k < 128 ^ (k + 1) := by
      have : s[k].toNat % 128 * 128 ^ k ≤ 127 * 128 ^ k := Nat.mul_le_mul (by omega) (Nat.le_refl _)
      rw [Nat.pow_succ]; omega
    have hsm : ¬ 128 ≤ s[k].toNat → s[k].toNat % 128 = s[k].toNat := fun h => Nat.mod_eq_of_lt (by omega)
    have hA : ¬ 128 ≤ s[k].toNat → ¬ (0 < k ∧ s[k].toNat = 0) → (4611686018427387904 : Int) < ((acc + s[k].toNat % 128 * 128 ^ k : Nat) : Int) → AV.tup [.int .i64 0, .int .i64 0] = nums (rdNum s.data.toList) := by
      intro h1 h2 h3
      rw [hsm h1] at h3
      rw [hrd, if_neg h2, if_neg h1, if_pos (by omega)]; rfl
    have hB : ¬ 128 ≤ s[k].toNat → ¬ (0 < k ∧ s[k].toNat = 0) → ¬ (4611686018427387904 : Int) < ((acc + s[k].toNat % 128 * 128 ^ k : Nat) : Int) → inR ((k : Int) + 1) ∧ AV.tup [.int .i64 (IntKind.i64.wrap ((acc + s[k].toNat % 128 * 128 ^ k : Nat) : Int)), .int .i64 ((k : Int) + 1)] = nums (rdNum s.data.toList) := by
      intro h1 h2 h3
      rw [hsm h1] at h3 ⊢
      refine ⟨inR_of (by omega) (by omega), ?_⟩
      rw [hrd, if_neg h2, if_neg h1, if_neg (by omega), wrap_small (by omega) (by omega)]
      rfl
    refine ⟨fun hc => ⟨inR_of (by omega) (by omega), 9 - (k + 1), by omega, k + 1, _, by omega, rfl, by omega, hp3, rfl, ?_⟩, fun hc => ⟨fun h0 => ⟨fun hz => ⟨hA (by omega) (by omega), hB (by omega) (by omega)⟩, fun hz => ?_⟩, fun h0 => ⟨hA (by omega) (by omega), hB (by omega) (by omega)⟩⟩⟩
    · rw [hrd, if_neg (by omega), if_pos (by omega)]
    · rw [hrd, if_pos (by omega)]; rfl
  · rw [hrd, rdNumAt_nine (by omega)]; rfl
  · rw [hrd, List.drop_eq_nil_of_le (by simp; omega)]; rfl
theorem a_from {h : Hp} (S : ByteArray) : ACalls Try.prog 67 [.str S] h (fun a h' => a = .ptr h.length 0 ∧ h' = h ++ [iObj S (false, 0)]) := by
  refine acalls_of mixed F_pack_From_ok (Nat.le_of_ble_eq_true rfl) ?_; simp only [F_pack_From, wk,if_true,if_false,forall_const,implies_true,ne_eq,eq_self,Nat.reduceEqDiff,Nat.reduceAdd,Nat.reduceMul,Nat.reduceSub,Nat.reduceLeDiff,Nat.reduceLT,Int.reduceEq,Int.reduceLT,Int.reduceLE,Int.reduceAdd,Int.reduceSub,Int.reduceMul,Int.reduceNeg,Int.reduceNe,reduceCtorEq,Int.reduceToNat,↓reduceIte]
  rfl
theorem a_left {h : Hp} {id : Nat} {S : ByteArray} {s : Bool × Nat} (ho : h[id]? = some (iObj S s)) (hs : S.size ≤ 1000000000000) (hp : s.2 ≤ S.size) :
    ACalls Try.prog 104 [.ptr id 0] h (fun a h' => a = .int .i64 (if s.1 then 0 else ((S.size - s.2 : Nat) : Int)) ∧ h = h') := by
  obtain ⟨bad, p⟩ := s
  simp only [iObj] at ho hp ⊢
  refine acalls_of mixed F_pack_In_Left_ok (Nat.le_of_ble_eq_true rfl) ?_; simp only [F_pack_In_Left, wk,if_true,if_false,forall_const,implies_true,ne_eq,eq_self,Nat.reduceEqDiff,Nat.reduceAdd,Nat.reduceMul,Nat.reduceSub,Nat.reduceLeDiff,Nat.reduceLT,Int.reduceEq,Int.reduceLT,Int.reduceLE,Int.reduceAdd,Int.reduceSub,Int.reduceMul,Int.reduceNeg,Int.reduceNe,reduceCtorEq,Int.reduceToNat,↓reduceIte]
  refine ACalls.use (a_well ho) ?_; rintro _ _ ⟨rfl, rfl⟩; simp only [wk,if_true,if_false,forall_const,implies_true,ne_eq,eq_self,Nat.reduceEqDiff,Nat.reduceAdd,Nat.reduceMul,Nat.reduceSub,Nat.reduceLeDiff,Nat.reduceLT,Int.reduceEq,Int.reduceLT,Int.reduceLE,Int.reduceAdd,Int.reduceSub,Int.reduceMul,Int.reduceNeg,Int.reduceNe,reduceCtorEq,Int.reduceToNat,↓reduceIte, ho]
  refine ⟨fun hb => ?_, fun hb => ?_⟩ <;> subst hb
  · rfl
  · exact ⟨inR_of (by omega) (by omega), int_eq (by simp; omega)⟩
theorem a_idone {h : Hp} {id : Nat} {S : ByteArray} {s : Bool × Nat} (ho : h[id]? = some (iObj S s)) (hs : S.size ≤ 1000000000000) (hp : s.2 ≤ S.size) :
    ACalls Try.prog 70 [.ptr id 0] h (fun a h' => a = .int .i64 (eI (s.1 || decide (s.2 < S.size))) ∧ h' = h.set id (iObj S (s.1 || decide (s.2 < S.size), s.2))) := by
  obtain ⟨bad, p⟩ := s
  simp only [iObj] at ho hp ⊢
  refine acalls_of mixed F_pack_In_Done_ok (Nat.le_of_ble_eq_true rfl) ?_; simp only [F_pack_In_Done, wk,if_true,if_false,forall_const,implies_true,ne_eq,eq_self,Nat.reduceEqDiff,Nat.reduceAdd,Nat.reduceMul,Nat.reduceSub,Nat.reduceLeDiff,Nat.reduceLT,Int.reduceEq,Int.reduceLT,Int.reduceLE,Int.reduceAdd,Int.reduceSub,Int.reduceMul,Int.reduceNeg,Int.reduceNe,reduceCtorEq,Int.reduceToNat,↓reduceIte]
  refine ACalls.use (a_left (s := (bad, p)) ho hs hp) ?_; rintro _ _ ⟨rfl, rfl⟩; simp only [wk,if_true,if_false,forall_const,implies_true,ne_eq,eq_self,Nat.reduceEqDiff,Nat.reduceAdd,Nat.reduceMul,Nat.reduceSub,Nat.reduceLeDiff,Nat.reduceLT,Int.reduceEq,Int.reduceLT,Int.reduceLE,Int.reduceAdd,Int.reduceSub,Int.reduceMul,Int.reduceNeg,Int.reduceNe,reduceCtorEq,Int.reduceToNat,↓reduceIte, ho]
  have hself' := hself ho
  cases bad with
  | true => exact ⟨fun h => absurd h (by simp), fun _ => ⟨rfl, hself'.symm⟩⟩
  | false =>
    refine ⟨fun hl => ?_, fun hl => ?_⟩
    · have hlt : p < S.size := by simp at hl; omega
      refine ACalls.use (a_fail ho) ?_; rintro _ _ ⟨rfl, rfl⟩; simp only [wk,if_true,if_false,forall_const,implies_true,ne_eq,eq_self,Nat.reduceEqDiff,Nat.reduceAdd,Nat.reduceMul,Nat.reduceSub,Nat.reduceLeDiff,Nat.reduceLT,Int.reduceEq,Int.reduceLT,Int.reduceLE,Int.reduceAdd,Int.reduceSub,Int.reduceMul,Int.reduceNeg,Int.reduceNe,reduceCtorEq,Int.reduceToNat,↓reduceIte, hset ho]
      rw [decide_eq_true hlt]; exact ⟨rfl, rfl⟩
    · have hlt : ¬ p < S.size := by simp at hl; omega
      rw [decide_eq_false hlt]; exact ⟨rfl, hself'.symm⟩
/-- what reading leaves -/
def stO {α : Type} (r : Option (α × Nat)) (q : Nat) : Bool × Nat :=
  match r with
  | some (_, p) => (false, p)
  | none => (true, q)
def vI : Option (Nat × Nat) → AV
  | some (n, _) => .int .i64 n
  | none => .int .i64 0
def vS : Option (ByteArray × Nat) → AV
  | some (s, _) => .str s
  | none => .str ⟨#[]⟩
def rNum (S : ByteArray) (most : Int) (p : Nat) : Option (Nat × Nat) :=
  match rdNum (S.data.toList.drop p) with
  | some (n, m) => if (n : Int) ≤ most then some (n, p + m) else none
  | none => none
theorem extract_end (S : ByteArray) (p : Nat) : (S.extract p S.size).data.toList = S.data.toList.drop p := by
  simp only [ByteArray.data_extract, Array.toList_extract, List.extract_eq_take_drop]
  rw [List.take_of_length_le (by simp)]
theorem rNum_le {S : ByteArray} {most : Int} {p n q : Nat} (h : rNum S most p = some (n, q)) (hp : p ≤ S.size) : p < q ∧ q ≤ S.size ∧ n ≤ 4611686018427387904 ∧ (n : Int) ≤ most := by
  unfold rNum at h
  split at h
  · next n' m hr =>
    have := rdNumAt_size _ _ _ _ _ hr
    simp at this
    split at h
    · simp only [Option.some.injEq, Prod.mk.injEq] at h; omega
    · cases h
  · cases h
set_option maxHeartbeats 1000000 in
theorem a_inum {h : Hp} {id : Nat} {S : ByteArray} {s : Bool × Nat} (most : Int) (ho : h[id]? = some (iObj S s)) (hs : S.size ≤ 1000000000000) (hp : s.2 ≤ S.size) :
    ACalls Try.prog 68 [.ptr id 0, .int .i64 most] h (fun a h' => a = vI (if s.1 then none else rNum S most s.2) ∧ h' = h.set id (iObj S (stO (if s.1 then none else rNum S most s.2) s.2))) := by
  obtain ⟨bad, p⟩ := s
  simp only [iObj] at ho hp ⊢
  refine acalls_of mixed F_pack_In_Num_ok (Nat.le_of_ble_eq_true rfl) ?_; simp only [F_pack_In_Num, wk,if_true,if_false,forall_const,implies_true,ne_eq,eq_self,Nat.reduceEqDiff,Nat.reduceAdd,Nat.reduceMul,Nat.reduceSub,Nat.reduceLeDiff,Nat.reduceLT,Int.reduceEq,Int.reduceLT,Int.reduceLE,Int.reduceAdd,Int.reduceSub,Int.reduceMul,Int.reduceNeg,Int.reduceNe,reduceCtorEq,Int.reduceToNat,↓reduceIte]
  refine ACalls.use (a_well ho) ?_; rintro _ _ ⟨rfl, rfl⟩; simp only [wk,if_true,if_false,forall_const,implies_true,ne_eq,eq_self,Nat.reduceEqDiff,Nat.reduceAdd,Nat.reduceMul,Nat.reduceSub,Nat.reduceLeDiff,Nat.reduceLT,Int.reduceEq,Int.reduceLT,Int.reduceLE,Int.reduceAdd,Int.reduceSub,Int.reduceMul,Int.reduceNeg,Int.reduceNe,reduceCtorEq,Int.reduceToNat,↓reduceIte, ho]
  refine ⟨fun hb => ?_, fun hb => ?_⟩ <;> subst hb
  · exact ⟨rfl, (hself ho).symm⟩
  refine ⟨⟨by omega, by omega, by omega⟩, ?_⟩
  rw [show (p : Int).toNat = p by omega, show (S.size : Int).toNat = S.size by omega]
  refine ⟨_, p_number (S.extract p S.size) (by simp; omega), ?_⟩
  rw [extract_end]
  simp only [rNum, Bool.false_eq_true, if_false]
  cases hr : rdNum (S.data.toList.drop p) with
  | none =>
    simp only [wk,if_true,if_false,forall_const,implies_true,ne_eq,eq_self,Nat.reduceEqDiff,Nat.reduceAdd,Nat.reduceMul,Nat.reduceSub,Nat.reduceLeDiff,Nat.reduceLT,Int.reduceEq,Int.reduceLT,Int.reduceLE,Int.reduceAdd,Int.reduceSub,Int.reduceMul,Int.reduceNeg,Int.reduceNe,reduceCtorEq,Int.reduceToNat,↓reduceIte, nums]
    refine ACalls.use (a_fail ho) ?_; rintro _ _ ⟨rfl, rfl⟩; simp only [wk,if_true,if_false,forall_const,implies_true,ne_eq,eq_self,Nat.reduceEqDiff,Nat.reduceAdd,Nat.reduceMul,Nat.reduceSub,Nat.reduceLeDiff,Nat.reduceLT,Int.reduceEq,Int.reduceLT,Int.reduceLE,Int.reduceAdd,Int.reduceSub,Int.reduceMul,Int.reduceNeg,Int.reduceNe,reduceCtorEq,Int.reduceToNat,↓reduceIte, hset ho]
    exact ⟨rfl, rfl⟩
  | some nm =>
    obtain ⟨n, m⟩ := nm
    have hsz := rdNumAt_size _ _ _ _ _ hr
    simp at hsz
    simp only [wk,if_true,if_false,forall_const,implies_true,ne_eq,eq_self,Nat.reduceEqDiff,Nat.reduceAdd,Nat.reduceMul,Nat.reduceSub,Nat.reduceLeDiff,Nat.reduceLT,Int.reduceEq,Int.reduceLT,Int.reduceLE,Int.reduceAdd,Int.reduceSub,Int.reduceMul,Int.reduceNeg,Int.reduceNe,reduceCtorEq,Int.reduceToNat,↓reduceIte, nums]
    refine ⟨fun hm => ⟨fun hgt => ?_, fun hle => ?_⟩, fun hm => by omega⟩
    · refine ACalls.use (a_fail ho) ?_; rintro _ _ ⟨rfl, rfl⟩; simp only [wk,if_true,if_false,forall_const,implies_true,ne_eq,eq_self,Nat.reduceEqDiff,Nat.reduceAdd,Nat.reduceMul,Nat.reduceSub,Nat.reduceLeDiff,Nat.reduceLT,Int.reduceEq,Int.reduceLT,Int.reduceLE,Int.reduceAdd,Int.reduceSub,Int.reduceMul,Int.reduceNeg,Int.reduceNe,reduceCtorEq,Int.reduceToNat,↓reduceIte, hset ho]
      rw [if_neg (by omega)]; exact ⟨rfl, rfl⟩
    · simp only [wk,if_true,if_false,forall_const,implies_true,ne_eq,eq_self,Nat.reduceEqDiff,Nat.reduceAdd,Nat.reduceMul,Nat.reduceSub,Nat.reduceLeDiff,Nat.reduceLT,Int.reduceEq,Int.reduceLT,Int.reduceLE,Int.reduceAdd,Int.reduceSub,Int.reduceMul,Int.reduceNeg,Int.reduceNe,reduceCtorEq,Int.reduceToNat,↓reduceIte, ho]
      (repeat (refine And.intro (by first | omega | exact inR_of (by omega) (by omega) | exact ⟨by omega, by omega⟩ | exact ⟨by omega, by omega, by omega⟩ | rfl) ?_))
      rw [if_pos (by omega)]
      exact ⟨rfl, rfl⟩
set_option maxHeartbeats 1000000 in
theorem a_take {h : Hp} {id : Nat} {S : ByteArray} {s : Bool × Nat} (n : Nat) (ho : h[id]? = some (iObj S s)) (hs : S.size ≤ 1000000000000) (hp : s.2 ≤ S.size) (hn : n ≤ 4611686018427387904) :
    ACalls Try.prog 114 [.ptr id 0, .int .i64 n] h (fun a h' => a = vS (if s.1 ∨ S.size < s.2 + n then none else some (S.extract s.2 (s.2 + n), s.2 + n)) ∧ h' = h.set id (iObj S (stO (if s.1 ∨ S.size < s.2 + n then none else some (S.extract s.2 (s.2 + n), s.2 + n)) s.2))) := by
  obtain ⟨bad, p⟩ := s
  simp only [iObj] at ho hp ⊢
  refine acalls_of mixed F_pack_In_take_ok (Nat.le_of_ble_eq_true rfl) ?_; simp only [F_pack_In_take, wk,if_true,if_false,forall_const,implies_true,ne_eq,eq_self,Nat.reduceEqDiff,Nat.reduceAdd,Nat.reduceMul,Nat.reduceSub,Nat.reduceLeDiff,Nat.reduceLT,Int.reduceEq,Int.reduceLT,Int.reduceLE,Int.reduceAdd,Int.reduceSub,Int.reduceMul,Int.reduceNeg,Int.reduceNe,reduceCtorEq,Int.reduceToNat,↓reduceIte]
  refine ⟨_, _, (a_well ho).mono (fun _ _ h => ⟨h.1, h.2.symm⟩), SealEq.refl h, ?_⟩
  simp only [wk,if_true,if_false,forall_const,implies_true,ne_eq,eq_self,Nat.reduceEqDiff,Nat.reduceAdd,Nat.reduceMul,Nat.reduceSub,Nat.reduceLeDiff,Nat.reduceLT,Int.reduceEq,Int.reduceLT,Int.reduceLE,Int.reduceAdd,Int.reduceSub,Int.reduceMul,Int.reduceNeg,Int.reduceNe,reduceCtorEq,Int.reduceToNat,↓reduceIte, ho]
  refine ⟨fun hb => ⟨inR_of (by omega) (by omega), fun hgt => ?_, fun hle => ?_⟩, fun hb => ?_⟩ <;> subst hb
  · refine ACalls.use (a_fail ho) ?_; rintro _ _ ⟨rfl, rfl⟩; simp only [wk,if_true,if_false,forall_const,implies_true,ne_eq,eq_self,Nat.reduceEqDiff,Nat.reduceAdd,Nat.reduceMul,Nat.reduceSub,Nat.reduceLeDiff,Nat.reduceLT,Int.reduceEq,Int.reduceLT,Int.reduceLE,Int.reduceAdd,Int.reduceSub,Int.reduceMul,Int.reduceNeg,Int.reduceNe,reduceCtorEq,Int.reduceToNat,↓reduceIte, hset ho]
    refine ACalls.use (a_well (hset ho _)) ?_; rintro _ _ ⟨rfl, rfl⟩; simp only [wk,if_true,if_false,forall_const,implies_true,ne_eq,eq_self,Nat.reduceEqDiff,Nat.reduceAdd,Nat.reduceMul,Nat.reduceSub,Nat.reduceLeDiff,Nat.reduceLT,Int.reduceEq,Int.reduceLT,Int.reduceLE,Int.reduceAdd,Int.reduceSub,Int.reduceMul,Int.reduceNeg,Int.reduceNe,reduceCtorEq,Int.reduceToNat,↓reduceIte, hset ho]
    rw [if_pos (Or.inr (by omega))]; exact ⟨rfl, rfl⟩
  · refine ACalls.use (a_well ho) ?_; rintro _ _ ⟨rfl, rfl⟩; simp only [wk,if_true,if_false,forall_const,implies_true,ne_eq,eq_self,Nat.reduceEqDiff,Nat.reduceAdd,Nat.reduceMul,Nat.reduceSub,Nat.reduceLeDiff,Nat.reduceLT,Int.reduceEq,Int.reduceLT,Int.reduceLE,Int.reduceAdd,Int.reduceSub,Int.reduceMul,Int.reduceNeg,Int.reduceNe,reduceCtorEq,Int.reduceToNat,↓reduceIte, ho]
    (repeat (refine And.intro (by first | omega | exact inR_of (by omega) (by omega) | exact ⟨by omega, by omega⟩ | exact ⟨by omega, by omega, by omega⟩ | rfl) ?_))
    rw [if_neg (by simp; omega), show (p : Int).toNat = p by omega, show ((p : Int) + n).toNat = p + n by omega]
    exact ⟨rfl, rfl⟩
  · refine ACalls.use (a_well ho) ?_; rintro _ _ ⟨rfl, rfl⟩; simp only [wk,if_true,if_false,forall_const,implies_true,ne_eq,eq_self,Nat.reduceEqDiff,Nat.reduceAdd,Nat.reduceMul,Nat.reduceSub,Nat.reduceLeDiff,Nat.reduceLT,Int.reduceEq,Int.reduceLT,Int.reduceLE,Int.reduceAdd,Int.reduceSub,Int.reduceMul,Int.reduceNeg,Int.reduceNe,reduceCtorEq,Int.reduceToNat,↓reduceIte, ho]
    exact ⟨rfl, (hself ho).symm⟩
end Go.Proofs.Ytaepikkaogfhbaa

/- What pack's In does: counts, texts, words, sets. -/
-- tight
namespace Go.Proofs.Ytaepikkaogfhbaa
set_option linter.unusedSimpArgs false
set_option linter.unusedVariables false
open Go.RowKit Go.Lib

def rTake (S : ByteArray) (n p : Nat) : Option (ByteArray × Nat) := if S.size < p + n then none else some (S.extract p (p + n), p + n)
theorem a_take' {h : Hp} {id : Nat} {S : ByteArray} {s : Bool × Nat} (n : Nat) (ho : h[id]? = some (iObj S s)) (hs : S.size ≤ 1000000000000) (hp : s.2 ≤ S.size) (hn : n ≤ 4611686018427387904) :
    ACalls Try.prog 114 [.ptr id 0, .int .i64 n] h (fun a h' => a = vS (if s.1 then none else rTake S n s.2) ∧ h' = h.set id (iObj S (stO (if s.1 then none else rTake S n s.2) s.2))) := by
  have := a_take n ho hs hp hn
  have e : (if s.1 = true ∨ S.size < s.2 + n then none else some (S.extract s.2 (s.2 + n), s.2 + n)) = (if s.1 = true then none else rTake S n s.2) := by
    unfold rTake
    by_cases h1 : s.1 = true
    · rw [if_pos (Or.inl h1), if_pos h1]
    · rw [if_neg h1]
      by_cases h2 : S.size < s.2 + n
      · rw [if_pos (Or.inr h2), if_pos h2]
      · rw [if_neg (by simp [h1, h2]), if_neg h2]
  rw [e] at this
  exact this
/-- a count: one byte -/
def rCount (S : ByteArray) (most p : Nat) : Option (Nat × Nat) := if S.size < p + 1 then none else if 1 ≤ byteAt S p ∧ byteAt S p ≤ most then some (byteAt S p, p + 1) else none
def qCount (S : ByteArray) (bad : Bool) (p : Nat) : Nat := if bad ∨ S.size < p + 1 then p else p + 1
theorem byteAt_extract {S : ByteArray} {p n : Nat} (h : p + n ≤ S.size) (hn : 0 < n) : byteAt (S.extract p (p + n)) 0 = byteAt S p := by
  rw [byteAt_eq (by simp; omega), byteAt_eq (by omega)]
  simp [ByteArray.getElem_extract]
theorem byteAt_lt (S : ByteArray) (p : Nat) : byteAt S p < 256 := by
  unfold byteAt
  cases S.data.toList[p]? with
  | none => simp
  | some b => exact b.toNat_lt
theorem deg_vS (r : Option (ByteArray × Nat)) : deg (vS r) = vS r := by cases r <;> rfl
theorem deg_vI (r : Option (Nat × Nat)) : deg (vI r) = vI r := by cases r <;> rfl
theorem wrap_byte (n : Nat) (h : n < 256) : IntKind.i64.wrap (n : Int) = n := by rw [IntKind.wrap_i64]; omega
set_option maxHeartbeats 1000000 in
theorem a_count {h : Hp} {id : Nat} {S : ByteArray} {s : Bool × Nat} (most : Nat) (ho : h[id]? = some (iObj S s)) (hs : S.size ≤ 1000000000000) (hp : s.2 ≤ S.size) :
    ACalls Try.prog 103 [.ptr id 0, .int .i64 most] h (fun a h' => a = vI (if s.1 then none else rCount S most s.2) ∧ h' = h.set id (iObj S (stO (if s.1 then none else rCount S most s.2) (qCount S s.1 s.2)))) := by
  obtain ⟨bad, p⟩ := s
  refine acalls_of mixed F_pack_In_count_ok (Nat.le_of_ble_eq_true rfl) ?_; simp only [F_pack_In_count, wk,if_true,if_false,forall_const,implies_true,ne_eq,eq_self,Nat.reduceEqDiff,Nat.reduceAdd,Nat.reduceMul,Nat.reduceSub,Nat.reduceLeDiff,Nat.reduceLT,Int.reduceEq,Int.reduceLT,Int.reduceLE,Int.reduceAdd,Int.reduceSub,Int.reduceMul,Int.reduceNeg,Int.reduceNe,reduceCtorEq,Int.reduceToNat,↓reduceIte]
  refine ACalls.use (a_take' (s := (bad, p)) 1 ho hs hp (by omega)) ?_; rintro _ _ ⟨rfl, rfl⟩; simp only [wk,if_true,if_false,forall_const,implies_true,ne_eq,eq_self,Nat.reduceEqDiff,Nat.reduceAdd,Nat.reduceMul,Nat.reduceSub,Nat.reduceLeDiff,Nat.reduceLT,Int.reduceEq,Int.reduceLT,Int.reduceLE,Int.reduceAdd,Int.reduceSub,Int.reduceMul,Int.reduceNeg,Int.reduceNe,reduceCtorEq,Int.reduceToNat,↓reduceIte]
  have hbt := byteAt_lt S p
  cases bad with
  | true =>
    simp only [if_true, stO, vS, wk,if_true,if_false,forall_const,implies_true,ne_eq,eq_self,Nat.reduceEqDiff,Nat.reduceAdd,Nat.reduceMul,Nat.reduceSub,Nat.reduceLeDiff,Nat.reduceLT,Int.reduceEq,Int.reduceLT,Int.reduceLE,Int.reduceAdd,Int.reduceSub,Int.reduceMul,Int.reduceNeg,Int.reduceNe,reduceCtorEq,Int.reduceToNat,↓reduceIte]
    refine ACalls.use (a_well (bad := true) (hset ho _)) ?_; rintro _ _ ⟨rfl, rfl⟩; simp only [wk,if_true,if_false,forall_const,implies_true,ne_eq,eq_self,Nat.reduceEqDiff,Nat.reduceAdd,Nat.reduceMul,Nat.reduceSub,Nat.reduceLeDiff,Nat.reduceLT,Int.reduceEq,Int.reduceLT,Int.reduceLE,Int.reduceAdd,Int.reduceSub,Int.reduceMul,Int.reduceNeg,Int.reduceNe,reduceCtorEq,Int.reduceToNat,↓reduceIte, hset ho]
    exact ⟨rfl, by simp [qCount, stO]⟩
  | false =>
    simp only [Bool.false_eq_true, if_false, rTake, rCount, qCount, false_or]
    by_cases hz : S.size < p + 1
    · simp only [if_pos hz, stO, vS, wk,if_true,if_false,forall_const,implies_true,ne_eq,eq_self,Nat.reduceEqDiff,Nat.reduceAdd,Nat.reduceMul,Nat.reduceSub,Nat.reduceLeDiff,Nat.reduceLT,Int.reduceEq,Int.reduceLT,Int.reduceLE,Int.reduceAdd,Int.reduceSub,Int.reduceMul,Int.reduceNeg,Int.reduceNe,reduceCtorEq,Int.reduceToNat,↓reduceIte]
      refine ACalls.use (a_well (bad := true) (hset ho _)) ?_; rintro _ _ ⟨rfl, rfl⟩; simp only [wk,if_true,if_false,forall_const,implies_true,ne_eq,eq_self,Nat.reduceEqDiff,Nat.reduceAdd,Nat.reduceMul,Nat.reduceSub,Nat.reduceLeDiff,Nat.reduceLT,Int.reduceEq,Int.reduceLT,Int.reduceLE,Int.reduceAdd,Int.reduceSub,Int.reduceMul,Int.reduceNeg,Int.reduceNe,reduceCtorEq,Int.reduceToNat,↓reduceIte, hset ho]
      rfl
    · simp only [if_neg hz, stO, vS, wk,if_true,if_false,forall_const,implies_true,ne_eq,eq_self,Nat.reduceEqDiff,Nat.reduceAdd,Nat.reduceMul,Nat.reduceSub,Nat.reduceLeDiff,Nat.reduceLT,Int.reduceEq,Int.reduceLT,Int.reduceLE,Int.reduceAdd,Int.reduceSub,Int.reduceMul,Int.reduceNeg,Int.reduceNe,reduceCtorEq,Int.reduceToNat,↓reduceIte]
      refine ACalls.use (a_well (bad := false) (hset ho _)) ?_; rintro _ _ ⟨rfl, rfl⟩; simp only [wk,if_true,if_false,forall_const,implies_true,ne_eq,eq_self,Nat.reduceEqDiff,Nat.reduceAdd,Nat.reduceMul,Nat.reduceSub,Nat.reduceLeDiff,Nat.reduceLT,Int.reduceEq,Int.reduceLT,Int.reduceLE,Int.reduceAdd,Int.reduceSub,Int.reduceMul,Int.reduceNeg,Int.reduceNe,reduceCtorEq,Int.reduceToNat,↓reduceIte, hset ho]
      refine ⟨by simp; omega, ?_⟩
      rw [byteAt_extract (by omega) (by omega), wrap_byte _ hbt]
      refine ⟨fun h1 => ⟨fun h2 => ?_, fun h2 => ?_⟩, fun h1 => ?_⟩
      · refine ACalls.use (a_fail (hset ho _)) ?_; rintro _ _ ⟨rfl, rfl⟩; simp only [wk,if_true,if_false,forall_const,implies_true,ne_eq,eq_self,Nat.reduceEqDiff,Nat.reduceAdd,Nat.reduceMul,Nat.reduceSub,Nat.reduceLeDiff,Nat.reduceLT,Int.reduceEq,Int.reduceLT,Int.reduceLE,Int.reduceAdd,Int.reduceSub,Int.reduceMul,Int.reduceNeg,Int.reduceNe,reduceCtorEq,Int.reduceToNat,↓reduceIte, hset ho]
        rw [if_neg (by omega)]; exact ⟨rfl, rfl⟩
      · rw [if_pos (by omega)]; exact ⟨rfl, rfl⟩
      · refine ACalls.use (a_fail (hset ho _)) ?_; rintro _ _ ⟨rfl, rfl⟩; simp only [wk,if_true,if_false,forall_const,implies_true,ne_eq,eq_self,Nat.reduceEqDiff,Nat.reduceAdd,Nat.reduceMul,Nat.reduceSub,Nat.reduceLeDiff,Nat.reduceLT,Int.reduceEq,Int.reduceLT,Int.reduceLE,Int.reduceAdd,Int.reduceSub,Int.reduceMul,Int.reduceNeg,Int.reduceNe,reduceCtorEq,Int.reduceToNat,↓reduceIte, hset ho]
        rw [if_neg (by omega)]; exact ⟨rfl, rfl⟩
def rText (S : ByteArray) (most : Int) (p : Nat) : Option (ByteArray × Nat) :=
  match rNum S most p with
  | some (n, q) => rTake S n q
  | none => none
def rWord (S : ByteArray) (p : Nat) : Option (ByteArray × Nat) :=
  if S.size < p + 1 then none else if S.size < p + 1 + 2 * byteAt S p then none else
  if wordMay (S.extract (p + 1) (p + 1 + 2 * byteAt S p)) then some (S.extract (p + 1) (p + 1 + 2 * byteAt S p), p + 1 + 2 * byteAt S p) else none
/-- a word, as pack reads it -/
theorem rWord_eq (S : ByteArray) (p : Nat) : rWord S p = match rCount S 8 p with
    | some (n, q) => (match rTake S (2 * n) q with
      | some (w, q') => if wordMay w then some (w, q') else none
      | none => none)
    | none => none := by
  unfold rWord rCount
  by_cases h1 : S.size < p + 1
  · rw [if_pos h1, if_pos h1]
  · rw [if_neg h1, if_neg h1]
    by_cases h2 : 1 ≤ byteAt S p ∧ byteAt S p ≤ 8
    · rw [if_pos h2]
      simp only [rTake]
      by_cases h3 : S.size < p + 1 + 2 * byteAt S p
      · rw [if_pos h3, if_pos h3]
      · rw [if_neg h3, if_neg h3]
    · rw [if_neg h2]
      by_cases h3 : S.size < p + 1 + 2 * byteAt S p
      · rw [if_pos h3]
      · rw [if_neg h3, if_neg]
        intro hw
        have := wordMay_size hw
        simp at this
        omega
theorem wordMay_empty : wordMay ⟨#[]⟩ = false := by
  cases h : wordMay ⟨#[]⟩ with
  | false => rfl
  | true => have := wordMay_size h; exact absurd this.2.1 (by decide)
theorem rTake_le {S w : ByteArray} {n p q : Nat} (h : rTake S n p = some (w, q)) : q = p + n ∧ q ≤ S.size ∧ w = S.extract p q := by
  unfold rTake at h
  split at h
  · cases h
  · simp only [Option.some.injEq, Prod.mk.injEq] at h; obtain ⟨rfl, rfl⟩ := h; exact ⟨rfl, by omega, rfl⟩
theorem rCount_le {S : ByteArray} {most n p q : Nat} (h : rCount S most p = some (n, q)) : q = p + 1 ∧ q ≤ S.size ∧ 1 ≤ n ∧ n ≤ most ∧ n = byteAt S p := by
  unfold rCount at h
  split at h
  · cases h
  · split at h
    · simp only [Option.some.injEq, Prod.mk.injEq] at h; omega
    · cases h
theorem qCount_le {S : ByteArray} {bad : Bool} {p : Nat} (hp : p ≤ S.size) : qCount S bad p ≤ S.size := by
  unfold qCount
  split
  · exact hp
  · next h => simp at h; omega
set_option maxHeartbeats 1000000 in
theorem a_iword {h : Hp} {id : Nat} {S : ByteArray} {s : Bool × Nat} (ho : h[id]? = some (iObj S s)) (hs : S.size ≤ 1000000000000) (hp : s.2 ≤ S.size) :
    ∃ q, q ≤ S.size ∧ ACalls Try.prog 87 [.ptr id 0] h (fun a h' => a = vS (if s.1 then none else rWord S s.2) ∧ h' = h.set id (iObj S (stO (if s.1 then none else rWord S s.2) q))) := by
  obtain ⟨bad, p⟩ := s
  simp only at hp ⊢
  have hq1 := qCount_le (S := S) (bad := bad) hp
  have hgo : ∀ q, W Try.prog F_pack_In_Word.code (args0 0 [.ptr id 0]) h (kret F_pack_In_Word.rs (fun a h' => a = vS (if bad then none else rWord S p) ∧ h' = h.set id (iObj S (stO (if bad then none else rWord S p) q)))) → ACalls Try.prog 87 [.ptr id 0] h (fun a h' => a = vS (if bad then none else rWord S p) ∧ h' = h.set id (iObj S (stO (if bad then none else rWord S p) q))) := fun q hw => acalls_of mixed F_pack_In_Word_ok (Nat.le_of_ble_eq_true rfl) hw
  cases hr : (if bad = true then none else rCount S 8 p) with
  | none =>
    have hrw : (if bad = true then none else rWord S p) = none := by
      cases bad with
      | true => rfl
      | false =>
        simp only [Bool.false_eq_true, if_false] at hr ⊢
        rw [rWord_eq, hr]
    refine ⟨qCount S bad p, hq1, hgo _ ?_⟩
    rw [hrw]
    simp only [F_pack_In_Word, wk,if_true,if_false,forall_const,implies_true,ne_eq,eq_self,Nat.reduceEqDiff,Nat.reduceAdd,Nat.reduceMul,Nat.reduceSub,Nat.reduceLeDiff,Nat.reduceLT,Int.reduceEq,Int.reduceLT,Int.reduceLE,Int.reduceAdd,Int.reduceSub,Int.reduceMul,Int.reduceNeg,Int.reduceNe,reduceCtorEq,Int.reduceToNat,↓reduceIte]
    have hc := a_count (s := (bad, p)) 8 ho hs hp
    simp only [hr, vI, stO] at hc
    refine ACalls.use (hc) ?_; rintro _ _ ⟨rfl, rfl⟩; simp only [wk,if_true,if_false,forall_const,implies_true,ne_eq,eq_self,Nat.reduceEqDiff,Nat.reduceAdd,Nat.reduceMul,Nat.reduceSub,Nat.reduceLeDiff,Nat.reduceLT,Int.reduceEq,Int.reduceLT,Int.reduceLE,Int.reduceAdd,Int.reduceSub,Int.reduceMul,Int.reduceNeg,Int.reduceNe,reduceCtorEq,Int.reduceToNat,↓reduceIte, hset ho]
    refine ⟨inR_of (by omega) (by omega), ?_⟩
    refine ACalls.use (a_take' (s := (true, qCount S bad p)) 0 (hset ho _) hs hq1 (by omega)) ?_; rintro _ _ ⟨rfl, rfl⟩; simp only [wk,if_true,if_false,forall_const,implies_true,ne_eq,eq_self,Nat.reduceEqDiff,Nat.reduceAdd,Nat.reduceMul,Nat.reduceSub,Nat.reduceLeDiff,Nat.reduceLT,Int.reduceEq,Int.reduceLT,Int.reduceLE,Int.reduceAdd,Int.reduceSub,Int.reduceMul,Int.reduceNeg,Int.reduceNe,reduceCtorEq,Int.reduceToNat,↓reduceIte, hset ho, stO, vS, iObj]
    refine PCalls.use (p_wmay ⟨#[]⟩ (by decide)) ?_; simp only [wk,if_true,if_false,forall_const,implies_true,ne_eq,eq_self,Nat.reduceEqDiff,Nat.reduceAdd,Nat.reduceMul,Nat.reduceSub,Nat.reduceLeDiff,Nat.reduceLT,Int.reduceEq,Int.reduceLT,Int.reduceLE,Int.reduceAdd,Int.reduceSub,Int.reduceMul,Int.reduceNeg,Int.reduceNe,reduceCtorEq,Int.reduceToNat,↓reduceIte]
    rw [wordMay_empty]
    simp only [wk,if_true,if_false,forall_const,implies_true,ne_eq,eq_self,Nat.reduceEqDiff,Nat.reduceAdd,Nat.reduceMul,Nat.reduceSub,Nat.reduceLeDiff,Nat.reduceLT,Int.reduceEq,Int.reduceLT,Int.reduceLE,Int.reduceAdd,Int.reduceSub,Int.reduceMul,Int.reduceNeg,Int.reduceNe,reduceCtorEq,Int.reduceToNat,↓reduceIte]
    refine ACalls.use (a_fail (hset ho _)) ?_; rintro _ _ ⟨rfl, rfl⟩; simp only [wk,if_true,if_false,forall_const,implies_true,ne_eq,eq_self,Nat.reduceEqDiff,Nat.reduceAdd,Nat.reduceMul,Nat.reduceSub,Nat.reduceLeDiff,Nat.reduceLT,Int.reduceEq,Int.reduceLT,Int.reduceLE,Int.reduceAdd,Int.reduceSub,Int.reduceMul,Int.reduceNeg,Int.reduceNe,reduceCtorEq,Int.reduceToNat,↓reduceIte, hset ho]
    (try first | exact ⟨rfl, rfl⟩ | rfl | trivial)
  | some x =>
    obtain ⟨n, q⟩ := x
    have hb : bad = false := by cases bad with
      | true => simp at hr
      | false => rfl
    subst hb
    simp only [Bool.false_eq_true, if_false] at hr hgo ⊢
    have hle := rCount_le hr
    cases hr2 : rTake S (2 * n) q with
    | none =>
      have hrw : rWord S p = none := by rw [rWord_eq, hr]; simp only [hr2]
      refine ⟨q, hle.2.1, hgo _ ?_⟩
      rw [hrw]
      simp only [F_pack_In_Word, wk,if_true,if_false,forall_const,implies_true,ne_eq,eq_self,Nat.reduceEqDiff,Nat.reduceAdd,Nat.reduceMul,Nat.reduceSub,Nat.reduceLeDiff,Nat.reduceLT,Int.reduceEq,Int.reduceLT,Int.reduceLE,Int.reduceAdd,Int.reduceSub,Int.reduceMul,Int.reduceNeg,Int.reduceNe,reduceCtorEq,Int.reduceToNat,↓reduceIte]
      have hc := a_count (s := (false, p)) 8 ho hs hp
      simp only [Bool.false_eq_true, if_false, hr, vI, stO] at hc
      refine ACalls.use (hc) ?_; rintro _ _ ⟨rfl, rfl⟩; simp only [wk,if_true,if_false,forall_const,implies_true,ne_eq,eq_self,Nat.reduceEqDiff,Nat.reduceAdd,Nat.reduceMul,Nat.reduceSub,Nat.reduceLeDiff,Nat.reduceLT,Int.reduceEq,Int.reduceLT,Int.reduceLE,Int.reduceAdd,Int.reduceSub,Int.reduceMul,Int.reduceNeg,Int.reduceNe,reduceCtorEq,Int.reduceToNat,↓reduceIte, hset ho]
      refine ⟨inR_of (by omega) (by omega), ?_⟩
      have ht := a_take' (s := (false, q)) (2 * n) (hset ho (iObj S (false, q))) hs hle.2.1 (by omega)
      simp only [Bool.false_eq_true, if_false, hr2, vS, stO] at ht
      rw [show ((2 : Int) * (n : Int)) = ((2 * n : Nat) : Int) by omega]
      refine ACalls.use (ht) ?_; rintro _ _ ⟨rfl, rfl⟩; simp only [wk,if_true,if_false,forall_const,implies_true,ne_eq,eq_self,Nat.reduceEqDiff,Nat.reduceAdd,Nat.reduceMul,Nat.reduceSub,Nat.reduceLeDiff,Nat.reduceLT,Int.reduceEq,Int.reduceLT,Int.reduceLE,Int.reduceAdd,Int.reduceSub,Int.reduceMul,Int.reduceNeg,Int.reduceNe,reduceCtorEq,Int.reduceToNat,↓reduceIte, hset ho]
      refine PCalls.use (p_wmay ⟨#[]⟩ (by decide)) ?_; simp only [wk,if_true,if_false,forall_const,implies_true,ne_eq,eq_self,Nat.reduceEqDiff,Nat.reduceAdd,Nat.reduceMul,Nat.reduceSub,Nat.reduceLeDiff,Nat.reduceLT,Int.reduceEq,Int.reduceLT,Int.reduceLE,Int.reduceAdd,Int.reduceSub,Int.reduceMul,Int.reduceNeg,Int.reduceNe,reduceCtorEq,Int.reduceToNat,↓reduceIte]
      rw [wordMay_empty]
      simp only [wk,if_true,if_false,forall_const,implies_true,ne_eq,eq_self,Nat.reduceEqDiff,Nat.reduceAdd,Nat.reduceMul,Nat.reduceSub,Nat.reduceLeDiff,Nat.reduceLT,Int.reduceEq,Int.reduceLT,Int.reduceLE,Int.reduceAdd,Int.reduceSub,Int.reduceMul,Int.reduceNeg,Int.reduceNe,reduceCtorEq,Int.reduceToNat,↓reduceIte]
      refine ACalls.use (a_fail (bad := true) (hset ho _)) ?_; rintro _ _ ⟨rfl, rfl⟩; simp only [wk,if_true,if_false,forall_const,implies_true,ne_eq,eq_self,Nat.reduceEqDiff,Nat.reduceAdd,Nat.reduceMul,Nat.reduceSub,Nat.reduceLeDiff,Nat.reduceLT,Int.reduceEq,Int.reduceLT,Int.reduceLE,Int.reduceAdd,Int.reduceSub,Int.reduceMul,Int.reduceNeg,Int.reduceNe,reduceCtorEq,Int.reduceToNat,↓reduceIte, hset ho]
      (try first | exact ⟨rfl, rfl⟩ | rfl | trivial)
    | some y =>
      obtain ⟨w, q2⟩ := y
      have hle2 := rTake_le hr2
      refine ⟨q2, hle2.2.1, hgo _ ?_⟩
      have hrw : rWord S p = if wordMay w then some (w, q2) else none := by rw [rWord_eq, hr]; simp only [hr2]
      rw [hrw]
      simp only [F_pack_In_Word, wk,if_true,if_false,forall_const,implies_true,ne_eq,eq_self,Nat.reduceEqDiff,Nat.reduceAdd,Nat.reduceMul,Nat.reduceSub,Nat.reduceLeDiff,Nat.reduceLT,Int.reduceEq,Int.reduceLT,Int.reduceLE,Int.reduceAdd,Int.reduceSub,Int.reduceMul,Int.reduceNeg,Int.reduceNe,reduceCtorEq,Int.reduceToNat,↓reduceIte]
      have hc := a_count (s := (false, p)) 8 ho hs hp
      simp only [Bool.false_eq_true, if_false, hr, vI, stO] at hc
      refine ACalls.use (hc) ?_; rintro _ _ ⟨rfl, rfl⟩; simp only [wk,if_true,if_false,forall_const,implies_true,ne_eq,eq_self,Nat.reduceEqDiff,Nat.reduceAdd,Nat.reduceMul,Nat.reduceSub,Nat.reduceLeDiff,Nat.reduceLT,Int.reduceEq,Int.reduceLT,Int.reduceLE,Int.reduceAdd,Int.reduceSub,Int.reduceMul,Int.reduceNeg,Int.reduceNe,reduceCtorEq,Int.reduceToNat,↓reduceIte, hset ho]
      refine ⟨inR_of (by omega) (by omega), ?_⟩
      have ht := a_take' (s := (false, q)) (2 * n) (hset ho (iObj S (false, q))) hs hle.2.1 (by omega)
      simp only [Bool.false_eq_true, if_false, hr2, vS, stO] at ht
      rw [show ((2 : Int) * (n : Int)) = ((2 * n : Nat) : Int) by omega]
      refine ACalls.use (ht) ?_; rintro _ _ ⟨rfl, rfl⟩; simp only [wk,if_true,if_false,forall_const,implies_true,ne_eq,eq_self,Nat.reduceEqDiff,Nat.reduceAdd,Nat.reduceMul,Nat.reduceSub,Nat.reduceLeDiff,Nat.reduceLT,Int.reduceEq,Int.reduceLT,Int.reduceLE,Int.reduceAdd,Int.reduceSub,Int.reduceMul,Int.reduceNeg,Int.reduceNe,reduceCtorEq,Int.reduceToNat,↓reduceIte, hset ho]
      refine PCalls.use (p_wmay w (by rw [hle2.2.2]; simp; omega)) ?_; simp only [wk,if_true,if_false,forall_const,implies_true,ne_eq,eq_self,Nat.reduceEqDiff,Nat.reduceAdd,Nat.reduceMul,Nat.reduceSub,Nat.reduceLeDiff,Nat.reduceLT,Int.reduceEq,Int.reduceLT,Int.reduceLE,Int.reduceAdd,Int.reduceSub,Int.reduceMul,Int.reduceNeg,Int.reduceNe,reduceCtorEq,Int.reduceToNat,↓reduceIte]
      refine ⟨fun hw => ?_, fun hw => ?_⟩
      · refine ACalls.use (a_fail (bad := false) (hset ho _)) ?_; rintro _ _ ⟨rfl, rfl⟩; simp only [wk,if_true,if_false,forall_const,implies_true,ne_eq,eq_self,Nat.reduceEqDiff,Nat.reduceAdd,Nat.reduceMul,Nat.reduceSub,Nat.reduceLeDiff,Nat.reduceLT,Int.reduceEq,Int.reduceLT,Int.reduceLE,Int.reduceAdd,Int.reduceSub,Int.reduceMul,Int.reduceNeg,Int.reduceNe,reduceCtorEq,Int.reduceToNat,↓reduceIte, hset ho]
        rw [hw]; (try first | exact ⟨rfl, rfl⟩ | rfl | trivial)
      · rw [hw]; (try first | exact ⟨rfl, rfl⟩ | rfl | trivial)
/-- words, one behind the other -/
def rWords (S : ByteArray) (p : Nat) : Nat → Option (List ByteArray × Nat)
  | 0 => some ([], p)
  | k + 1 => match rWords S p k with
    | some (l, q) => (match rWord S q with
      | some (w, q') => some (l ++ [w], q')
      | none => none)
    | none => none
def rSet (S : ByteArray) (p : Nat) : Option (List ByteArray × Nat) :=
  if S.size < p + 1 then none else
  match rWords S (p + 1) (byteAt S p) with
  | some (l, q) => if setMay l then some (l, q) else none
  | none => none
theorem rWord_le {S w : ByteArray} {p q : Nat} (h : rWord S p = some (w, q)) : p < q ∧ q ≤ S.size ∧ wordMay w = true ∧ w = S.extract (p + 1) q ∧ q = p + 1 + 2 * byteAt S p := by
  unfold rWord at h
  split at h
  · cases h
  · split at h
    · cases h
    · split at h
      · next hw =>
        simp only [Option.some.injEq, Prod.mk.injEq] at h
        obtain ⟨rfl, rfl⟩ := h
        exact ⟨by omega, by omega, hw, rfl, rfl⟩
      · cases h
theorem rWords_le {S : ByteArray} {p : Nat} (hp : p ≤ S.size) : ∀ {k : Nat} {l : List ByteArray} {q : Nat}, rWords S p k = some (l, q) → l.length = k ∧ p ≤ q ∧ q ≤ S.size ∧ ∀ w ∈ l, wordMay w = true
  | 0, l, q, h => by
    simp only [rWords, Option.some.injEq, Prod.mk.injEq] at h
    obtain ⟨rfl, rfl⟩ := h
    exact ⟨rfl, Nat.le_refl _, hp, fun w hw => by simp at hw⟩
  | k + 1, l, q, h => by
    simp only [rWords] at h
    split at h
    · next l' q' hr =>
      have ih := rWords_le hp hr
      split at h
      · next w q2 hr2 =>
        simp only [Option.some.injEq, Prod.mk.injEq] at h
        obtain ⟨rfl, rfl⟩ := h
        have h2 := rWord_le hr2
        refine ⟨by simp; omega, by omega, h2.2.1, fun x hx => ?_⟩
        simp only [List.mem_append, List.mem_singleton] at hx
        rcases hx with hx | rfl
        · exact ih.2.2.2 x hx
        · exact h2.2.2.1
      · cases h
    · cases h
def vL : Option (List ByteArray × Nat) → AV
  | some (l, _) => .lst .ro l.length (l.map .str)
  | none => .lst .clip 0 []
theorem deg_vL (r : Option (List ByteArray × Nat)) : deg (vL r) = vL r := by cases r <;> rfl
/-- a set, as pack reads it -/
theorem rSet_eq (S : ByteArray) (p : Nat) (hp : p ≤ S.size) : rSet S p = match rCount S 16 p with
    | some (n, q) => (match rWords S q n with
      | some (l, q') => if setMay l then some (l, q') else none
      | none => none)
    | none => none := by
  unfold rSet rCount
  by_cases h1 : S.size < p + 1
  · rw [if_pos h1, if_pos h1]
  · rw [if_neg h1, if_neg h1]
    by_cases h2 : 1 ≤ byteAt S p ∧ byteAt S p ≤ 16
    · rw [if_pos h2]
    · rw [if_neg h2]
      cases hr : rWords S (p + 1) (byteAt S p) with
      | none => rfl
      | some x =>
        obtain ⟨l, q⟩ := x
        have := rWords_le (by omega) hr
        simp only
        rw [if_neg]
        intro hm
        have := (setMay_words hm).1
        omega
theorem vS_str (r : Option (ByteArray × Nat)) : ∃ w, vS r = .str w ∧ (∀ x q, r = some (x, q) → x = w) := by
  cases r with
  | none => exact ⟨_, rfl, fun _ _ h => by cases h⟩
  | some x => exact ⟨_, rfl, fun _ _ h => by cases h; rfl⟩
set_option maxRecDepth 100000 in
set_option maxHeartbeats 2000000 in
theorem a_iset {h : Hp} {id : Nat} {S : ByteArray} {s : Bool × Nat} (ho : h[id]? = some (iObj S s)) (hs : S.size ≤ 1000000000000) (hp : s.2 ≤ S.size) :
    ACalls Try.prog 69 [.ptr id 0] h (fun a h' => a = vL (if s.1 then none else rSet S s.2) ∧ ∃ q, q ≤ S.size ∧ h' = h.set id (iObj S (stO (if s.1 then none else rSet S s.2) q))) := by
  obtain ⟨bad, p⟩ := s
  simp only at hp ⊢
  have hq1 := qCount_le (S := S) (bad := bad) hp
  refine acalls_of mixed F_pack_In_Set_ok (Nat.le_of_ble_eq_true rfl) ?_; simp only [F_pack_In_Set, wk,if_true,if_false,forall_const,implies_true,ne_eq,eq_self,Nat.reduceEqDiff,Nat.reduceAdd,Nat.reduceMul,Nat.reduceSub,Nat.reduceLeDiff,Nat.reduceLT,Int.reduceEq,Int.reduceLT,Int.reduceLE,Int.reduceAdd,Int.reduceSub,Int.reduceMul,Int.reduceNeg,Int.reduceNe,reduceCtorEq,Int.reduceToNat,↓reduceIte]
  have hc := a_count (s := (bad, p)) 16 ho hs hp
  cases hr : (if bad = true then none else rCount S 16 p) with
  | none =>
    have hrw : (if bad = true then none else rSet S p) = none := by
      cases bad with
      | true => rfl
      | false =>
        simp only [Bool.false_eq_true, if_false] at hr ⊢
        rw [rSet_eq S p hp, hr]
    rw [hrw]
    simp only [hr, vI, stO] at hc
    refine ACalls.use (hc) ?_; rintro _ _ ⟨rfl, rfl⟩; simp only [wk,if_true,if_false,forall_const,implies_true,ne_eq,eq_self,Nat.reduceEqDiff,Nat.reduceAdd,Nat.reduceMul,Nat.reduceSub,Nat.reduceLeDiff,Nat.reduceLT,Int.reduceEq,Int.reduceLT,Int.reduceLE,Int.reduceAdd,Int.reduceSub,Int.reduceMul,Int.reduceNeg,Int.reduceNe,reduceCtorEq,Int.reduceToNat,↓reduceIte, hset ho]
    (repeat (refine And.intro (by first | omega | exact inR_of (by omega) (by omega) | exact ⟨by omega, by omega⟩ | exact ⟨by omega, by omega, by omega⟩ | rfl) ?_))
    refine W_loop (fun k fr h' => k = 0 ∧ fr = [(0, .ptr id 0), (4, .lst (.own 44) 0 []), (9, .int .i64 0), (10, .int .i64 0)] ∧ h' = h.set id (iObj S (true, qCount S bad p))) 0 ⟨rfl, rfl, rfl⟩ ?_
    rintro k fr h' ⟨rfl, rfl, rfl⟩
    simp only [wk,if_true,if_false,forall_const,implies_true,ne_eq,eq_self,Nat.reduceEqDiff,Nat.reduceAdd,Nat.reduceMul,Nat.reduceSub,Nat.reduceLeDiff,Nat.reduceLT,Int.reduceEq,Int.reduceLT,Int.reduceLE,Int.reduceAdd,Int.reduceSub,Int.reduceMul,Int.reduceNeg,Int.reduceNe,reduceCtorEq,Int.reduceToNat,↓reduceIte]
    refine ACalls.use (a_well (bad := true) (hset ho _)) ?_; rintro _ _ ⟨rfl, rfl⟩; simp only [wk,if_true,if_false,forall_const,implies_true,ne_eq,eq_self,Nat.reduceEqDiff,Nat.reduceAdd,Nat.reduceMul,Nat.reduceSub,Nat.reduceLeDiff,Nat.reduceLT,Int.reduceEq,Int.reduceLT,Int.reduceLE,Int.reduceAdd,Int.reduceSub,Int.reduceMul,Int.reduceNeg,Int.reduceNe,reduceCtorEq,Int.reduceToNat,↓reduceIte, hset ho]
    refine ACalls.use (a_fail (bad := true) (hset ho _)) ?_; rintro _ _ ⟨rfl, rfl⟩; simp only [wk,if_true,if_false,forall_const,implies_true,ne_eq,eq_self,Nat.reduceEqDiff,Nat.reduceAdd,Nat.reduceMul,Nat.reduceSub,Nat.reduceLeDiff,Nat.reduceLT,Int.reduceEq,Int.reduceLT,Int.reduceLE,Int.reduceAdd,Int.reduceSub,Int.reduceMul,Int.reduceNeg,Int.reduceNe,reduceCtorEq,Int.reduceToNat,↓reduceIte, hset ho]
    exact ⟨rfl, _, hq1, rfl⟩
  | some x =>
    obtain ⟨n, q⟩ := x
    have hb : bad = false := by cases bad with
      | true => simp at hr
      | false => rfl
    subst hb
    simp only [Bool.false_eq_true, if_false] at hr hc ⊢
    have hle := rCount_le hr
    have hrw := rSet_eq S p hp
    rw [hr] at hrw
    simp only at hrw
    rw [hrw]
    simp only [hr, vI, stO] at hc
    refine ACalls.use (hc) ?_; rintro _ _ ⟨rfl, rfl⟩; simp only [wk,if_true,if_false,forall_const,implies_true,ne_eq,eq_self,Nat.reduceEqDiff,Nat.reduceAdd,Nat.reduceMul,Nat.reduceSub,Nat.reduceLeDiff,Nat.reduceLT,Int.reduceEq,Int.reduceLT,Int.reduceLE,Int.reduceAdd,Int.reduceSub,Int.reduceMul,Int.reduceNeg,Int.reduceNe,reduceCtorEq,Int.reduceToNat,↓reduceIte, hset ho]
    refine ⟨⟨by omega, by omega, by omega⟩, ?_⟩
    refine W_loop (fun k fr h' => ∃ (i : Nat) (ws : List ByteArray) (q' : Nat), i ≤ n ∧ k = n - i ∧ ws.length = i ∧ q' ≤ S.size ∧ fr = [(0, .ptr id 0), (4, .lst (.own 44) i (ws.map .str)), (9, .int .i64 n), (10, .int .i64 i)] ∧ h' = h.set id (iObj S (stO (rWords S q i) q')) ∧ ∀ l q'', rWords S q i = some (l, q'') → ws = l) n ⟨0, [], q, by omega, by omega, rfl, hle.2.1, rfl, rfl, fun l q'' h => by simp only [rWords, Option.some.injEq, Prod.mk.injEq] at h; exact h.1⟩ ?_
    rintro k fr h' ⟨i, ws, q', hi, rfl, hwl, hq', rfl, rfl, hws⟩
    have hst : (stO (rWords S q i) q').2 ≤ S.size := by
      cases hw : rWords S q i with
      | none => exact hq'
      | some x => exact (rWords_le hle.2.1 hw).2.2.1
    simp only [wk,if_true,if_false,forall_const,implies_true,ne_eq,eq_self,Nat.reduceEqDiff,Nat.reduceAdd,Nat.reduceMul,Nat.reduceSub,Nat.reduceLeDiff,Nat.reduceLT,Int.reduceEq,Int.reduceLT,Int.reduceLE,Int.reduceAdd,Int.reduceSub,Int.reduceMul,Int.reduceNeg,Int.reduceNe,reduceCtorEq,Int.reduceToNat,↓reduceIte]
    refine ⟨fun hlt => ?_, fun hge => ?_⟩
    · obtain ⟨q2, hq2, hword⟩ := a_iword (s := stO (rWords S q i) q') (hset ho (iObj S (stO (rWords S q i) q'))) hs hst
      have hstep : stO (if (stO (rWords S q i) q').1 = true then none else rWord S (stO (rWords S q i) q').2) q2 = stO (rWords S q (i + 1)) q2 := by
        cases hw : rWords S q i with
        | none => simp only [rWords, hw, stO, if_true]
        | some x =>
          obtain ⟨l, q3⟩ := x
          simp only [rWords, hw, stO, Bool.false_eq_true, if_false]
          cases rWord S q3 <;> rfl
      obtain ⟨w, hwv, hwx⟩ := vS_str (if (stO (rWords S q i) q').1 = true then none else rWord S (stO (rWords S q i) q').2)
      have hval : ∀ l q'', rWords S q (i + 1) = some (l, q'') → ws ++ [w] = l := by
        intro l q'' he
        cases hw : rWords S q i with
        | none => simp only [rWords, hw] at he; cases he
        | some x =>
          obtain ⟨l', q3⟩ := x
          simp only [rWords, hw] at he
          simp only [hw, stO, Bool.false_eq_true, if_false] at hwx
          cases hw2 : rWord S q3 with
          | none => rw [hw2] at he; cases he
          | some y =>
            obtain ⟨w', q4⟩ := y
            rw [hw2] at he
            simp only [Option.some.injEq, Prod.mk.injEq] at he
            rw [hws l' q3 hw, ← hwx w' q4 hw2, he.1]
      rw [hwv, hstep] at hword
      refine ACalls.use (hword) ?_; rintro _ _ ⟨rfl, rfl⟩; simp only [wk,if_true,if_false,forall_const,implies_true,ne_eq,eq_self,Nat.reduceEqDiff,Nat.reduceAdd,Nat.reduceMul,Nat.reduceSub,Nat.reduceLeDiff,Nat.reduceLT,Int.reduceEq,Int.reduceLT,Int.reduceLE,Int.reduceAdd,Int.reduceSub,Int.reduceMul,Int.reduceNeg,Int.reduceNe,reduceCtorEq,Int.reduceToNat,↓reduceIte]
      (repeat (refine And.intro (by first | omega | exact inR_of (by omega) (by omega) | exact ⟨by omega, by omega⟩ | exact ⟨by omega, by omega, by omega⟩ | rfl) ?_))
      exact ⟨n - (i + 1), by omega, i + 1, ws ++ [w], q2, by omega, rfl, by simp [hwl], hq2, by simp, rfl, hval⟩
    · have hin : i = n := by omega
      subst hin
      cases hw : rWords S q i with
      | none =>
        simp only [stO, wk,if_true,if_false,forall_const,implies_true,ne_eq,eq_self,Nat.reduceEqDiff,Nat.reduceAdd,Nat.reduceMul,Nat.reduceSub,Nat.reduceLeDiff,Nat.reduceLT,Int.reduceEq,Int.reduceLT,Int.reduceLE,Int.reduceAdd,Int.reduceSub,Int.reduceMul,Int.reduceNeg,Int.reduceNe,reduceCtorEq,Int.reduceToNat,↓reduceIte]
        refine ACalls.use (a_well (bad := true) (hset ho _)) ?_; rintro _ _ ⟨rfl, rfl⟩; simp only [wk,if_true,if_false,forall_const,implies_true,ne_eq,eq_self,Nat.reduceEqDiff,Nat.reduceAdd,Nat.reduceMul,Nat.reduceSub,Nat.reduceLeDiff,Nat.reduceLT,Int.reduceEq,Int.reduceLT,Int.reduceLE,Int.reduceAdd,Int.reduceSub,Int.reduceMul,Int.reduceNeg,Int.reduceNe,reduceCtorEq,Int.reduceToNat,↓reduceIte, hset ho]
        refine ACalls.use (a_fail (bad := true) (hset ho _)) ?_; rintro _ _ ⟨rfl, rfl⟩; simp only [wk,if_true,if_false,forall_const,implies_true,ne_eq,eq_self,Nat.reduceEqDiff,Nat.reduceAdd,Nat.reduceMul,Nat.reduceSub,Nat.reduceLeDiff,Nat.reduceLT,Int.reduceEq,Int.reduceLT,Int.reduceLE,Int.reduceAdd,Int.reduceSub,Int.reduceMul,Int.reduceNeg,Int.reduceNe,reduceCtorEq,Int.reduceToNat,↓reduceIte, hset ho]
        exact ⟨rfl, _, hq', rfl⟩
      | some x =>
        obtain ⟨l, q3⟩ := x
        have hl := hws l q3 hw
        subst hl
        have hwl' := rWords_le hle.2.1 hw
        simp only [stO, wk,if_true,if_false,forall_const,implies_true,ne_eq,eq_self,Nat.reduceEqDiff,Nat.reduceAdd,Nat.reduceMul,Nat.reduceSub,Nat.reduceLeDiff,Nat.reduceLT,Int.reduceEq,Int.reduceLT,Int.reduceLE,Int.reduceAdd,Int.reduceSub,Int.reduceMul,Int.reduceNeg,Int.reduceNe,reduceCtorEq,Int.reduceToNat,↓reduceIte]
        refine ACalls.use (a_well (bad := false) (hset ho _)) ?_; rintro _ _ ⟨rfl, rfl⟩; simp only [wk,if_true,if_false,forall_const,implies_true,ne_eq,eq_self,Nat.reduceEqDiff,Nat.reduceAdd,Nat.reduceMul,Nat.reduceSub,Nat.reduceLeDiff,Nat.reduceLT,Int.reduceEq,Int.reduceLT,Int.reduceLE,Int.reduceAdd,Int.reduceSub,Int.reduceMul,Int.reduceNeg,Int.reduceNe,reduceCtorEq,Int.reduceToNat,↓reduceIte, hset ho]
        rw [← hwl]
        refine PCalls.use (p_smay ws (by omega) (fun x hx => by have := wordMay_size (hwl'.2.2.2 x hx); omega)) ?_; simp only [wk,if_true,if_false,forall_const,implies_true,ne_eq,eq_self,Nat.reduceEqDiff,Nat.reduceAdd,Nat.reduceMul,Nat.reduceSub,Nat.reduceLeDiff,Nat.reduceLT,Int.reduceEq,Int.reduceLT,Int.reduceLE,Int.reduceAdd,Int.reduceSub,Int.reduceMul,Int.reduceNeg,Int.reduceNe,reduceCtorEq,Int.reduceToNat,↓reduceIte]
        refine ⟨fun hm => ?_, fun hm => ?_⟩
        · refine ACalls.use (a_fail (bad := false) (hset ho _)) ?_; rintro _ _ ⟨rfl, rfl⟩; simp only [wk,if_true,if_false,forall_const,implies_true,ne_eq,eq_self,Nat.reduceEqDiff,Nat.reduceAdd,Nat.reduceMul,Nat.reduceSub,Nat.reduceLeDiff,Nat.reduceLT,Int.reduceEq,Int.reduceLT,Int.reduceLE,Int.reduceAdd,Int.reduceSub,Int.reduceMul,Int.reduceNeg,Int.reduceNe,reduceCtorEq,Int.reduceToNat,↓reduceIte, hset ho]
          rw [hm]; exact ⟨rfl, _, hwl'.2.2.1, rfl⟩
        · rw [hm]; exact ⟨rfl, q3, hwl'.2.2.1, rfl⟩
theorem seal_set {h : Hp} {id : Nat} {l l' : List AV} (ho : h[id]? = some (some (false, l))) : SealEq h (h.set id (some (false, l'))) := by
  have hlt : id < h.length := (List.getElem?_eq_some_iff.1 ho).1
  intro i m
  by_cases e : i = id
  · subst e
    rw [hset ho, ho]; simp
  · rw [List.getElem?_set_ne (fun h => e h.symm)]
theorem hnew (h : Hp) (x : Option (Bool × List AV)) : (h ++ [x])[h.length]? = some x := by simp
theorem hnew_set (h : Hp) (x y : Option (Bool × List AV)) : (h ++ [x]).set h.length y = h ++ [y] := by simp
theorem hold {h : Hp} {i : Nat} {y : Option (Bool × List AV)} (x : Option (Bool × List AV)) (ho : h[i]? = some y) : (h ++ [x])[i]? = some y := by
  rw [List.getElem?_append_left (List.getElem?_eq_some_iff.1 ho).1, ho]
theorem hlt_of {h : Hp} {i : Nat} {y : Option (Bool × List AV)} (ho : h[i]? = some y) : i < h.length := (List.getElem?_eq_some_iff.1 ho).1
theorem wri_len (ok : Bool) (add : List UInt8) (s : Bool × List UInt8) (n : Nat) (h : ok = true → add.length ≤ n) : (wri ok add s).2.length ≤ s.2.length + n := by
  unfold wri
  split
  · omega
  · split
    · next hok => have := h hok; simp only [List.length_append]; omega
    · simp only; omega
end Go.Proofs.Ytaepikkaogfhbaa

/- The plain law of reading: what is read was written so. -/
namespace Go.Proofs.Ytaepikkaogfhbaa
set_option linter.unusedSimpArgs false
set_option linter.unusedVariables false
open Go.RowKit Go.Lib

/-- what was read up to a place -/
def upTo (S : ByteArray) (p : Nat) : List UInt8 := S.data.toList.take p
theorem upTo_add (S : ByteArray) (p m : Nat) : upTo S (p + m) = upTo S p ++ (S.data.toList.drop p).take m := by
  unfold upTo; rw [List.take_add]
theorem upTo_size (S : ByteArray) : upTo S S.size = S.data.toList := by unfold upTo; rw [List.take_of_length_le (by simp)]
theorem upTo_len {S : ByteArray} {p : Nat} (h : p ≤ S.size) : (upTo S p).length = p := by unfold upTo; rw [List.length_take]; simp; omega
theorem ext_list (S : ByteArray) (p m : Nat) : (S.extract p (p + m)).data.toList = (S.data.toList.drop p).take m := by
  simp [List.extract_eq_take_drop]
theorem upTo_num {S : ByteArray} {most : Int} {p n q : Nat} (h : rNum S most p = some (n, q)) : upTo S q = upTo S p ++ num n := by
  unfold rNum at h
  split at h
  · next n' m hr =>
    split at h
    · simp only [Option.some.injEq, Prod.mk.injEq] at h
      obtain ⟨rfl, rfl⟩ := h
      rw [upTo_add, rdNum_back hr]
    · cases h
  · cases h
theorem upTo_take {S w : ByteArray} {n p q : Nat} (h : rTake S n p = some (w, q)) : upTo S q = upTo S p ++ w.data.toList ∧ w.size = n := by
  obtain ⟨rfl, h2, rfl⟩ := rTake_le h
  rw [upTo_add, ext_list]
  exact ⟨rfl, by simp; omega⟩
theorem upTo_text {S w : ByteArray} {most : Int} {p q : Nat} (h : rText S most p = some (w, q)) : upTo S q = upTo S p ++ (num w.size ++ w.data.toList) := by
  unfold rText at h
  split at h
  · next n q1 hr =>
    obtain ⟨h1, h2⟩ := upTo_take h
    rw [h1, upTo_num hr, h2, List.append_assoc]
  · cases h
theorem upTo_word {S w : ByteArray} {p q : Nat} (h : rWord S p = some (w, q)) : upTo S q = upTo S p ++ wordBytes w := by
  obtain ⟨h1, h2, h3, h4, h5⟩ := rWord_le h
  have hlt : p < S.data.toList.length := by simp; omega
  have hw : w.size = 2 * byteAt S p := by rw [h4]; simp; omega
  have hb := byteAt_lt S p
  have e : byteAt S p = S.data.toList[p].toNat := by
    unfold byteAt
    rw [List.getElem?_eq_getElem hlt]; rfl
  rw [show q = p + (1 + 2 * byteAt S p) by omega, upTo_add, List.drop_eq_getElem_cons hlt, Nat.add_comm 1, List.take_succ_cons, wordBytes]
  congr 2
  · rw [hw, show 2 * byteAt S p / 2 = byteAt S p by omega, e]; simp
  · rw [h4, show q = p + 1 + 2 * byteAt S p by omega, ext_list]
theorem upTo_words {S : ByteArray} {p : Nat} : ∀ {k : Nat} {l : List ByteArray} {q : Nat}, rWords S p k = some (l, q) → upTo S q = upTo S p ++ l.flatMap wordBytes
  | 0, l, q, h => by
    simp only [rWords, Option.some.injEq, Prod.mk.injEq] at h
    obtain ⟨rfl, rfl⟩ := h
    simp
  | k + 1, l, q, h => by
    simp only [rWords] at h
    split at h
    · next l' q' hr =>
      split at h
      · next w q2 hr2 =>
        simp only [Option.some.injEq, Prod.mk.injEq] at h
        obtain ⟨rfl, rfl⟩ := h
        rw [upTo_word hr2, upTo_words hr]
        simp
      · cases h
    · cases h
theorem upTo_set {S : ByteArray} {l : List ByteArray} {p q : Nat} (h : rSet S p = some (l, q)) : upTo S q = upTo S p ++ setBytes l ∧ setMay l = true ∧ p < q ∧ q ≤ S.size := by
  unfold rSet at h
  split at h
  · cases h
  · next hlt =>
    split at h
    · next l' q' hr =>
      split at h
      · next hm =>
        simp only [Option.some.injEq, Prod.mk.injEq] at h
        obtain ⟨rfl, rfl⟩ := h
        have hl := rWords_le (by omega) hr
        have hp : p < S.data.toList.length := by simp; omega
        refine ⟨?_, hm, by omega, hl.2.2.1⟩
        have e : byteAt S p = S.data.toList[p].toNat := by
          unfold byteAt
          rw [List.getElem?_eq_getElem hp]; rfl
        rw [upTo_words hr, upTo_add, List.drop_eq_getElem_cons hp, setBytes, hl.1, e]
        simp
      · cases h
    · cases h
theorem rText_le {S w : ByteArray} {most : Int} {p q : Nat} (h : rText S most p = some (w, q)) (hp : p ≤ S.size) : p < q ∧ q ≤ S.size ∧ w.size ≤ S.size := by
  unfold rText at h
  split at h
  · next n q1 hr =>
    have h1 := rNum_le hr hp
    obtain ⟨h2, h3, h4⟩ := rTake_le h
    exact ⟨by omega, h3, by rw [h4]; simp; omega⟩
  · cases h
end Go.Proofs.Ytaepikkaogfhbaa

/- The plain law of writing: what is written is read. -/
namespace Go.Proofs.Ytaepikkaogfhbaa
set_option linter.unusedSimpArgs false
set_option linter.unusedVariables false
open Go.RowKit Go.Lib

theorem snocRec {α : Type} {p : List α → Prop} (nil : p []) (append_singleton : ∀ (l : List α) (x : α), p l → p (l ++ [x])) (l : List α) : p l := by
  rw [← List.reverse_reverse l]
  induction l.reverse with
  | nil => exact nil
  | cons x r ih => rw [List.reverse_cons]; exact append_singleton _ _ ih
theorem rNum_at {S : ByteArray} {most : Int} {p n : Nat} {r : List UInt8} (h : S.data.toList.drop p = num n ++ r) (hn : n ≤ 4611686018427387904) (hm : (n : Int) ≤ most) : rNum S most p = some (n, p + (num n).length) := by
  unfold rNum
  rw [h, rdNum_num r hn]
  simp only
  rw [if_pos hm]
theorem drop_more {S : ByteArray} {p : Nat} {a r : List UInt8} (h : S.data.toList.drop p = a ++ r) : S.data.toList.drop (p + a.length) = r := by
  rw [← List.drop_drop, h, List.drop_left]
theorem drop_len {S : ByteArray} {p : Nat} {a r : List UInt8} (h : S.data.toList.drop p = a ++ r) : p + a.length ≤ S.size ∨ a = [] := by
  have := congrArg List.length h
  simp only [List.length_drop, List.length_append, ba_len] at this
  by_cases ha : a = []
  · exact .inr ha
  · have : 0 < a.length := List.length_pos_iff.2 ha
    exact .inl (by omega)
theorem rTake_at {S w : ByteArray} {p : Nat} {r : List UInt8} (h : S.data.toList.drop p = w.data.toList ++ r) (hp : p ≤ S.size) : rTake S w.size p = some (w, p + w.size) := by
  have hl := congrArg List.length h
  simp only [List.length_drop, List.length_append, ba_len] at hl
  unfold rTake
  rw [if_neg (by omega)]
  congr 2
  apply WideShapes.bytes_inj
  rw [ext_list, h, ← ba_len w, List.take_left]
theorem rText_at {S w : ByteArray} {p : Nat} {r : List UInt8} (h : S.data.toList.drop p = (num w.size ++ w.data.toList) ++ r) (hp : p ≤ S.size) (hw : w.size ≤ 4611686018427387904) : rText S w.size p = some (w, p + (num w.size ++ w.data.toList).length) := by
  unfold rText
  rw [List.append_assoc] at h
  rw [rNum_at h hw (by omega)]
  have h1 := drop_more h
  have hq : p + (num w.size).length ≤ S.size := by
    rcases drop_len h with h2 | h2
    · exact h2
    · rw [h2]; exact hp
  simp only
  rw [rTake_at h1 hq, List.length_append, ba_len, Nat.add_assoc]
theorem rWord_at {S w : ByteArray} {p : Nat} {r : List UInt8} (h : S.data.toList.drop p = wordBytes w ++ r) (hw : wordMay w = true) : rWord S p = some (w, p + (wordBytes w).length) := by
  have hs := wordMay_size hw
  have hl := congrArg List.length h
  have hwl : (wordBytes w).length = 1 + w.size := by rw [wordBytes, List.length_cons, ba_len]; omega
  simp only [List.length_drop, List.length_append, ba_len, hwl] at hl
  have hp : p < S.data.toList.length := by rw [ba_len]; omega
  have hb : byteAt S p = w.size / 2 := by
    unfold byteAt
    rw [← List.head?_drop, h]
    simp [wordBytes]; omega
  have h1 : S.data.toList.drop (p + 1) = w.data.toList ++ r := by
    rw [← List.drop_drop, h, wordBytes]; rfl
  unfold rWord
  rw [if_neg (by omega), hb, show 2 * (w.size / 2) = w.size by omega, if_neg (by omega)]
  have e : S.extract (p + 1) (p + 1 + w.size) = w := by
    apply WideShapes.bytes_inj
    rw [ext_list, h1, ← ba_len w, List.take_left]
  rw [e, hw, if_pos rfl, hwl]
  congr 2; omega
theorem rWords_at {S : ByteArray} : ∀ (l : List ByteArray) {p : Nat} {r : List UInt8}, S.data.toList.drop p = l.flatMap wordBytes ++ r → (∀ w ∈ l, wordMay w = true) → rWords S p l.length = some (l, p + (l.flatMap wordBytes).length) := by
  intro l
  induction l using snocRec with
  | nil => intro p r _ _; rfl
  | append_singleton l w ih =>
    intro p r h hw
    rw [List.flatMap_append, List.append_assoc] at h
    have h1 := drop_more h
    rw [List.length_append]
    simp only [List.length_cons, List.length_nil, Nat.zero_add, rWords]
    rw [ih h (fun x hx => hw x (by simp [hx]))]
    simp only [List.flatMap_cons, List.flatMap_nil, List.append_nil] at h1
    simp only
    rw [rWord_at h1 (hw w (by simp))]
    simp [Nat.add_assoc]
theorem rSet_at {S : ByteArray} {l : List ByteArray} {p : Nat} {r : List UInt8} (h : S.data.toList.drop p = setBytes l ++ r) (hm : setMay l = true) : rSet S p = some (l, p + (setBytes l).length) := by
  have hs := setMay_words hm
  have hl := congrArg List.length h
  have hwl : (setBytes l).length = 1 + (l.flatMap wordBytes).length := by rw [setBytes, List.length_cons]; omega
  simp only [List.length_drop, List.length_append, ba_len, hwl] at hl
  have hb : byteAt S p = l.length := by
    unfold byteAt
    rw [← List.head?_drop, h]
    simp [setBytes]; omega
  have h1 : S.data.toList.drop (p + 1) = l.flatMap wordBytes ++ r := by
    rw [← List.drop_drop, h, setBytes]; rfl
  unfold rSet
  rw [if_neg (by omega), hb, rWords_at l h1 hs.2]
  simp only
  rw [hm, if_pos rfl, hwl]
  congr 2; omega

theorem wri_none (s : Bool × List UInt8) : wri true [] s = s := by
  obtain ⟨b, l⟩ := s
  cases b <;> simp [wri]
end Go.Proofs.Ytaepikkaogfhbaa

/- The abstract layer: full slices as ones that are only read, however deep; results that are objects as ones that stay. -/
namespace Go.Proofs.Ytaepikkaogfhbaa
set_option linter.unusedSimpArgs false
set_option linter.unusedVariables false
open Go.RowKit Go.Lib

mutual
def rdp : AV → AV
  | .lst .clip n l => .lst .ro n (rdps l)
  | .lst f n l => .lst f n (rdps l)
  | .agg l => .agg (rdps l)
  | .tup l => .tup (rdps l)
  | .fp l => .fp (rdps l)
  | .fn f l => .fn f (rdps l)
  | a => a
def rdps : List AV → List AV
  | [] => []
  | a :: l => rdp a :: rdps l
end
theorem rdps_len : ∀ l : List AV, (rdps l).length = l.length
  | [] => rfl
  | _ :: l => by simp only [rdps, List.length_cons, rdps_len l]
theorem plain_rdp (a : AV) (h : plain a = true) : plain (rdp a) = true := by
  cases a with
  | lst f n l => cases f <;> first | (simp [plain] at h; done) | simp [rdp, plain]
  | _ => simp [rdp, plain]
theorem plains_rdp : ∀ {l : List AV}, plains l → plains (rdps l)
  | [], _ => by intro a ha; simp [rdps] at ha
  | a :: l, h => by
    intro b hb
    simp only [rdps, List.mem_cons] at hb
    rcases hb with rfl | hb
    · exact plain_rdp a (h a (by simp))
    · exact plains_rdp (fun x hx => h x (by simp [hx])) b hb
mutual
theorem Rep.rdp {g : Gh} : ∀ {v : Value} {a : AV}, Rep g v a → Rep g v (rdp a)
  | _, _, .bool b => by simp only [Go.Proofs.Ytaepikkaogfhbaa.rdp]; exact .bool b
  | _, _, .int k n => by simp only [Go.Proofs.Ytaepikkaogfhbaa.rdp]; exact .int k n
  | _, _, .str s => by simp only [Go.Proofs.Ytaepikkaogfhbaa.rdp]; exact .str s
  | _, _, .nilp => by simp only [Go.Proofs.Ytaepikkaogfhbaa.rdp]; exact .nilp
  | _, _, .ptr id off b h => by simp only [Go.Proofs.Ytaepikkaogfhbaa.rdp]; exact .ptr id off b h
  | _, _, .fp b off vs l h hp hl => by simp only [Go.Proofs.Ytaepikkaogfhbaa.rdp]; exact .fp b off vs _ h (plains_rdp hp) (RepL.rdp hl)
  | _, _, .lst b off n c .clip vs l h hp h1 h2 hl => by simp only [Go.Proofs.Ytaepikkaogfhbaa.rdp]; exact .lst b off n c .ro vs _ h (plains_rdp hp) h1 (fun e => by cases e) (RepL.rdp hl)
  | _, _, .lst b off n c .ro vs l h hp h1 h2 hl => by simp only [Go.Proofs.Ytaepikkaogfhbaa.rdp]; exact .lst b off n c .ro vs _ h (plains_rdp hp) h1 (fun e => by cases e) (RepL.rdp hl)
  | _, _, .lst b off n c (.own e) vs l h hp h1 h2 hl => by simp only [Go.Proofs.Ytaepikkaogfhbaa.rdp]; exact .lst b off n c (.own e) vs _ h (plains_rdp hp) h1 (fun e => by cases e) (RepL.rdp hl)
  | _, _, .lst0 a c .clip h => by simp only [Go.Proofs.Ytaepikkaogfhbaa.rdp, rdps]; exact .lst0 a c .ro (fun e => by cases e)
  | _, _, .lst0 a c .ro h => by simp only [Go.Proofs.Ytaepikkaogfhbaa.rdp, rdps]; exact .lst0 a c .ro (fun e => by cases e)
  | _, _, .lst0 a c (.own e) h => by simp only [Go.Proofs.Ytaepikkaogfhbaa.rdp, rdps]; exact .lst0 a c (.own e) (fun e => by cases e)
  | _, _, .hs id b n c h h1 => by simp only [Go.Proofs.Ytaepikkaogfhbaa.rdp]; exact .hs id b n c h h1
  | _, _, .agg vs l h hp hl => by simp only [Go.Proofs.Ytaepikkaogfhbaa.rdp]; exact .agg vs _ h (plains_rdp hp) (RepL.rdp hl)
  | _, _, .tup vs l hp hl => by simp only [Go.Proofs.Ytaepikkaogfhbaa.rdp]; exact .tup vs _ (plains_rdp hp) (RepL.rdp hl)
  | _, _, .fn f vs l hp hl => by simp only [Go.Proofs.Ytaepikkaogfhbaa.rdp]; exact .fn f vs _ (plains_rdp hp) (RepL.rdp hl)
  | _, _, .nilf => by simp only [Go.Proofs.Ytaepikkaogfhbaa.rdp]; exact .nilf
theorem RepL.rdp {g : Gh} : ∀ {vs : List Value} {l : List AV}, RepL g vs l → RepL g vs (rdps l)
  | _, _, .nil => by simp only [rdps]; exact .nil
  | _, _, .cons h hl => by simp only [rdps]; exact .cons (Rep.rdp h) (RepL.rdp hl)
end
/-- a result, as one that is only read -/
theorem ACalls.deep {P : Program} {f : FuncId} {args : List AV} {h : Hp} {R : AV → Hp → Prop} (hc : ACalls P f args h (fun a h' => R (rdp a) h')) : ACalls P f args h R :=
  ⟨hc.1, fun g w vargs h1 h2 h3 h4 => (hc.2 g w vargs h1 h2 h3 h4).mono fun _ _ ⟨x, a, h', g', q1, q2, q3, q4, q5, q6, q7⟩ => ⟨x, _, h', g', q1, q2, q3, q4, q5.rdp, plain_rdp _ q6, q7⟩⟩
/-- arguments, as ones that are only read -/
theorem ACalls.argd {P : Program} {f : FuncId} {args : List AV} {h : Hp} {R : AV → Hp → Prop} (hc : ACalls P f (rdps args) h R) : ACalls P f args h R :=
  ⟨hc.1, fun g w vargs h1 h2 h3 h4 => hc.2 g w vargs h1 h2 h3.rdp (plains_rdp h4)⟩
mutual
theorem free_rdp : ∀ a : AV, free (rdp a) = free a
  | .lst .clip n l => by simp only [rdp, free, frees_rdp l]
  | .lst .ro n l => by simp only [rdp, free, frees_rdp l]
  | .lst (.own e) n l => by simp only [rdp, free, frees_rdp l]
  | .agg l => by simp only [rdp, free, frees_rdp l]
  | .tup l => by simp only [rdp, free, frees_rdp l]
  | .fp l => by simp only [rdp, free, frees_rdp l]
  | .fn f l => by simp only [rdp, free, frees_rdp l]
  | .bool _ => by simp only [rdp]
  | .int _ _ => by simp only [rdp]
  | .str _ => by simp only [rdp]
  | .nilp => by simp only [rdp]
  | .ptr _ _ => by simp only [rdp]
  | .hs _ _ => by simp only [rdp]
  | .nilf => by simp only [rdp]
theorem frees_rdp : ∀ l : List AV, free.frees (rdps l) = free.frees l
  | [] => rfl
  | a :: l => by simp only [rdps, free.frees, free_rdp a, frees_rdp l]
end
theorem PCalls.argd {P : Program} {f : FuncId} {args : List AV} {v : AV} (hc : PCalls P f (rdps args) v) : PCalls P f args v :=
  ⟨by rw [← frees_rdp]; exact hc.1, hc.2.1, ACalls.argd hc.2.2⟩
theorem rdps_nil : rdps [] = [] := by simp only [rdps]
theorem rdps_cons (a : AV) (l : List AV) : rdps (a :: l) = rdp a :: rdps l := by simp only [rdps]
theorem rdp_bool (b : Bool) : rdp (.bool b) = .bool b := by simp only [rdp]
theorem rdp_int (k : IntKind) (n : Int) : rdp (.int k n) = .int k n := by simp only [rdp]
theorem rdp_str (s : ByteArray) : rdp (.str s) = .str s := by simp only [rdp]
theorem rdp_nilp : rdp .nilp = .nilp := by simp only [rdp]
theorem rdp_hs (i n : Nat) : rdp (.hs i n) = .hs i n := by simp only [rdp]
theorem rdp_ptr (i n : Nat) : rdp (.ptr i n) = .ptr i n := by simp only [rdp]
theorem rdp_ro (n : Nat) (l : List AV) : rdp (.lst .ro n l) = .lst .ro n (rdps l) := by simp only [rdp]
theorem rdp_clip (n : Nat) (l : List AV) : rdp (.lst .clip n l) = .lst .ro n (rdps l) := by simp only [rdp]
theorem rdp_agg (l : List AV) : rdp (.agg l) = .agg (rdps l) := by simp only [rdp]
theorem rdp_tup (l : List AV) : rdp (.tup l) = .tup (rdps l) := by simp only [rdp]
theorem rdps_str : ∀ l : List ByteArray, rdps (l.map .str) = l.map .str
  | [] => rdps_nil
  | a :: l => by simp only [List.map_cons, rdps_cons, rdp_str, rdps_str l]
theorem rdps_app : ∀ l m : List AV, rdps (l ++ m) = rdps l ++ rdps m
  | [], m => by rw [rdps_nil]; rfl
  | a :: l, m => by simp only [List.cons_append, rdps_cons, rdps_app l m]
theorem rdpw : type_of% (And.intro @rdps_nil (And.intro @rdps_cons (And.intro @rdp_bool (And.intro @rdp_int (And.intro @rdp_str (And.intro @rdp_nilp (And.intro @rdp_hs (And.intro @rdp_ptr (And.intro @rdp_ro (And.intro @rdp_clip (And.intro @rdp_agg (And.intro @rdp_tup @rdps_str)))))))))))) :=
  And.intro @rdps_nil (And.intro @rdps_cons (And.intro @rdp_bool (And.intro @rdp_int (And.intro @rdp_str (And.intro @rdp_nilp (And.intro @rdp_hs (And.intro @rdp_ptr (And.intro @rdp_ro (And.intro @rdp_clip (And.intro @rdp_agg (And.intro @rdp_tup @rdps_str)))))))))))
theorem valL (fr : Fr) (h : Hp) (s : Option Nat) (x : Opd) (K : AV → Prop) : val fr h (.load s x) K = (match ev fr x with
    | some (.ptr id off) => (match h[id]? with
      | some (some (_, l)) => loadK s (l.drop off) K
      | _ => False)
    | some (.fp l) => loadK s l K
    | _ => False) := id rfl
end Go.Proofs.Ytaepikkaogfhbaa

/- The functions' abstract code, written by a program (acode.py), and that it is theirs. -/
namespace Go.Proofs.Ytaepikkaogfhbaa
open Go.RowKit

/- behind: Q -/
def J_ref07_In_Num_j1 : ACode :=
  .keep [0] (.seq (.ops [⟨some 68, none, .mv (.t 0), none⟩,
      ⟨some 69, none, .nilck (.t 68), none⟩,
      ⟨some 70, none, .fld 2 (.t 69), none⟩,
      ⟨none, none, .store 1 (.t 70) (.c (.bool true)), none⟩])
        (.keep [] (.seq (.ops [⟨some 4, none, .mv (.c (.int .i64 0)), none⟩])
         (.ret))))

/- behind: Q = kloop [0, 1, 5, 6, 7] I n (kblock 0 (kseq P (J_ref07_In_Num_j1) Q)) -/
def J_ref07_In_Num_j2 : ACode :=
  .seq (.seq (.ops [⟨some 13, none, .mv (.t 7), none⟩,
      ⟨some 14, none, .bin .lss (.t 13) (.c (.int .i64 9)), none⟩])
            (.keep [0, 1, 5, 6, 7, 14] (.cond (.t 14)
             (.skip)
             (.exit 0))))
           (.keep [0, 1, 5, 6, 7] (.seq (.block 1 (.seq (.seq (.draw [0, 1, 5, 6, 7, 26] [⟨some 17, none, .mv (.t 0), none⟩,
      ⟨some 18, none, .nilck (.t 17), none⟩,
      ⟨some 19, none, .fld 1 (.t 18), none⟩,
      ⟨some 20, none, .load none (.t 19), none⟩,
      ⟨some 21, none, .mv (.t 0), none⟩,
      ⟨some 22, none, .nilck (.t 21), none⟩,
      ⟨some 23, none, .fld 0 (.t 22), none⟩,
      ⟨some 24, none, .load none (.t 23), none⟩,
      ⟨some 25, none, .lens (.t 24), none⟩,
      ⟨some 26, none, .bin .geq (.t 20) (.t 25), none⟩])
               (.keep [0, 1, 5, 6, 7, 26] (.cond (.t 26)
                (.exit 0)
                (.skip))))
              (.keep [0, 1, 5, 6, 7] (.seq (.draw [0, 1, 5, 6, 7, 8] [⟨some 27, none, .mv (.t 0), none⟩,
      ⟨some 28, none, .nilck (.t 27), none⟩,
      ⟨some 29, none, .fld 0 (.t 28), none⟩,
      ⟨some 30, none, .load none (.t 29), none⟩,
      ⟨some 31, none, .mv (.t 0), none⟩,
      ⟨some 32, none, .nilck (.t 31), none⟩,
      ⟨some 33, none, .fld 1 (.t 32), none⟩,
      ⟨some 34, none, .load none (.t 33), none⟩,
      ⟨some 35, none, .idxs (.t 30) (.t 34), none⟩,
      ⟨some 36, none, .conv .i64 (.t 35), none⟩,
      ⟨some 8, none, .mv (.t 36), none⟩])
               (.keep [0, 1, 5, 6, 7, 8] (.seq (.ops [⟨some 37, none, .mv (.t 0), none⟩,
      ⟨some 38, none, .nilck (.t 37), none⟩,
      ⟨some 39, none, .fld 1 (.t 38), none⟩,
      ⟨some 40, none, .load none (.t 39), none⟩,
      ⟨some 41, none, .bin .add (.t 40) (.c (.int .i64 1)), none⟩,
      ⟨some 42, none, .nilck (.t 37), none⟩,
      ⟨some 43, none, .fld 1 (.t 42), none⟩,
      ⟨none, none, .store 1 (.t 43) (.t 41), none⟩])
                (.keep [0, 1, 5, 6, 7, 8] (.seq (.seq (.ops [⟨some 44, none, .mv (.t 7), none⟩,
      ⟨some 45, none, .bin .gtr (.t 44) (.c (.int .i64 0)), none⟩,
      ⟨some 46, none, .mv (.t 45), none⟩,
      ⟨some 47, (some (46, true)), .mv (.t 8), none⟩,
      ⟨some 48, (some (46, true)), .bin .eql (.t 47) (.c (.int .i64 0)), none⟩,
      ⟨some 49, none, .pick (.t 46) (.t 48) (.c (.bool false)), none⟩])
                  (.keep [0, 1, 5, 6, 7, 8, 49] (.cond (.t 49)
                   (.exit 0)
                   (.skip))))
                 (.keep [0, 1, 5, 6, 7, 8] (.seq (.ops [⟨some 50, none, .mv (.t 5), none⟩,
      ⟨some 51, none, .mv (.t 8), none⟩,
      ⟨some 52, none, .bin .rem (.t 51) (.c (.int .i64 128)), none⟩,
      ⟨some 53, none, .mv (.t 6), none⟩,
      ⟨some 54, none, .ex (.binw .mul) [(.t 52), (.t 53)], none⟩,
      ⟨some 55, none, .bin .add (.t 50) (.t 54), none⟩,
      ⟨some 5, none, .mv (.t 55), none⟩])
                  (.keep [0, 1, 5, 6, 7, 8] (.seq (.seq (.ops [⟨some 56, none, .mv (.t 8), none⟩,
      ⟨some 57, none, .bin .lss (.t 56) (.c (.int .i64 128)), none⟩])
                    (.keep [0, 1, 5, 6, 7, 57] (.cond (.t 57)
                     (.seq (.seq (.ops [⟨some 58, none, .mv (.t 5), none⟩,
      ⟨some 59, none, .mv (.t 1), none⟩,
      ⟨some 60, none, .bin .gtr (.t 58) (.t 59), none⟩,
      ⟨some 61, none, .mv (.t 60), none⟩,
      ⟨some 62, (some (61, false)), .mv (.t 5), none⟩,
      ⟨some 63, (some (61, false)), .bin .gtr (.t 62) (.c (.int .i64 4611686018427387904)), none⟩,
      ⟨some 64, none, .pick (.t 61) (.c (.bool true)) (.t 63), none⟩])
                       (.keep [0, 5, 64] (.cond (.t 64)
                        (.exit 0)
                        (.skip))))
                      (.keep [5] (.seq (.ops [⟨some 65, none, .mv (.t 5), none⟩,
      ⟨some 4, none, .mv (.t 65), none⟩])
                       (.ret))))
                     (.skip))))
                   (.keep [0, 1, 5, 6, 7] (.ops [⟨some 66, none, .mv (.t 6), none⟩,
      ⟨some 67, none, .ex (.binw .mul) [(.t 66), (.c (.int .i64 128))], none⟩,
      ⟨some 6, none, .mv (.t 67), none⟩]))))))))))))))
            (.keep [0, 1, 5, 6, 7] (.ops [⟨some 15, none, .mv (.t 7), none⟩,
      ⟨some 16, none, .bin .add (.t 15) (.c (.int .i64 1)), none⟩,
      ⟨some 7, none, .mv (.t 16), none⟩]))))

/-- (*attorney/attorneyref07.In).Num -/
def J_ref07_In_Num : AFn :=
  ⟨71, [.t 4], .seq (.ops [⟨some 4, none, .mv (.c (.int .i64 0)), none⟩])
   (.keep [0, 1] (.seq (.seq (.ops [⟨some 9, none, .mv (.t 0), none⟩,
      ⟨some 10, none, .nilck (.t 9), none⟩,
      ⟨some 11, none, .fld 2 (.t 10), none⟩,
      ⟨some 12, none, .load none (.t 11), none⟩])
     (.keep [0, 1, 12] (.cond (.t 12)
      (.seq (.ops [⟨some 4, none, .mv (.c (.int .i64 0)), none⟩])
       (.ret))
      (.skip))))
    (.keep [0, 1] (.seq (.ops [⟨some 5, none, .mv (.c (.int .i64 0)), none⟩])
     (.keep [0, 1, 5] (.seq (.ops [⟨some 6, none, .mv (.c (.int .i64 1)), none⟩])
      (.keep [0, 1, 5, 6] (.seq (.seq (.ops [⟨some 7, none, .mv (.c (.int .i64 0)), none⟩])
        (.keep [0, 1, 5, 6, 7] (.block 0 (.loop [0, 1, 5, 6, 7] (J_ref07_In_Num_j2)))))
       (J_ref07_In_Num_j1)))))))))⟩
theorem J_ref07_In_Num_ok : chkFn Try.prog 71 J_ref07_In_Num = true := by kernel_rfl

/- behind: Q -/
def J_ref07_In_Set_j1 : ACode :=
  .keep [0, 4] (.seq (.seq (.ops [⟨some 60, none, .mv (.t 0), none⟩,
      ⟨some 61, none, .nilck (.t 60), none⟩,
      ⟨some 62, none, .fld 2 (.t 61), none⟩,
      ⟨some 63, none, .load none (.t 62), none⟩,
      ⟨some 64, none, .mv (.t 63), none⟩,
      ⟨some 65, (some (64, false)), .mv (.t 4), none⟩,
      ⟨some 66, (some (64, false)), .call (.f 61) [(.t 65)], none⟩,
      ⟨some 67, (some (64, false)), .not (.t 66), none⟩,
      ⟨some 68, none, .pick (.t 64) (.c (.bool true)) (.t 67), none⟩])
          (.keep [0, 4, 68] (.cond (.t 68)
           (.seq (.ops [⟨some 69, none, .mv (.t 0), none⟩,
      ⟨some 70, none, .nilck (.t 69), none⟩,
      ⟨some 71, none, .fld 2 (.t 70), none⟩,
      ⟨none, none, .store 1 (.t 71) (.c (.bool true)), none⟩])
            (.keep [] (.seq (.ops [⟨some 2, none, .mv (.c (.lst .clip 0 [])), none⟩])
             (.ret))))
           (.skip))))
         (.keep [4] (.seq (.ops [⟨some 72, none, .mv (.t 4), none⟩,
      ⟨some 2, none, .mv (.t 72), none⟩])
          (.ret))))

/- behind: Q = kloop [0, 3, 4, 5] I n (kblock 0 (kseq P (J_ref07_In_Set_j1) Q)) -/
def J_ref07_In_Set_j2 : ACode :=
  .seq (.seq (.ops [⟨some 43, none, .mv (.t 5), none⟩,
      ⟨some 44, none, .mv (.t 3), none⟩,
      ⟨some 45, none, .bin .lss (.t 43) (.t 44), none⟩,
      ⟨some 46, none, .mv (.t 45), none⟩,
      ⟨some 47, (some (46, true)), .mv (.t 0), none⟩,
      ⟨some 48, (some (46, true)), .nilck (.t 47), none⟩,
      ⟨some 49, (some (46, true)), .fld 2 (.t 48), none⟩,
      ⟨some 50, (some (46, true)), .load none (.t 49), none⟩,
      ⟨some 51, (some (46, true)), .not (.t 50), none⟩,
      ⟨some 52, none, .pick (.t 46) (.t 51) (.c (.bool false)), none⟩])
             (.keep [0, 3, 4, 5, 52] (.cond (.t 52)
              (.skip)
              (.exit 0))))
            (.keep [0, 3, 4, 5] (.seq (.block 1 (.ops [⟨some 55, none, .mvo 4, none⟩,
      ⟨some 56, none, .mv (.t 0), none⟩,
      ⟨some 57, none, .call (.f 88) [(.t 56)], none⟩,
      ⟨some 58, none, .bsl 44 1 1 [(.str ⟨#[]⟩)] [(0, 1, (.t 57))], none⟩,
      ⟨some 59, none, .appo 44 1 16 55 (.t 58), none⟩,
      ⟨some 4, none, .mvo 59, none⟩]))
             (.keep [0, 3, 4, 5] (.ops [⟨some 53, none, .mv (.t 5), none⟩,
      ⟨some 54, none, .bin .add (.t 53) (.c (.int .i64 1)), none⟩,
      ⟨some 5, none, .mv (.t 54), none⟩]))))

/-- (*attorney/attorneyref07.In).Set -/
def J_ref07_In_Set : AFn :=
  ⟨73, [.t 2], .seq (.ops [⟨some 2, none, .mv (.c (.lst .clip 0 [])), none⟩])
   (.keep [0] (.seq (.seq (.draw [0, 21] [⟨some 6, none, .mv (.t 0), none⟩,
      ⟨some 7, none, .nilck (.t 6), none⟩,
      ⟨some 8, none, .fld 2 (.t 7), none⟩,
      ⟨some 9, none, .load none (.t 8), none⟩,
      ⟨some 10, none, .mv (.t 9), none⟩,
      ⟨some 11, (some (10, false)), .mv (.t 0), none⟩,
      ⟨some 12, (some (10, false)), .nilck (.t 11), none⟩,
      ⟨some 13, (some (10, false)), .fld 1 (.t 12), none⟩,
      ⟨some 14, (some (10, false)), .load none (.t 13), none⟩,
      ⟨some 15, (some (10, false)), .mv (.t 0), none⟩,
      ⟨some 16, (some (10, false)), .nilck (.t 15), none⟩,
      ⟨some 17, (some (10, false)), .fld 0 (.t 16), none⟩,
      ⟨some 18, (some (10, false)), .load none (.t 17), none⟩,
      ⟨some 19, (some (10, false)), .lens (.t 18), none⟩,
      ⟨some 20, (some (10, false)), .bin .geq (.t 14) (.t 19), none⟩,
      ⟨some 21, none, .pick (.t 10) (.c (.bool true)) (.t 20), none⟩])
     (.keep [0, 21] (.cond (.t 21)
      (.seq (.ops [⟨some 22, none, .mv (.t 0), none⟩,
      ⟨some 23, none, .nilck (.t 22), none⟩,
      ⟨some 24, none, .fld 2 (.t 23), none⟩,
      ⟨none, none, .store 1 (.t 24) (.c (.bool true)), none⟩])
       (.keep [] (.seq (.ops [⟨some 2, none, .mv (.c (.lst .clip 0 [])), none⟩])
        (.ret))))
      (.skip))))
    (.keep [0] (.seq (.draw [0, 3] [⟨some 25, none, .mv (.t 0), none⟩,
      ⟨some 26, none, .nilck (.t 25), none⟩,
      ⟨some 27, none, .fld 0 (.t 26), none⟩,
      ⟨some 28, none, .load none (.t 27), none⟩,
      ⟨some 29, none, .mv (.t 0), none⟩,
      ⟨some 30, none, .nilck (.t 29), none⟩,
      ⟨some 31, none, .fld 1 (.t 30), none⟩,
      ⟨some 32, none, .load none (.t 31), none⟩,
      ⟨some 33, none, .idxs (.t 28) (.t 32), none⟩,
      ⟨some 34, none, .conv .i64 (.t 33), none⟩,
      ⟨some 3, none, .mv (.t 34), none⟩])
     (.keep [0, 3] (.seq (.ops [⟨some 35, none, .mv (.t 0), none⟩,
      ⟨some 36, none, .nilck (.t 35), none⟩,
      ⟨some 37, none, .fld 1 (.t 36), none⟩,
      ⟨some 38, none, .load none (.t 37), none⟩,
      ⟨some 39, none, .bin .add (.t 38) (.c (.int .i64 1)), none⟩,
      ⟨some 40, none, .nilck (.t 35), none⟩,
      ⟨some 41, none, .fld 1 (.t 40), none⟩,
      ⟨none, none, .store 1 (.t 41) (.t 39), none⟩])
      (.keep [0, 3] (.seq (.ops [⟨some 42, none, .bsl 44 1 0 [] [], none⟩,
      ⟨some 4, none, .mvo 42, none⟩])
       (.keep [0, 3, 4] (.seq (.seq (.ops [⟨some 5, none, .mv (.c (.int .i64 0)), none⟩])
         (.keep [0, 3, 4, 5] (.block 0 (.loop [0, 3, 4, 5] (J_ref07_In_Set_j2)))))
        (J_ref07_In_Set_j1)))))))))))⟩
theorem J_ref07_In_Set_ok : chkFn Try.prog 72 J_ref07_In_Set = true := by kernel_rfl

/-- (*attorney/attorneyref07.In).Done -/
def J_ref07_In_Done : AFn :=
  ⟨22, [.t 2], .seq (.ops [⟨some 2, none, .mv (.c (.int .i64 0)), none⟩])
   (.keep [0] (.seq (.seq (.draw [0, 18] [⟨some 3, none, .mv (.t 0), none⟩,
      ⟨some 4, none, .nilck (.t 3), none⟩,
      ⟨some 5, none, .fld 2 (.t 4), none⟩,
      ⟨some 6, none, .load none (.t 5), none⟩,
      ⟨some 7, none, .mv (.t 6), none⟩,
      ⟨some 8, (some (7, false)), .mv (.t 0), none⟩,
      ⟨some 9, (some (7, false)), .nilck (.t 8), none⟩,
      ⟨some 10, (some (7, false)), .fld 1 (.t 9), none⟩,
      ⟨some 11, (some (7, false)), .load none (.t 10), none⟩,
      ⟨some 12, (some (7, false)), .mv (.t 0), none⟩,
      ⟨some 13, (some (7, false)), .nilck (.t 12), none⟩,
      ⟨some 14, (some (7, false)), .fld 0 (.t 13), none⟩,
      ⟨some 15, (some (7, false)), .load none (.t 14), none⟩,
      ⟨some 16, (some (7, false)), .lens (.t 15), none⟩,
      ⟨some 17, (some (7, false)), .bin .lss (.t 11) (.t 16), none⟩,
      ⟨some 18, none, .pick (.t 7) (.c (.bool true)) (.t 17), none⟩])
     (.keep [0, 18] (.cond (.t 18)
      (.seq (.ops [⟨some 19, none, .mv (.t 0), none⟩,
      ⟨some 20, none, .nilck (.t 19), none⟩,
      ⟨some 21, none, .fld 2 (.t 20), none⟩,
      ⟨none, none, .store 1 (.t 21) (.c (.bool true)), none⟩])
       (.keep [] (.seq (.ops [⟨some 2, none, .mv (.c (.int .i64 2)), none⟩])
        (.ret))))
      (.skip))))
    (.keep [] (.seq (.ops [⟨some 2, none, .mv (.c (.int .i64 0)), none⟩])
     (.ret)))))⟩
theorem J_ref07_In_Done_ok : chkFn Try.prog 73 J_ref07_In_Done = true := by kernel_rfl

/-- (*attorney/attorneyref07.In).Word -/
def J_ref07_In_Word : AFn :=
  ⟨99, [.t 2], .seq (.ops [⟨some 2, none, .mv (.c (.str ⟨#[]⟩)), none⟩])
   (.keep [0] (.seq (.seq (.draw [0, 20] [⟨some 5, none, .mv (.t 0), none⟩,
      ⟨some 6, none, .nilck (.t 5), none⟩,
      ⟨some 7, none, .fld 2 (.t 6), none⟩,
      ⟨some 8, none, .load none (.t 7), none⟩,
      ⟨some 9, none, .mv (.t 8), none⟩,
      ⟨some 10, (some (9, false)), .mv (.t 0), none⟩,
      ⟨some 11, (some (9, false)), .nilck (.t 10), none⟩,
      ⟨some 12, (some (9, false)), .fld 1 (.t 11), none⟩,
      ⟨some 13, (some (9, false)), .load none (.t 12), none⟩,
      ⟨some 14, (some (9, false)), .mv (.t 0), none⟩,
      ⟨some 15, (some (9, false)), .nilck (.t 14), none⟩,
      ⟨some 16, (some (9, false)), .fld 0 (.t 15), none⟩,
      ⟨some 17, (some (9, false)), .load none (.t 16), none⟩,
      ⟨some 18, (some (9, false)), .lens (.t 17), none⟩,
      ⟨some 19, (some (9, false)), .bin .geq (.t 13) (.t 18), none⟩,
      ⟨some 20, none, .pick (.t 9) (.c (.bool true)) (.t 19), none⟩])
     (.keep [0, 20] (.cond (.t 20)
      (.seq (.ops [⟨some 21, none, .mv (.t 0), none⟩,
      ⟨some 22, none, .nilck (.t 21), none⟩,
      ⟨some 23, none, .fld 2 (.t 22), none⟩,
      ⟨none, none, .store 1 (.t 23) (.c (.bool true)), none⟩])
       (.keep [] (.seq (.ops [⟨some 2, none, .mv (.c (.str ⟨#[]⟩)), none⟩])
        (.ret))))
      (.skip))))
    (.keep [0] (.seq (.draw [0, 3] [⟨some 24, none, .mv (.t 0), none⟩,
      ⟨some 25, none, .nilck (.t 24), none⟩,
      ⟨some 26, none, .fld 0 (.t 25), none⟩,
      ⟨some 27, none, .load none (.t 26), none⟩,
      ⟨some 28, none, .mv (.t 0), none⟩,
      ⟨some 29, none, .nilck (.t 28), none⟩,
      ⟨some 30, none, .fld 1 (.t 29), none⟩,
      ⟨some 31, none, .load none (.t 30), none⟩,
      ⟨some 32, none, .idxs (.t 27) (.t 31), none⟩,
      ⟨some 33, none, .conv .i64 (.t 32), none⟩,
      ⟨some 34, none, .bin .mul (.c (.int .i64 2)) (.t 33), none⟩,
      ⟨some 3, none, .mv (.t 34), none⟩])
     (.keep [0, 3] (.seq (.seq (.draw [0, 3, 68] [⟨some 35, none, .mv (.t 0), none⟩,
      ⟨some 36, none, .nilck (.t 35), none⟩,
      ⟨some 37, none, .fld 1 (.t 36), none⟩,
      ⟨some 38, none, .load none (.t 37), none⟩,
      ⟨some 39, none, .bin .add (.t 38) (.c (.int .i64 1)), none⟩,
      ⟨some 40, none, .mv (.t 3), none⟩,
      ⟨some 41, none, .bin .add (.t 39) (.t 40), none⟩,
      ⟨some 42, none, .mv (.t 0), none⟩,
      ⟨some 43, none, .nilck (.t 42), none⟩,
      ⟨some 44, none, .fld 0 (.t 43), none⟩,
      ⟨some 45, none, .load none (.t 44), none⟩,
      ⟨some 46, none, .lens (.t 45), none⟩,
      ⟨some 47, none, .bin .gtr (.t 41) (.t 46), none⟩,
      ⟨some 48, none, .mv (.t 47), none⟩,
      ⟨some 49, (some (48, false)), .mv (.t 0), none⟩,
      ⟨some 50, (some (48, false)), .nilck (.t 49), none⟩,
      ⟨some 51, (some (48, false)), .fld 0 (.t 50), none⟩,
      ⟨some 52, (some (48, false)), .load none (.t 51), none⟩,
      ⟨some 53, (some (48, false)), .mv (.t 0), none⟩,
      ⟨some 54, (some (48, false)), .nilck (.t 53), none⟩,
      ⟨some 55, (some (48, false)), .fld 1 (.t 54), none⟩,
      ⟨some 56, (some (48, false)), .load none (.t 55), none⟩,
      ⟨some 57, (some (48, false)), .bin .add (.t 56) (.c (.int .i64 1)), none⟩,
      ⟨some 58, (some (48, false)), .mv (.t 0), none⟩,
      ⟨some 59, (some (48, false)), .nilck (.t 58), none⟩,
      ⟨some 60, (some (48, false)), .fld 1 (.t 59), none⟩,
      ⟨some 61, (some (48, false)), .load none (.t 60), none⟩,
      ⟨some 62, (some (48, false)), .bin .add (.t 61) (.c (.int .i64 1)), none⟩,
      ⟨some 63, (some (48, false)), .mv (.t 3), none⟩,
      ⟨some 64, (some (48, false)), .bin .add (.t 62) (.t 63), none⟩,
      ⟨some 65, (some (48, false)), .slcs (.t 52) (some (.t 57)) (some (.t 64)), none⟩,
      ⟨some 66, (some (48, false)), .call (.f 84) [(.t 65)], none⟩,
      ⟨some 67, (some (48, false)), .not (.t 66), none⟩,
      ⟨some 68, none, .pick (.t 48) (.c (.bool true)) (.t 67), none⟩])
       (.keep [0, 3, 68] (.cond (.t 68)
        (.seq (.ops [⟨some 69, none, .mv (.t 0), none⟩,
      ⟨some 70, none, .nilck (.t 69), none⟩,
      ⟨some 71, none, .fld 2 (.t 70), none⟩,
      ⟨none, none, .store 1 (.t 71) (.c (.bool true)), none⟩])
         (.keep [] (.seq (.ops [⟨some 2, none, .mv (.c (.str ⟨#[]⟩)), none⟩])
          (.ret))))
        (.skip))))
      (.keep [0, 3] (.seq (.draw [0, 3, 4] [⟨some 72, none, .mv (.t 0), none⟩,
      ⟨some 73, none, .nilck (.t 72), none⟩,
      ⟨some 74, none, .fld 0 (.t 73), none⟩,
      ⟨some 75, none, .load none (.t 74), none⟩,
      ⟨some 76, none, .mv (.t 0), none⟩,
      ⟨some 77, none, .nilck (.t 76), none⟩,
      ⟨some 78, none, .fld 1 (.t 77), none⟩,
      ⟨some 79, none, .load none (.t 78), none⟩,
      ⟨some 80, none, .bin .add (.t 79) (.c (.int .i64 1)), none⟩,
      ⟨some 81, none, .mv (.t 0), none⟩,
      ⟨some 82, none, .nilck (.t 81), none⟩,
      ⟨some 83, none, .fld 1 (.t 82), none⟩,
      ⟨some 84, none, .load none (.t 83), none⟩,
      ⟨some 85, none, .bin .add (.t 84) (.c (.int .i64 1)), none⟩,
      ⟨some 86, none, .mv (.t 3), none⟩,
      ⟨some 87, none, .bin .add (.t 85) (.t 86), none⟩,
      ⟨some 88, none, .slcs (.t 75) (some (.t 80)) (some (.t 87)), none⟩,
      ⟨some 4, none, .mv (.t 88), none⟩])
       (.keep [0, 3, 4] (.seq (.ops [⟨some 89, none, .mv (.t 0), none⟩,
      ⟨some 90, none, .nilck (.t 89), none⟩,
      ⟨some 91, none, .fld 1 (.t 90), none⟩,
      ⟨some 92, none, .load none (.t 91), none⟩,
      ⟨some 93, none, .mv (.t 3), none⟩,
      ⟨some 94, none, .bin .add (.c (.int .i64 1)) (.t 93), none⟩,
      ⟨some 95, none, .bin .add (.t 92) (.t 94), none⟩,
      ⟨some 96, none, .nilck (.t 89), none⟩,
      ⟨some 97, none, .fld 1 (.t 96), none⟩,
      ⟨none, none, .store 1 (.t 97) (.t 95), none⟩])
        (.keep [4] (.seq (.ops [⟨some 98, none, .mv (.t 4), none⟩,
      ⟨some 2, none, .mv (.t 98), none⟩])
         (.ret)))))))))))))⟩
theorem J_ref07_In_Word_ok : chkFn Try.prog 88 J_ref07_In_Word = true := by kernel_rfl

end Go.Proofs.Ytaepikkaogfhbaa

/- What the reference's In does, over the abstract code. -/
namespace Go.Proofs.Ytaepikkaogfhbaa
set_option linter.unusedSimpArgs false
set_option linter.unusedVariables false
open Go.RowKit Go.Lib

/-- how many bytes are looked at where there is no number -/
def rdStop : Nat → List UInt8 → Nat
  | _, [] => 0
  | k, c :: r => if 9 ≤ k then 0 else if 0 < k ∧ c.toNat = 0 then 1 else if 128 ≤ c.toNat then 1 + rdStop (k + 1) r else 1
theorem rdStop_le : ∀ (l : List UInt8) (k : Nat), rdStop k l ≤ l.length
  | [], _ => by simp [rdStop]
  | c :: r, k => by
    have := rdStop_le r (k + 1)
    rw [rdStop, List.length_cons]
    split
    · omega
    · split
      · omega
      · split <;> omega
/-- the place behind what was looked at -/
def jStop (S : ByteArray) (s : Bool × Nat) : Nat := if s.1 then s.2 else s.2 + rdStop 0 (S.data.toList.drop s.2)
theorem jStop_le {S : ByteArray} {s : Bool × Nat} (h : s.2 ≤ S.size) : jStop S s ≤ S.size := by
  unfold jStop
  split
  · exact h
  · have := rdStop_le (S.data.toList.drop s.2) 0
    rw [List.length_drop, ba_len] at this; omega
set_option maxRecDepth 100000 in
set_option maxRecDepth 100000 in
set_option maxHeartbeats 2000000 in
theorem r_inum {h : Hp} {id : Nat} {S : ByteArray} {s : Bool × Nat} (most : Int) (ho : h[id]? = some (jObj S s)) (hs : S.size ≤ 1000000000000) (hp : s.2 ≤ S.size) :
    ACalls Try.prog 71 [.ptr id 0, .int .i64 most] h (fun a h' => a = vI (if s.1 then none else rNum S most s.2) ∧ h' = h.set id (jObj S (stO (if s.1 then none else rNum S most s.2) (jStop S s)))) := by
  obtain ⟨bad, p⟩ := s
  simp only [jObj] at ho hp ⊢
  refine acalls_of mixed J_ref07_In_Num_ok (Nat.le_of_ble_eq_true rfl) ?_; simp only [J_ref07_In_Num, wk,if_true,if_false,forall_const,implies_true,ne_eq,eq_self,Nat.reduceEqDiff,Nat.reduceAdd,Nat.reduceMul,Nat.reduceSub,Nat.reduceLeDiff,Nat.reduceLT,Int.reduceEq,Int.reduceLT,Int.reduceLE,Int.reduceAdd,Int.reduceSub,Int.reduceMul,Int.reduceNeg,Int.reduceNe,reduceCtorEq,Int.reduceToNat,↓reduceIte]
  simp only [wk,if_true,if_false,forall_const,implies_true,ne_eq,eq_self,Nat.reduceEqDiff,Nat.reduceAdd,Nat.reduceMul,Nat.reduceSub,Nat.reduceLeDiff,Nat.reduceLT,Int.reduceEq,Int.reduceLT,Int.reduceLE,Int.reduceAdd,Int.reduceSub,Int.reduceMul,Int.reduceNeg,Int.reduceNe,reduceCtorEq,Int.reduceToNat,↓reduceIte, ho]
  cases bad with
  | true =>
    refine ⟨fun _ => ⟨rfl, ?_⟩, fun hb => (nomatch hb)⟩
    simp only [stO, if_true, jStop]
    exact (hself ho).symm
  | false =>
    refine ⟨fun hb => (nomatch hb), fun _ => ?_⟩
    simp only [Bool.false_eq_true, if_false, jStop]
    refine W_loop (fun n fr h' => ∃ (k acc : Nat), k ≤ 9 ∧ n = 9 - k ∧ p + k ≤ S.size ∧ acc < 128 ^ k ∧ (∃ part : Int, (k ≤ 8 → part = ((128 ^ k : Nat) : Int)) ∧ fr = [(0, .ptr id 0), (1, .int .i64 most), (5, .int .i64 acc), (6, .int .i64 part), (7, .int .i64 k)]) ∧ h' = h.set id (jObj S (false, p + k)) ∧ rdNum (S.data.toList.drop p) = rdNumAt k acc (S.data.toList.drop (p + k)) ∧ rdStop 0 (S.data.toList.drop p) = k + rdStop k (S.data.toList.drop (p + k))) 9
      ⟨0, 0, by omega, rfl, by omega, by simp, ⟨1, fun _ => rfl, rfl⟩, by rw [Nat.add_zero]; exact (hself ho).symm, rfl, by simp⟩ ?_
    rintro n fr h' ⟨k, acc, hk9, rfl, hks, hacc, ⟨part, hpart, rfl⟩, rfl, hrd, hst⟩
    have hone : ∀ (q : Nat) (fr0 : Fr) (Q : Exit → Fr → Hp → Prop), restr [0] fr0 = [(0, .ptr id 0)] → (∀ fr, ev fr (.t 4) = some (.int .i64 0) → Q .ret fr (h.set id (jObj S (true, q)))) → W Try.prog J_ref07_In_Num_j1 fr0 (h.set id (jObj S (false, q))) Q := by
      intro q fr0 Q hf0 hQ
      simp only [J_ref07_In_Num_j1, W_keep]
      rw [hf0]
      simp only [wk,if_true,if_false,forall_const,implies_true,ne_eq,eq_self,Nat.reduceEqDiff,Nat.reduceAdd,Nat.reduceMul,Nat.reduceSub,Nat.reduceLeDiff,Nat.reduceLT,Int.reduceEq,Int.reduceLT,Int.reduceLE,Int.reduceAdd,Int.reduceSub,Int.reduceMul,Int.reduceNeg,Int.reduceNe,reduceCtorEq,Int.reduceToNat,↓reduceIte, hset ho]
      exact hQ _ (by rfl)
    have hnone : rNum S most p = none → AV.int .i64 0 = vI (rNum S most p) ∧ ∀ q, p + rdStop 0 (S.data.toList.drop p) = q → h.set id (jObj S (true, q)) = h.set id (jObj S (stO (rNum S most p) (p + rdStop 0 (S.data.toList.drop p)))) := by
      intro hn
      rw [hn]
      exact ⟨rfl, fun q hq => by rw [hq]; rfl⟩
    by_cases hk : k < 9
    · simp only [J_ref07_In_Num_j2, hset ho, show ((k : Int) < 9) = True from eq_true (by omega), wk,if_true,if_false,forall_const,implies_true,ne_eq,eq_self,Nat.reduceEqDiff,Nat.reduceAdd,Nat.reduceMul,Nat.reduceSub,Nat.reduceLeDiff,Nat.reduceLT,Int.reduceEq,Int.reduceLT,Int.reduceLE,Int.reduceAdd,Int.reduceSub,Int.reduceMul,Int.reduceNeg,Int.reduceNe,reduceCtorEq,Int.reduceToNat,↓reduceIte]
      refine ⟨fun hge => ?_, fun hlt => ?_⟩
      · -- the end
        have hd : S.data.toList.drop (p + k) = [] := List.drop_eq_nil_of_le (by rw [ba_len]; omega)
        have hn : rNum S most p = none := by unfold rNum; rw [hrd, hd]; rfl
        refine hone _ _ _ rfl fun fr hb => ?_
        simp only [wk,if_true,if_false,forall_const,implies_true,ne_eq,eq_self,Nat.reduceEqDiff,Nat.reduceAdd,Nat.reduceMul,Nat.reduceSub,Nat.reduceLeDiff,Nat.reduceLT,Int.reduceEq,Int.reduceLT,Int.reduceLE,Int.reduceAdd,Int.reduceSub,Int.reduceMul,Int.reduceNeg,Int.reduceNe,reduceCtorEq,Int.reduceToNat,↓reduceIte, hb]
        refine ⟨(hnone hn).1, (hnone hn).2 _ ?_⟩
        rw [hst, hd]; rfl
      · have hkd : p + k < S.data.toList.length := by rw [ba_len]; omega
        have hkl : p + k < S.size := by omega
        have hdrop : S.data.toList.drop (p + k) = S[p + k] :: S.data.toList.drop (p + k + 1) := by rw [List.drop_eq_getElem_cons hkd]; rfl
        have hb := S[p + k].toNat_lt
        rw [hdrop, rdNumAt, if_neg (by omega)] at hrd
        rw [hdrop, rdStop, if_neg (by omega)] at hst
        have hpart := hpart (by omega)
        subst hpart
        have hp1 : 128 ^ k ≤ 128 ^ 8 := Nat.pow_le_pow_right (by omega) (by omega)
        have hp2 : S[p + k].toNat % 128 * 128 ^ k ≤ 127 * 128 ^ 8 := Nat.mul_le_mul (by omega) hp1
        have hp3 : acc + S[p + k].toNat % 128 * 128 ^ k < 128 ^ (k + 1) := by
          have : S[p + k].toNat % 128 * 128 ^ k ≤ 127 * 128 ^ k := Nat.mul_le_mul (by omega) (Nat.le_refl _)
          rw [Nat.pow_succ]; omega
        have hbyte : IntKind.i64.wrap (byteAt S ((p + k : Nat) : Int).toNat : Int) = (S[p + k].toNat : Int) := by
          rw [show ((p + k : Nat) : Int).toNat = p + k by omega, byteAt_eq hkl, wrap_byte _ hb]
        have hmod : (S[p + k].toNat : Int).tmod 128 = ((S[p + k].toNat % 128 : Nat) : Int) := by
          rw [Int.tmod_eq_emod_of_nonneg (by omega)]; omega
        have hmul : IntKind.i64.wrap (((S[p + k].toNat % 128 : Nat) : Int) * ((128 ^ k : Nat) : Int)) = ((S[p + k].toNat % 128 * 128 ^ k : Nat) : Int) := by
          rw [← Int.natCast_mul, IntKind.wrap_i64]; omega
        refine ⟨⟨by omega, by omega⟩, ?_⟩
        simp only [hbyte, hset ho, hmod, hmul, wk,if_true,if_false,forall_const,implies_true,ne_eq,eq_self,Nat.reduceEqDiff,Nat.reduceAdd,Nat.reduceMul,Nat.reduceSub,Nat.reduceLeDiff,Nat.reduceLT,Int.reduceEq,Int.reduceLT,Int.reduceLE,Int.reduceAdd,Int.reduceSub,Int.reduceMul,Int.reduceNeg,Int.reduceNe,reduceCtorEq,Int.reduceToNat,↓reduceIte]
        refine ⟨inR_of (by omega) (by omega), ?_⟩
        by_cases hz : 0 < k ∧ S[p + k].toNat = 0
        · have hn : rNum S most p = none := by unfold rNum; rw [hrd, if_pos hz]
          rw [if_pos hz] at hst
          refine ⟨fun h0 => ⟨fun h1 => ?_, fun h1 => absurd hz.2 (by omega)⟩, fun h0 => absurd hz.1 (by omega)⟩
          refine hone (p + k + 1) _ _ rfl fun fr hb => ?_
          simp only [wk,if_true,if_false,forall_const,implies_true,ne_eq,eq_self,Nat.reduceEqDiff,Nat.reduceAdd,Nat.reduceMul,Nat.reduceSub,Nat.reduceLeDiff,Nat.reduceLT,Int.reduceEq,Int.reduceLT,Int.reduceLE,Int.reduceAdd,Int.reduceSub,Int.reduceMul,Int.reduceNeg,Int.reduceNe,reduceCtorEq,Int.reduceToNat,↓reduceIte, hb]
          exact ⟨(hnone hn).1, (hnone hn).2 _ (by omega)⟩
        rw [if_neg hz] at hrd hst
        refine ⟨fun h0 => ⟨fun h1 => absurd ⟨by omega, by omega⟩ hz, fun h1 => ?_⟩, fun h0 => ?_⟩
        all_goals
          refine ⟨inR_of (by omega) (by omega), ?_⟩
          refine ⟨fun hlt8 => ?_, fun hge8 => ?_⟩
          · have hm : S[p + k].toNat % 128 = S[p + k].toNat := Nat.mod_eq_of_lt (by omega)
            rw [if_neg (by omega)] at hrd hst
            rw [hm] at hp2 hp3 ⊢
            refine ⟨fun hmo => ⟨fun hmx => ?_, fun hmx => ?_⟩, fun hmo => ?_⟩
            rotate_left 2
            · have hn : rNum S most p = none := by
                unfold rNum; rw [hrd]
                by_cases hbig : acc + S[p + k].toNat * 128 ^ k > 4611686018427387904
                · rw [if_pos hbig]
                · rw [if_neg hbig]; simp only; rw [if_neg (by omega)]
              refine hone (p + k + 1) _ _ rfl fun fr hb => ?_
              simp only [wk,if_true,if_false,forall_const,implies_true,ne_eq,eq_self,Nat.reduceEqDiff,Nat.reduceAdd,Nat.reduceMul,Nat.reduceSub,Nat.reduceLeDiff,Nat.reduceLT,Int.reduceEq,Int.reduceLT,Int.reduceLE,Int.reduceAdd,Int.reduceSub,Int.reduceMul,Int.reduceNeg,Int.reduceNe,reduceCtorEq,Int.reduceToNat,↓reduceIte, hb]
              exact ⟨(hnone hn).1, (hnone hn).2 _ (by omega)⟩
            · have hn : rNum S most p = none := by
                unfold rNum; rw [hrd, if_pos (by omega)]
              refine hone (p + k + 1) _ _ rfl fun fr hb => ?_
              simp only [wk,if_true,if_false,forall_const,implies_true,ne_eq,eq_self,Nat.reduceEqDiff,Nat.reduceAdd,Nat.reduceMul,Nat.reduceSub,Nat.reduceLeDiff,Nat.reduceLT,Int.reduceEq,Int.reduceLT,Int.reduceLE,Int.reduceAdd,Int.reduceSub,Int.reduceMul,Int.reduceNeg,Int.reduceNe,reduceCtorEq,Int.reduceToNat,↓reduceIte, hb]
              exact ⟨(hnone hn).1, (hnone hn).2 _ (by omega)⟩
            · have hn : rNum S most p = some (acc + S[p + k].toNat * 128 ^ k, p + (k + 1)) := by
                unfold rNum; rw [hrd, if_neg (by omega)]; simp only; rw [if_pos (by omega)]
              rw [hn]
              exact ⟨rfl, rfl⟩
          · rw [if_pos (by omega)] at hrd hst
            refine ⟨inR_of (by omega) (by omega), 9 - (k + 1), by omega, k + 1, _, by omega, rfl, by omega, hp3, ⟨_, fun h8 => ?_, rfl⟩, rfl, hrd, by rw [hst, show p + (k + 1) = p + k + 1 from rfl]; omega⟩
            rw [IntKind.wrap_i64, Nat.pow_succ]
            have hp8 : 128 ^ k ≤ 128 ^ 7 := Nat.pow_le_pow_right (by omega) (by omega)
            omega
    · have hk9' : k = 9 := by omega
      subst hk9'
      have hn : rNum S most p = none := by unfold rNum; rw [hrd, rdNumAt_nine (by omega)]
      simp only [J_ref07_In_Num_j2, show ((9 : Nat) : Int) = 9 from rfl, wk,if_true,if_false,forall_const,implies_true,ne_eq,eq_self,Nat.reduceEqDiff,Nat.reduceAdd,Nat.reduceMul,Nat.reduceSub,Nat.reduceLeDiff,Nat.reduceLT,Int.reduceEq,Int.reduceLT,Int.reduceLE,Int.reduceAdd,Int.reduceSub,Int.reduceMul,Int.reduceNeg,Int.reduceNe,reduceCtorEq,Int.reduceToNat,↓reduceIte]
      refine hone _ _ _ rfl fun fr hb => ?_
      simp only [wk,if_true,if_false,forall_const,implies_true,ne_eq,eq_self,Nat.reduceEqDiff,Nat.reduceAdd,Nat.reduceMul,Nat.reduceSub,Nat.reduceLeDiff,Nat.reduceLT,Int.reduceEq,Int.reduceLT,Int.reduceLE,Int.reduceAdd,Int.reduceSub,Int.reduceMul,Int.reduceNeg,Int.reduceNe,reduceCtorEq,Int.reduceToNat,↓reduceIte, hb]
      refine ⟨(hnone hn).1, (hnone hn).2 _ ?_⟩
      rw [hst]
      cases S.data.toList.drop (p + 9) with
      | nil => rfl
      | cons c r => rw [rdStop, if_pos (by omega)]
theorem r_idone {h : Hp} {id : Nat} {S : ByteArray} {s : Bool × Nat} (ho : h[id]? = some (jObj S s)) (hs : S.size ≤ 1000000000000) (hp : s.2 ≤ S.size) :
    ACalls Try.prog 73 [.ptr id 0] h (fun a h' => a = .int .i64 (eI (s.1 || decide (s.2 < S.size))) ∧ h' = h.set id (jObj S (s.1 || decide (s.2 < S.size), s.2))) := by
  obtain ⟨bad, p⟩ := s
  simp only [jObj] at ho hp ⊢
  refine acalls_of mixed J_ref07_In_Done_ok (Nat.le_of_ble_eq_true rfl) ?_; simp only [J_ref07_In_Done, wk,if_true,if_false,forall_const,implies_true,ne_eq,eq_self,Nat.reduceEqDiff,Nat.reduceAdd,Nat.reduceMul,Nat.reduceSub,Nat.reduceLeDiff,Nat.reduceLT,Int.reduceEq,Int.reduceLT,Int.reduceLE,Int.reduceAdd,Int.reduceSub,Int.reduceMul,Int.reduceNeg,Int.reduceNe,reduceCtorEq,Int.reduceToNat,↓reduceIte]
  simp only [wk,if_true,if_false,forall_const,implies_true,ne_eq,eq_self,Nat.reduceEqDiff,Nat.reduceAdd,Nat.reduceMul,Nat.reduceSub,Nat.reduceLeDiff,Nat.reduceLT,Int.reduceEq,Int.reduceLT,Int.reduceLE,Int.reduceAdd,Int.reduceSub,Int.reduceMul,Int.reduceNeg,Int.reduceNe,reduceCtorEq,Int.reduceToNat,↓reduceIte, ho]
  cases bad with
  | true =>
    refine ⟨fun hb => (nomatch hb), fun _ => ?_⟩
    exact ⟨rfl, rfl⟩
  | false =>
    refine ⟨fun _ => ⟨fun hl => ?_, fun hl => ?_⟩, fun hb => (nomatch hb)⟩
    · rw [decide_eq_true (show p < S.size by omega)]; exact ⟨rfl, rfl⟩
    · rw [decide_eq_false (show ¬ p < S.size by omega)]; exact ⟨rfl, (hself ho).symm⟩
set_option maxRecDepth 100000 in
set_option maxHeartbeats 2000000 in
theorem r_iword {h : Hp} {id : Nat} {S : ByteArray} {s : Bool × Nat} (ho : h[id]? = some (jObj S s)) (hs : S.size ≤ 1000000000000) (hp : s.2 ≤ S.size) :
    ACalls Try.prog 88 [.ptr id 0] h (fun a h' => a = vS (if s.1 then none else rWord S s.2) ∧ h' = h.set id (jObj S (stO (if s.1 then none else rWord S s.2) s.2))) := by
  obtain ⟨bad, p⟩ := s
  simp only [jObj] at ho hp ⊢
  refine acalls_of mixed J_ref07_In_Word_ok (Nat.le_of_ble_eq_true rfl) ?_; simp only [J_ref07_In_Word, wk,if_true,if_false,forall_const,implies_true,ne_eq,eq_self,Nat.reduceEqDiff,Nat.reduceAdd,Nat.reduceMul,Nat.reduceSub,Nat.reduceLeDiff,Nat.reduceLT,Int.reduceEq,Int.reduceLT,Int.reduceLE,Int.reduceAdd,Int.reduceSub,Int.reduceMul,Int.reduceNeg,Int.reduceNe,reduceCtorEq,Int.reduceToNat,↓reduceIte]
  simp only [wk,if_true,if_false,forall_const,implies_true,ne_eq,eq_self,Nat.reduceEqDiff,Nat.reduceAdd,Nat.reduceMul,Nat.reduceSub,Nat.reduceLeDiff,Nat.reduceLT,Int.reduceEq,Int.reduceLT,Int.reduceLE,Int.reduceAdd,Int.reduceSub,Int.reduceMul,Int.reduceNeg,Int.reduceNe,reduceCtorEq,Int.reduceToNat,↓reduceIte, ho]
  cases bad with
  | true =>
    refine ⟨fun hb => (nomatch hb), fun _ => ?_⟩
    exact ⟨rfl, rfl⟩
  | false =>
    refine ⟨fun _ => ⟨fun hge => ?_, fun hlt => ?_⟩, fun hb => (nomatch hb)⟩
    · simp only [rWord, Bool.false_eq_true, if_false]
      rw [if_pos (by omega)]; exact ⟨rfl, rfl⟩
    · have hb := byteAt_lt S p
      refine ⟨⟨by omega, by omega⟩, ?_⟩
      rw [show (p : Int).toNat = p by omega, wrap_byte _ hb]
      refine ⟨inR_of (by omega) (by omega), inR_of (by omega) (by omega), inR_of (by omega) (by omega), ?_⟩
      simp only [Bool.false_eq_true, if_false, rWord]
      refine ⟨fun hng => ?_, fun hgt => ?_⟩
      · refine ⟨inR_of (by omega) (by omega), inR_of (by omega) (by omega), inR_of (by omega) (by omega), ⟨by omega, by omega, by omega⟩, ?_⟩
        rw [show ((p : Int) + 1).toNat = p + 1 by omega, show ((p : Int) + 1 + 2 * (byteAt S p : Int)).toNat = p + 1 + 2 * byteAt S p by omega, if_neg (by omega), if_neg (by omega)]
        refine ⟨_, p_rwmay (S.extract (p + 1) (p + 1 + 2 * byteAt S p)) (by simp; omega), ?_⟩
        simp only [wk,if_true,if_false,forall_const,implies_true,ne_eq,eq_self,Nat.reduceEqDiff,Nat.reduceAdd,Nat.reduceMul,Nat.reduceSub,Nat.reduceLeDiff,Nat.reduceLT,Int.reduceEq,Int.reduceLT,Int.reduceLE,Int.reduceAdd,Int.reduceSub,Int.reduceMul,Int.reduceNeg,Int.reduceNe,reduceCtorEq,Int.reduceToNat,↓reduceIte]
        refine ⟨fun hm => ?_, fun hm => ?_⟩
        · simp only [wk,if_true,if_false,forall_const,implies_true,ne_eq,eq_self,Nat.reduceEqDiff,Nat.reduceAdd,Nat.reduceMul,Nat.reduceSub,Nat.reduceLeDiff,Nat.reduceLT,Int.reduceEq,Int.reduceLT,Int.reduceLE,Int.reduceAdd,Int.reduceSub,Int.reduceMul,Int.reduceNeg,Int.reduceNe,reduceCtorEq,Int.reduceToNat,↓reduceIte, hm, ho]
          exact ⟨rfl, rfl⟩
        · simp only [wk,if_true,if_false,forall_const,implies_true,ne_eq,eq_self,Nat.reduceEqDiff,Nat.reduceAdd,Nat.reduceMul,Nat.reduceSub,Nat.reduceLeDiff,Nat.reduceLT,Int.reduceEq,Int.reduceLT,Int.reduceLE,Int.reduceAdd,Int.reduceSub,Int.reduceMul,Int.reduceNeg,Int.reduceNe,reduceCtorEq,Int.reduceToNat,↓reduceIte, hm, ho]
          refine ⟨inR_of (by omega) (by omega), inR_of (by omega) (by omega), inR_of (by omega) (by omega), ⟨by omega, by omega, by omega⟩, inR_of (by omega) (by omega), inR_of (by omega) (by omega), ?_⟩
          refine ⟨rfl, ?_⟩
          rw [show (p : Int) + (1 + 2 * (byteAt S p : Int)) = ((p + 1 + 2 * byteAt S p : Nat) : Int) by omega]
          rfl
      · rw [if_neg (by omega), if_pos (by omega)]; exact ⟨rfl, rfl⟩
set_option maxRecDepth 100000 in
set_option maxHeartbeats 2000000 in
theorem r_iset {h : Hp} {id : Nat} {S : ByteArray} {s : Bool × Nat} (ho : h[id]? = some (jObj S s)) (hs : S.size ≤ 1000000000000) (hp : s.2 ≤ S.size) :
    ACalls Try.prog 72 [.ptr id 0] h (fun a h' => a = vL (if s.1 then none else rSet S s.2) ∧ ∃ q, q ≤ S.size ∧ h' = h.set id (jObj S (stO (if s.1 then none else rSet S s.2) q))) := by
  obtain ⟨bad, p⟩ := s
  simp only [jObj] at ho hp ⊢
  refine acalls_of mixed J_ref07_In_Set_ok (Nat.le_of_ble_eq_true rfl) ?_; simp only [J_ref07_In_Set, wk,if_true,if_false,forall_const,implies_true,ne_eq,eq_self,Nat.reduceEqDiff,Nat.reduceAdd,Nat.reduceMul,Nat.reduceSub,Nat.reduceLeDiff,Nat.reduceLT,Int.reduceEq,Int.reduceLT,Int.reduceLE,Int.reduceAdd,Int.reduceSub,Int.reduceMul,Int.reduceNeg,Int.reduceNe,reduceCtorEq,Int.reduceToNat,↓reduceIte]
  simp only [wk,if_true,if_false,forall_const,implies_true,ne_eq,eq_self,Nat.reduceEqDiff,Nat.reduceAdd,Nat.reduceMul,Nat.reduceSub,Nat.reduceLeDiff,Nat.reduceLT,Int.reduceEq,Int.reduceLT,Int.reduceLE,Int.reduceAdd,Int.reduceSub,Int.reduceMul,Int.reduceNeg,Int.reduceNe,reduceCtorEq,Int.reduceToNat,↓reduceIte, ho]
  cases bad with
  | true =>
    refine ⟨fun hb => (nomatch hb), fun _ => ?_⟩
    exact ⟨rfl, _, hp, rfl⟩
  | false =>
    refine ⟨fun _ => ⟨fun hge => ?_, fun hlt => ?_⟩, fun hb => (nomatch hb)⟩
    · simp only [rSet, Bool.false_eq_true, if_false]
      rw [if_pos (by omega)]; exact ⟨rfl, _, hp, rfl⟩
    · have hb := byteAt_lt S p
      refine ⟨⟨by omega, by omega⟩, ?_⟩
      rw [show (p : Int).toNat = p by omega, wrap_byte _ hb]
      refine ⟨inR_of (by omega) (by omega), ?_⟩
      simp only [Bool.false_eq_true, if_false, rSet]
      rw [if_neg (by omega)]
      obtain ⟨n, hn⟩ : ∃ n, n = byteAt S p := ⟨_, rfl⟩
      rw [← hn] at hb ⊢
      rw [show (p : Int) + 1 = ((p + 1 : Nat) : Int) by omega]
      refine W_loop (fun k fr h' => ∃ (i q' : Nat) (ws : List ByteArray), i ≤ n ∧ k = n - i ∧ ws.length = i ∧ q' ≤ S.size ∧ fr = [(0, .ptr id 0), (3, .int .i64 n), (4, .lst (.own 44) i (ws.map .str)), (5, .int .i64 i)] ∧ h' = h.set id (jObj S (stO (rWords S (p + 1) i) q')) ∧ ∀ l q'', rWords S (p + 1) i = some (l, q'') → ws = l) n ⟨0, p, [], by omega, by omega, rfl, hp, rfl, rfl, fun l q'' h => by simp only [rWords, Option.some.injEq, Prod.mk.injEq] at h; exact h.1⟩ ?_
      rintro k fr h' ⟨i, q', ws, hi, rfl, hwl, hq', rfl, rfl, hws⟩
      have hdone : (rWords S (p + 1) i = none ∨ i = n) → ∀ Q, (∀ fr a h', ev fr (.t 2) = some a → a = vL (match rWords S (p + 1) n with | some (l, q) => if setMay l then some (l, q) else none | none => none) → (∃ q, q ≤ S.size ∧ h' = h.set id (jObj S (stO (match rWords S (p + 1) n with | some (l, q) => if setMay l then some (l, q) else none | none => none) q))) → Q .ret fr h') → ∀ fr0, restr [0, 4] fr0 = [(0, .ptr id 0), (4, .lst (.own 44) i (ws.map .str))] → W Try.prog J_ref07_In_Set_j1 fr0 (h.set id (jObj S (stO (rWords S (p + 1) i) q'))) Q := by
        intro hcase Q hQ fr0 hf0
        simp only [J_ref07_In_Set_j1, W_keep]
        rw [hf0]
        cases hw : rWords S (p + 1) i with
        | none =>
          have hwn : rWords S (p + 1) n = none := by
            have : ∀ j, rWords S (p + 1) (i + j) = none := by
              intro j
              induction j with
              | zero => exact hw
              | succ j ih => show rWords S (p + 1) (i + j + 1) = none; simp only [rWords, ih]
            have := this (n - i)
            rwa [show i + (n - i) = n by omega] at this
          simp only [hset ho, stO, wk,if_true,if_false,forall_const,implies_true,ne_eq,eq_self,Nat.reduceEqDiff,Nat.reduceAdd,Nat.reduceMul,Nat.reduceSub,Nat.reduceLeDiff,Nat.reduceLT,Int.reduceEq,Int.reduceLT,Int.reduceLE,Int.reduceAdd,Int.reduceSub,Int.reduceMul,Int.reduceNeg,Int.reduceNe,reduceCtorEq,Int.reduceToNat,↓reduceIte]
          rw [hwn] at hQ
          exact hQ _ _ _ (by rfl) rfl ⟨q', hq', rfl⟩
        | some x =>
          obtain ⟨l, q3⟩ := x
          have hin : i = n := by rcases hcase with h | h; (rw [h] at hw; cases hw); exact h
          subst hin
          have hl := hws l q3 hw
          subst hl
          have hwl' := rWords_le (by omega) hw
          simp only [hset ho, stO, wk,if_true,if_false,forall_const,implies_true,ne_eq,eq_self,Nat.reduceEqDiff,Nat.reduceAdd,Nat.reduceMul,Nat.reduceSub,Nat.reduceLeDiff,Nat.reduceLT,Int.reduceEq,Int.reduceLT,Int.reduceLE,Int.reduceAdd,Int.reduceSub,Int.reduceMul,Int.reduceNeg,Int.reduceNe,reduceCtorEq,Int.reduceToNat,↓reduceIte]
          rw [← hwl]
          refine PCalls.use (p_rsmay ws (by omega) (fun x hx => by have := wordMay_size (hwl'.2.2.2 x hx); omega)) ?_; simp only [wk,if_true,if_false,forall_const,implies_true,ne_eq,eq_self,Nat.reduceEqDiff,Nat.reduceAdd,Nat.reduceMul,Nat.reduceSub,Nat.reduceLeDiff,Nat.reduceLT,Int.reduceEq,Int.reduceLT,Int.reduceLE,Int.reduceAdd,Int.reduceSub,Int.reduceMul,Int.reduceNeg,Int.reduceNe,reduceCtorEq,Int.reduceToNat,↓reduceIte]
          rw [hw] at hQ
          simp only at hQ
          refine ⟨fun hm => ?_, fun hm => ?_⟩
          · simp only [wk,if_true,if_false,forall_const,implies_true,ne_eq,eq_self,Nat.reduceEqDiff,Nat.reduceAdd,Nat.reduceMul,Nat.reduceSub,Nat.reduceLeDiff,Nat.reduceLT,Int.reduceEq,Int.reduceLT,Int.reduceLE,Int.reduceAdd,Int.reduceSub,Int.reduceMul,Int.reduceNeg,Int.reduceNe,reduceCtorEq,Int.reduceToNat,↓reduceIte, hset ho]
            rw [hm] at hQ
            exact hQ _ _ _ (by rfl) rfl ⟨q3, hwl'.2.2.1, rfl⟩
          · rw [hm] at hQ
            exact hQ _ _ _ (by rfl) rfl ⟨q3, hwl'.2.2.1, rfl⟩
      have hret : ∀ {fr : Fr} {a : AV} {h' : Hp}, ev fr (.t 2) = some a → a = vL (match rWords S (p + 1) n with | some (l, q) => if setMay l then some (l, q) else none | none => none) → (∃ q, q ≤ S.size ∧ h' = h.set id (jObj S (stO (match rWords S (p + 1) n with | some (l, q) => if setMay l then some (l, q) else none | none => none) q))) → resL fr h' [.t 2] (res1 fun a => a = vL (match rWords S (p + 1) n with | some (l, q) => if setMay l then some (l, q) else none | none => none) ∧ ∃ q, q ≤ S.size ∧ h' = h.set id (jObj S (stO (match rWords S (p + 1) n with | some (l, q) => if setMay l then some (l, q) else none | none => none) q))) := by
        intro fr a h' h1 h2 h3
        simp only [wk,if_true,if_false,forall_const,implies_true,ne_eq,eq_self,Nat.reduceEqDiff,Nat.reduceAdd,Nat.reduceMul,Nat.reduceSub,Nat.reduceLeDiff,Nat.reduceLT,Int.reduceEq,Int.reduceLT,Int.reduceLE,Int.reduceAdd,Int.reduceSub,Int.reduceMul,Int.reduceNeg,Int.reduceNe,reduceCtorEq,Int.reduceToNat,↓reduceIte, h1]
        exact ⟨h2, h3⟩
      cases hw : rWords S (p + 1) i with
      | none =>
        rw [hw] at hdone
        simp only [J_ref07_In_Set_j2, stO, hset ho, wk,if_true,if_false,forall_const,implies_true,ne_eq,eq_self,Nat.reduceEqDiff,Nat.reduceAdd,Nat.reduceMul,Nat.reduceSub,Nat.reduceLeDiff,Nat.reduceLT,Int.reduceEq,Int.reduceLT,Int.reduceLE,Int.reduceAdd,Int.reduceSub,Int.reduceMul,Int.reduceNeg,Int.reduceNe,reduceCtorEq,Int.reduceToNat,↓reduceIte]
        refine ⟨fun hlt2 => hdone (.inl rfl) _ (fun fr a h' h1 h2 h3 => ?_) _ rfl, fun hge => hdone (.inl rfl) _ (fun fr a h' h1 h2 h3 => ?_) _ rfl⟩
        · simp only [wk,if_true,if_false,forall_const,implies_true,ne_eq,eq_self,Nat.reduceEqDiff,Nat.reduceAdd,Nat.reduceMul,Nat.reduceSub,Nat.reduceLeDiff,Nat.reduceLT,Int.reduceEq,Int.reduceLT,Int.reduceLE,Int.reduceAdd,Int.reduceSub,Int.reduceMul,Int.reduceNeg,Int.reduceNe,reduceCtorEq,Int.reduceToNat,↓reduceIte]
          exact hret h1 h2 h3
        · simp only [wk,if_true,if_false,forall_const,implies_true,ne_eq,eq_self,Nat.reduceEqDiff,Nat.reduceAdd,Nat.reduceMul,Nat.reduceSub,Nat.reduceLeDiff,Nat.reduceLT,Int.reduceEq,Int.reduceLT,Int.reduceLE,Int.reduceAdd,Int.reduceSub,Int.reduceMul,Int.reduceNeg,Int.reduceNe,reduceCtorEq,Int.reduceToNat,↓reduceIte]
          exact hret h1 h2 h3
      | some x =>
        obtain ⟨l, q3⟩ := x
        have hl := hws l q3 hw
        subst hl
        have hwl' := rWords_le (by omega) hw
        rw [hw] at hdone
        simp only [J_ref07_In_Set_j2, stO, hset ho, wk,if_true,if_false,forall_const,implies_true,ne_eq,eq_self,Nat.reduceEqDiff,Nat.reduceAdd,Nat.reduceMul,Nat.reduceSub,Nat.reduceLeDiff,Nat.reduceLT,Int.reduceEq,Int.reduceLT,Int.reduceLE,Int.reduceAdd,Int.reduceSub,Int.reduceMul,Int.reduceNeg,Int.reduceNe,reduceCtorEq,Int.reduceToNat,↓reduceIte]
        refine ⟨fun hlt2 => ?_, fun hge => hdone (.inr (by omega)) _ (fun fr a h' h1 h2 h3 => ?_) _ rfl⟩
        · have hword := r_iword (s := (false, q3)) (hset ho (jObj S (false, q3))) hs hwl'.2.2.1
          simp only [Bool.false_eq_true, if_false, List.set_set] at hword
          have hstep : rWords S (p + 1) (i + 1) = match rWord S q3 with | some (w, q'') => some (ws ++ [w], q'') | none => none := by
            simp only [rWords, hw] <;> (cases rWord S q3 <;> rfl)
          obtain ⟨w, hwv, hwx⟩ := vS_str (rWord S q3)
          rw [hwv] at hword
          refine ACalls.use (hword) ?_; rintro _ _ ⟨rfl, rfl⟩; simp only [wk,if_true,if_false,forall_const,implies_true,ne_eq,eq_self,Nat.reduceEqDiff,Nat.reduceAdd,Nat.reduceMul,Nat.reduceSub,Nat.reduceLeDiff,Nat.reduceLT,Int.reduceEq,Int.reduceLT,Int.reduceLE,Int.reduceAdd,Int.reduceSub,Int.reduceMul,Int.reduceNeg,Int.reduceNe,reduceCtorEq,Int.reduceToNat,↓reduceIte]
          (repeat (refine And.intro (by first | omega | exact inR_of (by omega) (by omega) | exact ⟨by omega, by omega⟩ | exact ⟨by omega, by omega, by omega⟩ | rfl) ?_))
          refine ⟨n - (i + 1), by omega, i + 1, q3, ws ++ [w], by omega, rfl, by simp [hwl], hwl'.2.2.1, by simp, ?_, ?_⟩
          · rw [hstep] <;> (cases rWord S q3 <;> rfl)
          · intro l q'' he
            rw [hstep] at he
            cases hw2 : rWord S q3 with
            | none => rw [hw2] at he; cases he
            | some y =>
              obtain ⟨w', q4⟩ := y
              rw [hw2] at he
              simp only [Option.some.injEq, Prod.mk.injEq] at he
              rw [← hwx w' q4 hw2, he.1]
        · simp only [wk,if_true,if_false,forall_const,implies_true,ne_eq,eq_self,Nat.reduceEqDiff,Nat.reduceAdd,Nat.reduceMul,Nat.reduceSub,Nat.reduceLeDiff,Nat.reduceLT,Int.reduceEq,Int.reduceLT,Int.reduceLE,Int.reduceAdd,Int.reduceSub,Int.reduceMul,Int.reduceNeg,Int.reduceNe,reduceCtorEq,Int.reduceToNat,↓reduceIte]
          exact hret h1 h2 h3
end Go.Proofs.Ytaepikkaogfhbaa
