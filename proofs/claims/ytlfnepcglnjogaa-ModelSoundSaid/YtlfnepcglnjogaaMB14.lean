/- Texts of one proof, laid together: Ak FnS Sr Ss St Sa FnC Po Pi Pj Pb Pc Az Oh Oi FnU Al Aw An. -/
import Derived.Test.YtlfnepcglnjogaaMB13
import Derived.Test.YtlfnepcglnjogaaProg
import Derived.Test.YtlfnepcglnjogaaMB12
import Derived.Test.YtlfnepcglnjogaaMB9

/- The abstract layer: a full slice may be handed where one is only read. -/
namespace Go.Proofs.Ytlfnepcglnjogaa
set_option linter.unusedSimpArgs false
set_option linter.unusedVariables false
open Go.RowKit Go.Lib

def ro : AV → AV
  | .lst .clip n l => .lst .ro n l
  | a => a
theorem Rep.ro {g : Gh} {v : Value} {a : AV} (h : Rep g v a) : Rep g v (ro a) := by
  cases h with
  | lst b off n c f vs l h1 h2 h3 h4 h5 => cases f with
    | clip => exact .lst b off n c .ro vs l h1 h2 h3 (fun h => by cases h) h5
    | _ => exact .lst b off n c _ vs l h1 h2 h3 h4 h5
  | lst0 a c f h => cases f with
    | clip => exact .lst0 a c .ro (fun h => by cases h)
    | _ => exact .lst0 a c _ h
  | itr b s p => exact .itr _ _ _
  | omp b ks vs => exact .omp b ks vs
  | mp b => exact .mp b
  | fmp b obj ks vs h1 h2 => exact .fmp b obj ks vs h1 h2
  | stk a c e o l h1 h2 h3 => exact .stk a c e o l h1 h2 h3
  | raw a n c h1 h2 => exact .raw a n c h1 h2
  | rawp b i n c => exact .rawp b i n c
  | opq v h h' => exact .opq _ h h'
  | frn v Q S W0 h h' h3 h4 => exact .frn _ Q S W0 h h' h3 h4
  | _ => first | exact .bool _ | exact .int _ _ | exact .str _ | exact .nilp | (exact .ptr _ _ _ ‹_›) | (exact .fp _ _ _ _ ‹_› ‹_› ‹_›) | (exact .hs _ _ _ _ ‹_› ‹_›) | (exact .hsc _ _ _ _ ‹_› ‹_›) | (exact .agg _ _ ‹_› ‹_› ‹_›) | (exact .tup _ _ ‹_› ‹_›) | (exact .fn _ _ _ ‹_› ‹_›) | (exact .fnb _ _ _ ‹_› ‹_›) | exact .nilf
theorem RepL.ro {g : Gh} : ∀ {vs : List Value} {l : List AV}, RepL g vs l → RepL g vs (l.map ro)
  | _, _, .nil => .nil
  | _, _, .cons h hl => .cons h.ro (RepL.ro hl)
theorem plain_ro {a : AV} (h : plain a = true) : plain (ro a) = true := by
  cases a with
  | lst f n l => cases f <;> first | rfl | exact h
  | _ => exact h
theorem free_ro (a : AV) : free (ro a) = free a := by
  cases a with
  | lst f n l => cases f <;> simp [Go.Proofs.Ytlfnepcglnjogaa.ro, free]
  | _ => rfl
theorem frees_ro : ∀ l : List AV, free.frees (l.map ro) = free.frees l
  | [] => rfl
  | a :: l => by simp only [List.map_cons, free.frees, free_ro, frees_ro l]
theorem ACalls.ro {P : Program} {f : FuncId} {args : List AV} {h : Hp} {R : AV → Hp → Prop} (hc : ACalls P f (args.map ro) h R) : ACalls P f args h R :=
  ⟨hc.1, fun g w vargs h1 h2 h3 h4 => hc.2 g w vargs h1 h2 h3.ro (fun a ha => by
    obtain ⟨b, hb, rfl⟩ := List.mem_map.1 ha
    exact plain_ro (h4 b hb))⟩
theorem PCalls.ro {P : Program} {f : FuncId} {args : List AV} {v : AV} (hc : PCalls P f (args.map ro) v) : PCalls P f args v :=
  ⟨by rw [← frees_ro]; exact hc.1, hc.2.1, ACalls.ro hc.2.2⟩
def rod : AV → AV
  | .tup l => .tup (l.map ro)
  | a => ro a
theorem Rep.rod {g : Gh} {v : Value} {a : AV} (h : Rep g v a) : Rep g v (rod a) := by
  cases h with
  | tup vs l h1 h2 => exact .tup vs _ (fun a ha => by obtain ⟨b, hb, rfl⟩ := List.mem_map.1 ha; exact plain_ro (h1 b hb)) h2.ro
  | lst b off n c f vs l h1 h2 h3 h4 h5 => exact (Rep.lst b off n c f vs l h1 h2 h3 h4 h5).ro
  | lst0 a c f h => exact (Rep.lst0 a c f h).ro
  | itr b s p => exact .itr _ _ _
  | omp b ks vs => exact .omp b ks vs
  | mp b => exact .mp b
  | fmp b obj ks vs h1 h2 => exact .fmp b obj ks vs h1 h2
  | stk a c e o l h1 h2 h3 => exact .stk a c e o l h1 h2 h3
  | raw a n c h1 h2 => exact .raw a n c h1 h2
  | rawp b i n c => exact .rawp b i n c
  | opq v h h' => exact .opq _ h h'
  | frn v Q S W0 h h' h3 h4 => exact .frn _ Q S W0 h h' h3 h4
  | _ => first | exact .bool _ | exact .int _ _ | exact .str _ | exact .nilp | (exact .ptr _ _ _ ‹_›) | (exact .fp _ _ _ _ ‹_› ‹_› ‹_›) | (exact .hs _ _ _ _ ‹_› ‹_›) | (exact .hsc _ _ _ _ ‹_› ‹_›) | (exact .agg _ _ ‹_› ‹_› ‹_›) | (exact .fn _ _ _ ‹_› ‹_›) | (exact .fnb _ _ _ ‹_› ‹_›) | exact .nilf
theorem plain_rod {a : AV} (h : plain a = true) : plain (rod a) = true := by
  cases a with
  | lst f n l => exact plain_ro h
  | _ => first | rfl | exact h
theorem ACalls.weak {P : Program} {f : FuncId} {args : List AV} {h : Hp} {R : AV → Hp → Prop} (hc : ACalls P f args h (fun a h' => R (Go.Proofs.Ytlfnepcglnjogaa.rod a) h')) : ACalls P f args h R :=
  ⟨hc.1, fun g w vargs h1 h2 h3 h4 => (hc.2 g w vargs h1 h2 h3 h4).mono fun _ _ ⟨x, a, h', g', q1, q2, q3, q4, q5, q6, q7⟩ => ⟨x, _, h', g', q1, q2, q3, q4, q5.rod, plain_rod q6, q7⟩⟩
theorem ro_ro (n : Nat) (l : List AV) : ro (.lst .ro n l) = .lst .ro n l := id rfl
end Go.Proofs.Ytlfnepcglnjogaa

namespace Go.Proofs.Ytlfnepcglnjogaa
open Go.RowKit
def J_word_Of_j1 : ACode :=
 .keep [3] (.seq (.ops [⟨some 25, none, .mv (.t 3), none⟩,
 ⟨some 26, none, .b2s (.t 25), none⟩,
 ⟨some 2, none, .mv (.t 26), none⟩])
 (.ret))
def J_word_Of_j2 : ACode :=
 .seq (.ops [⟨some 13, none, .bin .lss (.t 12) (.t 11), none⟩])
 (.keep [3, 10, 11, 12, 13] (.seq (.cond (.t 13)
 (.skip)
 (.exit 0))
 (.keep [3, 10, 11, 12] (.seq (.block 1 (.seq (.ops [⟨some 14, none, .idxa 1 (.t 10) (.t 12), none⟩,
 ⟨some 15, none, .load none (.t 14), none⟩,
 ⟨some 5, none, .mv (.t 15), none⟩])
 (.keep [3, 5, 10, 11, 12] (.ops [⟨some 16, none, .mvo 3, none⟩,
 ⟨some 17, none, .mv (.t 5), none⟩,
 ⟨some 18, none, .bin .shr (.t 17) (.c (.int .u64 8)), none⟩,
 ⟨some 19, none, .conv .u8 (.t 18), none⟩,
 ⟨some 20, none, .mv (.t 5), none⟩,
 ⟨some 21, none, .conv .u8 (.t 20), none⟩,
 ⟨some 22, none, .bsl 5 1 2 [(.int .u8 0), (.int .u8 0)] [(0, 1, (.t 19)), (1, 1, (.t 21))], none⟩,
 ⟨some 23, none, .appo 5 1 1 16 (.t 22), none⟩,
 ⟨some 3, none, .mvo 23, none⟩]))))
 (.keep [3, 10, 11, 12] (.ops [⟨some 24, none, .bin .add (.t 12) (.c (.int .i64 1)), none⟩,
 ⟨some 12, none, .mv (.t 24), none⟩]))))))
def J_word_Of : AFn :=
 ⟨27, [.t 2], .seq (.ops [⟨some 2, none, .mv (.c (.str ⟨#[]⟩)), none⟩])
 (.keep [0] (.seq (.ops [⟨some 6, none, .mv (.t 0), none⟩,
 ⟨some 7, none, .lenl (.t 6), none⟩,
 ⟨some 8, none, .bin .mul (.c (.int .i64 2)) (.t 7), none⟩,
 ⟨some 9, none, .mk0 5 1 1 (.t 8), none⟩,
 ⟨some 3, none, .mvo 9, none⟩])
 (.keep [0, 3] (.seq (.seq (.ops [⟨some 10, none, .mv (.t 0), none⟩,
 ⟨some 11, none, .lenl (.t 10), none⟩,
 ⟨some 12, none, .mv (.c (.int .i64 0)), none⟩])
 (.keep [3, 10, 11, 12] (.block 0 (.loop [3, 10, 11, 12] (J_word_Of_j2)))))
 (J_word_Of_j1)))))⟩
theorem J_word_Of_ok : chkFn Try.prog 39 J_word_Of = true := by kernel_rfl
def J_slices_Contains_int_int : AFn :=
 ⟨9, [.t 4], .seq (.ops [⟨some 4, none, .mv (.c (.bool false)), none⟩])
 (.keep [0, 1] (.seq (.ops [⟨some 5, none, .mv (.t 0), none⟩,
 ⟨some 6, none, .mv (.t 1), none⟩,
 ⟨some 7, none, .call (.f 72) [(.t 5), (.t 6)], none⟩,
 ⟨some 8, none, .bin .geq (.t 7) (.c (.int .i64 0)), none⟩,
 ⟨some 4, none, .mv (.t 8), none⟩])
 (.ret)))⟩
theorem J_slices_Contains_int_int_ok : chkFn Try.prog 64 J_slices_Contains_int_int = true := by kernel_rfl
def J_ref03_Right_j1 : ACode :=
 .keep [0, 3, 4, 5] (.seq (.seq (.ops [⟨some 48, none, .mv (.t 5), none⟩,
 ⟨some 49, none, .not (.t 48), none⟩])
 (.keep [0, 3, 4, 49] (.cond (.t 49)
 (.seq (.ops [⟨some 50, none, .mv (.t 3), none⟩,
 ⟨some 2, none, .mv (.t 50), none⟩])
 (.ret))
 (.skip))))
 (.keep [0, 3, 4] (.ops [⟨some 51, none, .mvo 3, none⟩,
 ⟨some 52, none, .mv (.t 4), none⟩,
 ⟨some 53, none, .bsl 27 1 1 [(.str ⟨#[]⟩)] [(0, 1, (.t 52))], none⟩,
 ⟨some 54, none, .appo 27 1 16 51 (.t 53), none⟩,
 ⟨some 3, none, .mvo 54, none⟩])))
def J_ref03_Right_j2 : ACode :=
 .keep [0, 3, 4, 5, 6] (.ops [⟨some 13, none, .mv (.t 6), none⟩,
 ⟨some 14, none, .bin .add (.t 13) (.c (.int .i64 1)), none⟩,
 ⟨some 6, none, .mv (.t 14), none⟩])
def J_ref03_Right_j3 : ACode :=
 .seq (.seq (.ops [⟨some 9, none, .mv (.t 6), none⟩,
 ⟨some 10, none, .mv (.t 0), none⟩,
 ⟨some 11, none, .lenl (.t 10), none⟩,
 ⟨some 12, none, .bin .lss (.t 9) (.t 11), none⟩])
 (.keep [0, 3, 4, 5, 6, 12] (.cond (.t 12)
 (.skip)
 (.exit 2))))
 (.keep [0, 3, 4, 5, 6] (.seq (.block 3 (.seq (.draw [0, 3, 4, 5, 6, 7] [⟨some 15, none, .mv (.t 3), none⟩,
 ⟨some 16, none, .lenl (.t 15), none⟩,
 ⟨some 17, none, .bin .eql (.t 16) (.c (.int .i64 0)), none⟩,
 ⟨some 18, none, .mv (.t 17), none⟩,
 ⟨some 19, (some (18, false)), .mv (.t 3), none⟩,
 ⟨some 20, (some (18, false)), .mv (.t 3), none⟩,
 ⟨some 21, (some (18, false)), .lenl (.t 20), none⟩,
 ⟨some 22, (some (18, false)), .bin .sub (.t 21) (.c (.int .i64 1)), none⟩,
 ⟨some 23, (some (18, false)), .idxa 1 (.t 19) (.t 22), none⟩,
 ⟨some 24, (some (18, false)), .load none (.t 23), none⟩,
 ⟨some 25, (some (18, false)), .mv (.t 0), none⟩,
 ⟨some 26, (some (18, false)), .mv (.t 6), none⟩,
 ⟨some 27, (some (18, false)), .idxa 1 (.t 25) (.t 26), none⟩,
 ⟨some 28, (some (18, false)), .load none (.t 27), none⟩,
 ⟨some 29, (some (18, false)), .call (.f 54) [(.t 24), (.t 28)], none⟩,
 ⟨some 30, none, .pick (.t 18) (.c (.bool true)) (.t 29), none⟩,
 ⟨some 7, none, .mv (.t 30), none⟩])
 (.keep [0, 3, 4, 5, 6, 7] (.seq (.ops [⟨some 31, none, .mv (.t 7), none⟩,
 ⟨some 32, none, .mv (.t 31), none⟩,
 ⟨some 33, (some (32, true)), .mv (.t 5), none⟩,
 ⟨some 34, (some (32, true)), .not (.t 33), none⟩,
 ⟨some 35, (some (32, true)), .mv (.t 34), none⟩,
 ⟨some 36, (some (35, false)), .mv (.t 0), none⟩,
 ⟨some 37, (some (35, false)), .mv (.t 6), none⟩,
 ⟨some 38, (some (35, false)), .idxa 1 (.t 36) (.t 37), none⟩,
 ⟨some 39, (some (35, false)), .load none (.t 38), none⟩,
 ⟨some 40, (some (35, false)), .mv (.t 4), none⟩,
 ⟨some 41, (some (35, false)), .call (.f 54) [(.t 39), (.t 40)], none⟩,
 ⟨some 42, (some (32, true)), .pick (.t 35) (.c (.bool true)) (.t 41), none⟩,
 ⟨some 43, none, .pick (.t 32) (.t 42) (.c (.bool false)), none⟩])
 (.keep [0, 3, 4, 5, 6, 43] (.cond (.t 43)
 (.seq (.ops [⟨some 44, none, .mv (.t 0), none⟩,
 ⟨some 45, none, .mv (.t 6), none⟩,
 ⟨some 46, none, .idxa 1 (.t 44) (.t 45), none⟩,
 ⟨some 47, none, .load none (.t 46), none⟩,
 ⟨some 4, none, .mv (.t 47), none⟩])
 (.keep [0, 3, 4, 6] (.ops [⟨some 5, none, .mv (.c (.bool true)), none⟩])))
 (.skip)))))))
 (J_ref03_Right_j2)))
def J_ref03_Right_j4 : ACode :=
 .block 1 (.seq (.ops [⟨some 4, none, .mv (.c (.str ⟨#[]⟩)), none⟩])
 (.keep [0, 3, 4] (.seq (.ops [⟨some 5, none, .mv (.c (.bool false)), none⟩])
 (.keep [0, 3, 4, 5] (.seq (.seq (.ops [⟨some 6, none, .mv (.c (.int .i64 0)), none⟩])
 (.keep [0, 3, 4, 5, 6] (.block 2 (.loop [0, 3, 4, 5, 6] (J_ref03_Right_j3)))))
 (J_ref03_Right_j1))))))
def J_ref03_Right : AFn :=
 ⟨55, [.t 2], .seq (.ops [⟨some 2, none, .mv (.c (.lst .clip 0 [])), none⟩])
 (.keep [0] (.seq (.ops [⟨some 8, none, .bsl 27 1 0 [] [], none⟩,
 ⟨some 3, none, .mvo 8, none⟩])
 (.keep [0, 3] (.block 0 (.loop [0, 3] (J_ref03_Right_j4))))))⟩
theorem J_ref03_Right_ok : chkFn Try.prog 69 J_ref03_Right = true := by kernel_rfl
def J_ref02_Sub : AFn :=
 ⟨42, [.t 6, .t 7], .seq (.ops [⟨some 6, none, .mv (.c (.str ⟨#[]⟩)), none⟩,
 ⟨some 7, none, .mv (.c (.int .i64 0)), none⟩])
 (.keep [0, 1, 2] (.seq (.seq (.ops [⟨some 9, none, .mv (.t 0), none⟩,
 ⟨some 10, none, .lens (.t 9), none⟩,
 ⟨some 11, none, .bin .rem (.t 10) (.c (.int .i64 2)), none⟩,
 ⟨some 12, none, .bin .eql (.t 11) (.c (.int .i64 1)), none⟩])
 (.keep [0, 1, 2, 12] (.cond (.t 12)
 (.seq (.ops [⟨some 6, none, .mv (.c (.str ⟨#[]⟩)), none⟩,
 ⟨some 7, none, .mv (.c (.int .i64 2)), none⟩])
 (.ret))
 (.skip))))
 (.keep [0, 1, 2] (.seq (.ops [⟨some 13, none, .mv (.t 0), none⟩,
 ⟨some 14, none, .call (.f 50) [(.t 13)], none⟩,
 ⟨some 8, none, .mv (.t 14), none⟩])
 (.keep [1, 2, 8] (.seq (.seq (.ops [⟨some 15, none, .mv (.t 1), none⟩,
 ⟨some 16, none, .bin .lss (.t 15) (.c (.int .i64 0)), none⟩,
 ⟨some 17, none, .mv (.t 16), none⟩,
 ⟨some 18, (some (17, false)), .mv (.t 2), none⟩,
 ⟨some 19, (some (17, false)), .bin .lss (.t 18) (.c (.int .i64 0)), none⟩,
 ⟨some 20, none, .pick (.t 17) (.c (.bool true)) (.t 19), none⟩,
 ⟨some 21, none, .mv (.t 20), none⟩,
 ⟨some 22, (some (21, false)), .mv (.t 1), none⟩,
 ⟨some 23, (some (21, false)), .mv (.t 8), none⟩,
 ⟨some 24, (some (21, false)), .lenl (.t 23), none⟩,
 ⟨some 25, (some (21, false)), .bin .gtr (.t 22) (.t 24), none⟩,
 ⟨some 26, none, .pick (.t 21) (.c (.bool true)) (.t 25), none⟩,
 ⟨some 27, none, .mv (.t 26), none⟩,
 ⟨some 28, (some (27, false)), .mv (.t 2), none⟩,
 ⟨some 29, (some (27, false)), .mv (.t 8), none⟩,
 ⟨some 30, (some (27, false)), .lenl (.t 29), none⟩,
 ⟨some 31, (some (27, false)), .mv (.t 1), none⟩,
 ⟨some 32, (some (27, false)), .bin .sub (.t 30) (.t 31), none⟩,
 ⟨some 33, (some (27, false)), .bin .gtr (.t 28) (.t 32), none⟩,
 ⟨some 34, none, .pick (.t 27) (.c (.bool true)) (.t 33), none⟩])
 (.keep [1, 2, 8, 34] (.cond (.t 34)
 (.seq (.ops [⟨some 6, none, .mv (.c (.str ⟨#[]⟩)), none⟩,
 ⟨some 7, none, .mv (.c (.int .i64 5)), none⟩])
 (.ret))
 (.skip))))
 (.keep [1, 2, 8] (.seq (.ops [⟨some 35, none, .mv (.t 8), none⟩,
 ⟨some 36, none, .mv (.t 1), none⟩,
 ⟨some 37, none, .mv (.t 1), none⟩,
 ⟨some 38, none, .mv (.t 2), none⟩,
 ⟨some 39, none, .bin .add (.t 37) (.t 38), none⟩,
 ⟨some 40, none, .slcl 1 (.t 35) (some (.t 36)) (some (.t 39)) none, none⟩,
 ⟨some 41, none, .call (.f 22) [(.t 40)], none⟩,
 ⟨some 6, none, .mv (.t 41), none⟩,
 ⟨some 7, none, .mv (.c (.int .i64 0)), none⟩])
 (.ret)))))))))⟩
theorem J_ref02_Sub_ok : chkFn Try.prog 70 J_ref02_Sub = true := by kernel_rfl
def J_ref02_Swap : AFn :=
 ⟨57, [.t 8, .t 9], .seq (.ops [⟨some 8, none, .mv (.c (.str ⟨#[]⟩)), none⟩,
 ⟨some 9, none, .mv (.c (.int .i64 0)), none⟩])
 (.keep [0, 1, 2, 3] (.seq (.seq (.ops [⟨some 14, none, .mv (.t 0), none⟩,
 ⟨some 15, none, .lens (.t 14), none⟩,
 ⟨some 16, none, .bin .rem (.t 15) (.c (.int .i64 2)), none⟩,
 ⟨some 17, none, .bin .eql (.t 16) (.c (.int .i64 1)), none⟩,
 ⟨some 18, none, .mv (.t 17), none⟩,
 ⟨some 19, (some (18, false)), .mv (.t 3), none⟩,
 ⟨some 20, (some (18, false)), .lens (.t 19), none⟩,
 ⟨some 21, (some (18, false)), .bin .rem (.t 20) (.c (.int .i64 2)), none⟩,
 ⟨some 22, (some (18, false)), .bin .eql (.t 21) (.c (.int .i64 1)), none⟩,
 ⟨some 23, none, .pick (.t 18) (.c (.bool true)) (.t 22), none⟩])
 (.keep [0, 1, 2, 3, 23] (.cond (.t 23)
 (.seq (.ops [⟨some 8, none, .mv (.c (.str ⟨#[]⟩)), none⟩,
 ⟨some 9, none, .mv (.c (.int .i64 2)), none⟩])
 (.ret))
 (.skip))))
 (.keep [0, 1, 2, 3] (.seq (.ops [⟨some 25, none, .mv (.t 0), none⟩,
 ⟨some 26, none, .mv (.t 1), none⟩,
 ⟨some 27, none, .mv (.t 2), none⟩,
 ⟨some 28, none, .call (.f 70) [(.t 25), (.t 26), (.t 27)], none⟩,
 ⟨some 24, none, .mv (.t 28), none⟩,
 ⟨some 29, none, .ext 0 (.t 24), none⟩,
 ⟨some 30, none, .ext 1 (.t 24), none⟩,
 ⟨some 10, none, .mv (.t 29), none⟩,
 ⟨some 11, none, .mv (.t 30), none⟩])
 (.keep [0, 1, 2, 3, 11] (.seq (.seq (.ops [⟨some 31, none, .mv (.t 11), none⟩,
 ⟨some 32, none, .bin .neq (.t 31) (.c (.int .i64 0)), none⟩])
 (.keep [0, 1, 2, 3, 11, 32] (.cond (.t 32)
 (.seq (.ops [⟨some 33, none, .mv (.t 11), none⟩,
 ⟨some 8, none, .mv (.c (.str ⟨#[]⟩)), none⟩,
 ⟨some 9, none, .mv (.t 33), none⟩])
 (.ret))
 (.skip))))
 (.keep [0, 1, 2, 3] (.seq (.ops [⟨some 34, none, .mv (.t 0), none⟩,
 ⟨some 35, none, .call (.f 50) [(.t 34)], none⟩,
 ⟨some 12, none, .mv (.t 35), none⟩])
 (.keep [1, 2, 3, 12] (.seq (.ops [⟨some 36, none, .bsl 51 1 0 [] [], none⟩,
 ⟨some 37, none, .mv (.t 12), none⟩,
 ⟨some 38, none, .mv (.t 1), none⟩,
 ⟨some 39, none, .slcl 1 (.t 37) none (some (.t 38)) none, none⟩,
 ⟨some 40, none, .appo 51 1 2 36 (.t 39), none⟩,
 ⟨some 13, none, .mvo 40, none⟩])
 (.keep [1, 2, 3, 12, 13] (.seq (.ops [⟨some 41, none, .mvo 13, none⟩,
 ⟨some 42, none, .mv (.t 3), none⟩,
 ⟨some 43, none, .call (.f 50) [(.t 42)], none⟩,
 ⟨some 44, none, .appo 51 1 2 41 (.t 43), none⟩,
 ⟨some 13, none, .mvo 44, none⟩])
 (.keep [1, 2, 12, 13] (.seq (.ops [⟨some 45, none, .mvo 13, none⟩,
 ⟨some 46, none, .mv (.t 12), none⟩,
 ⟨some 47, none, .mv (.t 1), none⟩,
 ⟨some 48, none, .mv (.t 2), none⟩,
 ⟨some 49, none, .bin .add (.t 47) (.t 48), none⟩,
 ⟨some 50, none, .slcl 1 (.t 46) (some (.t 49)) none none, none⟩,
 ⟨some 51, none, .appo 51 1 2 45 (.t 50), none⟩,
 ⟨some 13, none, .mvo 51, none⟩])
 (.keep [13] (.seq (.seq (.ops [⟨some 52, none, .mv (.t 13), none⟩,
 ⟨some 53, none, .lenl (.t 52), none⟩,
 ⟨some 54, none, .bin .gtr (.t 53) (.c (.int .i64 8)), none⟩])
 (.keep [13, 54] (.cond (.t 54)
 (.seq (.ops [⟨some 8, none, .mv (.c (.str ⟨#[]⟩)), none⟩,
 ⟨some 9, none, .mv (.c (.int .i64 4)), none⟩])
 (.ret))
 (.skip))))
 (.keep [13] (.seq (.ops [⟨some 55, none, .mv (.t 13), none⟩,
 ⟨some 56, none, .call (.f 22) [(.t 55)], none⟩,
 ⟨some 8, none, .mv (.t 56), none⟩,
 ⟨some 9, none, .mv (.c (.int .i64 0)), none⟩])
 (.ret)))))))))))))))))))⟩
theorem J_ref02_Swap_ok : chkFn Try.prog 71 J_ref02_Swap = true := by kernel_rfl
def J_slices_Index_int_int_j1 : ACode :=
 .keep [] (.seq (.ops [⟨some 4, none, .mv (.c (.int .i64 (-1))), none⟩])
 (.ret))
def J_slices_Index_int_int_j2 : ACode :=
 .seq (.ops [⟨some 9, none, .bin .lss (.t 8) (.t 7), none⟩])
 (.keep [0, 1, 7, 8, 9] (.seq (.cond (.t 9)
 (.skip)
 (.exit 0))
 (.keep [0, 1, 7, 8] (.seq (.block 1 (.seq (.ops [⟨some 10, none, .mv (.t 8), none⟩,
 ⟨some 5, none, .mv (.t 10), none⟩])
 (.keep [0, 1, 5, 7, 8] (.seq (.ops [⟨some 11, none, .mv (.t 1), none⟩,
 ⟨some 12, none, .mv (.t 0), none⟩,
 ⟨some 13, none, .mv (.t 5), none⟩,
 ⟨some 14, none, .idxa 1 (.t 12) (.t 13), none⟩,
 ⟨some 15, none, .load none (.t 14), none⟩,
 ⟨some 16, none, .bin .eql (.t 11) (.t 15), none⟩])
 (.keep [0, 1, 5, 7, 8, 16] (.cond (.t 16)
 (.seq (.ops [⟨some 17, none, .mv (.t 5), none⟩,
 ⟨some 4, none, .mv (.t 17), none⟩])
 (.ret))
 (.skip)))))))
 (.keep [0, 1, 7, 8] (.ops [⟨some 18, none, .bin .add (.t 8) (.c (.int .i64 1)), none⟩,
 ⟨some 8, none, .mv (.t 18), none⟩]))))))
def J_slices_Index_int_int : AFn :=
 ⟨19, [.t 4], .seq (.ops [⟨some 4, none, .mv (.c (.int .i64 0)), none⟩])
 (.keep [0, 1] (.seq (.seq (.ops [⟨some 6, none, .mv (.t 0), none⟩,
 ⟨some 7, none, .lenl (.t 6), none⟩,
 ⟨some 8, none, .mv (.c (.int .i64 0)), none⟩])
 (.keep [0, 1, 7, 8] (.block 0 (.loop [0, 1, 7, 8] (J_slices_Index_int_int_j2)))))
 (J_slices_Index_int_int_j1)))⟩
theorem J_slices_Index_int_int_ok : chkFn Try.prog 72 J_slices_Index_int_int = true := by kernel_rfl
def J_word_Swap : AFn :=
 ⟨42, [.t 8, .t 9], .seq (.ops [⟨some 8, none, .mv (.c (.str ⟨#[]⟩)), none⟩,
 ⟨some 9, none, .mv (.c (.int .i64 0)), none⟩])
 (.keep [0, 1, 2, 3] (.seq (.seq (.ops [⟨some 10, none, .mv (.t 0), none⟩,
 ⟨some 11, none, .call (.f 46) [(.t 10)], none⟩,
 ⟨some 12, none, .mv (.t 11), none⟩,
 ⟨some 13, (some (12, false)), .mv (.t 3), none⟩,
 ⟨some 14, (some (12, false)), .call (.f 46) [(.t 13)], none⟩,
 ⟨some 15, none, .pick (.t 12) (.c (.bool true)) (.t 14), none⟩])
 (.keep [0, 1, 2, 3, 15] (.cond (.t 15)
 (.seq (.ops [⟨some 8, none, .mv (.c (.str ⟨#[]⟩)), none⟩,
 ⟨some 9, none, .mv (.c (.int .i64 2)), none⟩])
 (.ret))
 (.skip))))
 (.keep [0, 1, 2, 3] (.seq (.seq (.ops [⟨some 16, none, .mv (.t 0), none⟩,
 ⟨some 17, none, .mv (.t 1), none⟩,
 ⟨some 18, none, .mv (.t 2), none⟩,
 ⟨some 19, none, .call (.f 76) [(.t 16), (.t 17), (.t 18)], none⟩,
 ⟨some 20, none, .not (.t 19), none⟩])
 (.keep [0, 1, 2, 3, 20] (.cond (.t 20)
 (.seq (.ops [⟨some 8, none, .mv (.c (.str ⟨#[]⟩)), none⟩,
 ⟨some 9, none, .mv (.c (.int .i64 5)), none⟩])
 (.ret))
 (.skip))))
 (.keep [0, 1, 2, 3] (.seq (.seq (.ops [⟨some 21, none, .mv (.t 0), none⟩,
 ⟨some 22, none, .call (.f 47) [(.t 21)], none⟩,
 ⟨some 23, none, .mv (.t 2), none⟩,
 ⟨some 24, none, .bin .sub (.t 22) (.t 23), none⟩,
 ⟨some 25, none, .mv (.t 3), none⟩,
 ⟨some 26, none, .call (.f 47) [(.t 25)], none⟩,
 ⟨some 27, none, .bin .add (.t 24) (.t 26), none⟩,
 ⟨some 28, none, .bin .gtr (.t 27) (.c (.int .i64 8)), none⟩])
 (.keep [0, 1, 2, 3, 28] (.cond (.t 28)
 (.seq (.ops [⟨some 8, none, .mv (.c (.str ⟨#[]⟩)), none⟩,
 ⟨some 9, none, .mv (.c (.int .i64 4)), none⟩])
 (.ret))
 (.skip))))
 (.keep [0, 1, 2, 3] (.seq (.draw [8, 9] [⟨some 29, none, .mv (.t 0), none⟩,
 ⟨some 30, none, .mv (.t 1), none⟩,
 ⟨some 31, none, .bin .mul (.c (.int .i64 2)) (.t 30), none⟩,
 ⟨some 32, none, .slcs (.t 29) none (some (.t 31)), none⟩,
 ⟨some 33, none, .mv (.t 3), none⟩,
 ⟨some 34, none, .bin .add (.t 32) (.t 33), none⟩,
 ⟨some 35, none, .mv (.t 0), none⟩,
 ⟨some 36, none, .mv (.t 1), none⟩,
 ⟨some 37, none, .mv (.t 2), none⟩,
 ⟨some 38, none, .bin .add (.t 36) (.t 37), none⟩,
 ⟨some 39, none, .bin .mul (.c (.int .i64 2)) (.t 38), none⟩,
 ⟨some 40, none, .slcs (.t 35) (some (.t 39)) none, none⟩,
 ⟨some 41, none, .bin .add (.t 34) (.t 40), none⟩,
 ⟨some 8, none, .mv (.t 41), none⟩,
 ⟨some 9, none, .mv (.c (.int .i64 0)), none⟩])
 (.ret)))))))))⟩
theorem J_word_Swap_ok : chkFn Try.prog 73 J_word_Swap = true := by kernel_rfl
def J_set_Same : AFn :=
 ⟨13, [.t 4], .seq (.ops [⟨some 4, none, .mv (.c (.bool false)), none⟩])
 (.keep [0, 1] (.seq (.ops [⟨some 5, none, .mv (.t 0), none⟩,
 ⟨some 6, none, .mv (.t 1), none⟩,
 ⟨some 7, none, .call (.f 82) [(.t 5), (.t 6)], none⟩,
 ⟨some 8, none, .mv (.t 7), none⟩,
 ⟨some 9, (some (8, true)), .mv (.t 1), none⟩,
 ⟨some 10, (some (8, true)), .mv (.t 0), none⟩,
 ⟨some 11, (some (8, true)), .call (.f 82) [(.t 9), (.t 10)], none⟩,
 ⟨some 12, none, .pick (.t 8) (.t 11) (.c (.bool false)), none⟩,
 ⟨some 4, none, .mv (.t 12), none⟩])
 (.ret)))⟩
theorem J_set_Same_ok : chkFn Try.prog 75 J_set_Same = true := by kernel_rfl
def J_word_within : AFn :=
 ⟨27, [.t 6], .seq (.ops [⟨some 6, none, .mv (.c (.bool false)), none⟩])
 (.keep [0, 1, 2] (.seq (.ops [⟨some 7, none, .mv (.t 1), none⟩,
 ⟨some 8, none, .bin .geq (.t 7) (.c (.int .i64 0)), none⟩,
 ⟨some 9, none, .mv (.t 8), none⟩,
 ⟨some 10, (some (9, true)), .mv (.t 2), none⟩,
 ⟨some 11, (some (9, true)), .bin .geq (.t 10) (.c (.int .i64 0)), none⟩,
 ⟨some 12, none, .pick (.t 9) (.t 11) (.c (.bool false)), none⟩,
 ⟨some 13, none, .mv (.t 12), none⟩,
 ⟨some 14, (some (13, true)), .mv (.t 1), none⟩,
 ⟨some 15, (some (13, true)), .mv (.t 0), none⟩,
 ⟨some 16, (some (13, true)), .call (.f 47) [(.t 15)], none⟩,
 ⟨some 17, (some (13, true)), .bin .leq (.t 14) (.t 16), none⟩,
 ⟨some 18, none, .pick (.t 13) (.t 17) (.c (.bool false)), none⟩,
 ⟨some 19, none, .mv (.t 18), none⟩,
 ⟨some 20, (some (19, true)), .mv (.t 2), none⟩,
 ⟨some 21, (some (19, true)), .mv (.t 0), none⟩,
 ⟨some 22, (some (19, true)), .call (.f 47) [(.t 21)], none⟩,
 ⟨some 23, (some (19, true)), .mv (.t 1), none⟩,
 ⟨some 24, (some (19, true)), .bin .sub (.t 22) (.t 23), none⟩,
 ⟨some 25, (some (19, true)), .bin .leq (.t 20) (.t 24), none⟩,
 ⟨some 26, none, .pick (.t 19) (.t 25) (.c (.bool false)), none⟩,
 ⟨some 6, none, .mv (.t 26), none⟩])
 (.ret)))⟩
theorem J_word_within_ok : chkFn Try.prog 76 J_word_within = true := by kernel_rfl
end Go.Proofs.Ytlfnepcglnjogaa

/- What the reference's sets do: words in order, each once. -/
namespace Go.Proofs.Ytlfnepcglnjogaa
set_option linter.unusedSimpArgs false
set_option linter.unusedVariables false
open Go.RowKit Go.Lib

theorem rising_get {r : List ByteArray} (hr : rising r = true) : ∀ {i j : Nat} (hi : i < j) (hj : j < r.length), wless (r[i]'(by omega)) r[j] = true := by
  induction r with
  | nil => intro i j _ hj; simp at hj
  | cons x r ih =>
    obtain ⟨h1, h2⟩ := rising_cons.1 hr
    intro i j hi hj
    cases j with
    | zero => omega
    | succ j =>
      cases i with
      | zero => exact h1 _ (List.getElem_mem _)
      | succ i => exact ih h2 (by omega) (by simpa using hj)
def aft (r : List ByteArray) (k : Nat) (x : ByteArray) : Prop := k = 0 ∨ ∃ h : k - 1 < r.length, wless r[k - 1] x = true
theorem aft_iff {r : List ByteArray} (hr : rising r = true) {k j : Nat} (hk : k ≤ r.length) (hj : j < r.length) : aft r k r[j] ↔ k ≤ j := by
  unfold aft
  constructor
  · rintro (h | ⟨h, hw⟩)
    · omega
    · rcases Nat.lt_or_ge j k with hlt | hge
      · by_cases e : j = k - 1
        · subst e; rw [wless_irrefl] at hw; cases hw
        · have := rising_get hr (i := j) (j := k - 1) (by omega) (by omega)
          rw [wless_asymm this] at hw; cases hw
      · exact hge
  · intro h
    by_cases h0 : k = 0
    · exact .inl h0
    · exact .inr ⟨by omega, rising_get hr (by omega) hj⟩
structure RInv (l : List ByteArray) (k i : Nat) (best : ByteArray) (found : Bool) : Prop where
  no : found = false → ∀ x ∈ l.take i, ¬ aft (nrm l) k x
  mem : found = true → best ∈ l ∧ aft (nrm l) k best
  least : found = true → ∀ x ∈ l.take i, aft (nrm l) k x → wless x best = false
theorem RInv.zero (l : List ByteArray) (k : Nat) : RInv l k 0 ⟨#[]⟩ false := ⟨fun _ x hx => by simp at hx, fun h => (nomatch h), fun h => (nomatch h)⟩
theorem RInv.take {l : List ByteArray} {k i : Nat} {best : ByteArray} {found : Bool} (h : RInv l k i best found) (hi : i < l.length) (ha : aft (nrm l) k l[i]) (hb : found = true → wless l[i] best = true) : RInv l k (i + 1) l[i] true := by
  refine ⟨fun h => (nomatch h), fun _ => ⟨List.getElem_mem hi, ha⟩, fun _ x hx hax => ?_⟩
  rcases (by rw [List.take_succ_eq_append_getElem hi, List.mem_append] at hx; simpa using hx : x ∈ l.take i ∨ x = l[i]) with hx | rfl
  · cases found with
    | false => exact absurd hax (h.no rfl x hx)
    | true =>
      cases hw : wless x l[i] with
      | false => rfl
      | true =>
        have := wless_trans hw (hb rfl)
        rw [h.least rfl x hx hax] at this; cases this
  · exact wless_irrefl _
theorem RInv.skip {l : List ByteArray} {k i : Nat} {best : ByteArray} {found : Bool} (h : RInv l k i best found) (hi : i < l.length) (hs : ¬ aft (nrm l) k l[i] ∨ (found = true ∧ wless l[i] best = false)) : RInv l k (i + 1) best found := by
  have key : ∀ x, x ∈ l.take (i + 1) → x ∈ l.take i ∨ x = l[i] := fun x hx => by rw [List.take_succ_eq_append_getElem hi, List.mem_append] at hx; simpa using hx
  refine ⟨fun hf x hx => ?_, h.mem, fun hf x hx hax => ?_⟩
  · rcases key x hx with hx | rfl
    · exact h.no hf x hx
    · rcases hs with hs | ⟨hs, _⟩
      · exact hs
      · rw [hf] at hs; cases hs
  · rcases key x hx with hx | rfl
    · exact h.least hf x hx hax
    · rcases hs with hs | ⟨_, hs⟩
      · exact absurd hax hs
      · exact hs
theorem RInv.stop {l : List ByteArray} {k : Nat} {best : ByteArray} (h : RInv l k l.length best false) (hk : k ≤ (nrm l).length) : k = (nrm l).length := by
  rcases Nat.lt_or_ge k (nrm l).length with hlt | hge
  · have hm : (nrm l)[k] ∈ l := mem_nrm.1 (List.getElem_mem hlt)
    exact absurd ((aft_iff (rising_nrm l) hk hlt).2 (Nat.le_refl _)) (h.no rfl _ (by rw [List.take_length]; exact hm))
  · omega
theorem RInv.next {l : List ByteArray} {k : Nat} {best : ByteArray} (h : RInv l k l.length best true) (hk : k ≤ (nrm l).length) : ∃ hlt : k < (nrm l).length, best = (nrm l)[k] := by
  obtain ⟨hm, ha⟩ := h.mem rfl
  obtain ⟨j, hj, e⟩ := List.mem_iff_getElem.1 (mem_nrm.2 hm)
  subst e
  have hkj := (aft_iff (rising_nrm l) hk hj).1 ha
  refine ⟨by omega, ?_⟩
  by_cases e : j = k
  · subst e; rfl
  · have hlt : k < (nrm l).length := by omega
    have h1 := h.least rfl (nrm l)[k] (by rw [List.take_length]; exact mem_nrm.1 (List.getElem_mem hlt)) ((aft_iff (rising_nrm l) hk hlt).2 (Nat.le_refl _))
    rw [rising_get (rising_nrm l) (by omega) hj] at h1; cases h1
theorem nrm_len : ∀ l : List ByteArray, (nrm l).length ≤ l.length := by
  have h : ∀ (x : ByteArray) (l : List ByteArray), (ins x l).length ≤ l.length + 1 := by
    intro x l
    induction l with
    | nil => simp [ins]
    | cons y l ih => simp only [ins]; split; simp; split <;> simp only [List.length_cons] <;> omega
  intro l
  induction l with
  | nil => simp [nrm]
  | cons x l ih => simp only [nrm, List.length_cons]; have := h x (nrm l); omega
set_option maxRecDepth 100000 in
set_option maxHeartbeats 2000000 in
theorem p_rright (l : List ByteArray) (hl : l.length ≤ 1000000) (hs : ∀ x ∈ l, x.size ≤ 1000000) : PCalls Try.prog 69 [.lst .ro l.length (l.map .str)] (.lst .ro (nrm l).length ((nrm l).map .str)) := by
  refine pcalls_of (by first | rfl | simp [free, free.frees, frees_str, frees_u8, frees_u16]) (by first | rfl | simp [free, free.frees, frees_str, frees_u8, frees_u16]) (acalls_of mixed J_ref03_Right_ok (Nat.le_of_ble_eq_true rfl) ?_); simp only [J_ref03_Right, wk,if_true,if_false,forall_const,implies_true,ne_eq,eq_self,Nat.reduceEqDiff,Nat.reduceAdd,Nat.reduceMul,Nat.reduceSub,Nat.reduceLeDiff,Nat.reduceLT,Int.reduceEq,Int.reduceLT,Int.reduceLE,Int.reduceAdd,Int.reduceSub,Int.reduceMul,Int.reduceNeg,Int.reduceNe,reduceCtorEq,Int.reduceToNat,↓reduceIte]
  have hnl := nrm_len l
  refine W_loop (fun n fr h => ∃ k : Nat, k ≤ (nrm l).length ∧ n = (nrm l).length - k ∧ fr = [(0, .lst .ro l.length (l.map .str)), (3, .lst (.own 27) k (((nrm l).take k).map .str))]) (nrm l).length ⟨0, by omega, by omega, rfl⟩ ?_
  rintro n fr h ⟨k, hk, rfl, rfl⟩
  simp only [J_ref03_Right_j4, wk,if_true,if_false,forall_const,implies_true,ne_eq,eq_self,Nat.reduceEqDiff,Nat.reduceAdd,Nat.reduceMul,Nat.reduceSub,Nat.reduceLeDiff,Nat.reduceLT,Int.reduceEq,Int.reduceLT,Int.reduceLE,Int.reduceAdd,Int.reduceSub,Int.reduceMul,Int.reduceNeg,Int.reduceNe,reduceCtorEq,Int.reduceToNat,↓reduceIte]
  refine W_loop (fun n fr h => ∃ (i : Nat) (best : ByteArray) (found : Bool), i ≤ l.length ∧ n = l.length - i ∧ best.size ≤ 1000000 ∧ RInv l k i best found ∧ fr = [(0, .lst .ro l.length (l.map .str)), (3, .lst (.own 27) k (((nrm l).take k).map .str)), (4, .str best), (5, .bool found), (6, .int .i64 i)]) l.length ⟨0, ⟨#[]⟩, false, by omega, by omega, by decide, RInv.zero l k, rfl⟩ ?_
  rintro n fr h ⟨i, best, found, hi, rfl, hbs, hinv, rfl⟩
  simp only [J_ref03_Right_j3, wk,if_true,if_false,forall_const,implies_true,ne_eq,eq_self,Nat.reduceEqDiff,Nat.reduceAdd,Nat.reduceMul,Nat.reduceSub,Nat.reduceLeDiff,Nat.reduceLT,Int.reduceEq,Int.reduceLT,Int.reduceLE,Int.reduceAdd,Int.reduceSub,Int.reduceMul,Int.reduceNeg,Int.reduceNe,reduceCtorEq,Int.reduceToNat,↓reduceIte]
  refine ⟨fun hlt => ?_, fun hge => ?_⟩
  · have hil : i < l.length := by omega
    have hxs := hs l[i] (List.getElem_mem hil)
    have hd : (l.map AV.str).drop (i : Int).toNat = .str l[i] :: (l.map AV.str).drop (i + 1) := by rw [show (i : Int).toNat = i by omega, drop_str hil]
    have hz : (0 ≤ (i : Int)) = True := eq_true (by omega)
    have hlt' : ((i : Int) < (l.length : Int)) = True := eq_true (by omega)
    have htk : ∀ {fr0 : Fr} {Q : Exit → Fr → Hp → Prop} {h : Hp}, restr [0, 3, 4, 5, 6] fr0 = [(0, .lst .ro l.length (l.map .str)), (3, .lst (.own 27) k (((nrm l).take k).map .str)), (4, .str l[i]), (5, .bool true), (6, .int .i64 i)] → aft (nrm l) k l[i] → (found = true → wless l[i] best = true) → W Try.prog J_ref03_Right_j2 fr0 h (kloop [0, 3, 4, 5, 6] (fun n fr h => ∃ (i : Nat) (best : ByteArray) (found : Bool), i ≤ l.length ∧ n = l.length - i ∧ best.size ≤ 1000000 ∧ RInv l k i best found ∧ fr = [(0, .lst .ro l.length (l.map .str)), (3, .lst (.own 27) k (((nrm l).take k).map .str)), (4, .str best), (5, .bool found), (6, .int .i64 i)]) (l.length - i) Q) := by
      intro fr0 Q h hf ha hb
      simp only [J_ref03_Right_j2, W_keep]
      rw [hf]
      simp only [wk,if_true,if_false,forall_const,implies_true,ne_eq,eq_self,Nat.reduceEqDiff,Nat.reduceAdd,Nat.reduceMul,Nat.reduceSub,Nat.reduceLeDiff,Nat.reduceLT,Int.reduceEq,Int.reduceLT,Int.reduceLE,Int.reduceAdd,Int.reduceSub,Int.reduceMul,Int.reduceNeg,Int.reduceNe,reduceCtorEq,Int.reduceToNat,↓reduceIte]
      exact ⟨inR_of (by omega) (by omega), l.length - (i + 1), by omega, i + 1, l[i], true, by omega, rfl, hxs, hinv.take hil ha hb, rfl⟩
    have hsk : ∀ {fr0 : Fr} {Q : Exit → Fr → Hp → Prop} {h : Hp}, restr [0, 3, 4, 5, 6] fr0 = [(0, .lst .ro l.length (l.map .str)), (3, .lst (.own 27) k (((nrm l).take k).map .str)), (4, .str best), (5, .bool found), (6, .int .i64 i)] → (¬ aft (nrm l) k l[i] ∨ (found = true ∧ wless l[i] best = false)) → W Try.prog J_ref03_Right_j2 fr0 h (kloop [0, 3, 4, 5, 6] (fun n fr h => ∃ (i : Nat) (best : ByteArray) (found : Bool), i ≤ l.length ∧ n = l.length - i ∧ best.size ≤ 1000000 ∧ RInv l k i best found ∧ fr = [(0, .lst .ro l.length (l.map .str)), (3, .lst (.own 27) k (((nrm l).take k).map .str)), (4, .str best), (5, .bool found), (6, .int .i64 i)]) (l.length - i) Q) := by
      intro fr0 Q h hf hss
      simp only [J_ref03_Right_j2, W_keep]
      rw [hf]
      simp only [wk,if_true,if_false,forall_const,implies_true,ne_eq,eq_self,Nat.reduceEqDiff,Nat.reduceAdd,Nat.reduceMul,Nat.reduceSub,Nat.reduceLeDiff,Nat.reduceLT,Int.reduceEq,Int.reduceLT,Int.reduceLE,Int.reduceAdd,Int.reduceSub,Int.reduceMul,Int.reduceNeg,Int.reduceNe,reduceCtorEq,Int.reduceToNat,↓reduceIte]
      exact ⟨inR_of (by omega) (by omega), l.length - (i + 1), by omega, i + 1, best, found, by omega, rfl, hbs, hinv.skip hil hss, rfl⟩
    simp only [wk,if_true,if_false,forall_const,implies_true,ne_eq,eq_self,Nat.reduceEqDiff,Nat.reduceAdd,Nat.reduceMul,Nat.reduceSub,Nat.reduceLeDiff,Nat.reduceLT,Int.reduceEq,Int.reduceLT,Int.reduceLE,Int.reduceAdd,Int.reduceSub,Int.reduceMul,Int.reduceNeg,Int.reduceNe,reduceCtorEq,Int.reduceToNat,↓reduceIte, hd, hz, hlt']
    refine ⟨fun hk0 => ?_, fun hk0 => ?_⟩
    · -- some were taken
      have hkp : 0 < k := by omega
      have hkl : k - 1 < ((nrm l).take k).length := by rw [List.length_take]; omega
      have hd2 : (((nrm l).take k).map AV.str).drop ((k : Int) - 1).toNat = .str ((nrm l)[k - 1]'(by omega)) :: (((nrm l).take k).map AV.str).drop k := by
        rw [show ((k : Int) - 1).toNat = k - 1 by omega, drop_str hkl, List.getElem_take, show k - 1 + 1 = k by omega]
      refine ⟨inR_of (by omega) (by omega), ⟨by omega, by omega⟩, ?_⟩
      simp only [wk,if_true,if_false,forall_const,implies_true,ne_eq,eq_self,Nat.reduceEqDiff,Nat.reduceAdd,Nat.reduceMul,Nat.reduceSub,Nat.reduceLeDiff,Nat.reduceLT,Int.reduceEq,Int.reduceLT,Int.reduceLE,Int.reduceAdd,Int.reduceSub,Int.reduceMul,Int.reduceNeg,Int.reduceNe,reduceCtorEq,Int.reduceToNat,↓reduceIte, hd2, hd, hz, hlt']
      refine ⟨_, p_rwless (nrm l)[k - 1] l[i] (by have := hs _ (mem_nrm.1 (List.getElem_mem (l := nrm l) (n := k - 1) (by omega))); omega), ?_⟩
      have haf : ∀ b, wless (nrm l)[k - 1] l[i] = b → (b = true ↔ aft (nrm l) k l[i]) := by
        intro b hb
        unfold aft
        constructor
        · intro h; exact .inr ⟨by omega, by rw [hb, h]⟩
        · rintro (h | ⟨_, h⟩)
          · omega
          · rw [← hb]; exact h
      cases hwb : wless (nrm l)[k - 1] l[i] with
      | true =>
        simp only [wk,if_true,if_false,forall_const,implies_true,ne_eq,eq_self,Nat.reduceEqDiff,Nat.reduceAdd,Nat.reduceMul,Nat.reduceSub,Nat.reduceLeDiff,Nat.reduceLT,Int.reduceEq,Int.reduceLT,Int.reduceLE,Int.reduceAdd,Int.reduceSub,Int.reduceMul,Int.reduceNeg,Int.reduceNe,reduceCtorEq,Int.reduceToNat,↓reduceIte, hd, hz, hlt']
        refine ⟨fun hfo => ?_, fun hfo => htk (by first | rfl | (subst hfo; rfl)) ((haf true hwb).1 rfl) (fun h => by rw [hfo] at h; cases h)⟩
        subst hfo
        refine PCalls.use (p_rwless l[i] best (by omega)) ?_; simp only [wk,if_true,if_false,forall_const,implies_true,ne_eq,eq_self,Nat.reduceEqDiff,Nat.reduceAdd,Nat.reduceMul,Nat.reduceSub,Nat.reduceLeDiff,Nat.reduceLT,Int.reduceEq,Int.reduceLT,Int.reduceLE,Int.reduceAdd,Int.reduceSub,Int.reduceMul,Int.reduceNeg,Int.reduceNe,reduceCtorEq,Int.reduceToNat,↓reduceIte]
        refine ⟨fun hw => ?_, fun hw => ?_⟩
        · simp only [wk,if_true,if_false,forall_const,implies_true,ne_eq,eq_self,Nat.reduceEqDiff,Nat.reduceAdd,Nat.reduceMul,Nat.reduceSub,Nat.reduceLeDiff,Nat.reduceLT,Int.reduceEq,Int.reduceLT,Int.reduceLE,Int.reduceAdd,Int.reduceSub,Int.reduceMul,Int.reduceNeg,Int.reduceNe,reduceCtorEq,Int.reduceToNat,↓reduceIte, hd, hz, hlt']
          exact htk rfl ((haf true hwb).1 rfl) (fun _ => hw)
        · exact hsk rfl (.inr ⟨rfl, hw⟩)
      | false =>
        simp only [wk,if_true,if_false,forall_const,implies_true,ne_eq,eq_self,Nat.reduceEqDiff,Nat.reduceAdd,Nat.reduceMul,Nat.reduceSub,Nat.reduceLeDiff,Nat.reduceLT,Int.reduceEq,Int.reduceLT,Int.reduceLE,Int.reduceAdd,Int.reduceSub,Int.reduceMul,Int.reduceNeg,Int.reduceNe,reduceCtorEq,Int.reduceToNat,↓reduceIte]
        exact hsk rfl (.inl (fun h => by have := (haf false hwb).2 h; cases this))
    · have haf : aft (nrm l) k l[i] := .inl (by omega)
      refine ⟨fun hfo => ?_, fun hfo => htk (by first | rfl | (subst hfo; rfl)) haf (fun h => by rw [hfo] at h; cases h)⟩
      subst hfo
      refine PCalls.use (p_rwless l[i] best (by omega)) ?_; simp only [wk,if_true,if_false,forall_const,implies_true,ne_eq,eq_self,Nat.reduceEqDiff,Nat.reduceAdd,Nat.reduceMul,Nat.reduceSub,Nat.reduceLeDiff,Nat.reduceLT,Int.reduceEq,Int.reduceLT,Int.reduceLE,Int.reduceAdd,Int.reduceSub,Int.reduceMul,Int.reduceNeg,Int.reduceNe,reduceCtorEq,Int.reduceToNat,↓reduceIte]
      refine ⟨fun hw => ?_, fun hw => ?_⟩
      · simp only [wk,if_true,if_false,forall_const,implies_true,ne_eq,eq_self,Nat.reduceEqDiff,Nat.reduceAdd,Nat.reduceMul,Nat.reduceSub,Nat.reduceLeDiff,Nat.reduceLT,Int.reduceEq,Int.reduceLT,Int.reduceLE,Int.reduceAdd,Int.reduceSub,Int.reduceMul,Int.reduceNeg,Int.reduceNe,reduceCtorEq,Int.reduceToNat,↓reduceIte, hd, hz, hlt']
        exact htk rfl haf (fun _ => hw)
      · exact hsk rfl (.inr ⟨rfl, hw⟩)
  · have hie : i = l.length := by omega
    subst hie
    simp only [J_ref03_Right_j1, wk,if_true,if_false,forall_const,implies_true,ne_eq,eq_self,Nat.reduceEqDiff,Nat.reduceAdd,Nat.reduceMul,Nat.reduceSub,Nat.reduceLeDiff,Nat.reduceLT,Int.reduceEq,Int.reduceLT,Int.reduceLE,Int.reduceAdd,Int.reduceSub,Int.reduceMul,Int.reduceNeg,Int.reduceNe,reduceCtorEq,Int.reduceToNat,↓reduceIte]
    cases found with
    | false =>
      obtain rfl := hinv.stop hk
      exact ⟨fun _ => by rw [List.take_length], fun h => (nomatch h)⟩
    | true =>
      obtain ⟨hkl, rfl⟩ := hinv.next hk
      refine ⟨fun h => (nomatch h), fun _ => ⟨⟨by omega, by omega⟩, (nrm l).length - (k + 1), by omega, k + 1, by omega, rfl, ?_⟩⟩
      rw [List.take_succ_eq_append_getElem hkl, List.map_append]
      rfl
end Go.Proofs.Ytlfnepcglnjogaa

/- What the reference's sets do: Of, And, Quote, As, For, and what is asked. -/
namespace Go.Proofs.Ytlfnepcglnjogaa
set_option linter.unusedSimpArgs false
set_option linter.unusedVariables false
open Go.RowKit Go.Lib

def vSet (r : List ByteArray × Int) : AV := .tup [.lst .ro r.1.length (r.1.map .str), .int .i64 r.2]
theorem free_vSet (r : List ByteArray × Int) : free (vSet r) = true := by simp [vSet, free, free.frees, frees_str]
def boundE (l : List ByteArray) : List ByteArray × Int := if 1 ≤ l.length ∧ l.length ≤ 16 then (l, 0) else ([], 3)
theorem ofE_may {l : List ByteArray} (h : ∀ x ∈ l, wordMay x = true) : ofE l = boundE (nrm l) := by
  unfold ofE
  rw [if_neg (by rw [List.all_eq_true.2 h]; simp)]; rfl
def atomNs (s : ByteArray) : List Nat := (List.range (s.size / 2)).map (atomAt s)
theorem atomsL_eq (s : ByteArray) : atomsL s (s.size / 2) = u16s (atomNs s) := by simp [atomsL, atomNs, u16s]
theorem atomNs_len (s : ByteArray) : (atomNs s).length = s.size / 2 := by simp [atomNs]
theorem atomNs_lt (s : ByteArray) : ∀ a ∈ atomNs s, a < 65536 := by
  intro a ha
  obtain ⟨i, _, rfl⟩ := List.mem_map.1 ha
  exact atomAt_lt s i
theorem atomBytes_app (a b : List Nat) : atomBytes (a ++ b) = atomBytes a ++ atomBytes b := by simp [atomBytes]
theorem atomBytes_atoms {s : ByteArray} (h : s.size % 2 = 0) : atomBytes (atomNs s) = s.data.toList := by
  have key : ∀ k, 2 * k ≤ s.size → atomBytes ((List.range k).map (atomAt s)) = s.data.toList.take (2 * k) := by
    intro k
    induction k with
    | zero => intro _; rfl
    | succ k ih =>
      intro hk
      rw [List.range_succ, List.map_append, atomBytes_app, ih (by omega)]
      have h1 : 2 * k < s.data.toList.length := by simp; omega
      have h2 : 2 * k + 1 < s.data.toList.length := by simp; omega
      rw [show 2 * (k + 1) = 2 * k + 1 + 1 by omega, List.take_succ_eq_append_getElem h2, List.take_succ_eq_append_getElem h1, List.append_assoc]
      congr 1
      have ha : atomAt s k = s[2 * k].toNat * 256 + s[2 * k + 1].toNat := by unfold atomAt; rw [dif_pos (by omega)]
      have b1 := s[2 * k].toNat_lt
      have b2 := s[2 * k + 1].toNat_lt
      simp only [List.map_cons, List.map_nil, atomBytes, List.flatMap_cons, List.flatMap_nil, List.append_nil, ha]
      have e1 : (s[2 * k].toNat * 256 + s[2 * k + 1].toNat) / 256 = s[2 * k].toNat := by omega
      have e2 : (s[2 * k].toNat * 256 + s[2 * k + 1].toNat) % 256 = s[2 * k + 1].toNat := by omega
      rw [e1, e2]
      simp
      exact ⟨rfl, rfl⟩
  have := key (s.size / 2) (by omega)
  unfold atomNs
  rw [this, List.take_of_length_le (by simp; omega)]
end Go.Proofs.Ytlfnepcglnjogaa

/- What the reference's sets do: Quote, As, For. -/
namespace Go.Proofs.Ytlfnepcglnjogaa
set_option linter.unusedSimpArgs false
set_option linter.unusedVariables false
open Go.RowKit Go.Lib

theorem wordMay_even {s : ByteArray} (h : wordMay s = true) : s.size % 2 = 0 ∧ s.size ≤ 16 := by have := wordMay_size h; omega
theorem atomAt_app_left {x y : ByteArray} {i : Nat} (h : 2 * i + 1 < x.size) : atomAt (x ++ y) i = atomAt x i := by
  unfold atomAt
  rw [dif_pos (by rw [ByteArray.size_append]; omega), dif_pos h, ByteArray.getElem_append_left (by omega), ByteArray.getElem_append_left h]
theorem atomAt_app_right {x y : ByteArray} {i : Nat} (hx : x.size % 2 = 0) (h : x.size ≤ 2 * i) (h2 : 2 * i + 1 < (x ++ y).size) : atomAt (x ++ y) i = atomAt y (i - x.size / 2) := by
  rw [ByteArray.size_append] at h2
  unfold atomAt
  rw [dif_pos (by rw [ByteArray.size_append]; omega), dif_pos (by omega), ByteArray.getElem_append_right (by omega), ByteArray.getElem_append_right (by omega)]
  have e1 : 2 * (i - x.size / 2) = 2 * i - x.size := by omega
  have e2 : 2 * i + 1 - x.size = 2 * i - x.size + 1 := by omega
  simp only [e1, e2]
theorem atomBytes_one (r : Nat) : (⟨(atomBytes [r]).toArray⟩ : ByteArray) = atomW r := by
  apply ByteArray.ext; apply Array.ext'; simp [atomBytes, atomW]
theorem ofE_good {l r : List ByteArray} (h : ofE l = (r, 0)) : setMay r = true := by
  unfold ofE at h
  split at h
  · cases h
  · next hall =>
    split at h
    · next hlen =>
      simp only [Prod.mk.injEq, and_true] at h
      subst h
      refine setMay_mk hlen.1 hlen.2 (fun x hx => ?_) (rising_nrm l)
      have : l.all wordMay = true := by simpa using hall
      exact List.all_eq_true.1 this x (mem_nrm.1 hx)
    · cases h
theorem setMay_small {l : List ByteArray} (h : setMay l = true) : l.length ≤ 16 ∧ ∀ x ∈ l, x.size ≤ 16 := ⟨(setMay_words h).1.2, fun x hx => by have := wordMay_size ((setMay_words h).2 x hx); omega⟩
end Go.Proofs.Ytlfnepcglnjogaa

/- What the library's Index, Contains, Equal do with words; Has, Heavy; a word of atoms. -/
namespace Go.Proofs.Ytlfnepcglnjogaa
set_option linter.unusedSimpArgs false
set_option linter.unusedVariables false
open Go.RowKit Go.Lib

theorem take_mem_succ {α : Type} {x : α} {l : List α} {i : Nat} (h : i < l.length) : x ∈ l.take (i + 1) ↔ x ∈ l.take i ∨ x = l[i] := by
  rw [List.take_succ_eq_append_getElem h, List.mem_append]; simp
set_option maxHeartbeats 1000000 in
theorem p_wof (l : List Nat) (hl : l.length ≤ 1000000) (ha : ∀ a ∈ l, a < 65536) : PCalls Try.prog 39 [.lst .ro l.length (u16s l)] (.str ⟨(atomBytes l).toArray⟩) := by
  refine pcalls_of (by first | rfl | simp [free, free.frees, frees_str, frees_u8, frees_u16]) (by first | rfl | simp [free, free.frees, frees_str, frees_u8, frees_u16]) (acalls_of mixed J_word_Of_ok (Nat.le_of_ble_eq_true rfl) ?_); simp only [J_word_Of, wk,if_true,if_false,forall_const,implies_true,ne_eq,eq_self,Nat.reduceEqDiff,Nat.reduceAdd,Nat.reduceMul,Nat.reduceSub,Nat.reduceLeDiff,Nat.reduceLT,Int.reduceEq,Int.reduceLT,Int.reduceLE,Int.reduceAdd,Int.reduceSub,Int.reduceMul,Int.reduceNeg,Int.reduceNe,reduceCtorEq,Int.reduceToNat,↓reduceIte]
  refine ⟨inR_of (by omega) (by omega), ⟨by omega, by omega, by omega⟩, ?_⟩
  refine W_loop (fun n fr h => ∃ i : Nat, i ≤ l.length ∧ n = l.length - i ∧ fr = [(3, .lst (.own 5) (2 * i) (u8s (atomBytes (l.take i)))), (10, .lst .ro l.length (u16s l)), (11, .int .i64 l.length), (12, .int .i64 i)]) l.length ⟨0, by omega, by omega, rfl⟩ ?_
  rintro n fr h ⟨i, hi, rfl, rfl⟩
  simp only [J_word_Of_j2, J_word_Of_j1, wk,if_true,if_false,forall_const,implies_true,ne_eq,eq_self,Nat.reduceEqDiff,Nat.reduceAdd,Nat.reduceMul,Nat.reduceSub,Nat.reduceLeDiff,Nat.reduceLT,Int.reduceEq,Int.reduceLT,Int.reduceLE,Int.reduceAdd,Int.reduceSub,Int.reduceMul,Int.reduceNeg,Int.reduceNe,reduceCtorEq,Int.reduceToNat,↓reduceIte]
  refine ⟨fun hlt => ?_, fun hge => ?_⟩
  · have hil : i < l.length := by omega
    have hx := ha l[i] (List.getElem_mem hil)
    (repeat (refine And.intro (by first | omega | exact inR_of (by omega) (by omega) | exact ⟨by omega, by omega⟩ | exact ⟨by omega, by omega, by omega⟩ | rfl) ?_))
    rw [show (i : Int).toNat = i by omega, u16s_drop hil]
    simp only [wk,if_true,if_false,forall_const,implies_true,ne_eq,eq_self,Nat.reduceEqDiff,Nat.reduceAdd,Nat.reduceMul,Nat.reduceSub,Nat.reduceLeDiff,Nat.reduceLT,Int.reduceEq,Int.reduceLT,Int.reduceLE,Int.reduceAdd,Int.reduceSub,Int.reduceMul,Int.reduceNeg,Int.reduceNe,reduceCtorEq,Int.reduceToNat,↓reduceIte]
    have e1 : IntKind.u8.wrap ((l[i] : Int).fdiv (2 ^ (min 8 IntKind.u16.bits))) = ((UInt8.ofNat (l[i] / 256)).toNat : Int) := by
      rw [show (min 8 IntKind.u16.bits) = 8 by decide, Int.fdiv_eq_ediv_of_nonneg _ (by omega), IntKind.wrap_u8]
      simp only [UInt8.toNat_ofNat']; omega
    have e2 : IntKind.u8.wrap (l[i] : Int) = ((UInt8.ofNat (l[i] % 256)).toNat : Int) := by
      rw [IntKind.wrap_u8]; simp only [UInt8.toNat_ofNat']; omega
    refine ⟨⟨by omega, by omega⟩, inR_of (by omega) (by omega), l.length - (i + 1), by omega, i + 1, by omega, rfl, ?_⟩
    have e3 : atomBytes (l.take (i + 1)) = atomBytes (l.take i) ++ [UInt8.ofNat (l[i] / 256), UInt8.ofNat (l[i] % 256)] := by
      unfold atomBytes; rw [List.take_succ_eq_append_getElem hil, List.flatMap_append]; simp
    rw [e1, e2, e3, ← u8s_app]
    rfl
  · obtain rfl : i = l.length := by omega
    rw [List.take_length]
    refine ⟨atomBytes l, rfl, ?_, rfl⟩
    have : ∀ l : List Nat, (atomBytes l).length = 2 * l.length := by
      intro l
      induction l with
      | nil => rfl
      | cons a l ih => simp only [atomBytes, List.flatMap_cons, List.length_append, List.length_cons, List.length_nil] at ih ⊢; omega
    rw [this]
end Go.Proofs.Ytlfnepcglnjogaa

namespace Go.Proofs.Ytlfnepcglnjogaa
open Go.RowKit
def J_cert_Check_j1 : ACode :=
 .keep [1] (.seq (.seq (.ops [⟨some 60, none, .load (some 7) (.t 1), none⟩,
 ⟨some 61, none, .call (.f 57) [(.t 60)], none⟩,
 ⟨some 62, none, .not (.t 61), none⟩])
 (.keep [62] (.cond (.t 62)
 (.seq (.ops [⟨some 2, none, .mv (.c (.int .i64 13)), none⟩])
 (.ret))
 (.skip))))
 (.keep [] (.seq (.ops [⟨some 2, none, .mv (.c (.int .i64 0)), none⟩])
 (.ret))))
def J_cert_Check_j2 : ACode :=
 .seq (.ops [⟨some 50, none, .bin .lss (.t 49) (.t 48), none⟩])
 (.keep [1, 47, 48, 49, 50] (.seq (.cond (.t 50)
 (.skip)
 (.exit 0))
 (.keep [1, 47, 48, 49] (.seq (.block 1 (.seq (.ops [⟨some 51, none, .idxa 1 (.t 47) (.t 49), none⟩,
 ⟨some 52, none, .load none (.t 51), none⟩,
 ⟨some 4, none, .mv (.t 52), none⟩])
 (.keep [1, 4, 47, 48, 49] (.seq (.ops [⟨some 53, none, .fld 2 (.t 1), none⟩,
 ⟨some 54, none, .load none (.t 53), none⟩,
 ⟨some 55, none, .call (.f 47) [(.t 54)], none⟩,
 ⟨some 56, none, .mv (.t 4), none⟩,
 ⟨some 57, none, .call (.f 47) [(.t 56)], none⟩,
 ⟨some 58, none, .bin .gtr (.t 55) (.t 57), none⟩])
 (.keep [1, 47, 48, 49, 58] (.cond (.t 58)
 (.seq (.ops [⟨some 2, none, .mv (.c (.int .i64 4)), none⟩])
 (.ret))
 (.skip)))))))
 (.keep [1, 47, 48, 49] (.ops [⟨some 59, none, .bin .add (.t 49) (.c (.int .i64 1)), none⟩,
 ⟨some 49, none, .mv (.t 59), none⟩]))))))
def J_cert_Check : AFn :=
 ⟨63, [.t 2], .seq (.ops [⟨some 1, none, .box (.t 0) [], none⟩,
 ⟨some 2, none, .mv (.c (.int .i64 0)), none⟩])
 (.keep [1] (.seq (.seq (.ops [⟨some 5, none, .fld 0 (.t 1), none⟩,
 ⟨some 6, none, .load none (.t 5), none⟩,
 ⟨some 7, none, .bin .lss (.t 6) (.c (.int .i64 1)), none⟩,
 ⟨some 8, none, .mv (.t 7), none⟩,
 ⟨some 9, (some (8, false)), .fld 0 (.t 1), none⟩,
 ⟨some 10, (some (8, false)), .load none (.t 9), none⟩,
 ⟨some 11, (some (8, false)), .bin .gtr (.t 10) (.c (.int .i64 7)), none⟩,
 ⟨some 12, none, .pick (.t 8) (.c (.bool true)) (.t 11), none⟩])
 (.keep [1, 12] (.cond (.t 12)
 (.seq (.ops [⟨some 2, none, .mv (.c (.int .i64 1)), none⟩])
 (.ret))
 (.skip))))
 (.keep [1] (.seq (.seq (.ops [⟨some 13, none, .fld 1 (.t 1), none⟩,
 ⟨some 14, none, .load none (.t 13), none⟩,
 ⟨some 15, none, .bsl 3 1 1 [(.int .i64 0)] [(0, 1, (.c (.int .i64 1)))], none⟩,
 ⟨some 16, none, .call (.f 55) [(.t 14), (.t 15)], none⟩,
 ⟨some 17, none, .not (.t 16), none⟩,
 ⟨some 18, none, .mv (.t 17), none⟩,
 ⟨some 19, (some (18, false)), .fld 2 (.t 1), none⟩,
 ⟨some 20, (some (18, false)), .load none (.t 19), none⟩,
 ⟨some 21, (some (18, false)), .call (.f 24) [(.t 20)], none⟩,
 ⟨some 22, (some (18, false)), .not (.t 21), none⟩,
 ⟨some 23, none, .pick (.t 18) (.c (.bool true)) (.t 22), none⟩,
 ⟨some 24, none, .mv (.t 23), none⟩,
 ⟨some 25, (some (24, false)), .fld 3 (.t 1), none⟩,
 ⟨some 26, (some (24, false)), .load none (.t 25), none⟩,
 ⟨some 27, (some (24, false)), .call (.f 31) [(.t 26)], none⟩,
 ⟨some 28, (some (24, false)), .not (.t 27), none⟩,
 ⟨some 29, none, .pick (.t 24) (.c (.bool true)) (.t 28), none⟩,
 ⟨some 30, none, .mv (.t 29), none⟩,
 ⟨some 31, (some (30, false)), .fld 4 (.t 1), none⟩,
 ⟨some 32, (some (30, false)), .load none (.t 31), none⟩,
 ⟨some 33, (some (30, false)), .fld 5 (.t 1), none⟩,
 ⟨some 34, (some (30, false)), .load none (.t 33), none⟩,
 ⟨some 35, (some (30, false)), .fld 6 (.t 1), none⟩,
 ⟨some 36, (some (30, false)), .load none (.t 35), none⟩,
 ⟨some 37, (some (30, false)), .bsl 2 1 3 [(.int .i64 0), (.int .i64 0), (.int .i64 0)] [(0, 1, (.t 32)), (1, 1, (.t 34)), (2, 1, (.t 36))], none⟩,
 ⟨some 38, (some (30, false)), .call (.f 56) [(.t 37)], none⟩,
 ⟨some 39, (some (30, false)), .not (.t 38), none⟩,
 ⟨some 40, none, .pick (.t 30) (.c (.bool true)) (.t 39), none⟩])
 (.keep [1, 40] (.cond (.t 40)
 (.seq (.ops [⟨some 2, none, .mv (.c (.int .i64 2)), none⟩])
 (.ret))
 (.skip))))
 (.keep [1] (.seq (.seq (.ops [⟨some 41, none, .fld 4 (.t 1), none⟩,
 ⟨some 42, none, .load none (.t 41), none⟩,
 ⟨some 43, none, .fld 5 (.t 1), none⟩,
 ⟨some 44, none, .load none (.t 43), none⟩,
 ⟨some 45, none, .bin .gtr (.t 42) (.t 44), none⟩])
 (.keep [1, 45] (.cond (.t 45)
 (.seq (.ops [⟨some 2, none, .mv (.c (.int .i64 5)), none⟩])
 (.ret))
 (.skip))))
 (.keep [1] (.seq (.seq (.ops [⟨some 46, none, .fld 3 (.t 1), none⟩,
 ⟨some 47, none, .load none (.t 46), none⟩,
 ⟨some 48, none, .lenl (.t 47), none⟩,
 ⟨some 49, none, .mv (.c (.int .i64 0)), none⟩])
 (.keep [1, 47, 48, 49] (.block 0 (.loop [1, 47, 48, 49] (J_cert_Check_j2)))))
 (J_cert_Check_j1)))))))))⟩
theorem J_cert_Check_ok : chkFn Try.prog 38 J_cert_Check = true := by kernel_rfl
def J_cert_Rules_j1 : ACode :=
 .keep [3] (.seq (.ops [⟨some 25, none, .mv (.t 3), none⟩,
 ⟨some 2, none, .mv (.t 25), none⟩])
 (.ret))
def J_cert_Rules_j2 : ACode :=
 .seq (.ops [⟨some 14, none, .bin .lss (.t 13) (.t 12), none⟩])
 (.keep [1, 3, 11, 12, 13, 14] (.seq (.cond (.t 14)
 (.skip)
 (.exit 0))
 (.keep [1, 3, 11, 12, 13] (.seq (.block 1 (.seq (.ops [⟨some 15, none, .idxa 1 (.t 11) (.t 13), none⟩,
 ⟨some 16, none, .load none (.t 15), none⟩,
 ⟨some 5, none, .mv (.t 16), none⟩])
 (.keep [1, 3, 5, 11, 12, 13] (.ops [⟨some 17, none, .mvo 3, none⟩,
 ⟨some 18, none, .mv (.t 5), none⟩,
 ⟨some 19, none, .fld 2 (.t 1), none⟩,
 ⟨some 20, none, .load none (.t 19), none⟩,
 ⟨some 21, none, .build [(.str ⟨#[]⟩), (.str ⟨#[]⟩)] [(0, 1, (.t 18)), (1, 1, (.t 20))], none⟩,
 ⟨some 22, none, .bsl 29 2 1 [(.str ⟨#[]⟩), (.str ⟨#[]⟩)] [(0, 2, (.t 21))], none⟩,
 ⟨some 23, none, .appo 29 2 32 17 (.t 22), none⟩,
 ⟨some 3, none, .mvo 23, none⟩]))))
 (.keep [1, 3, 11, 12, 13] (.ops [⟨some 24, none, .bin .add (.t 13) (.c (.int .i64 1)), none⟩,
 ⟨some 13, none, .mv (.t 24), none⟩]))))))
def J_cert_Rules : AFn :=
 ⟨26, [.t 2], .seq (.ops [⟨some 1, none, .box (.t 0) [], none⟩,
 ⟨some 2, none, .mv (.c (.lst .clip 0 [])), none⟩])
 (.keep [1] (.seq (.ops [⟨some 6, none, .fld 3 (.t 1), none⟩,
 ⟨some 7, none, .load none (.t 6), none⟩,
 ⟨some 8, none, .lenl (.t 7), none⟩,
 ⟨some 9, none, .mk0 29 2 32 (.t 8), none⟩,
 ⟨some 3, none, .mvo 9, none⟩])
 (.keep [1, 3] (.seq (.seq (.ops [⟨some 10, none, .fld 3 (.t 1), none⟩,
 ⟨some 11, none, .load none (.t 10), none⟩,
 ⟨some 12, none, .lenl (.t 11), none⟩,
 ⟨some 13, none, .mv (.c (.int .i64 0)), none⟩])
 (.keep [1, 3, 11, 12, 13] (.block 0 (.loop [1, 3, 11, 12, 13] (J_cert_Rules_j2)))))
 (J_cert_Rules_j1)))))⟩
theorem J_cert_Rules_ok : chkFn Try.prog 40 J_cert_Rules = true := by kernel_rfl
def J_ref08_Check_j1 : ACode :=
 .keep [1] (.seq (.seq (.ops [⟨some 68, none, .load (some 7) (.t 1), none⟩,
 ⟨some 69, none, .call (.f 60) [(.t 68)], none⟩,
 ⟨some 70, none, .not (.t 69), none⟩])
 (.keep [70] (.cond (.t 70)
 (.seq (.ops [⟨some 2, none, .mv (.c (.int .i64 13)), none⟩])
 (.ret))
 (.skip))))
 (.keep [] (.seq (.ops [⟨some 2, none, .mv (.c (.int .i64 0)), none⟩])
 (.ret))))
def J_ref08_Check_j2 : ACode :=
 .seq (.seq (.ops [⟨some 51, none, .mv (.t 3), none⟩,
 ⟨some 52, none, .fld 3 (.t 1), none⟩,
 ⟨some 53, none, .load none (.t 52), none⟩,
 ⟨some 54, none, .lenl (.t 53), none⟩,
 ⟨some 55, none, .bin .lss (.t 51) (.t 54), none⟩])
 (.keep [1, 3, 55] (.cond (.t 55)
 (.skip)
 (.exit 0))))
 (.keep [1, 3] (.seq (.block 1 (.seq (.draw [1, 3, 67] [⟨some 58, none, .fld 3 (.t 1), none⟩,
 ⟨some 59, none, .load none (.t 58), none⟩,
 ⟨some 60, none, .mv (.t 3), none⟩,
 ⟨some 61, none, .idxa 1 (.t 59) (.t 60), none⟩,
 ⟨some 62, none, .load none (.t 61), none⟩,
 ⟨some 63, none, .lens (.t 62), none⟩,
 ⟨some 64, none, .fld 2 (.t 1), none⟩,
 ⟨some 65, none, .load none (.t 64), none⟩,
 ⟨some 66, none, .lens (.t 65), none⟩,
 ⟨some 67, none, .bin .lss (.t 63) (.t 66), none⟩])
 (.keep [1, 3, 67] (.cond (.t 67)
 (.seq (.ops [⟨some 2, none, .mv (.c (.int .i64 4)), none⟩])
 (.ret))
 (.skip)))))
 (.keep [1, 3] (.ops [⟨some 56, none, .mv (.t 3), none⟩,
 ⟨some 57, none, .bin .add (.t 56) (.c (.int .i64 1)), none⟩,
 ⟨some 3, none, .mv (.t 57), none⟩]))))
def J_ref08_Check : AFn :=
 ⟨71, [.t 2], .seq (.ops [⟨some 1, none, .box (.t 0) [], none⟩,
 ⟨some 2, none, .mv (.c (.int .i64 0)), none⟩])
 (.keep [1] (.seq (.seq (.ops [⟨some 4, none, .fld 0 (.t 1), none⟩,
 ⟨some 5, none, .load none (.t 4), none⟩,
 ⟨some 6, none, .bin .lss (.t 5) (.c (.int .i64 1)), none⟩,
 ⟨some 7, none, .mv (.t 6), none⟩,
 ⟨some 8, (some (7, false)), .fld 0 (.t 1), none⟩,
 ⟨some 9, (some (7, false)), .load none (.t 8), none⟩,
 ⟨some 10, (some (7, false)), .bin .gtr (.t 9) (.c (.int .i64 7)), none⟩,
 ⟨some 11, none, .pick (.t 7) (.c (.bool true)) (.t 10), none⟩])
 (.keep [1, 11] (.cond (.t 11)
 (.seq (.ops [⟨some 2, none, .mv (.c (.int .i64 1)), none⟩])
 (.ret))
 (.skip))))
 (.keep [1] (.seq (.seq (.ops [⟨some 12, none, .fld 1 (.t 1), none⟩,
 ⟨some 13, none, .load none (.t 12), none⟩,
 ⟨some 14, none, .call (.f 58) [(.t 13)], none⟩,
 ⟨some 15, none, .bin .neq (.t 14) (.c (.int .i64 1)), none⟩,
 ⟨some 16, none, .mv (.t 15), none⟩,
 ⟨some 17, (some (16, false)), .fld 2 (.t 1), none⟩,
 ⟨some 18, (some (16, false)), .load none (.t 17), none⟩,
 ⟨some 19, (some (16, false)), .call (.f 28) [(.t 18)], none⟩,
 ⟨some 20, (some (16, false)), .not (.t 19), none⟩,
 ⟨some 21, none, .pick (.t 16) (.c (.bool true)) (.t 20), none⟩,
 ⟨some 22, none, .mv (.t 21), none⟩,
 ⟨some 23, (some (22, false)), .fld 3 (.t 1), none⟩,
 ⟨some 24, (some (22, false)), .load none (.t 23), none⟩,
 ⟨some 25, (some (22, false)), .call (.f 33) [(.t 24)], none⟩,
 ⟨some 26, (some (22, false)), .not (.t 25), none⟩,
 ⟨some 27, none, .pick (.t 22) (.c (.bool true)) (.t 26), none⟩,
 ⟨some 28, none, .mv (.t 27), none⟩,
 ⟨some 29, (some (28, false)), .fld 4 (.t 1), none⟩,
 ⟨some 30, (some (28, false)), .load none (.t 29), none⟩,
 ⟨some 31, (some (28, false)), .call (.f 59) [(.t 30)], none⟩,
 ⟨some 32, (some (28, false)), .not (.t 31), none⟩,
 ⟨some 33, none, .pick (.t 28) (.c (.bool true)) (.t 32), none⟩,
 ⟨some 34, none, .mv (.t 33), none⟩,
 ⟨some 35, (some (34, false)), .fld 5 (.t 1), none⟩,
 ⟨some 36, (some (34, false)), .load none (.t 35), none⟩,
 ⟨some 37, (some (34, false)), .call (.f 59) [(.t 36)], none⟩,
 ⟨some 38, (some (34, false)), .not (.t 37), none⟩,
 ⟨some 39, none, .pick (.t 34) (.c (.bool true)) (.t 38), none⟩,
 ⟨some 40, none, .mv (.t 39), none⟩,
 ⟨some 41, (some (40, false)), .fld 6 (.t 1), none⟩,
 ⟨some 42, (some (40, false)), .load none (.t 41), none⟩,
 ⟨some 43, (some (40, false)), .call (.f 59) [(.t 42)], none⟩,
 ⟨some 44, (some (40, false)), .not (.t 43), none⟩,
 ⟨some 45, none, .pick (.t 40) (.c (.bool true)) (.t 44), none⟩])
 (.keep [1, 45] (.cond (.t 45)
 (.seq (.ops [⟨some 2, none, .mv (.c (.int .i64 2)), none⟩])
 (.ret))
 (.skip))))
 (.keep [1] (.seq (.seq (.ops [⟨some 46, none, .fld 4 (.t 1), none⟩,
 ⟨some 47, none, .load none (.t 46), none⟩,
 ⟨some 48, none, .fld 5 (.t 1), none⟩,
 ⟨some 49, none, .load none (.t 48), none⟩,
 ⟨some 50, none, .bin .gtr (.t 47) (.t 49), none⟩])
 (.keep [1, 50] (.cond (.t 50)
 (.seq (.ops [⟨some 2, none, .mv (.c (.int .i64 5)), none⟩])
 (.ret))
 (.skip))))
 (.keep [1] (.seq (.seq (.ops [⟨some 3, none, .mv (.c (.int .i64 0)), none⟩])
 (.keep [1, 3] (.block 0 (.loop [1, 3] (J_ref08_Check_j2)))))
 (J_ref08_Check_j1)))))))))⟩
theorem J_ref08_Check_ok : chkFn Try.prog 41 J_ref08_Check = true := by kernel_rfl
def J_ref08_Rules_j1 : ACode :=
 .keep [3] (.seq (.ops [⟨some 24, none, .mv (.t 3), none⟩,
 ⟨some 2, none, .mv (.t 24), none⟩])
 (.ret))
def J_ref08_Rules_j2 : ACode :=
 .seq (.seq (.ops [⟨some 6, none, .mv (.t 4), none⟩,
 ⟨some 7, none, .fld 3 (.t 1), none⟩,
 ⟨some 8, none, .load none (.t 7), none⟩,
 ⟨some 9, none, .lenl (.t 8), none⟩,
 ⟨some 10, none, .bin .lss (.t 6) (.t 9), none⟩])
 (.keep [1, 3, 4, 10] (.cond (.t 10)
 (.skip)
 (.exit 0))))
 (.keep [1, 3, 4] (.seq (.block 1 (.draw [1, 3, 4] [⟨some 13, none, .mvo 3, none⟩,
 ⟨some 14, none, .fld 3 (.t 1), none⟩,
 ⟨some 15, none, .load none (.t 14), none⟩,
 ⟨some 16, none, .mv (.t 4), none⟩,
 ⟨some 17, none, .idxa 1 (.t 15) (.t 16), none⟩,
 ⟨some 18, none, .load none (.t 17), none⟩,
 ⟨some 19, none, .fld 2 (.t 1), none⟩,
 ⟨some 20, none, .load none (.t 19), none⟩,
 ⟨some 21, none, .build [(.str ⟨#[]⟩), (.str ⟨#[]⟩)] [(0, 1, (.t 18)), (1, 1, (.t 20))], none⟩,
 ⟨some 22, none, .bsl 29 2 1 [(.str ⟨#[]⟩), (.str ⟨#[]⟩)] [(0, 2, (.t 21))], none⟩,
 ⟨some 23, none, .appo 29 2 32 13 (.t 22), none⟩,
 ⟨some 3, none, .mvo 23, none⟩]))
 (.keep [1, 3, 4] (.ops [⟨some 11, none, .mv (.t 4), none⟩,
 ⟨some 12, none, .bin .add (.t 11) (.c (.int .i64 1)), none⟩,
 ⟨some 4, none, .mv (.t 12), none⟩]))))
def J_ref08_Rules : AFn :=
 ⟨25, [.t 2], .seq (.ops [⟨some 1, none, .box (.t 0) [], none⟩,
 ⟨some 2, none, .mv (.c (.lst .clip 0 [])), none⟩])
 (.keep [1] (.seq (.ops [⟨some 5, none, .bsl 29 2 0 [] [], none⟩,
 ⟨some 3, none, .mvo 5, none⟩])
 (.keep [1, 3] (.seq (.seq (.ops [⟨some 4, none, .mv (.c (.int .i64 0)), none⟩])
 (.keep [1, 3, 4] (.block 0 (.loop [1, 3, 4] (J_ref08_Rules_j2)))))
 (J_ref08_Rules_j1)))))⟩
theorem J_ref08_Rules_ok : chkFn Try.prog 44 J_ref08_Rules = true := by kernel_rfl
def J_cert_isOf : AFn :=
 ⟨10, [.t 4], .seq (.ops [⟨some 4, none, .mv (.c (.bool false)), none⟩])
 (.keep [0, 1] (.seq (.ops [⟨some 5, none, .mv (.t 1), none⟩,
 ⟨some 6, none, .mv (.t 0), none⟩,
 ⟨some 7, none, .conv .i64 (.t 6), none⟩,
 ⟨some 8, none, .bin .quo (.t 7) (.c (.int .i64 8192)), none⟩,
 ⟨some 9, none, .call (.f 64) [(.t 5), (.t 8)], none⟩,
 ⟨some 4, none, .mv (.t 9), none⟩])
 (.ret)))⟩
theorem J_cert_isOf_ok : chkFn Try.prog 55 J_cert_isOf = true := by kernel_rfl
def J_cert_num_j1 : ACode :=
 .keep [] (.seq (.ops [⟨some 2, none, .mv (.c (.bool true)), none⟩])
 (.ret))
def J_cert_num_j2 : ACode :=
 .seq (.ops [⟨some 8, none, .bin .lss (.t 7) (.t 6), none⟩])
 (.keep [5, 6, 7, 8] (.seq (.cond (.t 8)
 (.skip)
 (.exit 0))
 (.keep [5, 6, 7] (.seq (.block 1 (.seq (.ops [⟨some 9, none, .idxa 1 (.t 5) (.t 7), none⟩,
 ⟨some 10, none, .load none (.t 9), none⟩,
 ⟨some 4, none, .mv (.t 10), none⟩])
 (.keep [4, 5, 6, 7] (.seq (.ops [⟨some 11, none, .mv (.t 4), none⟩,
 ⟨some 12, none, .bin .lss (.t 11) (.c (.int .i64 0)), none⟩,
 ⟨some 13, none, .mv (.t 12), none⟩,
 ⟨some 14, (some (13, false)), .mv (.t 4), none⟩,
 ⟨some 15, (some (13, false)), .bin .gtr (.t 14) (.c (.int .i64 4611686018427387904)), none⟩,
 ⟨some 16, none, .pick (.t 13) (.c (.bool true)) (.t 15), none⟩])
 (.keep [5, 6, 7, 16] (.cond (.t 16)
 (.seq (.ops [⟨some 2, none, .mv (.c (.bool false)), none⟩])
 (.ret))
 (.skip)))))))
 (.keep [5, 6, 7] (.ops [⟨some 17, none, .bin .add (.t 7) (.c (.int .i64 1)), none⟩,
 ⟨some 7, none, .mv (.t 17), none⟩]))))))
def J_cert_num : AFn :=
 ⟨18, [.t 2], .seq (.ops [⟨some 2, none, .mv (.c (.bool false)), none⟩])
 (.keep [0] (.seq (.seq (.ops [⟨some 5, none, .mv (.t 0), none⟩,
 ⟨some 6, none, .lenl (.t 5), none⟩,
 ⟨some 7, none, .mv (.c (.int .i64 0)), none⟩])
 (.keep [5, 6, 7] (.block 0 (.loop [5, 6, 7] (J_cert_num_j2)))))
 (J_cert_num_j1)))⟩
theorem J_cert_num_ok : chkFn Try.prog 56 J_cert_num = true := by kernel_rfl
def J_cert_like : AFn :=
 ⟨96, [.t 2], .seq (.ops [⟨some 1, none, .box (.t 0) [], none⟩,
 ⟨some 2, none, .mv (.c (.bool false)), none⟩])
 (.keep [1] (.seq (.seq (.ops [⟨some 5, none, .fld 0 (.t 1), none⟩,
 ⟨some 6, none, .load none (.t 5), none⟩])
 (.keep [1, 6] (.block 0 (.seq (.ops [⟨some 8, none, .bin .eql (.t 6) (.c (.int .i64 6)), none⟩,
 ⟨some 7, none, .mv (.t 8), none⟩])
 (.keep [1, 6, 7] (.cond (.t 7)
 (.seq (.ops [⟨some 2, none, .mv (.c (.bool true)), none⟩])
 (.ret))
 (.seq (.ops [⟨some 10, none, .bin .eql (.t 6) (.c (.int .i64 7)), none⟩,
 ⟨some 9, none, .mv (.t 10), none⟩])
 (.keep [1, 9] (.cond (.t 9)
 (.seq (.ops [⟨some 11, none, .load (some 7) (.t 1), none⟩,
 ⟨some 12, none, .call (.f 65) [(.t 11)], none⟩,
 ⟨some 2, none, .mv (.t 12), none⟩])
 (.ret))
 (.skip))))))))))
 (.keep [1] (.seq (.seq (.ops [⟨some 13, none, .fld 3 (.t 1), none⟩,
 ⟨some 14, none, .load none (.t 13), none⟩,
 ⟨some 15, none, .lenl (.t 14), none⟩,
 ⟨some 16, none, .bin .neq (.t 15) (.c (.int .i64 1)), none⟩])
 (.keep [1, 16] (.cond (.t 16)
 (.seq (.ops [⟨some 2, none, .mv (.c (.bool false)), none⟩])
 (.ret))
 (.skip))))
 (.keep [1] (.seq (.ops [⟨some 17, none, .fld 3 (.t 1), none⟩,
 ⟨some 18, none, .load none (.t 17), none⟩,
 ⟨some 19, none, .idxa 1 (.t 18) (.c (.int .i64 0)), none⟩,
 ⟨some 20, none, .load none (.t 19), none⟩,
 ⟨some 3, none, .mv (.t 20), none⟩])
 (.keep [1, 3] (.seq (.ops [⟨some 21, none, .mv (.t 3), none⟩,
 ⟨some 22, none, .call (.f 47) [(.t 21)], none⟩,
 ⟨some 4, none, .mv (.t 22), none⟩])
 (.keep [1, 3, 4] (.seq (.seq (.ops [⟨some 23, none, .fld 0 (.t 1), none⟩,
 ⟨some 24, none, .load none (.t 23), none⟩])
 (.keep [1, 3, 4, 24] (.block 1 (.seq (.ops [⟨some 26, none, .bin .eql (.t 24) (.c (.int .i64 1)), none⟩,
 ⟨some 25, none, .mv (.t 26), none⟩])
 (.keep [1, 3, 4, 24, 25] (.cond (.t 25)
 (.seq (.ops [⟨some 27, none, .fld 2 (.t 1), none⟩,
 ⟨some 28, none, .load none (.t 27), none⟩,
 ⟨some 29, none, .bsl 3 1 1 [(.int .i64 0)] [(0, 1, (.c (.int .i64 1)))], none⟩,
 ⟨some 30, none, .call (.f 66) [(.t 28), (.t 29)], none⟩,
 ⟨some 31, none, .mv (.t 30), none⟩,
 ⟨some 32, (some (31, true)), .mv (.t 4), none⟩,
 ⟨some 33, (some (31, true)), .bin .eql (.t 32) (.c (.int .i64 2)), none⟩,
 ⟨some 34, none, .pick (.t 31) (.t 33) (.c (.bool false)), none⟩,
 ⟨some 35, none, .mv (.t 34), none⟩,
 ⟨some 36, (some (35, true)), .mv (.t 3), none⟩,
 ⟨some 37, (some (35, true)), .call (.f 48) [(.t 36), (.c (.int .i64 0))], none⟩,
 ⟨some 38, (some (35, true)), .bsl 3 1 1 [(.int .i64 0)] [(0, 1, (.c (.int .i64 3)))], none⟩,
 ⟨some 39, (some (35, true)), .call (.f 55) [(.t 37), (.t 38)], none⟩,
 ⟨some 40, none, .pick (.t 35) (.t 39) (.c (.bool false)), none⟩,
 ⟨some 41, none, .mv (.t 40), none⟩,
 ⟨some 42, (some (41, true)), .mv (.t 3), none⟩,
 ⟨some 43, (some (41, true)), .call (.f 48) [(.t 42), (.c (.int .i64 1))], none⟩,
 ⟨some 44, (some (41, true)), .bsl 3 1 1 [(.int .i64 0)] [(0, 1, (.c (.int .i64 5)))], none⟩,
 ⟨some 45, (some (41, true)), .call (.f 55) [(.t 43), (.t 44)], none⟩,
 ⟨some 46, none, .pick (.t 41) (.t 45) (.c (.bool false)), none⟩,
 ⟨some 2, none, .mv (.t 46), none⟩])
 (.ret))
 (.seq (.ops [⟨some 48, none, .bin .eql (.t 24) (.c (.int .i64 2)), none⟩,
 ⟨some 47, none, .mv (.t 48), none⟩])
 (.keep [1, 3, 4, 24, 47] (.cond (.t 47)
 (.seq (.ops [⟨some 49, none, .fld 2 (.t 1), none⟩,
 ⟨some 50, none, .load none (.t 49), none⟩,
 ⟨some 51, none, .bsl 3 1 1 [(.int .i64 0)] [(0, 1, (.c (.int .i64 1)))], none⟩,
 ⟨some 52, none, .call (.f 66) [(.t 50), (.t 51)], none⟩,
 ⟨some 53, none, .mv (.t 52), none⟩,
 ⟨some 54, (some (53, true)), .mv (.t 3), none⟩,
 ⟨some 55, (some (53, true)), .fld 1 (.t 1), none⟩,
 ⟨some 56, (some (53, true)), .load none (.t 55), none⟩,
 ⟨some 57, (some (53, true)), .bsl 51 1 1 [(.int .u16 0)] [(0, 1, (.t 56))], none⟩,
 ⟨some 58, (some (53, true)), .call (.f 39) [(.t 57)], none⟩,
 ⟨some 59, (some (53, true)), .bin .eql (.t 54) (.t 58), none⟩,
 ⟨some 60, none, .pick (.t 53) (.t 59) (.c (.bool false)), none⟩,
 ⟨some 2, none, .mv (.t 60), none⟩])
 (.ret))
 (.seq (.ops [⟨some 62, none, .bin .eql (.t 24) (.c (.int .i64 3)), none⟩,
 ⟨some 61, none, .mv (.t 62), none⟩])
 (.keep [1, 3, 4, 24, 61] (.cond (.t 61)
 (.seq (.ops [⟨some 63, none, .fld 2 (.t 1), none⟩,
 ⟨some 64, none, .load none (.t 63), none⟩,
 ⟨some 65, none, .bsl 3 1 1 [(.int .i64 0)] [(0, 1, (.c (.int .i64 2)))], none⟩,
 ⟨some 66, none, .call (.f 66) [(.t 64), (.t 65)], none⟩,
 ⟨some 2, none, .mv (.t 66), none⟩])
 (.ret))
 (.seq (.ops [⟨some 68, none, .bin .eql (.t 24) (.c (.int .i64 4)), none⟩,
 ⟨some 67, none, .mv (.t 68), none⟩])
 (.keep [1, 3, 4, 24, 67] (.cond (.t 67)
 (.seq (.ops [⟨some 69, none, .fld 2 (.t 1), none⟩,
 ⟨some 70, none, .load none (.t 69), none⟩,
 ⟨some 71, none, .bsl 3 1 1 [(.int .i64 0)] [(0, 1, (.c (.int .i64 3)))], none⟩,
 ⟨some 72, none, .call (.f 66) [(.t 70), (.t 71)], none⟩,
 ⟨some 73, none, .mv (.t 72), none⟩,
 ⟨some 74, (some (73, true)), .mv (.t 3), none⟩,
 ⟨some 75, (some (73, true)), .bsl 3 1 1 [(.int .i64 0)] [(0, 1, (.c (.int .i64 4)))], none⟩,
 ⟨some 76, (some (73, true)), .call (.f 66) [(.t 74), (.t 75)], none⟩,
 ⟨some 77, none, .pick (.t 73) (.t 76) (.c (.bool false)), none⟩,
 ⟨some 2, none, .mv (.t 77), none⟩])
 (.ret))
 (.seq (.ops [⟨some 79, none, .bin .eql (.t 24) (.c (.int .i64 5)), none⟩,
 ⟨some 78, none, .mv (.t 79), none⟩])
 (.keep [1, 3, 4, 78] (.cond (.t 78)
 (.seq (.ops [⟨some 80, none, .fld 2 (.t 1), none⟩,
 ⟨some 81, none, .load none (.t 80), none⟩,
 ⟨some 82, none, .bsl 3 1 2 [(.int .i64 0), (.int .i64 0)] [(0, 1, (.c (.int .i64 1))), (1, 1, (.c (.int .i64 2)))], none⟩,
 ⟨some 83, none, .call (.f 66) [(.t 81), (.t 82)], none⟩,
 ⟨some 84, none, .mv (.t 83), none⟩,
 ⟨some 85, (some (84, true)), .mv (.t 4), none⟩,
 ⟨some 86, (some (84, true)), .bin .geq (.t 85) (.c (.int .i64 2)), none⟩,
 ⟨some 87, none, .pick (.t 84) (.t 86) (.c (.bool false)), none⟩,
 ⟨some 88, none, .mv (.t 87), none⟩,
 ⟨some 89, (some (88, true)), .mv (.t 3), none⟩,
 ⟨some 90, (some (88, true)), .mv (.t 4), none⟩,
 ⟨some 91, (some (88, true)), .bin .sub (.t 90) (.c (.int .i64 1)), none⟩,
 ⟨some 92, (some (88, true)), .call (.f 48) [(.t 89), (.t 91)], none⟩,
 ⟨some 93, (some (88, true)), .bsl 3 1 1 [(.int .i64 0)] [(0, 1, (.c (.int .i64 5)))], none⟩,
 ⟨some 94, (some (88, true)), .call (.f 55) [(.t 92), (.t 93)], none⟩,
 ⟨some 95, none, .pick (.t 88) (.t 94) (.c (.bool false)), none⟩,
 ⟨some 2, none, .mv (.t 95), none⟩])
 (.ret))
 (.skip)))))))))))))))))))
 (.keep [] (.seq (.ops [⟨some 2, none, .mv (.c (.bool false)), none⟩])
 (.ret)))))))))))))⟩
theorem J_cert_like_ok : chkFn Try.prog 57 J_cert_like = true := by kernel_rfl
def J_ref01_Kind : AFn :=
 ⟨10, [.t 2], .seq (.ops [⟨some 2, none, .mv (.c (.int .i64 0)), none⟩])
 (.keep [0] (.seq (.ops [⟨some 3, none, .mv (.t 0), none⟩,
 ⟨some 4, none, .conv .i64 (.t 3), none⟩,
 ⟨some 5, none, .mv (.t 0), none⟩,
 ⟨some 6, none, .conv .i64 (.t 5), none⟩,
 ⟨some 7, none, .bin .rem (.t 6) (.c (.int .i64 8192)), none⟩,
 ⟨some 8, none, .bin .sub (.t 4) (.t 7), none⟩,
 ⟨some 9, none, .bin .quo (.t 8) (.c (.int .i64 8192)), none⟩,
 ⟨some 2, none, .mv (.t 9), none⟩])
 (.ret)))⟩
theorem J_ref01_Kind_ok : chkFn Try.prog 58 J_ref01_Kind = true := by kernel_rfl
def J_ref08_num : AFn :=
 ⟨9, [.t 2], .seq (.ops [⟨some 2, none, .mv (.c (.bool false)), none⟩])
 (.keep [0] (.seq (.ops [⟨some 3, none, .mv (.t 0), none⟩,
 ⟨some 4, none, .bin .geq (.t 3) (.c (.int .i64 0)), none⟩,
 ⟨some 5, none, .mv (.t 4), none⟩,
 ⟨some 6, (some (5, true)), .mv (.t 0), none⟩,
 ⟨some 7, (some (5, true)), .bin .leq (.t 6) (.c (.int .i64 4611686018427387904)), none⟩,
 ⟨some 8, none, .pick (.t 5) (.t 7) (.c (.bool false)), none⟩,
 ⟨some 2, none, .mv (.t 8), none⟩])
 (.ret)))⟩
theorem J_ref08_num_ok : chkFn Try.prog 59 J_ref08_num = true := by kernel_rfl
def J_ref08_like : AFn :=
 ⟨147, [.t 2], .seq (.ops [⟨some 1, none, .box (.t 0) [], none⟩,
 ⟨some 2, none, .mv (.c (.bool false)), none⟩])
 (.keep [1] (.seq (.ops [⟨some 8, none, .fld 3 (.t 1), none⟩,
 ⟨some 9, none, .load none (.t 8), none⟩,
 ⟨some 10, none, .idxa 1 (.t 9) (.c (.int .i64 0)), none⟩,
 ⟨some 11, none, .load none (.t 10), none⟩,
 ⟨some 12, none, .call (.f 50) [(.t 11)], none⟩,
 ⟨some 3, none, .mv (.t 12), none⟩])
 (.keep [1, 3] (.seq (.ops [⟨some 13, none, .mv (.t 3), none⟩,
 ⟨some 14, none, .mv (.t 3), none⟩,
 ⟨some 15, none, .lenl (.t 14), none⟩,
 ⟨some 16, none, .bin .sub (.t 15) (.c (.int .i64 1)), none⟩,
 ⟨some 17, none, .idxa 1 (.t 13) (.t 16), none⟩,
 ⟨some 18, none, .load none (.t 17), none⟩,
 ⟨some 19, none, .call (.f 58) [(.t 18)], none⟩,
 ⟨some 4, none, .mv (.t 19), none⟩])
 (.keep [1, 3, 4] (.seq (.ops [⟨some 20, none, .fld 2 (.t 1), none⟩,
 ⟨some 21, none, .load none (.t 20), none⟩,
 ⟨some 22, none, .call (.f 67) [(.t 21)], none⟩,
 ⟨some 5, none, .mv (.t 22), none⟩])
 (.keep [1, 3, 4, 5] (.seq (.seq (.ops [⟨some 23, none, .fld 0 (.t 1), none⟩,
 ⟨some 24, none, .load none (.t 23), none⟩])
 (.keep [1, 3, 4, 5, 24] (.block 0 (.seq (.ops [⟨some 26, none, .bin .eql (.t 24) (.c (.int .i64 1)), none⟩,
 ⟨some 25, none, .mv (.t 26), none⟩])
 (.keep [1, 3, 4, 5, 24, 25] (.cond (.t 25)
 (.seq (.ops [⟨some 27, none, .fld 3 (.t 1), none⟩,
 ⟨some 28, none, .load none (.t 27), none⟩,
 ⟨some 29, none, .lenl (.t 28), none⟩,
 ⟨some 30, none, .bin .eql (.t 29) (.c (.int .i64 1)), none⟩,
 ⟨some 31, none, .mv (.t 30), none⟩,
 ⟨some 32, (some (31, true)), .mv (.t 5), none⟩,
 ⟨some 33, (some (31, true)), .bin .eql (.t 32) (.c (.int .i64 1)), none⟩,
 ⟨some 34, none, .pick (.t 31) (.t 33) (.c (.bool false)), none⟩,
 ⟨some 35, none, .mv (.t 34), none⟩,
 ⟨some 36, (some (35, true)), .mv (.t 3), none⟩,
 ⟨some 37, (some (35, true)), .lenl (.t 36), none⟩,
 ⟨some 38, (some (35, true)), .bin .eql (.t 37) (.c (.int .i64 2)), none⟩,
 ⟨some 39, none, .pick (.t 35) (.t 38) (.c (.bool false)), none⟩,
 ⟨some 40, none, .mv (.t 39), none⟩,
 ⟨some 41, (some (40, true)), .mv (.t 3), none⟩,
 ⟨some 42, (some (40, true)), .idxa 1 (.t 41) (.c (.int .i64 0)), none⟩,
 ⟨some 43, (some (40, true)), .load none (.t 42), none⟩,
 ⟨some 44, (some (40, true)), .call (.f 58) [(.t 43)], none⟩,
 ⟨some 45, (some (40, true)), .bin .eql (.t 44) (.c (.int .i64 3)), none⟩,
 ⟨some 46, none, .pick (.t 40) (.t 45) (.c (.bool false)), none⟩,
 ⟨some 47, none, .mv (.t 46), none⟩,
 ⟨some 48, (some (47, true)), .mv (.t 4), none⟩,
 ⟨some 49, (some (47, true)), .bin .eql (.t 48) (.c (.int .i64 5)), none⟩,
 ⟨some 50, none, .pick (.t 47) (.t 49) (.c (.bool false)), none⟩,
 ⟨some 2, none, .mv (.t 50), none⟩])
 (.ret))
 (.seq (.ops [⟨some 52, none, .bin .eql (.t 24) (.c (.int .i64 2)), none⟩,
 ⟨some 51, none, .mv (.t 52), none⟩])
 (.keep [1, 3, 4, 5, 24, 51] (.cond (.t 51)
 (.seq (.draw [2] [⟨some 53, none, .fld 3 (.t 1), none⟩,
 ⟨some 54, none, .load none (.t 53), none⟩,
 ⟨some 55, none, .lenl (.t 54), none⟩,
 ⟨some 56, none, .bin .eql (.t 55) (.c (.int .i64 1)), none⟩,
 ⟨some 57, none, .mv (.t 56), none⟩,
 ⟨some 58, (some (57, true)), .mv (.t 5), none⟩,
 ⟨some 59, (some (57, true)), .bin .eql (.t 58) (.c (.int .i64 1)), none⟩,
 ⟨some 60, none, .pick (.t 57) (.t 59) (.c (.bool false)), none⟩,
 ⟨some 61, none, .mv (.t 60), none⟩,
 ⟨some 62, (some (61, true)), .mv (.t 3), none⟩,
 ⟨some 63, (some (61, true)), .lenl (.t 62), none⟩,
 ⟨some 64, (some (61, true)), .bin .eql (.t 63) (.c (.int .i64 1)), none⟩,
 ⟨some 65, none, .pick (.t 61) (.t 64) (.c (.bool false)), none⟩,
 ⟨some 66, none, .mv (.t 65), none⟩,
 ⟨some 67, (some (66, true)), .mv (.t 3), none⟩,
 ⟨some 68, (some (66, true)), .idxa 1 (.t 67) (.c (.int .i64 0)), none⟩,
 ⟨some 69, (some (66, true)), .load none (.t 68), none⟩,
 ⟨some 70, (some (66, true)), .fld 1 (.t 1), none⟩,
 ⟨some 71, (some (66, true)), .load none (.t 70), none⟩,
 ⟨some 72, (some (66, true)), .bin .eql (.t 69) (.t 71), none⟩,
 ⟨some 73, none, .pick (.t 66) (.t 72) (.c (.bool false)), none⟩,
 ⟨some 2, none, .mv (.t 73), none⟩])
 (.ret))
 (.seq (.ops [⟨some 75, none, .bin .eql (.t 24) (.c (.int .i64 3)), none⟩,
 ⟨some 74, none, .mv (.t 75), none⟩])
 (.keep [1, 3, 4, 5, 24, 74] (.cond (.t 74)
 (.seq (.ops [⟨some 76, none, .fld 3 (.t 1), none⟩,
 ⟨some 77, none, .load none (.t 76), none⟩,
 ⟨some 78, none, .lenl (.t 77), none⟩,
 ⟨some 79, none, .bin .eql (.t 78) (.c (.int .i64 1)), none⟩,
 ⟨some 80, none, .mv (.t 79), none⟩,
 ⟨some 81, (some (80, true)), .mv (.t 5), none⟩,
 ⟨some 82, (some (80, true)), .bin .eql (.t 81) (.c (.int .i64 2)), none⟩,
 ⟨some 83, none, .pick (.t 80) (.t 82) (.c (.bool false)), none⟩,
 ⟨some 2, none, .mv (.t 83), none⟩])
 (.ret))
 (.seq (.ops [⟨some 85, none, .bin .eql (.t 24) (.c (.int .i64 4)), none⟩,
 ⟨some 84, none, .mv (.t 85), none⟩])
 (.keep [1, 3, 4, 5, 24, 84] (.cond (.t 84)
 (.seq (.ops [⟨some 86, none, .fld 3 (.t 1), none⟩,
 ⟨some 87, none, .load none (.t 86), none⟩,
 ⟨some 88, none, .lenl (.t 87), none⟩,
 ⟨some 89, none, .bin .eql (.t 88) (.c (.int .i64 1)), none⟩,
 ⟨some 90, none, .mv (.t 89), none⟩,
 ⟨some 91, (some (90, true)), .mv (.t 5), none⟩,
 ⟨some 92, (some (90, true)), .bin .eql (.t 91) (.c (.int .i64 3)), none⟩,
 ⟨some 93, none, .pick (.t 90) (.t 92) (.c (.bool false)), none⟩,
 ⟨some 94, none, .mv (.t 93), none⟩,
 ⟨some 95, (some (94, true)), .mv (.t 3), none⟩,
 ⟨some 96, (some (94, true)), .lenl (.t 95), none⟩,
 ⟨some 97, (some (94, true)), .bin .eql (.t 96) (.c (.int .i64 1)), none⟩,
 ⟨some 98, none, .pick (.t 94) (.t 97) (.c (.bool false)), none⟩,
 ⟨some 99, none, .mv (.t 98), none⟩,
 ⟨some 100, (some (99, true)), .mv (.t 4), none⟩,
 ⟨some 101, (some (99, true)), .bin .eql (.t 100) (.c (.int .i64 4)), none⟩,
 ⟨some 102, none, .pick (.t 99) (.t 101) (.c (.bool false)), none⟩,
 ⟨some 2, none, .mv (.t 102), none⟩])
 (.ret))
 (.seq (.ops [⟨some 104, none, .bin .eql (.t 24) (.c (.int .i64 5)), none⟩,
 ⟨some 103, none, .mv (.t 104), none⟩])
 (.keep [1, 3, 4, 5, 24, 103] (.cond (.t 103)
 (.seq (.ops [⟨some 105, none, .fld 3 (.t 1), none⟩,
 ⟨some 106, none, .load none (.t 105), none⟩,
 ⟨some 107, none, .lenl (.t 106), none⟩,
 ⟨some 108, none, .bin .eql (.t 107) (.c (.int .i64 1)), none⟩,
 ⟨some 109, none, .mv (.t 108), none⟩,
 ⟨some 110, (some (109, true)), .mv (.t 5), none⟩,
 ⟨some 111, (some (109, true)), .bin .eql (.t 110) (.c (.int .i64 1)), none⟩,
 ⟨some 112, (some (109, true)), .mv (.t 111), none⟩,
 ⟨some 113, (some (112, false)), .mv (.t 5), none⟩,
 ⟨some 114, (some (112, false)), .bin .eql (.t 113) (.c (.int .i64 2)), none⟩,
 ⟨some 115, (some (109, true)), .pick (.t 112) (.c (.bool true)) (.t 114), none⟩,
 ⟨some 116, none, .pick (.t 109) (.t 115) (.c (.bool false)), none⟩,
 ⟨some 117, none, .mv (.t 116), none⟩,
 ⟨some 118, (some (117, true)), .mv (.t 3), none⟩,
 ⟨some 119, (some (117, true)), .lenl (.t 118), none⟩,
 ⟨some 120, (some (117, true)), .bin .gtr (.t 119) (.c (.int .i64 1)), none⟩,
 ⟨some 121, none, .pick (.t 117) (.t 120) (.c (.bool false)), none⟩,
 ⟨some 122, none, .mv (.t 121), none⟩,
 ⟨some 123, (some (122, true)), .mv (.t 4), none⟩,
 ⟨some 124, (some (122, true)), .bin .eql (.t 123) (.c (.int .i64 5)), none⟩,
 ⟨some 125, none, .pick (.t 122) (.t 124) (.c (.bool false)), none⟩,
 ⟨some 2, none, .mv (.t 125), none⟩])
 (.ret))
 (.seq (.ops [⟨some 127, none, .bin .eql (.t 24) (.c (.int .i64 7)), none⟩,
 ⟨some 126, none, .mv (.t 127), none⟩])
 (.keep [1, 126] (.cond (.t 126)
 (.seq (.ops [⟨some 128, none, .fld 2 (.t 1), none⟩,
 ⟨some 129, none, .load none (.t 128), none⟩,
 ⟨some 130, none, .call (.f 50) [(.t 129)], none⟩,
 ⟨some 6, none, .mv (.t 130), none⟩])
 (.keep [1, 6] (.seq (.seq (.ops [⟨some 131, none, .mv (.t 6), none⟩,
 ⟨some 132, none, .lenl (.t 131), none⟩,
 ⟨some 133, none, .bin .lss (.t 132) (.c (.int .i64 2)), none⟩])
 (.keep [1, 6, 133] (.cond (.t 133)
 (.seq (.ops [⟨some 2, none, .mv (.c (.bool false)), none⟩])
 (.ret))
 (.skip))))
 (.keep [1, 6] (.seq (.ops [⟨some 134, none, .bsl 51 1 1 [(.int .u16 0)] [(0, 1, (.c (.int .u16 1)))], none⟩,
 ⟨some 135, none, .mv (.t 6), none⟩,
 ⟨some 136, none, .slcl 1 (.t 135) (some (.c (.int .i64 1))) none none, none⟩,
 ⟨some 137, none, .appo 51 1 2 134 (.t 136), none⟩,
 ⟨some 7, none, .mvo 137, none⟩])
 (.keep [1, 7] (.seq (.draw [2] [⟨some 138, none, .fld 3 (.t 1), none⟩,
 ⟨some 139, none, .load none (.t 138), none⟩,
 ⟨some 140, none, .fld 2 (.t 1), none⟩,
 ⟨some 141, none, .load none (.t 140), none⟩,
 ⟨some 142, none, .mv (.t 7), none⟩,
 ⟨some 143, none, .call (.f 22) [(.t 142)], none⟩,
 ⟨some 144, none, .bsl 27 1 2 [(.str ⟨#[]⟩), (.str ⟨#[]⟩)] [(0, 1, (.t 141)), (1, 1, (.t 143))], none⟩,
 ⟨some 145, none, .call (.f 69) [(.t 144)], none⟩,
 ⟨some 146, none, .call (.f 68) [(.t 139), (.t 145)], none⟩,
 ⟨some 2, none, .mv (.t 146), none⟩])
 (.ret))))))))
 (.skip))))))))))))))))))))))
 (.keep [] (.seq (.ops [⟨some 2, none, .mv (.c (.bool true)), none⟩])
 (.ret)))))))))))⟩
theorem J_ref08_like_ok : chkFn Try.prog 60 J_ref08_like = true := by kernel_rfl
def J_cert_delegate : AFn :=
 ⟨36, [.t 2], .seq (.ops [⟨some 1, none, .box (.t 0) [], none⟩,
 ⟨some 2, none, .mv (.c (.bool false)), none⟩])
 (.keep [1] (.seq (.seq (.ops [⟨some 6, none, .fld 2 (.t 1), none⟩,
 ⟨some 7, none, .load none (.t 6), none⟩,
 ⟨some 8, none, .call (.f 47) [(.t 7)], none⟩,
 ⟨some 9, none, .bin .lss (.t 8) (.c (.int .i64 2)), none⟩])
 (.keep [1, 9] (.cond (.t 9)
 (.seq (.ops [⟨some 2, none, .mv (.c (.bool false)), none⟩])
 (.ret))
 (.skip))))
 (.keep [1] (.seq (.draw [1, 3, 4] [⟨some 11, none, .fld 2 (.t 1), none⟩,
 ⟨some 12, none, .load none (.t 11), none⟩,
 ⟨some 13, none, .bsl 51 1 1 [(.int .u16 0)] [(0, 1, (.c (.int .u16 1)))], none⟩,
 ⟨some 14, none, .call (.f 39) [(.t 13)], none⟩,
 ⟨some 15, none, .call (.f 73) [(.t 12), (.c (.int .i64 0)), (.c (.int .i64 1)), (.t 14)], none⟩,
 ⟨some 10, none, .mv (.t 15), none⟩,
 ⟨some 16, none, .ext 0 (.t 10), none⟩,
 ⟨some 17, none, .ext 1 (.t 10), none⟩,
 ⟨some 3, none, .mv (.t 16), none⟩,
 ⟨some 4, none, .mv (.t 17), none⟩])
 (.keep [1, 3, 4] (.seq (.seq (.ops [⟨some 18, none, .mv (.t 4), none⟩,
 ⟨some 19, none, .bin .neq (.t 18) (.c (.int .i64 0)), none⟩])
 (.keep [1, 3, 19] (.cond (.t 19)
 (.seq (.ops [⟨some 2, none, .mv (.c (.bool false)), none⟩])
 (.ret))
 (.skip))))
 (.keep [1, 3] (.seq (.ops [⟨some 21, none, .fld 2 (.t 1), none⟩,
 ⟨some 22, none, .load none (.t 21), none⟩,
 ⟨some 23, none, .mv (.t 3), none⟩,
 ⟨some 24, none, .bsl 27 1 2 [(.str ⟨#[]⟩), (.str ⟨#[]⟩)] [(0, 1, (.t 22)), (1, 1, (.t 23))], none⟩,
 ⟨some 25, none, .call (.f 74) [(.t 24)], none⟩,
 ⟨some 20, none, .mv (.t 25), none⟩,
 ⟨some 26, none, .ext 0 (.t 20), none⟩,
 ⟨some 27, none, .ext 1 (.t 20), none⟩,
 ⟨some 5, none, .mv (.t 26), none⟩,
 ⟨some 4, none, .mv (.t 27), none⟩])
 (.keep [1, 4, 5] (.seq (.ops [⟨some 28, none, .mv (.t 4), none⟩,
 ⟨some 29, none, .bin .eql (.t 28) (.c (.int .i64 0)), none⟩,
 ⟨some 30, none, .mv (.t 29), none⟩,
 ⟨some 31, (some (30, true)), .fld 3 (.t 1), none⟩,
 ⟨some 32, (some (30, true)), .load none (.t 31), none⟩,
 ⟨some 33, (some (30, true)), .mv (.t 5), none⟩,
 ⟨some 34, (some (30, true)), .call (.f 75) [(.t 32), (.t 33)], none⟩,
 ⟨some 35, none, .pick (.t 30) (.t 34) (.c (.bool false)), none⟩,
 ⟨some 2, none, .mv (.t 35), none⟩])
 (.ret)))))))))))⟩
theorem J_cert_delegate_ok : chkFn Try.prog 65 J_cert_delegate = true := by kernel_rfl
def J_cert_alone : AFn :=
 ⟨14, [.t 4], .seq (.ops [⟨some 4, none, .mv (.c (.bool false)), none⟩])
 (.keep [0, 1] (.seq (.ops [⟨some 5, none, .mv (.t 0), none⟩,
 ⟨some 6, none, .call (.f 47) [(.t 5)], none⟩,
 ⟨some 7, none, .bin .eql (.t 6) (.c (.int .i64 1)), none⟩,
 ⟨some 8, none, .mv (.t 7), none⟩,
 ⟨some 9, (some (8, true)), .mv (.t 0), none⟩,
 ⟨some 10, (some (8, true)), .call (.f 48) [(.t 9), (.c (.int .i64 0))], none⟩,
 ⟨some 11, (some (8, true)), .mv (.t 1), none⟩,
 ⟨some 12, (some (8, true)), .call (.f 55) [(.t 10), (.t 11)], none⟩,
 ⟨some 13, none, .pick (.t 8) (.t 12) (.c (.bool false)), none⟩,
 ⟨some 4, none, .mv (.t 13), none⟩])
 (.ret)))⟩
theorem J_cert_alone_ok : chkFn Try.prog 66 J_cert_alone = true := by kernel_rfl
def J_ref08_single : AFn :=
 ⟨13, [.t 2], .seq (.ops [⟨some 2, none, .mv (.c (.int .i64 0)), none⟩])
 (.keep [0] (.seq (.ops [⟨some 4, none, .mv (.t 0), none⟩,
 ⟨some 5, none, .call (.f 50) [(.t 4)], none⟩,
 ⟨some 3, none, .mv (.t 5), none⟩])
 (.keep [3] (.seq (.seq (.ops [⟨some 6, none, .mv (.t 3), none⟩,
 ⟨some 7, none, .lenl (.t 6), none⟩,
 ⟨some 8, none, .bin .neq (.t 7) (.c (.int .i64 1)), none⟩])
 (.keep [3, 8] (.cond (.t 8)
 (.seq (.ops [⟨some 2, none, .mv (.c (.int .i64 (-1))), none⟩])
 (.ret))
 (.skip))))
 (.keep [3] (.seq (.ops [⟨some 9, none, .mv (.t 3), none⟩,
 ⟨some 10, none, .idxa 1 (.t 9) (.c (.int .i64 0)), none⟩,
 ⟨some 11, none, .load none (.t 10), none⟩,
 ⟨some 12, none, .call (.f 58) [(.t 11)], none⟩,
 ⟨some 2, none, .mv (.t 12), none⟩])
 (.ret)))))))⟩
theorem J_ref08_single_ok : chkFn Try.prog 67 J_ref08_single = true := by kernel_rfl
end Go.Proofs.Ytlfnepcglnjogaa

/- What pack's Out and its reference do, over the abstract code. -/
namespace Go.Proofs.Ytlfnepcglnjogaa
set_option linter.unusedSimpArgs false
set_option linter.unusedVariables false
open Go.RowKit Go.Lib

theorem hset {h : Hp} {id : Nat} {y : Option (Bool × List AV)} (ho : h[id]? = some y) (x : Option (Bool × List AV)) : (h.set id x)[id]? = some x := by
  have : id < h.length := (List.getElem?_eq_some_iff.1 ho).1
  rw [List.getElem?_set_self this]
def eI : Bool → Int
  | true => 2
  | false => 0
def told (s : Bool × List UInt8) : AV := .tup [.str (if s.1 then ⟨#[]⟩ else ⟨s.2.toArray⟩), .int .i64 (eI s.1)]
end Go.Proofs.Ytlfnepcglnjogaa

/- What pack's In does, over the abstract code. -/
namespace Go.Proofs.Ytlfnepcglnjogaa
set_option linter.unusedSimpArgs false
set_option linter.unusedVariables false
open Go.RowKit Go.Lib

end Go.Proofs.Ytlfnepcglnjogaa

/- What pack's In does: counts, texts, words, sets. -/
-- tight
namespace Go.Proofs.Ytlfnepcglnjogaa
set_option linter.unusedSimpArgs false
set_option linter.unusedVariables false
open Go.RowKit Go.Lib

theorem hold {h : Hp} {i : Nat} {y : Option (Bool × List AV)} (x : Option (Bool × List AV)) (ho : h[i]? = some y) : (h ++ [x])[i]? = some y := by
  rw [List.getElem?_append_left (List.getElem?_eq_some_iff.1 ho).1, ho]
end Go.Proofs.Ytlfnepcglnjogaa

/- The plain law of reading: what is read was written so. -/
namespace Go.Proofs.Ytlfnepcglnjogaa
set_option linter.unusedSimpArgs false
set_option linter.unusedVariables false
open Go.RowKit Go.Lib

end Go.Proofs.Ytlfnepcglnjogaa

/- The plain law of writing: what is written is read. -/
namespace Go.Proofs.Ytlfnepcglnjogaa
set_option linter.unusedSimpArgs false
set_option linter.unusedVariables false
open Go.RowKit Go.Lib

end Go.Proofs.Ytlfnepcglnjogaa

/- The abstract layer: full slices as ones that are only read, however deep; results that are objects as ones that stay. -/
namespace Go.Proofs.Ytlfnepcglnjogaa
set_option linter.unusedSimpArgs false
set_option linter.unusedVariables false
open Go.RowKit Go.Lib

mutual
def rdp : AV → AV
  | .lst .clip n l => .lst .ro n (rdps l)
  | .lst f n l => .lst f n (rdps l)
  | .agg l => .agg (rdps l)
  | .tup l => .tup (rdps l)
  | .fp l => .fp (rdps l)
  | .fn f l => .fn f (rdps l)
  | .fnb f l => .fnb f (rdps l)
  | a => a
def rdps : List AV → List AV
  | [] => []
  | a :: l => rdp a :: rdps l
end
theorem plain_rdp (a : AV) (h : plain a = true) : plain (rdp a) = true := by
  cases a with
  | lst f n l => cases f <;> first | (simp [plain] at h; done) | simp [rdp, plain]
  | itr s p => simp [plain] at h
  | omp b ks vs => simp [plain] at h
  | stk e o l => simp [plain] at h
  | _ => simp [rdp, plain]
theorem plains_rdp : ∀ {l : List AV}, plains l → plains (rdps l)
  | [], _ => by intro a ha; simp [rdps] at ha
  | a :: l, h => by
    intro b hb
    simp only [rdps, List.mem_cons] at hb
    rcases hb with rfl | hb
    · exact plain_rdp a (h a (by simp))
    · exact plains_rdp (fun x hx => h x (by simp [hx])) b hb
mutual
theorem Rep.rdp {g : Gh} : ∀ {v : Value} {a : AV}, Rep g v a → Rep g v (rdp a)
  | _, _, .bool b => by simp only [Go.Proofs.Ytlfnepcglnjogaa.rdp]; exact .bool b
  | _, _, .int k n => by simp only [Go.Proofs.Ytlfnepcglnjogaa.rdp]; exact .int k n
  | _, _, .str s => by simp only [Go.Proofs.Ytlfnepcglnjogaa.rdp]; exact .str s
  | _, _, .nilp => by simp only [Go.Proofs.Ytlfnepcglnjogaa.rdp]; exact .nilp
  | _, _, .ptr id off b h => by simp only [Go.Proofs.Ytlfnepcglnjogaa.rdp]; exact .ptr id off b h
  | _, _, .fp b off vs l h hp hl => by simp only [Go.Proofs.Ytlfnepcglnjogaa.rdp]; exact .fp b off vs _ h (plains_rdp hp) (RepL.rdp hl)
  | _, _, .lst b off n c .clip vs l h hp h1 h2 hl => by simp only [Go.Proofs.Ytlfnepcglnjogaa.rdp]; exact .lst b off n c .ro vs _ h (plains_rdp hp) h1 (fun e => by cases e) (RepL.rdp hl)
  | _, _, .lst b off n c .ro vs l h hp h1 h2 hl => by simp only [Go.Proofs.Ytlfnepcglnjogaa.rdp]; exact .lst b off n c .ro vs _ h (plains_rdp hp) h1 (fun e => by cases e) (RepL.rdp hl)
  | _, _, .lst b off n c (.own e) vs l h hp h1 h2 hl => by simp only [Go.Proofs.Ytlfnepcglnjogaa.rdp]; exact .lst b off n c (.own e) vs _ h (plains_rdp hp) h1 (fun e => by cases e) (RepL.rdp hl)
  | _, _, .lst0 a c .clip h => by simp only [Go.Proofs.Ytlfnepcglnjogaa.rdp, rdps]; exact .lst0 a c .ro (fun e => by cases e)
  | _, _, .lst0 a c .ro h => by simp only [Go.Proofs.Ytlfnepcglnjogaa.rdp, rdps]; exact .lst0 a c .ro (fun e => by cases e)
  | _, _, .lst0 a c (.own e) h => by simp only [Go.Proofs.Ytlfnepcglnjogaa.rdp, rdps]; exact .lst0 a c (.own e) (fun e => by cases e)
  | _, _, .hs id b n c h h1 => by simp only [Go.Proofs.Ytlfnepcglnjogaa.rdp]; exact .hs id b n c h h1
  | _, _, .hsc id b n c h h1 => by simp only [Go.Proofs.Ytlfnepcglnjogaa.rdp]; exact .hsc id b n c h h1
  | _, _, .agg vs l h hp hl => by simp only [Go.Proofs.Ytlfnepcglnjogaa.rdp]; exact .agg vs _ h (plains_rdp hp) (RepL.rdp hl)
  | _, _, .tup vs l hp hl => by simp only [Go.Proofs.Ytlfnepcglnjogaa.rdp]; exact .tup vs _ (plains_rdp hp) (RepL.rdp hl)
  | _, _, .fn f vs l hp hl => by simp only [Go.Proofs.Ytlfnepcglnjogaa.rdp]; exact .fn f vs _ (plains_rdp hp) (RepL.rdp hl)
  | _, _, .fnb f vs l hp hl => by simp only [Go.Proofs.Ytlfnepcglnjogaa.rdp]; exact .fnb f vs _ (plains_rdp hp) (RepL.rdp hl)
  | _, _, .nilf => by simp only [Go.Proofs.Ytlfnepcglnjogaa.rdp]; exact .nilf
  | _, _, .opq v h h' => by simp only [Go.Proofs.Ytlfnepcglnjogaa.rdp]; exact .opq v h h'
  | _, _, .frn v Q S W0 h h' h3 h4 => by simp only [Go.Proofs.Ytlfnepcglnjogaa.rdp]; exact .frn v Q S W0 h h' h3 h4
  | _, _, .itr b s p => by simp only [Go.Proofs.Ytlfnepcglnjogaa.rdp]; exact .itr b s p
  | _, _, .omp b ks vs => by simp only [Go.Proofs.Ytlfnepcglnjogaa.rdp]; exact .omp b ks vs
  | _, _, .mp b => by simp only [Go.Proofs.Ytlfnepcglnjogaa.rdp]; exact .mp b
  | _, _, .fmp b obj ks vs h1 h2 => by simp only [Go.Proofs.Ytlfnepcglnjogaa.rdp]; exact .fmp b obj ks vs h1 h2
  | _, _, .stk a c e o l h1 h2 h3 => by simp only [Go.Proofs.Ytlfnepcglnjogaa.rdp]; exact .stk a c e o l h1 h2 h3
  | _, _, .raw a m c h1 h2 => by simp only [Go.Proofs.Ytlfnepcglnjogaa.rdp]; exact .raw a m c h1 h2
  | _, _, .rawp b i m c => by simp only [Go.Proofs.Ytlfnepcglnjogaa.rdp]; exact .rawp b i m c
theorem RepL.rdp {g : Gh} : ∀ {vs : List Value} {l : List AV}, RepL g vs l → RepL g vs (rdps l)
  | _, _, .nil => by simp only [rdps]; exact .nil
  | _, _, .cons h hl => by simp only [rdps]; exact .cons (Rep.rdp h) (RepL.rdp hl)
end
theorem ACalls.deep {P : Program} {f : FuncId} {args : List AV} {h : Hp} {R : AV → Hp → Prop} (hc : ACalls P f args h (fun a h' => R (rdp a) h')) : ACalls P f args h R :=
  ⟨hc.1, fun g w vargs h1 h2 h3 h4 => (hc.2 g w vargs h1 h2 h3 h4).mono fun _ _ ⟨x, a, h', g', q1, q2, q3, q4, q5, q6, q7⟩ => ⟨x, _, h', g', q1, q2, q3, q4, q5.rdp, plain_rdp _ q6, q7⟩⟩
theorem ACalls.argd {P : Program} {f : FuncId} {args : List AV} {h : Hp} {R : AV → Hp → Prop} (hc : ACalls P f (rdps args) h R) : ACalls P f args h R :=
  ⟨hc.1, fun g w vargs h1 h2 h3 h4 => hc.2 g w vargs h1 h2 h3.rdp (plains_rdp h4)⟩
mutual
theorem free_rdp : ∀ a : AV, free (rdp a) = free a
  | .lst .clip n l => by simp only [rdp, free, frees_rdp l]
  | .lst .ro n l => by simp only [rdp, free, frees_rdp l]
  | .lst (.own e) n l => by simp only [rdp, free, frees_rdp l]
  | .agg l => by simp only [rdp, free, frees_rdp l]
  | .tup l => by simp only [rdp, free, frees_rdp l]
  | .fp l => by simp only [rdp, free, frees_rdp l]
  | .fn f l => by simp only [rdp, free, frees_rdp l]
  | .fnb f l => by simp only [rdp, free, frees_rdp l]
  | .bool _ => by simp only [rdp]
  | .int _ _ => by simp only [rdp]
  | .str _ => by simp only [rdp]
  | .nilp => by simp only [rdp]
  | .ptr _ _ => by simp only [rdp]
  | .hs _ _ => by simp only [rdp]
  | .hsc _ _ _ => by simp only [rdp]
  | .nilf => by simp only [rdp]
  | .opq => by simp only [rdp]
  | .frn _ => by simp only [rdp]
  | .itr _ _ => by simp only [rdp]
  | .omp _ _ _ => by simp only [rdp]
  | .mp _ => by simp only [rdp]
  | .fmp _ _ => by simp only [rdp]
  | .stk _ _ _ => by simp only [rdp]
  | .raw _ _ => by simp only [rdp]
  | .rawp _ _ => by simp only [rdp]
theorem frees_rdp : ∀ l : List AV, free.frees (rdps l) = free.frees l
  | [] => rfl
  | a :: l => by simp only [rdps, free.frees, free_rdp a, frees_rdp l]
end
theorem PCalls.argd {P : Program} {f : FuncId} {args : List AV} {v : AV} (hc : PCalls P f (rdps args) v) : PCalls P f args v :=
  ⟨by rw [← frees_rdp]; exact hc.1, hc.2.1, ACalls.argd hc.2.2⟩
theorem rdps_nil : rdps [] = [] := by simp only [rdps]
theorem rdps_cons (a : AV) (l : List AV) : rdps (a :: l) = rdp a :: rdps l := by simp only [rdps]
theorem rdp_bool (b : Bool) : rdp (.bool b) = .bool b := by simp only [rdp]
theorem rdp_int (k : IntKind) (n : Int) : rdp (.int k n) = .int k n := by simp only [rdp]
theorem rdp_str (s : ByteArray) : rdp (.str s) = .str s := by simp only [rdp]
theorem rdp_nilp : rdp .nilp = .nilp := by simp only [rdp]
theorem rdp_hs (i n : Nat) : rdp (.hs i n) = .hs i n := by simp only [rdp]
theorem rdp_hsc (i n c : Nat) : rdp (.hsc i n c) = .hsc i n c := by simp only [rdp]
theorem rdp_ptr (i n : Nat) : rdp (.ptr i n) = .ptr i n := by simp only [rdp]
theorem rdp_ro (n : Nat) (l : List AV) : rdp (.lst .ro n l) = .lst .ro n (rdps l) := by simp only [rdp]
theorem rdp_clip (n : Nat) (l : List AV) : rdp (.lst .clip n l) = .lst .ro n (rdps l) := by simp only [rdp]
theorem rdp_agg (l : List AV) : rdp (.agg l) = .agg (rdps l) := by simp only [rdp]
theorem rdp_tup (l : List AV) : rdp (.tup l) = .tup (rdps l) := by simp only [rdp]
theorem rdps_str : ∀ l : List ByteArray, rdps (l.map .str) = l.map .str
  | [] => rdps_nil
  | a :: l => by simp only [List.map_cons, rdps_cons, rdp_str, rdps_str l]
theorem rdpw : type_of% (And.intro @rdps_nil (And.intro @rdps_cons (And.intro @rdp_bool (And.intro @rdp_int (And.intro @rdp_str (And.intro @rdp_nilp (And.intro @rdp_hs (And.intro @rdp_hsc (And.intro @rdp_ptr (And.intro @rdp_ro (And.intro @rdp_clip (And.intro @rdp_agg (And.intro @rdp_tup @rdps_str))))))))))))) :=
  And.intro @rdps_nil (And.intro @rdps_cons (And.intro @rdp_bool (And.intro @rdp_int (And.intro @rdp_str (And.intro @rdp_nilp (And.intro @rdp_hs (And.intro @rdp_hsc (And.intro @rdp_ptr (And.intro @rdp_ro (And.intro @rdp_clip (And.intro @rdp_agg (And.intro @rdp_tup @rdps_str))))))))))))
end Go.Proofs.Ytlfnepcglnjogaa

/- Models: relations as bits: plain. -/
namespace Go.Proofs.Ytlfnepcglnjogaa
set_option linter.unusedSimpArgs false
set_option linter.unusedVariables false
open Go.RowKit Go.Lib

def bt (a : UInt8) (j : Nat) : Bool := a.toBitVec.getLsbD j
def bitR (r : Rl) (i j : Nat) : Bool := bt (r.getD i 0) j
theorem bt_test (a : UInt8) (j : Nat) : a.toNat.testBit j = bt a j := rfl
theorem bt_or (a b : UInt8) (j : Nat) : bt (a ||| b) j = (bt a j || bt b j) := by simp [bt]
theorem bt_zero (j : Nat) : bt 0 j = false := by simp [bt]
theorem bt_sub (a b : UInt8) : (a &&& ~~~b = 0) ↔ ∀ j, bt a j = true → bt b j = true := by
  constructor
  · intro h j ha
    have := congrArg (fun x : UInt8 => bt x j) h
    simp only [bt_zero] at this
    have hj : j < 8 := by
      rcases Nat.lt_or_ge j 8 with h | h
      · exact h
      · simp only [bt] at ha; rw [BitVec.getLsbD_of_ge _ _ h] at ha; cases ha
    simp only [bt, UInt8.toBitVec_and, UInt8.toBitVec_not, BitVec.getLsbD_and, BitVec.getLsbD_not, hj, decide_true, Bool.true_and] at this ha ⊢
    rw [ha] at this
    simpa using this
  · intro h
    apply UInt8.toBitVec_inj.1
    apply BitVec.eq_of_getLsbD_eq
    intro j hj
    simp only [UInt8.toBitVec_and, UInt8.toBitVec_not, BitVec.getLsbD_and, BitVec.getLsbD_not, hj, decide_true, Bool.true_and]
    have := h j
    simp only [bt] at this
    cases ha : a.toBitVec.getLsbD j with
    | false => simp
    | true => rw [this ha]; simp
theorem within_iff (r s : Rl) : withinR r s = true ↔ ∀ i, i < 8 → ∀ j, bitR r i j = true → bitR s i j = true := by
  simp only [withinR, List.all_eq_true, List.mem_range, decide_eq_true_eq, bt_sub, bitR]
theorem bit_thenB (b : UInt8) (s : Rl) (k : Nat) : ∀ n, bt (thenB b s n) k = true ↔ ∃ j, j < n ∧ bt b j = true ∧ bitR s j k = true
  | 0 => by simp [thenB, bt_zero]
  | n + 1 => by
    rw [thenB_succ, bt_test]
    have ih := bit_thenB b s k n
    constructor
    · intro h
      by_cases hb : bt b n = true
      · rw [if_pos hb, bt_or, Bool.or_eq_true] at h
        rcases h with h | h
        · obtain ⟨j, h1, h2⟩ := ih.1 h; exact ⟨j, by omega, h2⟩
        · exact ⟨n, by omega, hb, h⟩
      · rw [if_neg hb] at h
        obtain ⟨j, h1, h2⟩ := ih.1 h; exact ⟨j, by omega, h2⟩
    · rintro ⟨j, h1, h2, h3⟩
      rcases Nat.lt_succ_iff_lt_or_eq.1 h1 with h | rfl
      · have := ih.2 ⟨j, h, h2, h3⟩
        split
        · rw [bt_or, this]; rfl
        · exact this
      · rw [if_pos h2, bt_or, Bool.or_eq_true]; exact .inr h3
theorem bit_thenR {r : Rl} (hr : r.length = 8) (s : Rl) {i : Nat} (hi : i < 8) (k : Nat) : bitR (thenR r s) i k = true ↔ ∃ j, j < 8 ∧ bitR r i j = true ∧ bitR s j k = true := by
  have : (thenR r s).getD i 0 = thenB (r.getD i 0) s 8 := by
    simp only [List.getD_eq_getElem?_getD, thenR, List.getElem?_map]
    rw [List.getElem?_eq_getElem (by omega : i < r.length)]
    rfl
  simp only [bitR, this]
  exact bit_thenB _ _ _ _
theorem rl_ext {r s : Rl} (hr : r.length = 8) (hs : s.length = 8) (h : ∀ i, i < 8 → ∀ j, bitR r i j = bitR s i j) : r = s := by
  apply List.ext_getElem (by omega)
  intro i h1 h2
  apply UInt8.toBitVec_inj.1
  apply BitVec.eq_of_getLsbD_eq
  intro j hj
  have := h i (by omega) j
  simp only [bitR, bt, List.getD_eq_getElem?_getD, List.getElem?_eq_getElem h1, List.getElem?_eq_getElem h2, Option.getD_some] at this
  exact this
end Go.Proofs.Ytlfnepcglnjogaa

/- Models: a word behind a word leads where one leads behind the other: plain. -/
namespace Go.Proofs.Ytlfnepcglnjogaa
set_option linter.unusedSimpArgs false
set_option linter.unusedVariables false
open Go.RowKit Go.Lib

theorem thenR_length (r s : Rl) : (thenR r s).length = r.length := by simp [thenR]
theorem thenR_assoc {r s : Rl} (t : Rl) (hr : r.length = 8) (hs : s.length = 8) : thenR (thenR r s) t = thenR r (thenR s t) := by
  have h1 : (thenR r s).length = 8 := by rw [thenR_length, hr]
  refine rl_ext (by rw [thenR_length, h1]) (by rw [thenR_length, hr]) fun i hi k => ?_
  rw [Bool.eq_iff_iff, bit_thenR h1 t hi, bit_thenR hr _ hi]
  constructor
  · rintro ⟨j, hj, h2, h3⟩
    obtain ⟨q, hq, h4, h5⟩ := (bit_thenR hr s hi j).1 h2
    exact ⟨q, hq, h4, (bit_thenR hs t hq k).2 ⟨j, hj, h5, h3⟩⟩
  · rintro ⟨q, hq, h4, h5⟩
    obtain ⟨j, hj, h6, h3⟩ := (bit_thenR hs t hq k).1 h5
    exact ⟨j, hj, (bit_thenR hr s hi j).2 ⟨q, hq, h4, h6⟩, h3⟩
theorem atom_left (a b : ByteArray) {i : Nat} (h : 2 * i + 1 < a.size) : atomAt (a ++ b) i = atomAt a i := atomAt_app_left h
theorem atom_right (a b : ByteArray) {i : Nat} (ha : a.size % 2 = 0) : atomAt (a ++ b) (a.size / 2 + i) = atomAt b i := by
  by_cases h2 : 2 * i + 1 < b.size
  · rw [atomAt_app_right ha (by omega) (by rw [ByteArray.size_append]; omega)]
    congr 1; omega
  · unfold atomAt
    rw [dif_neg (by rw [ByteArray.size_append]; omega), dif_neg h2]
theorem wordN_left (l : List Row) (a b : ByteArray) : ∀ k, 2 * k + 1 < a.size → wordN l (a ++ b) k = wordN l a k
  | 0, h => by simp only [wordN]; rw [atom_left a b h]
  | k + 1, h => by simp only [wordN]; rw [wordN_left l a b k (by omega), atom_left a b h]
theorem wordN_right (l : List Row) (a b : ByteArray) (ha : a.size % 2 = 0) (h1 : 2 ≤ a.size) : ∀ k, wordN l (a ++ b) (a.size / 2 + k) = thenR (wordR l a) (wordN l b k)
  | 0 => by
    rw [show a.size / 2 + 0 = (a.size / 2 - 1) + 1 by omega]
    simp only [wordN]
    rw [wordN_left l a b _ (by omega), show a.size / 2 - 1 + 1 = a.size / 2 + 0 by omega, atom_right a b ha]
    rfl
  | k + 1 => by
    rw [show a.size / 2 + (k + 1) = (a.size / 2 + k) + 1 by omega]
    simp only [wordN]
    rw [wordN_right l a b ha h1 k, show a.size / 2 + k + 1 = a.size / 2 + (k + 1) by omega, atom_right a b ha, thenR_assoc _ (wordR_length _ _) (wordN_length _ _ _)]
theorem wordR_app (l : List Row) (a b : ByteArray) (ha : a.size % 2 = 0) (h1 : 2 ≤ a.size) (hb : b.size % 2 = 0) (h2 : 2 ≤ b.size) : wordR l (a ++ b) = thenR (wordR l a) (wordR l b) := by
  unfold wordR
  rw [show (a ++ b).size / 2 - 1 = a.size / 2 + (b.size / 2 - 1) by rw [ByteArray.size_append]; omega]
  exact wordN_right l a b ha h1 _
end Go.Proofs.Ytlfnepcglnjogaa

namespace Go.Proofs.Ytlfnepcglnjogaa
open Go.RowKit
def J_ref11_Counts : AFn :=
 ⟨20, [.t 2], .seq (.ops [⟨some 1, none, .box (.t 0) [], none⟩,
 ⟨some 2, none, .mv (.c (.bool false)), none⟩])
 (.keep [1] (.seq (.ops [⟨some 3, none, .fld 0 (.t 1), none⟩,
 ⟨some 4, none, .load none (.t 3), none⟩,
 ⟨some 5, none, .call (.f 28) [(.t 4)], none⟩,
 ⟨some 6, none, .mv (.t 5), none⟩,
 ⟨some 7, (some (6, true)), .fld 1 (.t 1), none⟩,
 ⟨some 8, (some (6, true)), .load none (.t 7), none⟩,
 ⟨some 9, (some (6, true)), .call (.f 28) [(.t 8)], none⟩,
 ⟨some 10, none, .pick (.t 6) (.t 9) (.c (.bool false)), none⟩,
 ⟨some 11, none, .mv (.t 10), none⟩,
 ⟨some 12, (some (11, true)), .fld 1 (.t 1), none⟩,
 ⟨some 13, (some (11, true)), .load none (.t 12), none⟩,
 ⟨some 14, (some (11, true)), .lens (.t 13), none⟩,
 ⟨some 15, (some (11, true)), .fld 0 (.t 1), none⟩,
 ⟨some 16, (some (11, true)), .load none (.t 15), none⟩,
 ⟨some 17, (some (11, true)), .lens (.t 16), none⟩,
 ⟨some 18, (some (11, true)), .bin .leq (.t 14) (.t 17), none⟩,
 ⟨some 19, none, .pick (.t 11) (.t 18) (.c (.bool false)), none⟩,
 ⟨some 2, none, .mv (.t 19), none⟩])
 (.ret)))⟩
theorem J_ref11_Counts_ok : chkFn Try.prog 18 J_ref11_Counts = true := by kernel_rfl
def J_ref12_Run_j1 : ACode :=
 .keep [1, 2, 6, 10, 11] (.seq (.ops [⟨some 95, none, .fld 0 (.t 10), none⟩,
 ⟨some 96, none, .load none (.t 95), none⟩,
 ⟨some 97, none, .lenl (.t 96), none⟩,
 ⟨some 98, none, .mv (.t 11), none⟩,
 ⟨some 99, none, .bin .eql (.t 97) (.t 98), none⟩])
 (.keep [1, 2, 6, 10, 99] (.cond (.t 99)
 (.seq (.ops [⟨some 100, none, .load (some 2) (.t 10), none⟩,
 ⟨none, none, .store 2 (.t 6) (.t 100), none⟩,
 ⟨some 7, none, .mv (.c (.int .i64 0)), none⟩])
 (.ret))
 (.skip))))
def J_ref12_Run_j2 : ACode :=
 .keep [1, 2, 6, 10, 11, 12] (.ops [⟨some 59, none, .mv (.t 12), none⟩,
 ⟨some 60, none, .bin .add (.t 59) (.c (.int .i64 1)), none⟩,
 ⟨some 12, none, .mv (.t 60), none⟩])
def J_ref12_Run_j3 : ACode :=
 .drax [1, 2, 6, 10, 11, 12] [⟨some 86, none, .fld 1 (.t 10), none⟩,
 ⟨some 87, none, .load none (.t 86), none⟩,
 ⟨some 88, none, .mv (.t 1), none⟩,
 ⟨some 89, none, .mv (.t 12), none⟩,
 ⟨some 90, none, .idxa 7 (.t 88) (.t 89), none⟩,
 ⟨some 91, none, .load (some 7) (.t 90), none⟩,
 ⟨some 92, none, .call (.f 44) [(.t 91)], none⟩] (some 93) (.apc 29 2 32 [(.str ⟨#[]⟩), (.str ⟨#[]⟩)] (.t 87) (.t 92)) [⟨some 94, none, .fld 1 (.t 10), none⟩,
 ⟨none, none, .store 1 (.t 94) (.t 93), none⟩]
def J_ref12_Run_j4 : ACode :=
 .seq (.seq (.ops [⟨some 55, none, .mv (.t 12), none⟩,
 ⟨some 56, none, .mv (.t 1), none⟩,
 ⟨some 57, none, .lenl (.t 56), none⟩,
 ⟨some 58, none, .bin .lss (.t 55) (.t 57), none⟩])
 (.keep [1, 2, 6, 10, 11, 12, 58] (.cond (.t 58)
 (.skip)
 (.exit 4))))
 (.keep [1, 2, 6, 10, 11, 12] (.seq (.block 5 (.seq (.seq (.ops [⟨some 61, none, .load (some 2) (.t 10), none⟩,
 ⟨some 62, none, .mv (.t 12), none⟩,
 ⟨some 63, none, .call (.f 42) [(.t 61), (.t 62)], none⟩])
 (.keep [1, 2, 6, 10, 11, 12, 63] (.cond (.t 63)
 (.exit 5)
 (.skip))))
 (.keep [1, 2, 6, 10, 11, 12] (.seq (.draw [1, 2, 6, 10, 11, 12, 13, 14] [⟨some 65, none, .fld 1 (.t 10), none⟩,
 ⟨some 66, none, .load none (.t 65), none⟩,
 ⟨some 67, none, .mv (.t 1), none⟩,
 ⟨some 68, none, .mv (.t 12), none⟩,
 ⟨some 69, none, .idxa 7 (.t 67) (.t 68), none⟩,
 ⟨some 70, none, .load (some 7) (.t 69), none⟩,
 ⟨some 71, none, .mv (.t 2), none⟩,
 ⟨some 72, none, .callr (.f 43) [(.t 66), (.t 70), (.t 71)], none⟩,
 ⟨some 64, none, .mv (.t 72), none⟩,
 ⟨some 73, none, .ext 0 (.t 64), none⟩,
 ⟨some 74, none, .ext 1 (.t 64), none⟩,
 ⟨some 13, none, .mv (.t 73), none⟩,
 ⟨some 14, none, .mv (.t 74), none⟩])
 (.keep [1, 2, 6, 10, 11, 12, 13, 14] (.seq (.seq (.ops [⟨some 75, none, .mv (.t 14), none⟩,
 ⟨some 76, none, .bin .neq (.t 75) (.c (.int .i64 0)), none⟩])
 (.keep [1, 2, 6, 10, 11, 12, 13, 14, 76] (.cond (.t 76)
 (.seq (.ops [⟨some 77, none, .build [(.lst .clip 0 []), (.lst .clip 0 [])] [], none⟩,
 ⟨some 78, none, .mv (.t 14), none⟩,
 ⟨none, none, .store 2 (.t 6) (.t 77), none⟩,
 ⟨some 7, none, .mv (.t 78), none⟩])
 (.ret))
 (.skip))))
 (.keep [1, 2, 6, 10, 11, 12, 13] (.seq (.ops [⟨some 79, none, .mv (.t 13), none⟩])
 (.keep [1, 2, 6, 10, 11, 12, 79] (.cond (.t 79)
 (.seq (.ops [⟨some 80, none, .fld 0 (.t 10), none⟩,
 ⟨some 81, none, .load none (.t 80), none⟩,
 ⟨some 82, none, .mv (.t 12), none⟩,
 ⟨some 83, none, .bslc 3 1 1 [(.int .i64 0)] [(0, 1, (.t 82))], none⟩,
 ⟨some 84, none, .apc 3 1 8 [(.int .i64 0)] (.t 81) (.t 83), none⟩,
 ⟨some 85, none, .fld 0 (.t 10), none⟩,
 ⟨none, none, .store 1 (.t 85) (.t 84), none⟩])
 (.keep [1, 2, 6, 10, 11, 12] (J_ref12_Run_j3)))
 (.skip)))))))))))
 (J_ref12_Run_j2)))
def J_ref12_Run_j5 : ACode :=
 .block 3 (.seq (.ops [⟨some 52, none, .fld 0 (.t 10), none⟩,
 ⟨some 53, none, .load none (.t 52), none⟩,
 ⟨some 54, none, .lenl (.t 53), none⟩,
 ⟨some 11, none, .mv (.t 54), none⟩])
 (.keep [1, 2, 6, 10, 11] (.seq (.seq (.ops [⟨some 12, none, .mv (.c (.int .i64 0)), none⟩])
 (.keep [1, 2, 6, 10, 11, 12] (.block 4 (.loop [1, 2, 6, 10, 11, 12] (J_ref12_Run_j4)))))
 (J_ref12_Run_j1))))
def J_ref12_Run_j6 : ACode :=
 .keep [0, 1, 2, 6, 8] (.seq (.seq (.ops [⟨some 38, none, .mv (.t 8), none⟩,
 ⟨some 39, none, .bin .gtr (.t 38) (.c (.int .i64 400)), none⟩])
 (.keep [0, 1, 2, 6, 39] (.cond (.t 39)
 (.seq (.ops [⟨some 40, none, .build [(.lst .clip 0 []), (.lst .clip 0 [])] [], none⟩,
 ⟨none, none, .store 2 (.t 6) (.t 40), none⟩,
 ⟨some 7, none, .mv (.c (.int .i64 3)), none⟩])
 (.ret))
 (.skip))))
 (.keep [0, 1, 2, 6] (.seq (.seq (.ops [⟨some 41, none, .mv (.t 2), none⟩,
 ⟨some 42, none, .bin .lss (.t 41) (.c (.int .i64 1)), none⟩,
 ⟨some 43, none, .mv (.t 42), none⟩,
 ⟨some 44, (some (43, false)), .mv (.t 2), none⟩,
 ⟨some 45, (some (43, false)), .bin .gtr (.t 44) (.c (.int .i64 5000)), none⟩,
 ⟨some 46, none, .pick (.t 43) (.c (.bool true)) (.t 45), none⟩])
 (.keep [0, 1, 2, 6, 46] (.cond (.t 46)
 (.seq (.ops [⟨some 47, none, .build [(.lst .clip 0 []), (.lst .clip 0 [])] [], none⟩,
 ⟨none, none, .store 2 (.t 6) (.t 47), none⟩,
 ⟨some 7, none, .mv (.c (.int .i64 1)), none⟩])
 (.ret))
 (.skip))))
 (.keep [0, 1, 2, 6] (.seq (.ops [⟨some 48, none, .bslc 29 2 0 [] [], none⟩,
 ⟨some 49, none, .mv (.t 0), none⟩,
 ⟨some 50, none, .apc 29 2 32 [(.str ⟨#[]⟩), (.str ⟨#[]⟩)] (.t 48) (.t 49), none⟩,
 ⟨some 51, none, .build [(.lst .clip 0 []), (.lst .clip 0 [])] [(1, 1, (.t 50))], none⟩,
 ⟨some 10, none, .new [(.lst .clip 0 []), (.lst .clip 0 [])] [], none⟩,
 ⟨none, none, .store 2 (.t 10) (.t 51), none⟩])
 (.keep [1, 2, 6, 10] (.block 2 (.loop [1, 2, 6, 10] (J_ref12_Run_j5)))))))))
def J_ref12_Run_j7 : ACode :=
 .seq (.seq (.ops [⟨some 17, none, .mv (.t 9), none⟩,
 ⟨some 18, none, .mv (.t 1), none⟩,
 ⟨some 19, none, .lenl (.t 18), none⟩,
 ⟨some 20, none, .bin .lss (.t 17) (.t 19), none⟩])
 (.keep [0, 1, 2, 6, 8, 9, 20] (.cond (.t 20)
 (.skip)
 (.exit 0))))
 (.keep [0, 1, 2, 6, 8, 9] (.seq (.block 1 (.seq (.seq (.ops [⟨some 23, none, .mv (.t 1), none⟩,
 ⟨some 24, none, .mv (.t 9), none⟩,
 ⟨some 25, none, .idxa 7 (.t 23) (.t 24), none⟩,
 ⟨some 26, none, .load (some 7) (.t 25), none⟩,
 ⟨some 27, none, .call (.f 41) [(.t 26)], none⟩,
 ⟨some 28, none, .bin .neq (.t 27) (.c (.int .i64 0)), none⟩])
 (.keep [0, 1, 2, 6, 8, 9, 28] (.cond (.t 28)
 (.seq (.ops [⟨some 29, none, .build [(.lst .clip 0 []), (.lst .clip 0 [])] [], none⟩,
 ⟨none, none, .store 2 (.t 6) (.t 29), none⟩,
 ⟨some 7, none, .mv (.c (.int .i64 2)), none⟩])
 (.ret))
 (.skip))))
 (.keep [0, 1, 2, 6, 8, 9] (.ops [⟨some 30, none, .mv (.t 8), none⟩,
 ⟨some 31, none, .mv (.t 1), none⟩,
 ⟨some 32, none, .mv (.t 9), none⟩,
 ⟨some 33, none, .idxa 7 (.t 31) (.t 32), none⟩,
 ⟨some 34, none, .fld 3 (.t 33), none⟩,
 ⟨some 35, none, .load none (.t 34), none⟩,
 ⟨some 36, none, .lenl (.t 35), none⟩,
 ⟨some 37, none, .bin .add (.t 30) (.t 36), none⟩,
 ⟨some 8, none, .mv (.t 37), none⟩]))))
 (.keep [0, 1, 2, 6, 8, 9] (.ops [⟨some 21, none, .mv (.t 9), none⟩,
 ⟨some 22, none, .bin .add (.t 21) (.c (.int .i64 1)), none⟩,
 ⟨some 9, none, .mv (.t 22), none⟩]))))
def J_ref12_Run : AFn :=
 ⟨101, [.c 6 (some 2), .t 7], .seq (.ops [⟨some 6, none, .new [(.lst .clip 0 []), (.lst .clip 0 [])] [], none⟩,
 ⟨some 7, none, .mv (.c (.int .i64 0)), none⟩])
 (.keep [0, 1, 2, 6] (.seq (.ops [⟨some 15, none, .mv (.t 0), none⟩,
 ⟨some 16, none, .lenl (.t 15), none⟩,
 ⟨some 8, none, .mv (.t 16), none⟩])
 (.keep [0, 1, 2, 6, 8] (.seq (.seq (.ops [⟨some 9, none, .mv (.c (.int .i64 0)), none⟩])
 (.keep [0, 1, 2, 6, 8, 9] (.block 0 (.loop [0, 1, 2, 6, 8, 9] (J_ref12_Run_j7)))))
 (J_ref12_Run_j6)))))⟩
theorem J_ref12_Run_ok : chkFn Try.prog 20 J_ref12_Run = true := by kernel_rfl
def J_ref11_All : AFn :=
 ⟨24, [.t 6, .t 7], .seq (.ops [⟨some 6, none, .mv (.c (.lst .clip 0 [])), none⟩,
 ⟨some 7, none, .mv (.c (.int .i64 0)), none⟩])
 (.keep [0, 1, 2] (.seq (.ops [⟨some 11, none, .mv (.t 0), none⟩,
 ⟨some 12, none, .mv (.t 1), none⟩,
 ⟨some 13, none, .mv (.t 2), none⟩,
 ⟨some 14, none, .call (.f 45) [(.t 11), (.t 12), (.t 13)], none⟩,
 ⟨some 10, none, .mv (.t 14), none⟩,
 ⟨some 15, none, .ext 0 (.t 10), none⟩,
 ⟨some 16, none, .ext 1 (.t 10), none⟩,
 ⟨some 8, none, .mv (.t 15), none⟩,
 ⟨some 9, none, .mv (.t 16), none⟩])
 (.keep [8, 9] (.seq (.seq (.ops [⟨some 17, none, .mv (.t 9), none⟩,
 ⟨some 18, none, .bin .neq (.t 17) (.c (.int .i64 0)), none⟩])
 (.keep [8, 9, 18] (.cond (.t 18)
 (.seq (.ops [⟨some 19, none, .mv (.t 9), none⟩,
 ⟨some 6, none, .mv (.c (.lst .clip 0 [])), none⟩,
 ⟨some 7, none, .mv (.t 19), none⟩])
 (.ret))
 (.skip))))
 (.keep [8] (.seq (.ops [⟨some 20, none, .mv (.t 8), none⟩,
 ⟨some 21, none, .nilck (.t 20), none⟩,
 ⟨some 22, none, .fld 0 (.t 21), none⟩,
 ⟨some 23, none, .load none (.t 22), none⟩,
 ⟨some 6, none, .mv (.t 23), none⟩,
 ⟨some 7, none, .mv (.c (.int .i64 0)), none⟩])
 (.ret)))))))⟩
theorem J_ref11_All_ok : chkFn Try.prog 21 J_ref11_All = true := by kernel_rfl
def J_ref12_Result_Has_j1 : ACode :=
 .keep [] (.seq (.ops [⟨some 4, none, .mv (.c (.bool false)), none⟩])
 (.ret))
def J_ref12_Result_Has_j2 : ACode :=
 .seq (.seq (.ops [⟨some 6, none, .mv (.t 5), none⟩,
 ⟨some 7, none, .fld 0 (.t 2), none⟩,
 ⟨some 8, none, .load none (.t 7), none⟩,
 ⟨some 9, none, .lenl (.t 8), none⟩,
 ⟨some 10, none, .bin .lss (.t 6) (.t 9), none⟩])
 (.keep [1, 2, 5, 10] (.cond (.t 10)
 (.skip)
 (.exit 0))))
 (.keep [1, 2, 5] (.seq (.block 1 (.seq (.ops [⟨some 13, none, .fld 0 (.t 2), none⟩,
 ⟨some 14, none, .load none (.t 13), none⟩,
 ⟨some 15, none, .mv (.t 5), none⟩,
 ⟨some 16, none, .idxa 1 (.t 14) (.t 15), none⟩,
 ⟨some 17, none, .load none (.t 16), none⟩,
 ⟨some 18, none, .mv (.t 1), none⟩,
 ⟨some 19, none, .bin .eql (.t 17) (.t 18), none⟩])
 (.keep [1, 2, 5, 19] (.cond (.t 19)
 (.seq (.ops [⟨some 4, none, .mv (.c (.bool true)), none⟩])
 (.ret))
 (.skip)))))
 (.keep [1, 2, 5] (.ops [⟨some 11, none, .mv (.t 5), none⟩,
 ⟨some 12, none, .bin .add (.t 11) (.c (.int .i64 1)), none⟩,
 ⟨some 5, none, .mv (.t 12), none⟩]))))
def J_ref12_Result_Has : AFn :=
 ⟨20, [.t 4], .seq (.ops [⟨some 2, none, .box (.t 0) [], none⟩,
 ⟨some 4, none, .mv (.c (.bool false)), none⟩])
 (.keep [1, 2] (.seq (.seq (.ops [⟨some 5, none, .mv (.c (.int .i64 0)), none⟩])
 (.keep [1, 2, 5] (.block 0 (.loop [1, 2, 5] (J_ref12_Result_Has_j2)))))
 (J_ref12_Result_Has_j1)))⟩
theorem J_ref12_Result_Has_ok : chkFn Try.prog 42 J_ref12_Result_Has = true := by kernel_rfl
def J_ref12_Backed_j1 : ACode :=
 .keep [] (.seq (.ops [⟨some 6, none, .mv (.c (.bool true)), none⟩,
 ⟨some 7, none, .mv (.c (.int .i64 0)), none⟩])
 (.ret))
def J_ref12_Backed_j2 : ACode :=
 .seq (.seq (.ops [⟨some 14, none, .mv (.t 8), none⟩,
 ⟨some 15, none, .fld 3 (.t 4), none⟩,
 ⟨some 16, none, .load none (.t 15), none⟩,
 ⟨some 17, none, .lenl (.t 16), none⟩,
 ⟨some 18, none, .bin .lss (.t 14) (.t 17), none⟩])
 (.keep [0, 2, 4, 8, 18] (.cond (.t 18)
 (.skip)
 (.exit 0))))
 (.keep [0, 2, 4, 8] (.seq (.block 1 (.seq (.draw [0, 2, 4, 8, 9, 10] [⟨some 22, none, .mv (.t 0), none⟩,
 ⟨some 23, none, .fld 3 (.t 4), none⟩,
 ⟨some 24, none, .load none (.t 23), none⟩,
 ⟨some 25, none, .mv (.t 8), none⟩,
 ⟨some 26, none, .idxa 1 (.t 24) (.t 25), none⟩,
 ⟨some 27, none, .load none (.t 26), none⟩,
 ⟨some 28, none, .fld 1 (.t 4), none⟩,
 ⟨some 29, none, .load none (.t 28), none⟩,
 ⟨some 30, none, .bsl 51 1 1 [(.int .u16 0)] [(0, 1, (.t 29))], none⟩,
 ⟨some 31, none, .call (.f 22) [(.t 30)], none⟩,
 ⟨some 32, none, .mv (.t 2), none⟩,
 ⟨some 33, none, .call (.f 61) [(.t 22), (.t 27), (.t 31), (.t 32)], none⟩,
 ⟨some 21, none, .mv (.t 33), none⟩,
 ⟨some 34, none, .ext 0 (.t 21), none⟩,
 ⟨some 35, none, .ext 1 (.t 21), none⟩,
 ⟨some 9, none, .mv (.t 34), none⟩,
 ⟨some 10, none, .mv (.t 35), none⟩])
 (.keep [0, 2, 4, 8, 9, 10] (.seq (.seq (.ops [⟨some 36, none, .mv (.t 10), none⟩,
 ⟨some 37, none, .bin .neq (.t 36) (.c (.int .i64 0)), none⟩])
 (.keep [0, 2, 4, 8, 9, 10, 37] (.cond (.t 37)
 (.seq (.ops [⟨some 38, none, .mv (.t 10), none⟩,
 ⟨some 6, none, .mv (.c (.bool false)), none⟩,
 ⟨some 7, none, .mv (.t 38), none⟩])
 (.ret))
 (.skip))))
 (.keep [0, 2, 4, 8, 9] (.seq (.ops [⟨some 39, none, .mv (.t 9), none⟩,
 ⟨some 40, none, .not (.t 39), none⟩])
 (.keep [0, 2, 4, 8, 40] (.cond (.t 40)
 (.seq (.ops [⟨some 6, none, .mv (.c (.bool false)), none⟩,
 ⟨some 7, none, .mv (.c (.int .i64 0)), none⟩])
 (.ret))
 (.skip)))))))))
 (.keep [0, 2, 4, 8] (.ops [⟨some 19, none, .mv (.t 8), none⟩,
 ⟨some 20, none, .bin .add (.t 19) (.c (.int .i64 1)), none⟩,
 ⟨some 8, none, .mv (.t 20), none⟩]))))
def J_ref12_Backed : AFn :=
 ⟨41, [.t 6, .t 7], .seq (.ops [⟨some 4, none, .box (.t 1) [], none⟩,
 ⟨some 6, none, .mv (.c (.bool false)), none⟩,
 ⟨some 7, none, .mv (.c (.int .i64 0)), none⟩])
 (.keep [0, 2, 4] (.seq (.seq (.ops [⟨some 11, none, .load (some 7) (.t 4), none⟩,
 ⟨some 12, none, .call (.f 41) [(.t 11)], none⟩,
 ⟨some 13, none, .bin .neq (.t 12) (.c (.int .i64 0)), none⟩])
 (.keep [0, 2, 4, 13] (.cond (.t 13)
 (.seq (.ops [⟨some 6, none, .mv (.c (.bool false)), none⟩,
 ⟨some 7, none, .mv (.c (.int .i64 2)), none⟩])
 (.ret))
 (.skip))))
 (.keep [0, 2, 4] (.seq (.seq (.ops [⟨some 8, none, .mv (.c (.int .i64 0)), none⟩])
 (.keep [0, 2, 4, 8] (.block 0 (.loop [0, 2, 4, 8] (J_ref12_Backed_j2)))))
 (J_ref12_Backed_j1)))))⟩
theorem J_ref12_Backed_ok : chkFn Try.prog 43 J_ref12_Backed = true := by kernel_rfl
def J_ref11_Find_j1 : ACode :=
 .keep [8] (.seq (.ops [⟨some 123, none, .mv (.t 8), none⟩,
 ⟨some 6, none, .mv (.t 123), none⟩,
 ⟨some 7, none, .mv (.c (.int .i64 0)), none⟩])
 (.ret))
def J_ref11_Find_j2 : ACode :=
 .keep [0, 2, 8, 9] (.ops [⟨some 41, none, .mv (.t 9), none⟩,
 ⟨some 42, none, .bin .add (.t 41) (.c (.int .i64 1)), none⟩,
 ⟨some 9, none, .mv (.t 42), none⟩])
def J_ref11_Find_j3 : ACode :=
 .keep [0, 2, 8, 9, 10] (.ops [⟨some 54, none, .mv (.t 10), none⟩,
 ⟨some 55, none, .bin .add (.t 54) (.c (.int .i64 1)), none⟩,
 ⟨some 10, none, .mv (.t 55), none⟩])
def J_ref11_Find_j4 : ACode :=
 .keep [0, 2, 8, 9, 10, 11] (.ops [⟨some 60, none, .mv (.t 11), none⟩,
 ⟨some 61, none, .bin .add (.t 60) (.c (.int .i64 1)), none⟩,
 ⟨some 11, none, .mv (.t 61), none⟩])
def J_ref11_Find_j5 : ACode :=
 .seq (.seq (.ops [⟨some 56, none, .mv (.t 11), none⟩,
 ⟨some 57, none, .mv (.t 0), none⟩,
 ⟨some 58, none, .lenl (.t 57), none⟩,
 ⟨some 59, none, .bin .lss (.t 56) (.t 58), none⟩])
 (.keep [0, 2, 8, 9, 10, 11, 59] (.cond (.t 59)
 (.skip)
 (.exit 4))))
 (.keep [0, 2, 8, 9, 10, 11] (.seq (.block 5 (.seq (.ops [⟨some 62, none, .mv (.t 10), none⟩,
 ⟨some 63, none, .mv (.t 11), none⟩,
 ⟨some 64, none, .build [(.int .i64 0), (.int .i64 0)] [(0, 1, (.t 62)), (1, 1, (.t 63))], none⟩,
 ⟨some 12, none, .new [(.int .i64 0), (.int .i64 0)] [], none⟩,
 ⟨none, none, .stores 2 (.t 12) (.t 64), none⟩])
 (.keep [0, 2, 8, 9, 10, 11, 12] (.seq (.draw [0, 2, 8, 9, 10, 11, 12, 13, 14] [⟨some 66, none, .mv (.t 0), none⟩,
 ⟨some 67, none, .mv (.t 8), none⟩,
 ⟨some 68, none, .nilck (.t 67), none⟩,
 ⟨some 69, none, .fld 0 (.t 68), none⟩,
 ⟨some 70, none, .load none (.t 69), none⟩,
 ⟨some 71, none, .mv (.t 9), none⟩,
 ⟨some 72, none, .idxa 1 (.t 70) (.t 71), none⟩,
 ⟨some 73, none, .load none (.t 72), none⟩,
 ⟨some 74, none, .lds (some 2) (.t 12), none⟩,
 ⟨some 75, none, .call (.f 62) [(.t 66), (.t 73), (.t 74)], none⟩,
 ⟨some 65, none, .mv (.t 75), none⟩,
 ⟨some 76, none, .ext 0 (.t 65), none⟩,
 ⟨some 77, none, .ext 1 (.t 65), none⟩,
 ⟨some 13, none, .mv (.t 76), none⟩,
 ⟨some 14, none, .mv (.t 77), none⟩])
 (.keep [0, 2, 8, 9, 10, 11, 12, 13, 14] (.seq (.seq (.ops [⟨some 78, none, .mv (.t 14), none⟩,
 ⟨some 79, none, .not (.t 78), none⟩,
 ⟨some 80, none, .mv (.t 79), none⟩,
 ⟨some 81, (some (80, false)), .mv (.t 8), none⟩,
 ⟨some 82, (some (80, false)), .mv (.t 13), none⟩,
 ⟨some 83, (some (80, false)), .call (.f 63) [(.t 81), (.t 82)], none⟩,
 ⟨some 84, (some (80, false)), .bin .geq (.t 83) (.c (.int .i64 0)), none⟩,
 ⟨some 85, none, .pick (.t 80) (.c (.bool true)) (.t 84), none⟩])
 (.keep [0, 2, 8, 9, 10, 11, 12, 13, 85] (.cond (.t 85)
 (.exit 5)
 (.skip))))
 (.keep [0, 2, 8, 9, 10, 11, 12, 13] (.seq (.seq (.ops [⟨some 86, none, .mv (.t 8), none⟩,
 ⟨some 87, none, .nilck (.t 86), none⟩,
 ⟨some 88, none, .fld 0 (.t 87), none⟩,
 ⟨some 89, none, .load none (.t 88), none⟩,
 ⟨some 90, none, .lenl (.t 89), none⟩,
 ⟨some 91, none, .mv (.t 2), none⟩,
 ⟨some 92, none, .bin .eql (.t 90) (.t 91), none⟩])
 (.keep [0, 2, 8, 9, 10, 11, 12, 13, 92] (.cond (.t 92)
 (.seq (.ops [⟨some 6, none, .mv (.c .nilp), none⟩,
 ⟨some 7, none, .mv (.c (.int .i64 12)), none⟩])
 (.ret))
 (.skip))))
 (.keep [0, 2, 8, 9, 10, 11, 12, 13] (.seq (.ops [⟨some 93, none, .mv (.t 8), none⟩,
 ⟨some 94, none, .mv (.t 8), none⟩,
 ⟨some 95, none, .nilck (.t 94), none⟩,
 ⟨some 96, none, .fld 0 (.t 95), none⟩,
 ⟨some 97, none, .loado (.t 96), none⟩,
 ⟨some 98, none, .mv (.t 13), none⟩,
 ⟨some 99, none, .bslc 27 1 1 [(.str ⟨#[]⟩)] [(0, 1, (.t 98))], none⟩,
 ⟨some 100, none, .appo 27 1 16 97 (.t 99), none⟩,
 ⟨some 101, none, .nilck (.t 93), none⟩,
 ⟨some 102, none, .fld 0 (.t 101), none⟩,
 ⟨none, none, .storeo (.t 102) 100, none⟩])
 (.keep [0, 2, 8, 9, 10, 11, 12] (.seq (.ops [⟨some 103, none, .mv (.t 8), none⟩,
 ⟨some 104, none, .mv (.t 8), none⟩,
 ⟨some 105, none, .nilck (.t 104), none⟩,
 ⟨some 106, none, .fld 1 (.t 105), none⟩,
 ⟨some 107, none, .loado (.t 106), none⟩,
 ⟨some 108, none, .mv (.t 9), none⟩,
 ⟨some 109, none, .bslc 3 1 1 [(.int .i64 0)] [(0, 1, (.t 108))], none⟩,
 ⟨some 110, none, .appo 3 1 8 107 (.t 109), none⟩,
 ⟨some 111, none, .nilck (.t 103), none⟩,
 ⟨some 112, none, .fld 1 (.t 111), none⟩,
 ⟨none, none, .storeo (.t 112) 110, none⟩])
 (.keep [0, 2, 8, 9, 10, 11, 12] (.draw [0, 2, 8, 9, 10, 11] [⟨some 113, none, .mv (.t 8), none⟩,
 ⟨some 114, none, .mv (.t 8), none⟩,
 ⟨some 115, none, .nilck (.t 114), none⟩,
 ⟨some 116, none, .fld 2 (.t 115), none⟩,
 ⟨some 117, none, .loado (.t 116), none⟩,
 ⟨some 118, none, .lds (some 2) (.t 12), none⟩,
 ⟨some 119, none, .bsl 116 2 1 [(.int .i64 0), (.int .i64 0)] [(0, 2, (.t 118))], none⟩,
 ⟨some 120, none, .appo 116 2 16 117 (.t 119), none⟩,
 ⟨some 121, none, .nilck (.t 113), none⟩,
 ⟨some 122, none, .fld 2 (.t 121), none⟩,
 ⟨none, none, .storeo (.t 122) 120, none⟩]))))))))))))))
 (J_ref11_Find_j4)))
def J_ref11_Find_j6 : ACode :=
 .seq (.seq (.ops [⟨some 43, none, .mv (.t 10), none⟩,
 ⟨some 44, none, .mv (.t 8), none⟩,
 ⟨some 45, none, .nilck (.t 44), none⟩,
 ⟨some 46, none, .fld 0 (.t 45), none⟩,
 ⟨some 47, none, .load none (.t 46), none⟩,
 ⟨some 48, none, .mv (.t 9), none⟩,
 ⟨some 49, none, .idxa 1 (.t 47) (.t 48), none⟩,
 ⟨some 50, none, .load none (.t 49), none⟩,
 ⟨some 51, none, .lens (.t 50), none⟩,
 ⟨some 52, none, .bin .quo (.t 51) (.c (.int .i64 2)), none⟩,
 ⟨some 53, none, .bin .lss (.t 43) (.t 52), none⟩])
 (.keep [0, 2, 8, 9, 10, 53] (.cond (.t 53)
 (.skip)
 (.exit 2))))
 (.keep [0, 2, 8, 9, 10] (.seq (.block 3 (.seq (.ops [⟨some 11, none, .mv (.c (.int .i64 0)), none⟩])
 (.keep [0, 2, 8, 9, 10, 11] (.block 4 (.loop [0, 2, 8, 9, 10, 11] (J_ref11_Find_j5))))))
 (J_ref11_Find_j3)))
def J_ref11_Find_j7 : ACode :=
 .seq (.seq (.ops [⟨some 34, none, .mv (.t 9), none⟩,
 ⟨some 35, none, .mv (.t 8), none⟩,
 ⟨some 36, none, .nilck (.t 35), none⟩,
 ⟨some 37, none, .fld 0 (.t 36), none⟩,
 ⟨some 38, none, .load none (.t 37), none⟩,
 ⟨some 39, none, .lenl (.t 38), none⟩,
 ⟨some 40, none, .bin .lss (.t 34) (.t 39), none⟩])
 (.keep [0, 2, 8, 9, 40] (.cond (.t 40)
 (.skip)
 (.exit 0))))
 (.keep [0, 2, 8, 9] (.seq (.block 1 (.seq (.ops [⟨some 10, none, .mv (.c (.int .i64 0)), none⟩])
 (.keep [0, 2, 8, 9, 10] (.block 2 (.loop [0, 2, 8, 9, 10] (J_ref11_Find_j6))))))
 (J_ref11_Find_j2)))
def J_ref11_Find : AFn :=
 ⟨124, [.t 6, .t 7], .seq (.ops [⟨some 6, none, .mv (.c .nilp), none⟩,
 ⟨some 7, none, .mv (.c (.int .i64 0)), none⟩])
 (.keep [0, 1, 2] (.seq (.seq (.ops [⟨some 15, none, .mv (.t 1), none⟩,
 ⟨some 16, none, .call (.f 28) [(.t 15)], none⟩,
 ⟨some 17, none, .not (.t 16), none⟩])
 (.keep [0, 1, 2, 17] (.cond (.t 17)
 (.seq (.ops [⟨some 6, none, .mv (.c .nilp), none⟩,
 ⟨some 7, none, .mv (.c (.int .i64 2)), none⟩])
 (.ret))
 (.skip))))
 (.keep [0, 1, 2] (.seq (.seq (.ops [⟨some 18, none, .mv (.t 2), none⟩,
 ⟨some 19, none, .bin .lss (.t 18) (.c (.int .i64 1)), none⟩,
 ⟨some 20, none, .mv (.t 19), none⟩,
 ⟨some 21, (some (20, false)), .mv (.t 2), none⟩,
 ⟨some 22, (some (20, false)), .bin .gtr (.t 21) (.c (.int .i64 5000)), none⟩,
 ⟨some 23, none, .pick (.t 20) (.c (.bool true)) (.t 22), none⟩])
 (.keep [0, 1, 2, 23] (.cond (.t 23)
 (.seq (.ops [⟨some 6, none, .mv (.c .nilp), none⟩,
 ⟨some 7, none, .mv (.c (.int .i64 1)), none⟩])
 (.ret))
 (.skip))))
 (.keep [0, 1, 2] (.seq (.seq (.ops [⟨some 24, none, .mv (.t 0), none⟩,
 ⟨some 25, none, .lenl (.t 24), none⟩,
 ⟨some 26, none, .bin .gtr (.t 25) (.c (.int .i64 400)), none⟩])
 (.keep [0, 1, 2, 26] (.cond (.t 26)
 (.seq (.ops [⟨some 6, none, .mv (.c .nilp), none⟩,
 ⟨some 7, none, .mv (.c (.int .i64 3)), none⟩])
 (.ret))
 (.skip))))
 (.keep [0, 1, 2] (.seq (.ops [⟨some 27, none, .mv (.t 1), none⟩,
 ⟨some 28, none, .bslc 27 1 1 [(.str ⟨#[]⟩)] [(0, 1, (.t 27))], none⟩,
 ⟨some 29, none, .bslc 3 1 1 [(.int .i64 0)] [(0, 1, (.c (.int .i64 (-1))))], none⟩,
 ⟨some 30, none, .build [(.int .i64 0), (.int .i64 0)] [], none⟩,
 ⟨some 31, none, .bslc 116 2 1 [(.int .i64 0), (.int .i64 0)] [(0, 2, (.t 30))], none⟩,
 ⟨some 32, none, .build [(.lst .clip 0 []), (.lst .clip 0 []), (.lst .clip 0 [])] [(0, 1, (.t 28)), (1, 1, (.t 29)), (2, 1, (.t 31))], none⟩,
 ⟨some 33, none, .box (.t 32) [(0, 27, 1), (1, 3, 1), (2, 116, 2)], none⟩,
 ⟨some 8, none, .mv (.t 33), none⟩])
 (.keep [0, 2, 8] (.seq (.seq (.ops [⟨some 9, none, .mv (.c (.int .i64 0)), none⟩])
 (.keep [0, 2, 8, 9] (.block 0 (.loop [0, 2, 8, 9] (J_ref11_Find_j7)))))
 (J_ref11_Find_j1)))))))))))⟩
theorem J_ref11_Find_ok : chkFn Try.prog 45 J_ref11_Find = true := by kernel_rfl
def J_ref11_Leads : AFn :=
 ⟨26, [.t 8, .t 9], .seq (.ops [⟨some 8, none, .mv (.c (.bool false)), none⟩,
 ⟨some 9, none, .mv (.c (.int .i64 0)), none⟩])
 (.keep [0, 1, 2, 3] (.seq (.ops [⟨some 13, none, .mv (.t 0), none⟩,
 ⟨some 14, none, .mv (.t 1), none⟩,
 ⟨some 15, none, .mv (.t 3), none⟩,
 ⟨some 16, none, .call (.f 45) [(.t 13), (.t 14), (.t 15)], none⟩,
 ⟨some 12, none, .mv (.t 16), none⟩,
 ⟨some 17, none, .ext 0 (.t 12), none⟩,
 ⟨some 18, none, .ext 1 (.t 12), none⟩,
 ⟨some 10, none, .mv (.t 17), none⟩,
 ⟨some 11, none, .mv (.t 18), none⟩])
 (.keep [2, 10, 11] (.seq (.seq (.ops [⟨some 19, none, .mv (.t 11), none⟩,
 ⟨some 20, none, .bin .neq (.t 19) (.c (.int .i64 0)), none⟩])
 (.keep [2, 10, 11, 20] (.cond (.t 20)
 (.seq (.ops [⟨some 21, none, .mv (.t 11), none⟩,
 ⟨some 8, none, .mv (.c (.bool false)), none⟩,
 ⟨some 9, none, .mv (.t 21), none⟩])
 (.ret))
 (.skip))))
 (.keep [2, 10] (.seq (.ops [⟨some 22, none, .mv (.t 10), none⟩,
 ⟨some 23, none, .mv (.t 2), none⟩,
 ⟨some 24, none, .call (.f 63) [(.t 22), (.t 23)], none⟩,
 ⟨some 25, none, .bin .geq (.t 24) (.c (.int .i64 0)), none⟩,
 ⟨some 8, none, .mv (.t 25), none⟩,
 ⟨some 9, none, .mv (.c (.int .i64 0)), none⟩])
 (.ret)))))))⟩
theorem J_ref11_Leads_ok : chkFn Try.prog 61 J_ref11_Leads = true := by kernel_rfl
def J_ref11_Use : AFn :=
 ⟨71, [.t 6, .t 7], .seq (.ops [⟨some 5, none, .box (.t 2) [], none⟩,
 ⟨some 6, none, .mv (.c (.str ⟨#[]⟩)), none⟩,
 ⟨some 7, none, .mv (.c (.bool false)), none⟩])
 (.keep [0, 1, 5] (.seq (.seq (.ops [⟨some 14, none, .fld 1 (.t 5), none⟩,
 ⟨some 15, none, .load none (.t 14), none⟩,
 ⟨some 16, none, .bin .lss (.t 15) (.c (.int .i64 0)), none⟩,
 ⟨some 17, none, .mv (.t 16), none⟩,
 ⟨some 18, (some (17, false)), .fld 1 (.t 5), none⟩,
 ⟨some 19, (some (17, false)), .load none (.t 18), none⟩,
 ⟨some 20, (some (17, false)), .mv (.t 0), none⟩,
 ⟨some 21, (some (17, false)), .lenl (.t 20), none⟩,
 ⟨some 22, (some (17, false)), .bin .geq (.t 19) (.t 21), none⟩,
 ⟨some 23, none, .pick (.t 17) (.c (.bool true)) (.t 22), none⟩,
 ⟨some 24, none, .mv (.t 23), none⟩,
 ⟨some 25, (some (24, false)), .mv (.t 0), none⟩,
 ⟨some 26, (some (24, false)), .fld 1 (.t 5), none⟩,
 ⟨some 27, (some (24, false)), .load none (.t 26), none⟩,
 ⟨some 28, (some (24, false)), .idxa 2 (.t 25) (.t 27), none⟩,
 ⟨some 29, (some (24, false)), .load (some 2) (.t 28), none⟩,
 ⟨some 30, (some (24, false)), .call (.f 18) [(.t 29)], none⟩,
 ⟨some 31, (some (24, false)), .not (.t 30), none⟩,
 ⟨some 32, none, .pick (.t 24) (.c (.bool true)) (.t 31), none⟩])
 (.keep [0, 1, 5, 32] (.cond (.t 32)
 (.seq (.ops [⟨some 6, none, .mv (.c (.str ⟨#[]⟩)), none⟩,
 ⟨some 7, none, .mv (.c (.bool false)), none⟩])
 (.ret))
 (.skip))))
 (.keep [0, 1, 5] (.seq (.ops [⟨some 33, none, .mv (.t 0), none⟩,
 ⟨some 34, none, .fld 1 (.t 5), none⟩,
 ⟨some 35, none, .load none (.t 34), none⟩,
 ⟨some 36, none, .idxa 2 (.t 33) (.t 35), none⟩,
 ⟨some 37, none, .load (some 2) (.t 36), none⟩,
 ⟨some 8, none, .new [(.str ⟨#[]⟩), (.str ⟨#[]⟩)] [], none⟩,
 ⟨none, none, .stores 2 (.t 8) (.t 37), none⟩])
 (.keep [1, 5, 8] (.seq (.ops [⟨some 38, none, .fld 0 (.t 8), none⟩,
 ⟨some 39, none, .load none (.t 38), none⟩,
 ⟨some 40, none, .lens (.t 39), none⟩,
 ⟨some 41, none, .bin .quo (.t 40) (.c (.int .i64 2)), none⟩,
 ⟨some 9, none, .mv (.t 41), none⟩])
 (.keep [1, 5, 8, 9] (.seq (.ops [⟨some 43, none, .mv (.t 1), none⟩,
 ⟨some 44, none, .fld 0 (.t 5), none⟩,
 ⟨some 45, none, .load none (.t 44), none⟩,
 ⟨some 46, none, .mv (.t 9), none⟩,
 ⟨some 47, none, .call (.f 70) [(.t 43), (.t 45), (.t 46)], none⟩,
 ⟨some 42, none, .mv (.t 47), none⟩,
 ⟨some 48, none, .ext 0 (.t 42), none⟩,
 ⟨some 49, none, .ext 1 (.t 42), none⟩,
 ⟨some 10, none, .mv (.t 48), none⟩,
 ⟨some 11, none, .mv (.t 49), none⟩])
 (.keep [1, 5, 8, 9, 10, 11] (.seq (.seq (.ops [⟨some 50, none, .mv (.t 11), none⟩,
 ⟨some 51, none, .bin .neq (.t 50) (.c (.int .i64 0)), none⟩,
 ⟨some 52, none, .mv (.t 51), none⟩,
 ⟨some 53, (some (52, false)), .mv (.t 10), none⟩,
 ⟨some 54, (some (52, false)), .fld 0 (.t 8), none⟩,
 ⟨some 55, (some (52, false)), .load none (.t 54), none⟩,
 ⟨some 56, (some (52, false)), .bin .neq (.t 53) (.t 55), none⟩,
 ⟨some 57, none, .pick (.t 52) (.c (.bool true)) (.t 56), none⟩])
 (.keep [1, 5, 8, 9, 57] (.cond (.t 57)
 (.seq (.ops [⟨some 6, none, .mv (.c (.str ⟨#[]⟩)), none⟩,
 ⟨some 7, none, .mv (.c (.bool false)), none⟩])
 (.ret))
 (.skip))))
 (.keep [1, 5, 8, 9] (.seq (.ops [⟨some 59, none, .mv (.t 1), none⟩,
 ⟨some 60, none, .fld 0 (.t 5), none⟩,
 ⟨some 61, none, .load none (.t 60), none⟩,
 ⟨some 62, none, .mv (.t 9), none⟩,
 ⟨some 63, none, .fld 1 (.t 8), none⟩,
 ⟨some 64, none, .load none (.t 63), none⟩,
 ⟨some 65, none, .call (.f 71) [(.t 59), (.t 61), (.t 62), (.t 64)], none⟩,
 ⟨some 58, none, .mv (.t 65), none⟩,
 ⟨some 66, none, .ext 0 (.t 58), none⟩,
 ⟨some 67, none, .ext 1 (.t 58), none⟩,
 ⟨some 12, none, .mv (.t 66), none⟩,
 ⟨some 13, none, .mv (.t 67), none⟩])
 (.keep [12, 13] (.seq (.ops [⟨some 68, none, .mv (.t 12), none⟩,
 ⟨some 69, none, .mv (.t 13), none⟩,
 ⟨some 70, none, .bin .eql (.t 69) (.c (.int .i64 0)), none⟩,
 ⟨some 6, none, .mv (.t 68), none⟩,
 ⟨some 7, none, .mv (.t 70), none⟩])
 (.ret)))))))))))))))⟩
theorem J_ref11_Use_ok : chkFn Try.prog 62 J_ref11_Use = true := by kernel_rfl
def J_ref11_Row_Place_j1 : ACode :=
 .keep [] (.seq (.ops [⟨some 4, none, .mv (.c (.int .i64 (-1))), none⟩])
 (.ret))
def J_ref11_Row_Place_j2 : ACode :=
 .seq (.seq (.ops [⟨some 6, none, .mv (.t 5), none⟩,
 ⟨some 7, none, .mv (.t 0), none⟩,
 ⟨some 8, none, .nilck (.t 7), none⟩,
 ⟨some 9, none, .fld 0 (.t 8), none⟩,
 ⟨some 10, none, .load none (.t 9), none⟩,
 ⟨some 11, none, .lenl (.t 10), none⟩,
 ⟨some 12, none, .bin .lss (.t 6) (.t 11), none⟩])
 (.keep [0, 1, 5, 12] (.cond (.t 12)
 (.skip)
 (.exit 0))))
 (.keep [0, 1, 5] (.seq (.block 1 (.seq (.ops [⟨some 15, none, .mv (.t 0), none⟩,
 ⟨some 16, none, .nilck (.t 15), none⟩,
 ⟨some 17, none, .fld 0 (.t 16), none⟩,
 ⟨some 18, none, .load none (.t 17), none⟩,
 ⟨some 19, none, .mv (.t 5), none⟩,
 ⟨some 20, none, .idxa 1 (.t 18) (.t 19), none⟩,
 ⟨some 21, none, .load none (.t 20), none⟩,
 ⟨some 22, none, .mv (.t 1), none⟩,
 ⟨some 23, none, .bin .eql (.t 21) (.t 22), none⟩])
 (.keep [0, 1, 5, 23] (.cond (.t 23)
 (.seq (.ops [⟨some 24, none, .mv (.t 5), none⟩,
 ⟨some 4, none, .mv (.t 24), none⟩])
 (.ret))
 (.skip)))))
 (.keep [0, 1, 5] (.ops [⟨some 13, none, .mv (.t 5), none⟩,
 ⟨some 14, none, .bin .add (.t 13) (.c (.int .i64 1)), none⟩,
 ⟨some 5, none, .mv (.t 14), none⟩]))))
def J_ref11_Row_Place : AFn :=
 ⟨25, [.t 4], .seq (.ops [⟨some 4, none, .mv (.c (.int .i64 0)), none⟩])
 (.keep [0, 1] (.seq (.seq (.ops [⟨some 5, none, .mv (.c (.int .i64 0)), none⟩])
 (.keep [0, 1, 5] (.block 0 (.loop [0, 1, 5] (J_ref11_Row_Place_j2)))))
 (J_ref11_Row_Place_j1)))⟩
theorem J_ref11_Row_Place_ok : chkFn Try.prog 63 J_ref11_Row_Place = true := by kernel_rfl
end Go.Proofs.Ytlfnepcglnjogaa

/- The abstract layer: laws of the walk for rows that grow and shrink, and for calls that only look. -/
namespace Go.Proofs.Ytlfnepcglnjogaa
set_option linter.unusedSimpArgs false
set_option linter.unusedVariables false
open Go.RowKit Go.Lib

theorem wop_k (P : Program) (d : Option Nat) (o : KOp) (fr : Fr) (h : Hp) (K : Fr → Hp → Prop) : wop P d (.k o) fr h K = (kF o fr h (fun a h' => K (put d a (ktk o fr)) h')) := id rfl
theorem eff_k (P : Program) (o : KOp) (fr : Fr) (h : Hp) (R : AV → Hp → Prop) : eff P (.k o) fr h R = (kF o fr h R) := id rfl
theorem tk_k (o : KOp) (fr : Fr) : tk (.k o) fr = (ktk o fr) := id rfl
theorem effF_kld (P : Program) (b : FB) (x : Opd) (fr : Fr) (h : Hp) (R : AV → Hp → Prop) : effF P b (.k (.ld x)) fr h R = (sameId (ev fr x) (fbId b fr h) ∧ kF (.ld x) fr h R) := id rfl
theorem wop_callr (P : Program) (d : Option Nat) (f : Opd) (args : List Opd) (fr : Fr) (h : Hp) (K : Fr → Hp → Prop) : wop P d (.callr f args) fr h K = (match ev fr f, evs fr args with
    | some (.fn f' caps), some l => ACalls P f' (l ++ caps) h (kcall d fr K)
    | _, _ => False) := id rfl
theorem eff_callr (P : Program) (f : Opd) (args : List Opd) (fr : Fr) (h : Hp) (R : AV → Hp → Prop) : eff P (.callr f args) fr h R = (match ev fr f, evs fr args with
    | some (.fn f' caps), some l => ∃ v, (∀ h0 : Hp, SameU h0 h → ACalls P f' (l ++ caps) h0 (fun a h' => a = v ∧ h' = h0)) ∧ R v h
    | _, _ => False) := id rfl
theorem tk_callr (f : Opd) (args : List Opd) (fr : Fr) : tk (.callr f args) fr = (fr) := id rfl
theorem kF_mk (e : Nat) (x : Opd) (fr : Fr) (h : Hp) (R : AV → Hp → Prop) : kF (.mk e x) fr h R = (match ev fr x with
    | some (.lst .clip 0 []) => R (.stk e none []) h
    | _ => False) := id rfl
theorem kF_mv (k : Nat) (fr : Fr) (h : Hp) (R : AV → Hp → Prop) : kF (.mv k) fr h R = (match lk fr k with
    | some (.stk e o l) => R (.stk e o l) h
    | _ => False) := id rfl
theorem kF_ld (x : Opd) (fr : Fr) (h : Hp) (R : AV → Hp → Prop) : kF (.ld x) fr h R = (match ev fr x with
    | some (.ptr id off) => (match h[id]? with
      | some (some (false, c)) => (match c[off]? with
        | some (.stk e o l) => R (.stk e o l) (h.set id (some (false, c.set off .opq)))
        | _ => False)
      | _ => False)
    | _ => False) := id rfl
theorem kF_st (a : Opd) (k : Nat) (fr : Fr) (h : Hp) (R : AV → Hp → Prop) : kF (.st a k) fr h R = (match ev fr a, lk fr k with
    | some (.ptr id off), some (.stk e o l) => (match h[id]? with
      | some (some (false, c)) => off < c.length ∧ R .nilp (h.set id (some (false, c.set off (.stk e o l))))
      | _ => False)
    | _, _ => False) := id rfl
theorem kF_ap (e b k : Nat) (y : Opd) (fr : Fr) (h : Hp) (R : AV → Hp → Prop) : kF (.ap e b k y) fr h R = (match lk fr k, ev fr y with
    | some (.stk e' _ l), some (.lst _ 1 [.int .i64 x]) => (e' = e ∧ l.length + 1 ≤ 9223372036854775807 ∧ (l.length + 1) * b ≤ 140737488355328) ∧ R (.stk e none (l ++ [x])) h
    | _, _ => False) := id rfl
theorem kF_cut (k : Nat) (j : Opd) (fr : Fr) (h : Hp) (R : AV → Hp → Prop) : kF (.cut k j) fr h R = (match lk fr k, ev fr j with
    | some (.stk e _ l), some (.int _ m) => (0 ≤ m ∧ m ≤ l.length) ∧ R (.stk e none (l.take m.toNat)) h
    | _, _ => False) := id rfl
theorem kF_pop (a x : Opd) (fr : Fr) (h : Hp) (R : AV → Hp → Prop) : kF (.pop a x) fr h R = (match ev fr a, ev fr x with
    | some (.ptr id off), some (.raw v n) => (match h[id]? with
      | some (some (false, c)) => (match c[off]? with
        | some (.stk e (some u) l) => (n ≤ l.length ∧ v = cutV u n) ∧ R .nilp (h.set id (some (false, c.set off (.stk e (some v) (l.take n)))))
        | _ => False)
      | _ => False)
    | _, _ => False) := id rfl
theorem kF_pk (k : Nat) (x : Opd) (fr : Fr) (h : Hp) (R : AV → Hp → Prop) : kF (.pk k x) fr h R = (match lk fr k, ev fr x with
    | some (.stk _ (some u) l), some (.rawp v i) => (v = u ∧ i < l.length) ∧ R (.int .i64 (l.getD i 0)) h
    | _, _ => False) := id rfl
theorem kF_po (a x : Opd) (fr : Fr) (h : Hp) (R : AV → Hp → Prop) : kF (.po a x) fr h R = (match ev fr a, ev fr x with
    | some (.ptr id off), some (.rawp v i) => (match h[id]? with
      | some (some (false, c)) => (match c[off]? with
        | some (.stk _ (some u) l) => (v = u ∧ i < l.length) ∧ R (.int .i64 (l.getD i 0)) h
        | _ => False)
      | _ => False)
    | _, _ => False) := id rfl
theorem kF_len (x : Opd) (fr : Fr) (h : Hp) (R : AV → Hp → Prop) : kF (.len x) fr h R = (match ev fr x with
    | some (.raw _ n) => R (.int .i64 n) h
    | _ => False) := id rfl
theorem kF_sl (x j : Opd) (fr : Fr) (h : Hp) (R : AV → Hp → Prop) : kF (.sl x j) fr h R = (match ev fr x, ev fr j with
    | some (.raw v n), some (.int _ m) => (0 ≤ m ∧ m ≤ n) ∧ R (.raw (cutV v m.toNat) m.toNat) h
    | _, _ => False) := id rfl
theorem kF_ix (x i : Opd) (fr : Fr) (h : Hp) (R : AV → Hp → Prop) : kF (.ix x i) fr h R = (match ev fr x, ev fr i with
    | some (.raw v n), some (.int _ i) => (0 ≤ i ∧ i < n) ∧ R (.rawp v i.toNat) h
    | _, _ => False) := id rfl
theorem kF_new (l : List AV) (u : List (Nat × Nat × Nat)) (ks : List (Nat × Nat)) (fr : Fr) (h : Hp) (R : AV → Hp → Prop) : kF (.new l u ks) fr h R = (upgK u l (fun l' => ksetK ks l' (fun l'' => R (.ptr h.length 0) (h ++ [some (false, l'')])))) := id rfl
theorem ksetK_nil (l : List AV) (K : List AV → Prop) : ksetK [] l K = (K l) := id rfl
theorem ksetK_cons (i e : Nat) (r : List (Nat × Nat)) (l : List AV) (K : List AV → Prop) : ksetK ((i, e) :: r) l K = (match l[i]? with
    | some (.lst .clip 0 []) => ksetK r (l.set i (.stk e none [])) K
    | _ => False) := id rfl
theorem ktk_mk (e : Nat) (x : Opd) (fr : Fr) : ktk (.mk e x) fr = (fr) := id rfl
theorem ktk_mv (k : Nat) (fr : Fr) : ktk (.mv k) fr = (degr k fr) := id rfl
theorem ktk_ld (x : Opd) (fr : Fr) : ktk (.ld x) fr = (fr) := id rfl
theorem ktk_st (a : Opd) (k : Nat) (fr : Fr) : ktk (.st a k) fr = (degr k fr) := id rfl
theorem ktk_ap (e b k : Nat) (y : Opd) (fr : Fr) : ktk (.ap e b k y) fr = (degr k fr) := id rfl
theorem ktk_cut (k : Nat) (j : Opd) (fr : Fr) : ktk (.cut k j) fr = (degr k fr) := id rfl
theorem ktk_pop (a x : Opd) (fr : Fr) : ktk (.pop a x) fr = (fr) := id rfl
theorem ktk_pk (k : Nat) (x : Opd) (fr : Fr) : ktk (.pk k x) fr = (fr) := id rfl
theorem ktk_po (a x : Opd) (fr : Fr) : ktk (.po a x) fr = (fr) := id rfl
theorem ktk_len (x : Opd) (fr : Fr) : ktk (.len x) fr = (fr) := id rfl
theorem ktk_sl (x j : Opd) (fr : Fr) : ktk (.sl x j) fr = (fr) := id rfl
theorem ktk_ix (x i : Opd) (fr : Fr) : ktk (.ix x i) fr = (fr) := id rfl
theorem ktk_new (l : List AV) (u : List (Nat × Nat × Nat)) (ks : List (Nat × Nat)) (fr : Fr) : ktk (.new l u ks) fr = (fr) := id rfl
theorem W_nms (P : Program) (k : Nat) (a : ACode) (fr : Fr) (h : Hp) (Q : Exit → Fr → Hp → Prop) : W P (.nms k a) fr h Q = (match lk fr k with
    | some (.stk e none l) => ∀ v, W P a ((k, .stk e (some v) l) :: fr) h Q
    | _ => W P a fr h Q) := id rfl
theorem W_nmo (P : Program) (k off : Nat) (a : ACode) (fr : Fr) (h : Hp) (Q : Exit → Fr → Hp → Prop) : W P (.nmo k off a) fr h Q = (match lk fr k with
    | some (.ptr id _) => (match h[id]? with
      | some (some (false, c)) => (match c[off]? with
        | some (.stk e none l) => ∀ v, W P a fr (h.set id (some (false, c.set off (.stk e (some v) l)))) Q
        | _ => W P a fr h Q)
      | _ => W P a fr h Q)
    | _ => W P a fr h Q) := id rfl
theorem deg_stks (e : TypeId) (v : Value) (l : List Int) : deg (.stk e (some v) l) = (.raw v l.length) := id rfl
theorem deg_stkn (e : TypeId) (l : List Int) : deg (.stk e none l) = (.opq) := id rfl
theorem deg_raw (v : Value) (n : Nat) : deg (.raw v n) = (.raw v n) := id rfl
theorem isTup_raw (v : Value) (n : Nat) : isTup (.raw v n) = (false) := id rfl
theorem cellsOf_raw (v : Value) (n : Nat) : cellsOf (.raw v n) = ([.raw v n]) := id rfl
theorem deg_rawp (v : Value) (n : Nat) : deg (.rawp v n) = (.rawp v n) := id rfl
theorem isTup_rawp (v : Value) (n : Nat) : isTup (.rawp v n) = (false) := id rfl
theorem cellsOf_rawp (v : Value) (n : Nat) : cellsOf (.rawp v n) = ([.rawp v n]) := id rfl
theorem wkr : type_of% (And.intro (And.intro (And.intro (And.intro (And.intro (@wop_k) (@eff_k)) (And.intro (@tk_k) (And.intro (@effF_kld) (@wop_callr)))) (And.intro (And.intro (@eff_callr) (And.intro (@tk_callr) (@kF_mk))) (And.intro (@kF_mv) (And.intro (@kF_ld) (@kF_st))))) (And.intro (And.intro (And.intro (@kF_ap) (@kF_cut)) (And.intro (@kF_pop) (And.intro (@kF_pk) (@kF_po)))) (And.intro (And.intro (@kF_len) (And.intro (@kF_sl) (@kF_ix))) (And.intro (@kF_new) (And.intro (@ksetK_nil) (@ksetK_cons)))))) (And.intro (And.intro (And.intro (And.intro (@ktk_mk) (@ktk_mv)) (And.intro (@ktk_ld) (And.intro (@ktk_st) (@ktk_ap)))) (And.intro (And.intro (@ktk_cut) (And.intro (@ktk_pop) (@ktk_pk))) (And.intro (@ktk_po) (And.intro (@ktk_len) (@ktk_sl))))) (And.intro (And.intro (And.intro (@ktk_ix) (And.intro (@ktk_new) (@W_nms))) (And.intro (@W_nmo) (And.intro (@deg_stks) (@deg_stkn)))) (And.intro (And.intro (@deg_raw) (And.intro (@isTup_raw) (@cellsOf_raw))) (And.intro (@deg_rawp) (And.intro (@isTup_rawp) (@cellsOf_rawp))))))) :=
  And.intro (And.intro (And.intro (And.intro (And.intro (@wop_k) (@eff_k)) (And.intro (@tk_k) (And.intro (@effF_kld) (@wop_callr)))) (And.intro (And.intro (@eff_callr) (And.intro (@tk_callr) (@kF_mk))) (And.intro (@kF_mv) (And.intro (@kF_ld) (@kF_st))))) (And.intro (And.intro (And.intro (@kF_ap) (@kF_cut)) (And.intro (@kF_pop) (And.intro (@kF_pk) (@kF_po)))) (And.intro (And.intro (@kF_len) (And.intro (@kF_sl) (@kF_ix))) (And.intro (@kF_new) (And.intro (@ksetK_nil) (@ksetK_cons)))))) (And.intro (And.intro (And.intro (And.intro (@ktk_mk) (@ktk_mv)) (And.intro (@ktk_ld) (And.intro (@ktk_st) (@ktk_ap)))) (And.intro (And.intro (@ktk_cut) (And.intro (@ktk_pop) (@ktk_pk))) (And.intro (@ktk_po) (And.intro (@ktk_len) (@ktk_sl))))) (And.intro (And.intro (And.intro (@ktk_ix) (And.intro (@ktk_new) (@W_nms))) (And.intro (@W_nmo) (And.intro (@deg_stks) (@deg_stkn)))) (And.intro (And.intro (@deg_raw) (And.intro (@isTup_raw) (@cellsOf_raw))) (And.intro (@deg_rawp) (And.intro (@isTup_rawp) (@cellsOf_rawp))))))
end Go.Proofs.Ytlfnepcglnjogaa

/- The abstract layer: objects that nobody asks for any more are forgotten; objects that are handed out are only read from then on. -/
namespace Go.Proofs.Ytlfnepcglnjogaa
set_option linter.unusedSimpArgs false
set_option linter.unusedVariables false
open Go.RowKit Go.Lib

def low (n : Nat) : AV → Bool
  | .ptr i _ => decide (i < n)
  | .hs i _ => decide (i < n)
  | .hsc i _ _ => decide (i < n)
  | .fp l | .lst _ _ l | .agg l | .tup l | .fn _ l | .fnb _ l => lows l
  | _ => true
where lows : List AV → Bool
  | [] => true
  | a :: l => low n a && lows l
def Gh.cut (g : Gh) (n : Nat) : Gh := { g with io := fun i => if i < n then g.io i else none }
theorem io_cut {g : Gh} {n i b : Nat} (h : g.io i = some b) (hi : i < n) : (g.cut n).io i = some b := by
  simp only [Gh.cut, if_pos hi]; exact h
mutual
theorem Rep.cut {g : Gh} (n : Nat) : ∀ {v : Value} {a : AV}, Rep g v a → low n a = true → Rep (g.cut n) v a
  | _, _, .bool b, _ => .bool b
  | _, _, .int k m, _ => .int k m
  | _, _, .str s, _ => .str s
  | _, _, .nilp, _ => .nilp
  | _, _, .ptr id off b h, hl => .ptr id off b (io_cut h (by simpa [low] using hl))
  | _, _, .fp b off vs l h hp hr, hl => .fp b off vs l h hp (RepL.cut n hr (by simpa [low] using hl))
  | _, _, .lst b off m c f vs l h hp h1 h2 hr, hl => .lst b off m c f vs l h hp h1 h2 (RepL.cut n hr (by simpa [low] using hl))
  | _, _, .lst0 a c f h, _ => .lst0 a c f h
  | _, _, .hs id b m c h h1, hl => .hs id b m c (io_cut h (by simpa [low] using hl)) h1
  | _, _, .hsc id b m c h h1, hl => .hsc id b m c (io_cut h (by simpa [low] using hl)) h1
  | _, _, .agg vs l h hp hr, hl => .agg vs l h hp (RepL.cut n hr (by simpa [low] using hl))
  | _, _, .tup vs l hp hr, hl => .tup vs l hp (RepL.cut n hr (by simpa [low] using hl))
  | _, _, .fn f vs l hp hr, hl => .fn f vs l hp (RepL.cut n hr (by simpa [low] using hl))
  | _, _, .fnb f vs l hp hr, hl => .fnb f vs l hp (RepL.cut n hr (by simpa [low] using hl))
  | _, _, .nilf, _ => .nilf
  | _, _, .opq v h h', _ => .opq v h h'
  | _, _, .itr b s p, _ => .itr b s p
  | _, _, .omp b ks vs, _ => .omp b ks vs
  | _, _, .mp b, _ => .mp b
  | _, _, .fmp b obj ks vs h1 h2, _ => .fmp b obj ks vs h1 h2
  | _, _, .stk a c e o l h1 h2 h3, _ => .stk a c e o l h1 h2 h3
  | _, _, .raw a m c h1 h2, _ => .raw a m c h1 h2
  | _, _, .rawp b i m c, _ => .rawp b i m c
  | _, _, .frn v Q S W0 h1 h2 h3 h4, _ => .frn v Q S W0 h1 h2 h3 h4
theorem RepL.cut {g : Gh} (n : Nat) : ∀ {vs : List Value} {l : List AV}, RepL g vs l → low.lows n l = true → RepL (g.cut n) vs l
  | _, _, .nil, _ => .nil
  | _, _, .cons h hr, hl => by
    simp only [low.lows, Bool.and_eq_true] at hl
    exact .cons (Rep.cut n h hl.1) (RepL.cut n hr hl.2)
end
mutual
theorem Rep.low {g : Gh} {n : Nat} (hd : ∀ i b, g.io i = some b → i < n) : ∀ {v : Value} {a : AV}, Rep g v a → low n a = true
  | _, _, .bool b => by simp [Go.Proofs.Ytlfnepcglnjogaa.low]
  | _, _, .int k m => by simp [Go.Proofs.Ytlfnepcglnjogaa.low]
  | _, _, .str s => by simp [Go.Proofs.Ytlfnepcglnjogaa.low]
  | _, _, .nilp => by simp [Go.Proofs.Ytlfnepcglnjogaa.low]
  | _, _, .ptr id off b h => by simpa [Go.Proofs.Ytlfnepcglnjogaa.low] using hd id b h
  | _, _, .fp b off vs l h hp hr => by simpa [Go.Proofs.Ytlfnepcglnjogaa.low] using RepL.low hd hr
  | _, _, .lst b off m c f vs l h hp h1 h2 hr => by simpa [Go.Proofs.Ytlfnepcglnjogaa.low] using RepL.low hd hr
  | _, _, .lst0 a c f h => by simp [Go.Proofs.Ytlfnepcglnjogaa.low, low.lows]
  | _, _, .hs id b m c h h1 => by simpa [Go.Proofs.Ytlfnepcglnjogaa.low] using hd id b h
  | _, _, .hsc id b m c h h1 => by simpa [Go.Proofs.Ytlfnepcglnjogaa.low] using hd id b h
  | _, _, .agg vs l h hp hr => by simpa [Go.Proofs.Ytlfnepcglnjogaa.low] using RepL.low hd hr
  | _, _, .tup vs l hp hr => by simpa [Go.Proofs.Ytlfnepcglnjogaa.low] using RepL.low hd hr
  | _, _, .fn f vs l hp hr => by simpa [Go.Proofs.Ytlfnepcglnjogaa.low] using RepL.low hd hr
  | _, _, .fnb f vs l hp hr => by simpa [Go.Proofs.Ytlfnepcglnjogaa.low] using RepL.low hd hr
  | _, _, .nilf => by simp [Go.Proofs.Ytlfnepcglnjogaa.low]
  | _, _, .opq v h h' => by simp [Go.Proofs.Ytlfnepcglnjogaa.low]
  | _, _, .itr b s p => by simp [Go.Proofs.Ytlfnepcglnjogaa.low]
  | _, _, .omp b ks vs => by simp [Go.Proofs.Ytlfnepcglnjogaa.low]
  | _, _, .mp b => by simp [Go.Proofs.Ytlfnepcglnjogaa.low]
  | _, _, .fmp b obj ks vs h1 h2 => by simp [Go.Proofs.Ytlfnepcglnjogaa.low]
  | _, _, .stk a c e o l h1 h2 h3 => by simp [Go.Proofs.Ytlfnepcglnjogaa.low]
  | _, _, .raw a m c h1 h2 => by simp [Go.Proofs.Ytlfnepcglnjogaa.low]
  | _, _, .rawp b i m c => by simp [Go.Proofs.Ytlfnepcglnjogaa.low]
  | _, _, .frn _ _ _ _ _ _ _ _ => by simp [Go.Proofs.Ytlfnepcglnjogaa.low]
theorem RepL.low {g : Gh} {n : Nat} (hd : ∀ i b, g.io i = some b → i < n) : ∀ {vs : List Value} {l : List AV}, RepL g vs l → low.lows n l = true
  | _, _, .nil => by simp [low.lows]
  | _, _, .cons h hr => by simp [low.lows, Rep.low hd h, RepL.low hd hr]
end
mutual
theorem low_free {n : Nat} : ∀ {a : AV}, free a = true → low n a = true
  | .bool _, _ => by simp [low]
  | .int _ _, _ => by simp [low]
  | .str _, _ => by simp [low]
  | .nilp, _ => by simp [low]
  | .nilf, _ => by simp [low]
  | .opq, _ => by simp [low]
  | .itr _ _, _ => by simp [low]
  | .omp _ _ _, _ => by simp [low]
  | .mp _, _ => by simp [low]
  | .fmp _ _, _ => by simp [low]
  | .stk _ _ _, _ => by simp [low]
  | .raw _ _, _ => by simp [low]
  | .rawp _ _, _ => by simp [low]
  | .frn _, _ => by simp [low]
  | .ptr _ _, h => by simp [free] at h
  | .hs _ _, h => by simp [free] at h
  | .hsc _ _ _, h => by simp [free] at h
  | .fp l, h => by simpa [low] using lows_free (l := l) (by simpa [free] using h)
  | .lst _ _ l, h => by simpa [low] using lows_free (l := l) (by simpa [free] using h)
  | .agg l, h => by simpa [low] using lows_free (l := l) (by simpa [free] using h)
  | .tup l, h => by simpa [low] using lows_free (l := l) (by simpa [free] using h)
  | .fn _ l, h => by simpa [low] using lows_free (l := l) (by simpa [free] using h)
  | .fnb _ l, h => by simpa [low] using lows_free (l := l) (by simpa [free] using h)
theorem lows_free {n : Nat} : ∀ {l : List AV}, free.frees l = true → low.lows n l = true
  | [], _ => by simp [low.lows]
  | a :: l, h => by
    simp only [free.frees, Bool.and_eq_true] at h
    simp [low.lows, low_free (n := n) h.1, lows_free (n := n) h.2]
end
mutual
def fz (h : Hp) : AV → AV
  | .hs id n => match h[id]? with
    | some (some (_, l)) => .lst .ro n (l.map deg)
    | _ => .hs id n
  | .hsc id n c => match h[id]? with
    | some (some (_, l)) => .lst .ro n (l.map deg)
    | _ => .hsc id n c
  | .agg l => .agg (fzs h l)
  | .tup l => .tup (fzs h l)
  | a => a
def fzs (h : Hp) : List AV → List AV
  | [] => []
  | a :: l => fz h a :: fzs h l
end
theorem plain_fz {h : Hp} (a : AV) (hp : plain a = true) : plain (fz h a) = true := by
  cases a with
  | hs id n =>
    simp only [fz]
    split <;> rfl
  | hsc id n c =>
    simp only [fz]
    split <;> rfl
  | lst f n l => simp only [fz]; exact hp
  | itr s p => simp [plain] at hp
  | omp b ks vs => simp [plain] at hp
  | stk e o l => simp [plain] at hp
  | _ => simp [fz, plain]
theorem plains_fz {h : Hp} : ∀ {l : List AV}, plains l → plains (fzs h l)
  | [], _ => by intro a ha; simp [fzs] at ha
  | a :: l, hp => by
    intro b hb
    simp only [fzs, List.mem_cons] at hb
    rcases hb with rfl | hb
    · exact plain_fz a (hp a (by simp))
    · exact plains_fz (fun x hx => hp x (by simp [hx])) b hb
open Classical in
noncomputable def Gh.ice (g : Gh) (h : Hp) (w : World) : Gh :=
  { g with io := fun _ => none, C := fun b o => match g.C b o with
    | some v => some v
    | none => if ∃ id s l, g.io id = some b ∧ h[id]? = some (some (s, l)) then (w.cell? ⟨b, o, none⟩).filter (fun v => v.oneCell') else none }
theorem ice_le {g : Gh} {h : Hp} {w : World} {b o : Nat} {v : Value} (hc : g.C b o = some v) : (g.ice h w).C b o = some v := by simp only [Gh.ice, hc]
theorem ice_obj {P : Program} {g : Gh} {h : Hp} {w : World} {id : Nat} {s : Bool} {l : List AV} (hs : Sim P g h w) (hl : h[id]? = some (some (s, l))) :
    ∃ b arr, g.io id = some b ∧ CellsAt (g.ice h w) b 0 arr ∧ RepL g arr l := by
  obtain ⟨b, arr, e, p1, p2, p3, p4, p5, p6, p7, p8, p9⟩ := hs.obj id s l hl
  refine ⟨b, arr.toList, p1, fun i v hv => ?_, p3⟩
  cases hC : g.C b (0 + i) with
  | some u =>
    have h1 := (hs.prot _ _ _ hC).1
    rw [Nat.zero_add, cell_of_row w b i arr e (0, 0) p2] at h1
    have : v = u := by
      rw [Array.getElem?_toList] at hv
      rw [hv] at h1
      simpa using h1
    subst this
    exact ice_le hC
  | none =>
    simp only [Gh.ice, hC]
    rw [if_pos ⟨id, s, l, p1, hl⟩]
    simp only [Option.filter_eq_some_iff]
    refine ⟨?_, p4 v (List.mem_of_getElem? hv)⟩
    rw [Nat.zero_add, cell_of_row w b i arr e (0, 0) p2]
    simpa using hv
mutual
theorem Rep.ice {P : Program} {g : Gh} {h : Hp} {w : World} (hs : Sim P g h w) : ∀ {v : Value} {a : AV}, Rep g v a → free (fz h a) = true → Rep (g.ice h w) v (fz h a)
  | _, _, .bool b, _ => by simp only [fz]; exact .bool b
  | _, _, .int k m, _ => by simp only [fz]; exact .int k m
  | _, _, .str s, _ => by simp only [fz]; exact .str s
  | _, _, .nilp, _ => by simp only [fz]; exact .nilp
  | _, _, .ptr id off b hb, hf => by simp [fz, free] at hf
  | _, _, .fp b off vs l hc hp hr, hf => by
    simp only [fz] at hf ⊢
    exact Rep.free (g := g) (fun _ _ _ hc => ice_le hc) (fun _ _ h => h) (.fp b off vs l hc hp hr) hf
  | _, _, .lst b off m c f vs l hc hp h1 h2 hr, hf => by
    simp only [fz] at hf ⊢
    exact Rep.free (g := g) (fun _ _ _ hc => ice_le hc) (fun _ _ h => h) (.lst b off m c f vs l hc hp h1 h2 hr) hf
  | _, _, .lst0 a c f hc, _ => by simp only [fz]; exact .lst0 a c f hc
  | _, _, .hs id b m c hb h1, hf => by
    simp only [fz] at hf ⊢
    split at hf
    · next s l hl =>
      obtain ⟨b', arr, q1, q2, q3⟩ := ice_obj hs hl
      obtain rfl : b = b' := by rw [hb] at q1; simpa using q1
      simp only [free] at hf
      refine .lst b 0 m c .ro arr _ q2 (fun a ha => ?_) h1 (fun e => by cases e) (RepL.free (g := g) (fun _ _ _ hc => ice_le hc) (fun _ _ h => h) q3.deg hf)
      obtain ⟨a', _, rfl⟩ := List.mem_map.1 ha
      exact plain_deg a'
    · simp [free] at hf
  | _, _, .hsc id b m c hb h1, hf => by
    simp only [fz] at hf ⊢
    split at hf
    · next s l hl =>
      obtain ⟨b', arr, q1, q2, q3⟩ := ice_obj hs hl
      obtain rfl : b = b' := by rw [hb] at q1; simpa using q1
      simp only [free] at hf
      refine .lst b 0 m c .ro arr _ q2 (fun a ha => ?_) h1 (fun e => by cases e) (RepL.free (g := g) (fun _ _ _ hc => ice_le hc) (fun _ _ h => h) q3.deg hf)
      obtain ⟨a', _, rfl⟩ := List.mem_map.1 ha
      exact plain_deg a'
    · simp [free] at hf
  | _, _, .agg vs l h1 hp hr, hf => by
    simp only [fz, free] at hf ⊢
    exact .agg vs _ h1 (plains_fz hp) (RepL.ice hs hr hf)
  | _, _, .tup vs l hp hr, hf => by
    simp only [fz, free] at hf ⊢
    exact .tup vs _ (plains_fz hp) (RepL.ice hs hr hf)
  | _, _, .fn f vs l hp hr, hf => by
    simp only [fz] at hf ⊢
    exact Rep.free (g := g) (fun _ _ _ hc => ice_le hc) (fun _ _ h => h) (.fn f vs l hp hr) hf
  | _, _, .fnb f vs l hp hr, hf => by
    simp only [fz] at hf ⊢
    exact Rep.free (g := g) (fun _ _ _ hc => ice_le hc) (fun _ _ h => h) (.fnb f vs l hp hr) hf
  | _, _, .nilf, _ => by simp only [fz]; exact .nilf
  | _, _, .opq v h h', _ => by simp only [fz]; exact .opq v h h'
  | _, _, .itr b s p, _ => by simp only [fz]; exact .itr b s p
  | _, _, .omp b ks vs, _ => by simp only [fz]; exact .omp b ks vs
  | _, _, .mp b, _ => by simp only [fz]; exact .mp b
  | _, _, .fmp b obj ks vs h1 h2, _ => by simp only [fz]; exact .fmp b obj ks vs h1 h2
  | _, _, .stk a c e o l h1 h2 h3, _ => by simp only [fz]; exact .stk a c e o l h1 h2 h3
  | _, _, .raw a m c h1 h2, _ => by simp only [fz]; exact .raw a m c h1 h2
  | _, _, .rawp b i m c, _ => by simp only [fz]; exact .rawp b i m c
  | _, _, .frn v Q S W0 h1 h2 h3 h4, _ => by simp only [fz]; exact .frn v Q S W0 h1 h2 h3 h4
theorem RepL.ice {P : Program} {g : Gh} {h : Hp} {w : World} (hs : Sim P g h w) : ∀ {vs : List Value} {l : List AV}, RepL g vs l → free.frees (fzs h l) = true → RepL (g.ice h w) vs (fzs h l)
  | _, _, .nil, _ => by simp only [fzs]; exact .nil
  | _, _, .cons h0 hr, hf => by
    simp only [fzs, free.frees, Bool.and_eq_true] at hf ⊢
    exact .cons (Rep.ice hs h0 hf.1) (RepL.ice hs hr hf.2)
end
end Go.Proofs.Ytlfnepcglnjogaa

/- Calls that only read: what they tell of lists that stay, they tell of objects that are handed in. -/
namespace Go.Proofs.Ytlfnepcglnjogaa
set_option linter.unusedSimpArgs false
set_option linter.unusedVariables false
open Go.RowKit Go.Lib

section
variable {P : Program} {g : Gh} {h : Hp} {w : World}
open Classical in
noncomputable def Gh.lend (g : Gh) (w : World) : Gh :=
  { g.bare with C := fun b o => if (∃ i, g.io i = some b) then (match w.cell? ⟨b, o, none⟩ with
      | some v => if v.oneCell' = true then some v else none
      | none => none) else g.C b o }
theorem lend_C (hs : Sim P g h w) {b o : Nat} {v : Value} (hc : g.C b o = some v) : (g.lend w).C b o = some v := by
  simp only [Gh.lend]
  split
  · obtain ⟨q1, q2⟩ := hs.prot b o v hc
    rw [q1]; simp [q2]
  · exact hc
theorem lend_obj {i b o : Nat} {v : Value} (hi : g.io i = some b) (hc : w.cell? ⟨b, o, none⟩ = some v) (h1 : v.oneCell' = true) : (g.lend w).C b o = some v := by
  simp only [Gh.lend]
  rw [if_pos ⟨i, hi⟩, hc]
  simp [h1]
theorem Sim.lend (hs : Sim P g h w) : Sim P (g.lend w) [] w := by
  refine ⟨fun b o v hc => ?_, (fun id s l hl => by simp at hl), hs.bare.inj, hs.bare.dom, hs.bare.flt, hs.bare.olt, hs.bare.hole, hs.bare.fro⟩
  simp only [Gh.lend] at hc
  split at hc
  · split at hc
    · next v' e =>
      split at hc
      · next h1 => injection hc with hc; subst hc; exact ⟨e, h1⟩
      · cases hc
    · cases hc
  · exact hs.prot b o v hc
open Classical in
noncomputable def Gh.lret (g g1 : Gh) : Gh := { g with C := fun b o => if (∃ i, g.io i = some b) then g.C b o else g1.C b o, X := g1.X }
theorem Sim.lret {g1 : Gh} {w1 : World} {h1 : Hp} (hs : Sim P g h w) (hev : Ev (g.lend w) w g1 w1) (hs1 : Sim P g1 h1 w1) : Sim P (g.lret g1) h w1 ∧ Ev g w (g.lret g1) w1 := by
  have hC : ∀ b o, ¬ (∃ i, g.io i = some b) → (g.lend w).C b o = g.C b o := fun b o hb => by simp only [Gh.lend]; rw [if_neg hb]
  have hbC : ∀ b o, ¬ (∃ i, g.io i = some b) → (g.lret g1).C b o = g1.C b o := fun b o hb => by simp only [Gh.lret]; rw [if_neg hb]
  have hbO : ∀ b o, (∃ i, g.io i = some b) → (g.lret g1).C b o = g.C b o := fun b o hb => by simp only [Gh.lret]; rw [if_pos hb]
  have hle : GLe g (g.lret g1) := ⟨fun b o v hc => by
    by_cases hb : ∃ i, g.io i = some b
    · rw [hbO b o hb]; exact hc
    · rw [hbC b o hb]; exact hev.le.C b o v (by rw [hC b o hb]; exact hc), fun _ _ h => h, fun b o hx => hev.le.X b o hx⟩
  refine ⟨⟨fun b o v hc => ?_, ?_, hs.inj, fun i b hi => ⟨(hs.dom i b hi).1, Nat.lt_of_lt_of_le (hs.dom i b hi).2 hev.size⟩, fun b hb => Nat.lt_of_lt_of_le (hs.flt b hb) hev.size, fun b x hx => Nat.lt_of_lt_of_le (hs.olt b x hx) hev.size, hs.hole, fun b o hx => ?_⟩, ⟨hle, fun _ => .rfl, fun b hb => ?_, hev.os, hev.tape, hev.output, hev.size, fun b hb => hev.Fx b (.inl hb)⟩⟩
  · by_cases hb : ∃ i, g.io i = some b
    · rw [hbO b o hb] at hc
      obtain ⟨q1, q2⟩ := hs.prot b o v hc
      have hw := (hev.Fb b (.inr (.inl hb))).1
      refine ⟨?_, q2⟩
      rw [← q1]
      simp only [World.cell?, hw]
    · rw [hbC b o hb] at hc
      exact hs1.prot b o v hc
  · intro id s l hl
    refine (hs.obj id s l hl).keep hle (fun b hb h8 h9 => ?_) (fun b i o1 o3 o4 => ?_)
    · obtain ⟨q1, q2, _⟩ := hev.Fb b (.inr (.inl ⟨id, hb⟩))
      exact ⟨q1, fun o => hbO b o ⟨id, hb⟩, h8, h9⟩
    · obtain ⟨q1, q2, _⟩ := hev.Fb b (.inr (.inr ⟨_, o1⟩))
      have hno : ¬ ∃ i, g.io i = some b := fun ⟨j, hj⟩ => o4 j hj
      exact ⟨q1, o1, fun o => by rw [hbC b o hno, q2 o, hC b o hno], o3, o4⟩
  · have hbk : (∃ i, g.io i = some b) ∨ (∃ x, g.own b = some x) → g.X b = some o := fun hh => by
      have := hev.Fx b (.inr hh)
      rw [show (g.lend w).X b = g.X b from rfl] at this
      rw [← this]; exact hx
    refine ⟨(hs1.fro b o hx).1, ?_, fun i hi => ?_⟩
    · cases ho : g.own b with
      | none => exact ho
      | some x => exact absurd (hs.fro b o (hbk (.inr ⟨x, ho⟩))).2.1 (by rw [ho]; simp)
    · exact (hs.fro b o (hbk (.inl ⟨i, hi⟩))).2.2 i hi
  · obtain ⟨q1, q2, _⟩ := hev.Fb b (.inl hb)
    refine ⟨q1, fun o => ?_, rfl, fun _ h => h⟩
    by_cases hbo : ∃ i, g.io i = some b
    · exact hbO b o hbo
    · rw [hbC b o hbo, q2 o, hC b o hbo]
mutual
def flat : AV → Bool
  | .bool _ | .int _ _ | .str _ | .nilp => true
  | .tup l => flats l
  | _ => false
def flats : List AV → Bool
  | [] => true
  | a :: l => flat a && flats l
end
mutual
theorem Rep.flat {g g' : Gh} : ∀ {v : Value} {a : AV}, Rep g v a → flat a = true → Rep g' v a
  | _, _, .bool b, _ => .bool b
  | _, _, .int k n, _ => .int k n
  | _, _, .str s, _ => .str s
  | _, _, .nilp, _ => .nilp
  | _, _, .tup vs l hp hl, hf => .tup vs l hp (RepL.flat hl (by simpa only [Go.Proofs.Ytlfnepcglnjogaa.flat] using hf))
theorem RepL.flat {g g' : Gh} : ∀ {vs : List Value} {l : List AV}, RepL g vs l → flats l = true → RepL g' vs l
  | _, _, .nil, _ => .nil
  | _, _, .cons h hl, hf => by
    simp only [flats, Bool.and_eq_true] at hf
    exact .cons (Rep.flat h hf.1) (RepL.flat hl hf.2)
end
mutual
inductive Lnd (h : Hp) : AV → AV → Prop where
  | same (a : AV) : free a = true → Lnd h a a
  | ro (f : Fl) (n : Nat) (l : List AV) : free.frees l = true → Lnd h (.lst f n l) (.lst .ro n l)
  | hsc (id n c k : Nat) (s : Bool) (l : List AV) : h[id]? = some (some (s, l)) → free.frees (l.take k) = true → plains (l.take k) → Lnd h (.hsc id n c) (.lst .ro n (l.take k))
  | agg (l l' : List AV) : Lnds h l l' → plains l' → Lnd h (.agg l) (.agg l')
inductive Lnds (h : Hp) : List AV → List AV → Prop where
  | nil : Lnds h [] []
  | cons {a a' : AV} {l l' : List AV} : Lnd h a a' → Lnds h l l' → Lnds h (a :: l) (a' :: l')
end
mutual
theorem Rep.lend (hs : Sim P g h w) {v : Value} {a a' : AV} (hr : Rep g v a) (hl : Lnd h a a') : Rep (g.lend w) v a' := by
  cases hl with
  | same _ hf => exact Rep.free (fun _ _ _ h => lend_C hs h) (fun _ _ h => h) hr hf
  | ro f n l hf =>
    have hC := fun (b o : Nat) (v : Value) (h : g.C b o = some v) => lend_C hs h
    cases hr with
    | lst b off _ c _ vs _ h1 h2 h3 h4 h5 => exact .lst b off n c .ro vs l (fun i v hv => hC _ _ _ (h1 i v hv)) h2 h3 (fun e => by cases e) (RepL.free hC (fun _ _ h => h) h5 hf)
    | lst0 a c _ h => exact .lst0 a c .ro (fun e => by cases e)
  | hsc id n c k s l hl hf hp =>
    cases hr with
    | hsc _ b _ _ hb hn =>
      obtain ⟨b', arr, e', p1, p2, p3, p4, p5, p6, p7, p8, p9⟩ := hs.obj id s l hl
      obtain rfl : b = b' := by rw [hb] at p1; simpa using p1
      refine .lst b 0 n c .ro (arr.toList.take k) (l.take k) (fun i v hv => ?_) hp hn (fun e => by cases e) (RepL.free (fun _ _ _ h => lend_C hs h) (fun _ _ h => h) (p3.take k) hf)
      rw [List.getElem?_take] at hv
      split at hv
      · refine lend_obj hb ?_ (p4 v (List.mem_of_getElem? hv))
        rw [Nat.zero_add, cell_of_row w b i arr e' (0, 0) p2]; simpa using hv
      · cases hv
  | agg l l' hl hp =>
    cases hr with
    | agg vs _ h1 h2 h3 => exact .agg vs l' h1 hp (RepL.lend hs h3 hl)
theorem RepL.lend (hs : Sim P g h w) {vs : List Value} {l l' : List AV} (hr : RepL g vs l) (hl : Lnds h l l') : RepL (g.lend w) vs l' := by
  cases hl with
  | nil => cases hr; exact .nil
  | cons hx hy =>
    cases hr with
    | cons h1 h2 => exact .cons (Rep.lend hs h1 hx) (RepL.lend hs h2 hy)
end
theorem Lnds.plains : ∀ {l l' : List AV}, Lnds h l l' → plains l → plains l'
  | _, _, .nil, _ => fun a ha => by simp at ha
  | _, _, .cons hx hy, hp => fun a ha => by
    rcases List.mem_cons.1 ha with rfl | ha
    · cases hx with
      | same _ hf => exact hp _ (by simp)
      | ro => rfl
      | hsc => rfl
      | agg => rfl
    · exact Lnds.plains hy (fun b hb => hp b (by simp [hb])) a ha
theorem PCalls.lend {f : FuncId} {args args' : List AV} {v : AV} (hp : PCalls P f args' v) (hv : flat v = true) (hl : Lnds h args args') : ACalls P f args h (fun a h' => a = v ∧ h' = h) := by
  obtain ⟨hfa, hfv, hent, hc⟩ := hp
  refine ⟨hent, fun g w vargs hs hns hr hpl => ?_⟩
  refine (hc (g.lend w) w vargs hs.lend (fun b k h => by cases h) (RepL.lend hs hr hl) (hl.plains hpl)).mono ?_
  rintro e w1 ⟨x, a, h1, g1, rfl, r1, r2, r3, r4, r5, rfl, rfl⟩
  obtain ⟨s1, s2⟩ := hs.lret r1 r2
  exact ⟨x, a, h, g.lret g1, rfl, s2, s1, hns, Rep.flat r4 hv, r5, rfl, rfl⟩
mutual
inductive Shr : AV → AV → Prop where
  | same (a : AV) : Shr a a
  | lst (f : Fl) (n k : Nat) (l : List AV) : plains (l.take k) → Shr (.lst f n l) (.lst .ro n (l.take k))
  | agg (l l' : List AV) : Shrs l l' → plains l' → Shr (.agg l) (.agg l')
  | tup (l l' : List AV) : Shrs l l' → plains l' → Shr (.tup l) (.tup l')
inductive Shrs : List AV → List AV → Prop where
  | nil : Shrs [] []
  | cons {a a' : AV} {l l' : List AV} : Shr a a' → Shrs l l' → Shrs (a :: l) (a' :: l')
end
mutual
theorem Rep.shr {g : Gh} {v : Value} {a a' : AV} (hr : Rep g v a) (hl : Shr a a') : Rep g v a' := by
  cases hl with
  | same => exact hr
  | lst f n k l hp =>
    cases hr with
    | lst b off _ c _ vs _ h1 h2 h3 h4 h5 =>
      refine .lst b off n c .ro (vs.take k) (l.take k) (fun i v hv => ?_) hp h3 (fun e => by cases e) (h5.take k)
      rw [List.getElem?_take] at hv
      split at hv
      · exact h1 i v hv
      · cases hv
    | lst0 a c _ h => rw [List.take_nil]; exact .lst0 a c .ro (fun e => by cases e)
  | agg l l' hl hp => cases hr with
    | agg vs _ h1 h2 h3 => exact .agg vs l' h1 hp (RepL.shr h3 hl)
  | tup l l' hl hp => cases hr with
    | tup vs _ h2 h3 => exact .tup vs l' hp (RepL.shr h3 hl)
theorem RepL.shr {g : Gh} {vs : List Value} {l l' : List AV} (hr : RepL g vs l) (hl : Shrs l l') : RepL g vs l' := by
  cases hl with
  | nil => exact hr
  | cons hx hy => cases hr with
    | cons h1 h2 => exact .cons (Rep.shr h1 hx) (RepL.shr h2 hy)
end
theorem Shr.plain {a a' : AV} (hl : Shr a a') (hp : plain a = true) : plain a' = true := by
  cases hl with
  | same => exact hp
  | lst => rfl
  | agg => rfl
  | tup => rfl
theorem pcalls_fzs {P : Program} {f : FuncId} {args : List AV} {v : AV} (ha : free.frees args = true) (hv : free v = true) (hc : ACalls P f args [] (fun a h' => free (fz h' a) = true ∧ Shr (fz h' a) v)) : PCalls P f args v := by
  refine ⟨ha, hv, hc.1, fun g w vargs hs hns hr hpl => (hc.2 g w vargs hs hns hr hpl).mono ?_⟩
  rintro e w1 ⟨x, a, h1, g1, rfl, r1, r2, r3, r4, r5, r6, r7⟩
  refine ⟨x, _, [], g1.ice h1 w1, rfl, ⟨⟨fun b o u hu => ice_le (r1.le.C b o u hu), fun i b hi => absurd (hs.dom i b hi).1 (by simp), r1.le.X⟩, r1.F, fun b hb => ?_, r1.os, r1.tape, r1.output, r1.size, r1.Fx⟩, ?_, r3, (Rep.ice r2 r4 r6).shr r7, r7.plain (plain_fz _ r5), rfl, rfl⟩
  · obtain ⟨q1, q2, q3, q4⟩ := r1.Fb b hb
    refine ⟨q1, fun o => ?_, q3, fun i hi => by cases hi⟩
    simp only [Gh.ice]
    split
    · next u hu => rw [← q2 o]; exact hu.symm
    · next hu =>
      rw [if_neg]
      · rw [← q2 o]; exact hu.symm
      · rintro ⟨id, s, l, k1, k2⟩
        obtain ⟨b', arr, e, p1, p2, p3, p4, p5, p6, p7, p8, p9⟩ := r2.obj id s l k2
        rw [k1] at p1
        simp only [Option.some.injEq] at p1
        subst p1
        exact p8 ((r1.F b).2 hb)
  · refine ⟨fun b o u hu => ?_, (fun id s l hl => by simp at hl), (fun i j b hi => by cases hi), (fun i b hi => by cases hi), r2.flt, r2.olt, (fun i hi => by simp at hi), fun b o hx => ⟨(r2.fro b o hx).1, (r2.fro b o hx).2.1, fun i hi => by cases hi⟩⟩
    simp only [Gh.ice] at hu
    split at hu
    · next u' hu' => simp only [Option.some.injEq] at hu; subst hu; exact r2.prot b o _ hu'
    · split at hu
      · simp only [Option.filter_eq_some_iff] at hu; exact hu
      · cases hu
end
end Go.Proofs.Ytlfnepcglnjogaa
