/- The abstract layer: a full slice may be handed where one is only read. -/
import Derived.Test.YtajpibdchgflnaaAb14
namespace Go.Proofs.Ytajpibdchgflnaa
set_option linter.unusedSimpArgs false
set_option linter.unusedVariables false
open Go.RowKit Go.Lib

def ro : AV → AV
  | .lst .clip n l => .lst .ro n l
  | a => a
theorem Rep.ro {g : Gh} {v : Value} {a : AV} (h : Rep g v a) : Rep g v (ro a) := by
  cases h with
  | lst b off n c f vs l h1 h2 h3 h4 h5 => cases f with
    | clip => exact .lst b off n c .ro vs l h1 h2 h3 (fun h => by cases h) h5
    | _ => exact .lst b off n c _ vs l h1 h2 h3 h4 h5
  | lst0 a c f h => cases f with
    | clip => exact .lst0 a c .ro (fun h => by cases h)
    | _ => exact .lst0 a c _ h
  | _ => first | exact .bool _ | exact .int _ _ | exact .str _ | exact .nilp | (exact .ptr _ _ _ ‹_›) | (exact .fp _ _ _ _ ‹_› ‹_› ‹_›) | (exact .hs _ _ _ _ ‹_› ‹_›) | (exact .agg _ _ ‹_› ‹_› ‹_›) | (exact .tup _ _ ‹_› ‹_›) | (exact .fn _ _ _ ‹_› ‹_›) | exact .nilf
theorem RepL.ro {g : Gh} : ∀ {vs : List Value} {l : List AV}, RepL g vs l → RepL g vs (l.map ro)
  | _, _, .nil => .nil
  | _, _, .cons h hl => .cons h.ro (RepL.ro hl)
theorem plain_ro {a : AV} (h : plain a = true) : plain (ro a) = true := by
  cases a with
  | lst f n l => cases f <;> first | rfl | exact h
  | _ => exact h
theorem free_ro (a : AV) : free (ro a) = free a := by
  cases a with
  | lst f n l => cases f <;> simp [Go.Proofs.Ytajpibdchgflnaa.ro, free]
  | _ => rfl
theorem frees_ro : ∀ l : List AV, free.frees (l.map ro) = free.frees l
  | [] => rfl
  | a :: l => by simp only [List.map_cons, free.frees, free_ro, frees_ro l]
theorem ACalls.ro {P : Program} {f : FuncId} {args : List AV} {h : Hp} {R : AV → Hp → Prop} (hc : ACalls P f (args.map ro) h R) : ACalls P f args h R :=
  ⟨hc.1, fun g w vargs h1 h2 h3 h4 => hc.2 g w vargs h1 h2 h3.ro (fun a ha => by
    obtain ⟨b, hb, rfl⟩ := List.mem_map.1 ha
    exact plain_ro (h4 b hb))⟩
theorem PCalls.ro {P : Program} {f : FuncId} {args : List AV} {v : AV} (hc : PCalls P f (args.map ro) v) : PCalls P f args v :=
  ⟨by rw [← frees_ro]; exact hc.1, hc.2.1, ACalls.ro hc.2.2⟩
/-- a result, as one that is only read -/
def rod : AV → AV
  | .tup l => .tup (l.map ro)
  | a => ro a
theorem Rep.rod {g : Gh} {v : Value} {a : AV} (h : Rep g v a) : Rep g v (rod a) := by
  cases h with
  | tup vs l h1 h2 => exact .tup vs _ (fun a ha => by obtain ⟨b, hb, rfl⟩ := List.mem_map.1 ha; exact plain_ro (h1 b hb)) h2.ro
  | lst b off n c f vs l h1 h2 h3 h4 h5 => exact (Rep.lst b off n c f vs l h1 h2 h3 h4 h5).ro
  | lst0 a c f h => exact (Rep.lst0 a c f h).ro
  | _ => first | exact .bool _ | exact .int _ _ | exact .str _ | exact .nilp | (exact .ptr _ _ _ ‹_›) | (exact .fp _ _ _ _ ‹_› ‹_› ‹_›) | (exact .hs _ _ _ _ ‹_› ‹_›) | (exact .agg _ _ ‹_› ‹_› ‹_›) | (exact .fn _ _ _ ‹_› ‹_›) | exact .nilf
theorem plain_rod {a : AV} (h : plain a = true) : plain (rod a) = true := by
  cases a with
  | lst f n l => exact plain_ro h
  | _ => first | rfl | exact h
theorem ACalls.weak {P : Program} {f : FuncId} {args : List AV} {h : Hp} {R : AV → Hp → Prop} (hc : ACalls P f args h (fun a h' => R (Go.Proofs.Ytajpibdchgflnaa.rod a) h')) : ACalls P f args h R :=
  ⟨hc.1, fun g w vargs h1 h2 h3 h4 => (hc.2 g w vargs h1 h2 h3 h4).mono fun _ _ ⟨x, a, h', g', q1, q2, q3, q4, q5, q6, q7⟩ => ⟨x, _, h', g', q1, q2, q3, q4, q5.rod, plain_rod q6, q7⟩⟩
theorem rod_ro (n : Nat) (l : List AV) : rod (.lst .ro n l) = .lst .ro n l := id rfl
theorem rod_clip (n : Nat) (l : List AV) : rod (.lst .clip n l) = .lst .ro n l := id rfl
theorem rod_tup (l : List AV) : rod (.tup l) = .tup (l.map ro) := id rfl
theorem ro_ro (n : Nat) (l : List AV) : ro (.lst .ro n l) = .lst .ro n l := id rfl
theorem ro_clip (n : Nat) (l : List AV) : ro (.lst .clip n l) = .lst .ro n l := id rfl
theorem ro_int (k : IntKind) (n : Int) : ro (.int k n) = .int k n := id rfl
theorem ro_str (s : ByteArray) : ro (.str s) = .str s := id rfl
theorem ro_bool (b : Bool) : ro (.bool b) = .bool b := id rfl
end Go.Proofs.Ytajpibdchgflnaa
