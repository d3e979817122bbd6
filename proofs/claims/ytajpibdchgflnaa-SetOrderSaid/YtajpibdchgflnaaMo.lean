/- Opening a set that came in. -/
import Derived.Test.YtajpibdchgflnaaOs
import Derived.Test.YtajpibdchgflnaaSx
namespace Go.Proofs.Ytajpibdchgflnaa
set_option linter.unusedSimpArgs false
set_option linter.unusedVariables false
open Go.RowKit Go.Lib Go.ChangeShapes Go.WideShapes Go.ChangeAt

theorem chk_set : chkSh Try.prog 3 23 [.slice [.str]] = true := by kernel_rfl
set_option maxRecDepth 100000 in
theorem open_set {H : Type} {enc : TypeId × Value → H} {W : World} {base : Nat} {v : Value} {d : DataW H} {p : List MemPlace} (hv : Value.okWide Try.prog W .any base 23 v) (h : DataW.Trod enc Try.prog W 0 (fun _ => true) true 23 v d p) :
    ∃ l : List ByteArray, l.length ≤ 9223372036854775807 ∧ Rep (gW W) v (vS l) := by
  obtain ⟨a, hr, hs⟩ := open_arg1 (n := 3) (sh := .slice [.str]) chk_set hv h (by rw [Try.underlying23]; intro fs hf; cases hf) (by rw [Try.underlying23]; intro k e hf; cases hf)
  obtain ⟨l, hl, rfl, _⟩ := sh_strs hs
  exact ⟨l, hl, hr⟩
end Go.Proofs.Ytajpibdchgflnaa
