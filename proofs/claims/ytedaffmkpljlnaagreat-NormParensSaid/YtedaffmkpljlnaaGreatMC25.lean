/- Texts of one proof, laid together: Kq Ep. -/
import Derived.Test.YtedaffmkpljlnaaGreatMC21
import Derived.Test.YtedaffmkpljlnaaGreatMC22
import Derived.OpenShut
import Derived.ShutString
set_option maxRecDepth 100000
set_option maxHeartbeats 16000000

set_option linter.unusedSimpArgs false
set_option linter.unusedVariables false
/- Opening tokens that came in; the calls of the laws on tokens. -/
namespace Go.Proofs.YtedaffmkpljlnaaGreat
open Go.RowKit Go.Lib Go.ChangeShapes Go.WideShapes Go.ChangeAt
theorem sh_trm {g : List AV} (h : ShOks [.int .i64, .int .i64, .str] g) : ∃ t : Trm, g = trC t := by
 cases h with | cons k0 h =>
 cases h with | cons k1 h =>
 cases h with | cons k2 h =>
 cases h
 cases k0 with | int _ n0 _ =>
 cases k1 with | int _ n1 _ =>
 cases k2 with | str s _ =>
 exact ⟨⟨n0, n1, s⟩, rfl⟩
theorem open_trs {H : Type} {enc : TypeId × Value → H} {W : World} {base : Nat} {v : Value} {d : DataW H} {p : List MemPlace} (hv : Value.okWide Tryz.prog W .any base 25 v) (h : DataW.Trod enc Tryz.prog W 0 (fun _ => true) true 25 v d p) :
  ∃ l : List Trm, l.length ≤ 9223372036854775807 ∧ Rep (gW W) v (vTrs l) := by
 obtain ⟨a, hr, hs⟩ := open_arg1 (n := 8) (sh := .slice [.int .i64, .int .i64, .str]) (by kernel_rfl) hv h (by rw [Tryz.underlying25]; intro fs hf; cases hf) (by rw [Tryz.underlying25]; intro k e hf; cases hf)
 cases hs with | slice _ gs hl hg =>
 obtain ⟨l, h1, h2⟩ := sh_list (α := Trm) (q := fun x => trC x) (fun g hg => sh_trm hg) hg
 refine ⟨l, by omega, ?_⟩
 simp only [vTrs, trsC]
 rw [h1, ← h2]
 exact hr
end Go.Proofs.YtedaffmkpljlnaaGreat
