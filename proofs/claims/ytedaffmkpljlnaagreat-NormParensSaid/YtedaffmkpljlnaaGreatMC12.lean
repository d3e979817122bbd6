/- Texts of one proof, laid together: AtL. -/
import Derived.Test.YtedaffmkpljlnaaGreatMC10
import Derived.ProofKit
import Derived.OpenShut
import Derived.ShutString
import Derived.Deep.Slices
set_option maxRecDepth 100000
set_option maxHeartbeats 16000000

set_option linter.unusedSimpArgs false
set_option linter.unusedVariables false
/- Contracts of attorneylaw01's own helpers: large, same; the walk of AtomNames. -/
namespace Go.Proofs.YtedaffmkpljlnaaGreat
open Go.RowKit Go.Maps Go.ChangeShapes Go.WideShapes Go.ChangeAt
open Go.ChangeMaps (open_string shut_string)

abbrev ActT := Int × ByteArray × Bool
def ActsAt (w : World) (a : Option Addr) (l : List ActT) : Prop :=
 l = [] ∨ ∃ b off, a = some ⟨b, off, none⟩ ∧ ∀ i x, l[i]? = some x → w.cell? ⟨b, off + i * 3, none⟩ = some (.int .i64 x.1) ∧ w.cell? ⟨b, off + i * 3 + 1, none⟩ = some (.string x.2.1) ∧ w.cell? ⟨b, off + i * 3 + 2, none⟩ = some (.bool x.2.2)
theorem ActsAt.ext {w w' : World} {a : Option Addr} {l : List ActT} (h : ActsAt w a l) (hb : Below w.heap.size w w') : ActsAt w' a l := by
 rcases h with h | ⟨b, off, rfl, h⟩
 ·exact .inl h
 ·refine .inr ⟨b, off, rfl, fun i x hx => ?_⟩
  obtain ⟨h1, h2, h3⟩ := h i x hx
  have hlt : b < w.heap.size := World.block_lt_of_cell? w _ h1
  exact ⟨by rw [hb.cell hlt]; exact h1, by rw [hb.cell hlt]; exact h2, by rw [hb.cell hlt]; exact h3⟩

end Go.Proofs.YtedaffmkpljlnaaGreat
