/- Texts of one proof, laid together: Byt. -/
import Derived.Test.YtpiofcjkekpboaaMA1
import Derived.Lib.AppendStr
import Derived.Lib.UnsafeStr
import Derived.Laws.BytesString
set_option maxRecDepth 100000
set_option maxHeartbeats 16000000

set_option linter.unusedSimpArgs false
set_option linter.unusedVariables false
/- General: appending a string's bytes or one byte to an owned row, with the block it lies in; a row of bytes as a string. No program in sight. -/
namespace Go.Proofs.Ytpiofcjkekpboaa
open Go.RowKit Go.Lib

section
variable {P : Program} (w : World)
end

theorem push_all : ∀ (l : List UInt8) (s : ByteArray), (l.map fun b => (b.toNat : Int)).foldl (fun r n => r.push (UInt8.ofNat n.toNat)) s = ⟨(s.data.toList ++ l).toArray⟩
 | [], s => by simp
 | c :: l, s => by
  rw [List.map_cons, List.foldl_cons, push_all l]
  apply ByteArray.ext
  apply Array.ext'
  simp [ByteArray.push]
theorem run_row_string {P : Program} (w : World) (src dst e : TypeId) (a : Option Addr) (n c : Nat) (l : List UInt8) (hl : l.length = n) (hrow : RowOf w a (byteCells l)) (hac : a = none → n = 0)
  (hs : P.underlying src = some (.slice e)) (he : P.underlying e = some (.int .u8)) (hd : P.underlying dst = some .string) :
  (convert src dst (.slice a n c)).run P w = .ok (.string ⟨l.toArray⟩) w := by
 rw [run_convert_bytes_string w src dst e a n c hs he hd]
 cases a with
 | none =>
  have : l = [] := List.eq_nil_of_length_eq_zero (by rw [hl]; exact hac rfl)
  subst this
  rfl
 | some ad =>
  have h := run_bytesToString (P := P) w ad n c (l.map fun b => (b.toNat : Int)) ?_
  ·rw [h, push_all]; rfl
  ·have hc : ∀ j v, (byteCells l)[j]? = some v → w.cell? (ad.add j) = some v := by
    rcases hrow with h | ⟨b, off, h, hcell⟩
    ·intro j v hv; rw [h] at hv; simp at hv
    ·injection h with h; subst h; intro j v hv; rw [add_none]; exact hcell j v hv
   have := run_loadCells_list (P := P) (w := w) ad (byteCells l) hc
   rw [byteCells_length, hl] at this
   rw [this]; simp [byteCells]

end Go.Proofs.Ytpiofcjkekpboaa
