/- Items that came in; the calls of layer 7's laws. -/
import Derived.Test.YtdmhilhfdcmdiaaLa
import Derived.Test.YtdmhilhfdcmdiaaBr
namespace Go.Proofs.Ytdmhilhfdcmdiaa
set_option linter.unusedSimpArgs false
set_option linter.unusedVariables false
open Go.RowKit Go.Lib Go.ChangeShapes Go.WideShapes Go.ChangeAt

theorem five {α : Type} {l : List α} (h : l.length = 5) : ∃ a b c d e, l = [a, b, c, d, e] := by
  match l, h with
  | [a, b, c, d, e], _ => exact ⟨a, b, c, d, e, rfl⟩
theorem rep_lst_one {g : Gh} {v : Value} {f : Fl} {n : Nat} {l : List AV} (h : Rep g v (.lst f n l)) : v.oneCell' = true := by
  cases h <;> rfl
theorem plains_item (x : Item) : plains (itemAV x) := by
  intro a ha
  simp only [itemAV, List.mem_cons, List.not_mem_nil, or_false] at ha
  rcases ha with rfl | rfl | rfl | rfl | rfl <;> rfl
set_option maxRecDepth 100000 in
theorem open_items {H : Type} {enc : TypeId × Value → H} {W : World} {base : Nat} {v : Value} {d : DataW H} {p : List MemPlace} (hv : Value.okWide Try.prog W .any base 22 v)
    (h : DataW.Trod enc Try.prog W 0 (fun _ => true) true 22 v d p) : ∃ l : List Item, l.length ≤ 9223372036854775807 ∧ Rep (gW W) v (.lst .ro l.length (itemsAV l)) := by
  obtain ⟨a0, n0, cap0, rfl⟩ := okWide_slice Try.underlying22 hv
  obtain ⟨fuel, hf⟩ := h
  refine open_rep (q := itemAV) (size := 5) Try.underlying22 (by kernel_rfl) (by decide) plains_item (fun cs m y hcl ht => ?_) hf
  obtain ⟨c0, c1, c2, c3, c4, rfl⟩ := five hcl
  obtain ⟨m0, y0, h0⟩ := field1 Try.underlying39 ht 0 0 3 rfl (by kernel_rfl) (by simp)
  obtain ⟨m1, y1, h1⟩ := field1 Try.underlying39 ht 1 1 2 rfl (by kernel_rfl) (by simp)
  obtain ⟨m2, y2, h2⟩ := field1 Try.underlying39 ht 2 2 9 rfl (by kernel_rfl) (by simp)
  obtain ⟨m3, y3, h3⟩ := field1 Try.underlying39 ht 3 3 35 rfl (by kernel_rfl) (by simp)
  obtain ⟨m4, y4, h4⟩ := field1 Try.underlying39 ht 4 4 37 rfl (by kernel_rfl) (by simp)
  obtain ⟨k, e0, _, _⟩ := DataW.trod_int Try.underlying3 h0
  obtain ⟨n, e1, _, _⟩ := DataW.trod_int Try.underlying2 h1
  obtain ⟨t, e2, _, _⟩ := DataW.trod_string Try.underlying9 h2
  obtain ⟨w, e3, _, _⟩ := DataW.trod_string Try.underlying35 h3
  obtain ⟨s, hs1, hs2⟩ := open_strsR Try.underlying37 Try.underlying35 (by kernel_rfl) h4
  injection e0 with e0 _; injection e1 with e1 _; injection e2 with e2 _; injection e3 with e3 _
  have e0' : c0 = _ := e0
  have e1' : c1 = _ := e1
  have e2' : c2 = _ := e2
  have e3' : c3 = _ := e3
  have hs2' : Rep (gW W) c4 (.lst .ro s.length (s.map .str)) := hs2
  have hone : c4.oneCell' = true := rep_lst_one hs2'
  rw [e0', e1', e2', e3']
  refine ⟨⟨k, n, t, w, s⟩, .cons (.int _ _) (.cons (.int _ _) (.cons (.str _) (.cons (.str _) (.cons hs2' .nil)))), fun u hu => ?_⟩
  simp only [List.mem_cons, List.not_mem_nil, or_false] at hu
  rcases hu with rfl | rfl | rfl | rfl | rfl
  · rfl
  · rfl
  · rfl
  · rfl
  · exact hone
end Go.Proofs.Ytdmhilhfdcmdiaa
