/- Texts of one proof, laid together: Br Os. -/
import Derived.Test.YtedaffmkpljlnaaGreatMA18
import Derived.Test.YtedaffmkpljlnaaGreatMA9
import Derived.Below
import Derived.OpenShut
set_option maxRecDepth 100000
set_option maxHeartbeats 16000000

set_option linter.unusedSimpArgs false
set_option linter.unusedVariables false
/- From the abstract layer to calls: what came in, as values without addresses. No law in sight. -/
namespace Go.Proofs.YtedaffmkpljlnaaGreat
open Go.RowKit Go.Lib Go.ChangeShapes Go.WideShapes Go.ChangeAt

def gW (W : World) : Gh := ⟨fun b o => (W.cell? ⟨b, o, none⟩).filter (fun v => v.oneCell'), fun _ => none, fun b => b < W.heap.size, fun _ => none, fun b => W.heap[b]?⟩
theorem gW_sim (P : Program) (W : World) : Sim P (gW W) [] W :=
  ⟨fun b o v h => by
      simp only [gW, Option.filter_eq_some_iff] at h; exact h,
   fun id s l h => by simp at h, fun i j b h => (nomatch h), fun i b h => (nomatch h), fun b h => h, fun b x h => (nomatch h), fun i h => by simp at h, fun b o h => ⟨h, rfl, fun i hi => (nomatch hi)⟩⟩
theorem calls_true {P : Program} {f : FuncId} {args : List AV} {W : World} {vargs : List Value} (hc : ACalls P f args [] (fun a _ => a = .bool true)) (hr : RepL (gW W) vargs args) (hp : plains args) :
  Calls P f vargs.toArray W fun e w' => e = .returned (.bool true) ∧ Below W.heap.size W w' := by
 refine (hc.2 (gW W) W vargs (gW_sim P W) (fun b k h => by cases h) hr hp).mono ?_
 rintro e w' ⟨x, a, h', g', rfl, ev, hs, _, hx, _, rfl⟩
 cases hx with
 | bool b => exact ⟨rfl, ev.os, ev.tape, ev.output, ev.size, fun k hk => (ev.Fb k hk).1⟩
theorem gW_cell {W : World} {b o : Nat} {v : Value} (h : W.cell? ⟨b, o, none⟩ = some v) (h1 : v.oneCell' = true) : (gW W).C b o = some v := by
 simp only [gW, h, Option.filter_some, h1, if_true]
theorem cells_flat {g : Gh} {α : Type} {f : α → List Value} {b k : Nat} : ∀ (l : List α) (off : Nat), (∀ i x, l[i]? = some x → (f x).length = k ∧ ∀ j v, (f x)[j]? = some v → g.C b (off + i * k + j) = some v) → CellsAt g b off (l.flatMap f)
 | [], off, _ => fun i v h => by simp at h
 | x :: l, off, h => by
  obtain ⟨h1, h2⟩ := h 0 x rfl
  have ih := cells_flat l (off + k) (fun i y hy => by
   obtain ⟨q1, q2⟩ := h (i + 1) y (by simpa using hy)
   refine ⟨q1, fun j v hv => ?_⟩
   have := q2 j v hv
   rw [show off + k + i * k + j = off + (i + 1) * k + j by rw [Nat.add_mul]; omega]
   exact this)
  intro i v hv
  rw [List.flatMap_cons] at hv
  by_cases hi : i < (f x).length
  ·rw [List.getElem?_append_left hi] at hv
   have := h2 i v hv
   simpa using this
  ·rw [List.getElem?_append_right (by omega)] at hv
   have := ih _ v hv
   rw [show off + k + (i - (f x).length) = off + i by omega] at this
   exact this
theorem repL_flat {g : Gh} {α : Type} {f : α → List Value} {q : α → List AV} : ∀ (l : List α), (∀ x ∈ l, RepL g (f x) (q x)) → RepL g (l.flatMap f) (l.flatMap q)
 | [], _ => .nil
 | x :: l, h => by
  rw [List.flatMap_cons, List.flatMap_cons]
  exact (h x (by simp)).append (repL_flat l fun y hy => h y (by simp [hy]))
section
variable {H : Type} {enc : TypeId × Value → H} {P : Program} {W : World}
theorem open_rep {α : Type} {t e : TypeId} {size fuel : Nat} {v : Value} {x : DataW H × List MemPlace} {q : α → List AV} (ht : P.underlying t = some (.slice e)) (hs : P.cellsOf e = size) (hpos : 0 < size) (hpl : ∀ y, plains (q y))
  (hel : ∀ (cs : List Value) (m : Nat) (y : DataW H × List MemPlace), cs.length = size → DataW.trod enc P W 0 (fun _ => true) true m e cs = some y → ∃ z, RepL (gW W) cs (q z) ∧ ∀ u ∈ cs, u.oneCell' = true)
  (h : DataW.trod enc P W 0 (fun _ => true) true fuel t [v] = some x) : ∃ l : List α, l.length ≤ 9223372036854775807 ∧ Rep (gW W) v (.lst .ro l.length (l.flatMap q)) := by
 obtain ⟨a, n, cap, hcs, hnc, hcm, hnil, b, off, hab, hget⟩ := open_elems (size := size) ht hs hpos h
 injection hcs with hcs _
 obtain ⟨l, hl, hq⟩ := list_of (α := α × List Value) (Q := fun i z => z.2.length = size ∧ (∀ j v, z.2[j]? = some v → (gW W).C b (off + i * size + j) = some v) ∧ RepL (gW W) z.2 (q z.1)) n (by
  intro i hi
  obtain ⟨cs, m, y, hcl, hc, ht⟩ := hget i hi
  obtain ⟨z, hz1, hz2⟩ := hel cs m y hcl ht
  refine ⟨(z, cs), hcl, fun j v hv => ?_, hz1⟩
  have hj : j < size := by rw [← hcl]; exact (List.getElem?_eq_some_iff.1 hv).1
  exact gW_cell ((hc j hj).trans hv) (hz2 v (List.mem_of_getElem? hv)))
 refine ⟨l.map (·.1), by simp; omega, ?_⟩
 rw [hcs, List.length_map, List.flatMap_map]
 by_cases h0 : n = 0
 ·have : l = [] := by rw [← List.length_eq_zero_iff]; omega
  subst this
  subst h0
  exact .lst0 a cap .ro (fun h => by cases h)
 ·rw [hab (by omega), hl]
  refine .lst b off n cap .ro (l.flatMap (·.2)) _ (cells_flat l off fun i z hz => ⟨(hq i z hz).1, (hq i z hz).2.1⟩) ?_ hnc (fun h => by cases h) (repL_flat l fun z hz => ?_)
  ·intro u hu
   obtain ⟨z, _, hz⟩ := List.mem_flatMap.1 hu
   exact hpl _ u hz
  ·obtain ⟨i, hi, rfl⟩ := List.mem_iff_getElem.1 hz
   exact (hq i _ (List.getElem?_eq_getElem hi)).2.2
theorem map_flat {α β : Type} (f : α → β) (l : List α) : l.flatMap (fun x => [f x]) = l.map f := by
 induction l with
 | nil => rfl
 | cons x l ih => simp [ih]
theorem open_strsR {t e : TypeId} {fuel : Nat} {v : Value} {x : DataW H × List MemPlace} (ht : P.underlying t = some (.slice e)) (he : P.underlying e = some .string) (hs : P.cellsOf e = 1)
  (h : DataW.trod enc P W 0 (fun _ => true) true fuel t [v] = some x) : ∃ l : List ByteArray, l.length ≤ 9223372036854775807 ∧ Rep (gW W) v (.lst .ro l.length (l.map .str)) := by
 obtain ⟨l, h1, h2⟩ := open_rep (α := ByteArray) (q := fun s => [.str s]) ht hs (by decide) (fun y a ha => by simp at ha; subst ha; rfl) (fun cs m y hcl hy => by
  obtain ⟨s, e1, _, _⟩ := DataW.trod_string he hy
  subst e1
  exact ⟨s, .cons (.str s) .nil, fun u hu => by simp at hu; subst hu; rfl⟩) h
 rw [map_flat] at h2
 exact ⟨l, h1, h2⟩
end
inductive Sh where
  | int (k : IntKind)
  | bool
  | str
  | slice (es : List Sh)

mutual
inductive ShOk : Sh → AV → Prop where
  | int (k : IntKind) (n : Int) : (Lit.int k n).wf = true → ShOk (.int k) (.int k n)
  | bool (b : Bool) : ShOk .bool (.bool b)
  | str (s : ByteArray) : s.size ≤ maxLen → ShOk .str (.str s)
  | slice (es : List Sh) (gs : List (List AV)) : gs.length ≤ 9223372036854775807 → (∀ g ∈ gs, ShOks es g) → ShOk (.slice es) (.lst .ro gs.length gs.flatten)
inductive ShOks : List Sh → List AV → Prop where
  | nil : ShOks [] []
  | cons {s : Sh} {a : AV} {ss : List Sh} {l : List AV} : ShOk s a → ShOks ss l → ShOks (s :: ss) (a :: l)
end
section
variable {H : Type} {enc : TypeId × Value → H} {P : Program} {W : World}

end
end Go.Proofs.YtedaffmkpljlnaaGreat
