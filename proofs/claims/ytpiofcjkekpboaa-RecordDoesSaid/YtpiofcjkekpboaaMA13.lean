/- Texts of one proof, laid together: Br Os. -/
import Derived.Test.YtpiofcjkekpboaaMA10
import Derived.Test.YtpiofcjkekpboaaMA5
import Derived.Below
import Derived.OpenShut
set_option maxRecDepth 100000
set_option maxHeartbeats 16000000

set_option linter.unusedSimpArgs false
set_option linter.unusedVariables false
/- From the abstract layer to calls: what came in, as values without addresses. No law in sight. -/
namespace Go.Proofs.Ytpiofcjkekpboaa
open Go.RowKit Go.Lib Go.ChangeShapes Go.WideShapes Go.ChangeAt

def gW (W : World) : Gh := ⟨fun b o => (W.cell? ⟨b, o, none⟩).filter (fun v => v.oneCell'), fun _ => none, fun b => b < W.heap.size, fun _ => none, fun b => W.heap[b]?⟩
theorem gW_sim (P : Program) (W : World) : Sim P (gW W) [] W :=
  ⟨fun b o v h => by
      simp only [gW, Option.filter_eq_some_iff] at h; exact h,
   fun id s l h => by simp at h, fun i j b h => (nomatch h), fun i b h => (nomatch h), fun b h => h, fun b x h => (nomatch h), fun i h => by simp at h, fun b o h => ⟨h, rfl, fun i hi => (nomatch hi)⟩⟩
theorem calls_true {P : Program} {f : FuncId} {args : List AV} {W : World} {vargs : List Value} (hc : ACalls P f args [] (fun a _ => a = .bool true)) (hr : RepL (gW W) vargs args) (hp : plains args) :
  Calls P f vargs.toArray W fun e w' => e = .returned (.bool true) ∧ Below W.heap.size W w' := by
 refine (hc.2 (gW W) W vargs (gW_sim P W) (fun b k h => by cases h) hr hp).mono ?_
 rintro e w' ⟨x, a, h', g', rfl, ev, hs, _, hx, _, rfl⟩
 cases hx with
 | bool b => exact ⟨rfl, ev.os, ev.tape, ev.output, ev.size, fun k hk => (ev.Fb k hk).1⟩
theorem gW_cell {W : World} {b o : Nat} {v : Value} (h : W.cell? ⟨b, o, none⟩ = some v) (h1 : v.oneCell' = true) : (gW W).C b o = some v := by
 simp only [gW, h, Option.filter_some, h1, if_true]
theorem cells_flat {g : Gh} {α : Type} {f : α → List Value} {b k : Nat} : ∀ (l : List α) (off : Nat), (∀ i x, l[i]? = some x → (f x).length = k ∧ ∀ j v, (f x)[j]? = some v → g.C b (off + i * k + j) = some v) → CellsAt g b off (l.flatMap f)
 | [], off, _ => fun i v h => by simp at h
 | x :: l, off, h => by
  obtain ⟨h1, h2⟩ := h 0 x rfl
  have ih := cells_flat l (off + k) (fun i y hy => by
   obtain ⟨q1, q2⟩ := h (i + 1) y (by simpa using hy)
   refine ⟨q1, fun j v hv => ?_⟩
   have := q2 j v hv
   rw [show off + k + i * k + j = off + (i + 1) * k + j by rw [Nat.add_mul]; omega]
   exact this)
  intro i v hv
  rw [List.flatMap_cons] at hv
  by_cases hi : i < (f x).length
  ·rw [List.getElem?_append_left hi] at hv
   have := h2 i v hv
   simpa using this
  ·rw [List.getElem?_append_right (by omega)] at hv
   have := ih _ v hv
   rw [show off + k + (i - (f x).length) = off + i by omega] at this
   exact this
theorem repL_flat {g : Gh} {α : Type} {f : α → List Value} {q : α → List AV} : ∀ (l : List α), (∀ x ∈ l, RepL g (f x) (q x)) → RepL g (l.flatMap f) (l.flatMap q)
 | [], _ => .nil
 | x :: l, h => by
  rw [List.flatMap_cons, List.flatMap_cons]
  exact (h x (by simp)).append (repL_flat l fun y hy => h y (by simp [hy]))
section
variable {H : Type} {enc : TypeId × Value → H} {P : Program} {W : World}
theorem map_flat {α β : Type} (f : α → β) (l : List α) : l.flatMap (fun x => [f x]) = l.map f := by
 induction l with
 | nil => rfl
 | cons x l ih => simp [ih]
end
inductive Sh where
  | int (k : IntKind)
  | bool
  | str
  | slice (es : List Sh)

def chkFs (P : Program) (chk : TypeId → List Sh → Bool) : List Field → Nat → List Sh → Bool
 | [], _, shs => shs.isEmpty
 | f :: r, off, shs => f.offset == off && decide (P.cellsOf f.type ≤ shs.length) && chk f.type (shs.take (P.cellsOf f.type)) && chkFs P chk r (off + P.cellsOf f.type) (shs.drop (P.cellsOf f.type))
def chkSh (P : Program) : Nat → TypeId → List Sh → Bool
 | 0, _, _ => false
 | n + 1, t, shs => match P.underlying t with
  | some (.int k) => (match shs with
   | [.int k'] => decide (k = k')
   | _ => false)
  | some .bool => (match shs with
   | [.bool] => true
   | _ => false)
  | some .string => (match shs with
   | [.str] => true
   | _ => false)
  | some (.slice e) => (match shs with
   | [.slice es] => chkSh P n e es && P.cellsOf e == es.length && es.length != 0
   | _ => false)
  | some (.struct fs) => P.cellsOf t == shs.length && chkFs P (chkSh P n) fs.toList 0 shs
  | _ => false

mutual
inductive ShOk : Sh → AV → Prop where
  | int (k : IntKind) (n : Int) : (Lit.int k n).wf = true → ShOk (.int k) (.int k n)
  | bool (b : Bool) : ShOk .bool (.bool b)
  | str (s : ByteArray) : s.size ≤ maxLen → ShOk .str (.str s)
  | slice (es : List Sh) (gs : List (List AV)) : gs.length ≤ 9223372036854775807 → (∀ g ∈ gs, ShOks es g) → ShOk (.slice es) (.lst .ro gs.length gs.flatten)
inductive ShOks : List Sh → List AV → Prop where
  | nil : ShOks [] []
  | cons {s : Sh} {a : AV} {ss : List Sh} {l : List AV} : ShOk s a → ShOks ss l → ShOks (s :: ss) (a :: l)
end
theorem ShOk.plain {s : Sh} {a : AV} (h : ShOk s a) : plain a = true := by cases h <;> rfl
theorem ShOks.plains : ∀ {ss : List Sh} {l : List AV}, ShOks ss l → plains l
 | _, _, .nil => fun a ha => by simp at ha
 | _, _, .cons h hl => fun a ha => by
  rcases List.mem_cons.1 ha with rfl | ha
  ·exact h.plain
  ·exact hl.plains a ha
theorem ShOks.app : ∀ {ss : List Sh} {l : List AV} {ts : List Sh} {m : List AV}, ShOks ss l → ShOks ts m → ShOks (ss ++ ts) (l ++ m)
 | _, _, _, _, .nil, h => h
 | _, _, _, _, .cons h hl, h' => .cons h (ShOks.app hl h')
section
variable {H : Type} {enc : TypeId × Value → H} {P : Program} {W : World}

def OpenAt (W : World) (cs : List Value) (shs : List Sh) : Prop := ∃ zs, RepL (gW W) cs zs ∧ ShOks shs zs ∧ ∀ u ∈ cs, u.oneCell' = true
theorem open_fs {chk : TypeId → List Sh → Bool} {cs : List Value} (ih : ∀ t shs cs m x, chk t shs = true → DataW.trod enc P W 0 (fun _ => true) true m t cs = some x → OpenAt W cs shs) {n : Nat} :
  ∀ (fs : List Field) (off : Nat) (shs : List Sh), chkFs P chk fs off shs = true → (∀ f ∈ fs, ∃ x, DataW.trod enc P W 0 (fun _ => true) true n f.type ((cs.drop f.offset).take (P.cellsOf f.type)) = some x) → cs.length = off + shs.length → OpenAt W (cs.drop off) shs
 | [], off, shs, hc, _, hl => by
  simp only [chkFs, List.isEmpty_iff] at hc
  subst hc
  rw [List.drop_eq_nil_of_le (by simp at hl; omega)]
  exact ⟨[], .nil, .nil, fun u hu => by simp at hu⟩
 | f :: r, off, shs, hc, hf, hl => by
  simp only [chkFs, Bool.and_eq_true, beq_iff_eq, decide_eq_true_eq] at hc
  obtain ⟨⟨⟨h1, h2⟩, h3⟩, h4⟩ := hc
  obtain ⟨x, hx⟩ := hf f (by simp)
  obtain ⟨zs, q1, q2, q3⟩ := ih _ _ _ _ _ h3 hx
  obtain ⟨bs, r1, r2, r3⟩ := open_fs ih r _ _ h4 (fun g hg => hf g (by simp [hg])) (by rw [List.length_drop]; omega)
  rw [h1] at q1 q3
  refine ⟨zs ++ bs, ?_, ?_, ?_⟩
  ·have := q1.append r1
   rwa [← List.drop_drop, List.take_append_drop] at this
  ·have := q2.app r2
   rwa [List.take_append_drop] at this
  ·intro u hu
   rw [← List.take_append_drop (P.cellsOf f.type) (cs.drop off), List.drop_drop] at hu
   rcases List.mem_append.1 hu with hu | hu
   ·exact q3 u hu
   ·exact r3 u hu
theorem open_sh : ∀ (n : Nat) (t : TypeId) (shs : List Sh) (cs : List Value) (m : Nat) (x : DataW H × List MemPlace), chkSh P n t shs = true → DataW.trod enc P W 0 (fun _ => true) true m t cs = some x → OpenAt W cs shs
 | 0, _, _, _, _, _, h, _ => by cases h
 | n + 1, t, shs, cs, m, x, hc, hx => by
  simp only [chkSh] at hc
  split at hc
  ·next k ht =>
   split at hc
   ·simp only [decide_eq_true_eq] at hc
    subst hc
    obtain ⟨z, rfl, _, hw⟩ := DataW.trod_int ht hx
    exact ⟨_, .cons (.int _ _) .nil, .cons (.int _ _ hw) .nil, fun u hu => by simp at hu; subst hu; rfl⟩
   ·cases hc
  ·next ht =>
   split at hc
   ·obtain ⟨b, rfl, _⟩ := DataW.trod_bool ht hx
    exact ⟨_, .cons (.bool _) .nil, .cons (.bool _) .nil, fun u hu => by simp at hu; subst hu; rfl⟩
   ·cases hc
  ·next ht =>
   split at hc
   ·obtain ⟨s, rfl, _, hs⟩ := DataW.trod_string ht hx
    exact ⟨_, .cons (.str _) .nil, .cons (.str _ hs) .nil, fun u hu => by simp at hu; subst hu; rfl⟩
   ·cases hc
  ·next e ht =>
   split at hc
   ·next es =>
    simp only [Bool.and_eq_true, beq_iff_eq, bne_iff_ne, ne_eq] at hc
    obtain ⟨⟨h1, h2⟩, h3⟩ := hc
    obtain ⟨a, k, cap, rfl, hnc, hcm, hnil, b, off, hab, hget⟩ := open_elems (size := es.length) ht h2 (by omega) hx
    obtain ⟨l, hl, hq⟩ := list_of (α := List AV × List Value) (Q := fun i z => z.2.length = es.length ∧ (∀ j v, z.2[j]? = some v → (gW W).C b (off + i * es.length + j) = some v) ∧ RepL (gW W) z.2 z.1 ∧ ShOks es z.1) k (by
     intro i hi
     obtain ⟨cs', m', y, hcl, hcc, htr⟩ := hget i hi
     obtain ⟨zs, q1, q2, q3⟩ := open_sh n e es cs' m' y h1 htr
     refine ⟨(zs, cs'), hcl, fun j v hv => ?_, q1, q2⟩
     have hj : j < es.length := by rw [← hcl]; exact (List.getElem?_eq_some_iff.1 hv).1
     exact gW_cell ((hcc j hj).trans hv) (q3 v (List.mem_of_getElem? hv)))
    refine ⟨[.lst .ro (l.map (·.1)).length (l.map (·.1)).flatten], .cons ?_ .nil, .cons (.slice es _ (by simp; omega) ?_) .nil, fun u hu => by simp at hu; subst hu; rfl⟩
    ·rw [List.length_map]
     by_cases h0 : k = 0
     ·have : l = [] := by rw [← List.length_eq_zero_iff]; omega
      subst this
      subst h0
      exact .lst0 a cap .ro (fun h => by cases h)
     ·rw [hab (by omega), hl]
      rw [← List.flatMap_def (f := fun z : List AV × List Value => z.1)]
      refine .lst b off k cap .ro (l.flatMap (·.2)) _ (cells_flat l off fun i z hz => ⟨(hq i z hz).1, (hq i z hz).2.1⟩) ?_ hnc (fun h => by cases h) (repL_flat l fun z hz => ?_)
      ·intro u hu
       obtain ⟨z, hz, hz'⟩ := List.mem_flatMap.1 hu
       obtain ⟨i, hi, e⟩ := List.mem_iff_getElem.1 hz
       exact (hq i z (by rw [List.getElem?_eq_getElem hi, e])).2.2.2.plains u hz'
      ·obtain ⟨i, hi, e⟩ := List.mem_iff_getElem.1 hz
       exact (hq i z (by rw [List.getElem?_eq_getElem hi, e])).2.2.1
    ·intro g hg
     obtain ⟨z, hz, rfl⟩ := List.mem_map.1 hg
     obtain ⟨i, hi, e⟩ := List.mem_iff_getElem.1 hz
     exact (hq i z (by rw [List.getElem?_eq_getElem hi, e])).2.2.2
   ·cases hc
  ·next fs ht =>
   simp only [Bool.and_eq_true, beq_iff_eq] at hc
   obtain ⟨ys, n2, _, _, hcl, hyl, hfld⟩ := DataW.trod_struct ht hx
   have := open_fs (cs := cs) (n := n2) (fun t shs cs m x => open_sh n t shs cs m x) fs.toList 0 shs hc.2 (fun f hf => by
    obtain ⟨i, hi, e⟩ := List.mem_iff_getElem.1 hf
    have hi' : i < fs.size := by simpa using hi
    have h1 := hfld i f (by rw [Array.getElem?_eq_getElem hi']; simpa using e)
    rw [List.getElem?_eq_getElem (by omega)] at h1
    exact ⟨_, h1⟩) (by omega)
   simpa using this
  ·cases hc
theorem open_argS {n : Nat} {t : TypeId} {shs : List Sh} {base : Nat} {v : Value} {d : DataW H} {p : List MemPlace} {fs : Array Field} (hc : chkSh P n t shs = true) (ht : P.underlying t = some (.struct fs)) (hv : Value.okWide P W .any base t v) (h : DataW.Trod enc P W 0 (fun _ => true) true t v d p) :
  ∃ zs, Rep (gW W) v (.agg zs) ∧ ShOks shs zs := by
 obtain ⟨fuel, hf⟩ := h
 obtain ⟨cs, rfl, _⟩ := okWide_struct ht hv
 obtain ⟨zs, h1, h2, h3⟩ := open_sh n t shs cs.toList fuel _ hc hf
 refine ⟨zs, ?_, h2⟩
 have := Rep.agg cs.toList zs h3 h2.plains h1
 simpa using this
end
theorem sh_list {α : Type} {es : List Sh} {q : α → List AV} (hq : ∀ g, ShOks es g → ∃ x, g = q x) : ∀ {gs : List (List AV)}, (∀ g ∈ gs, ShOks es g) → ∃ l : List α, l.length = gs.length ∧ gs.flatten = l.flatMap q
 | [], _ => ⟨[], rfl, rfl⟩
 | g :: gs, h => by
  obtain ⟨x, rfl⟩ := hq g (h g (by simp))
  obtain ⟨l, h1, h2⟩ := sh_list hq (gs := gs) (fun g hg => h g (by simp [hg]))
  exact ⟨x :: l, by simp [h1], by simp [h2]⟩
theorem sh_strs {a : AV} (h : ShOk (.slice [.str]) a) : ∃ l : List ByteArray, l.length ≤ 9223372036854775807 ∧ a = .lst .ro l.length (l.map .str) ∧ ∀ x ∈ l, x.size ≤ 9223372036854775807 := by
 cases h with
 | slice _ gs hl hg =>
  obtain ⟨l, h1, h2⟩ := sh_list (α := { s : ByteArray // s.size ≤ 9223372036854775807 }) (q := fun s => [.str s.1]) (fun g hg => by
   cases hg with
   | cons h1 h2 =>
    cases h2
    cases h1 with
    | str s hs => exact ⟨⟨s, by unfold maxLen at hs; omega⟩, rfl⟩) hg
  refine ⟨l.map (·.1), by simp; omega, ?_, fun x hx => by obtain ⟨y, _, rfl⟩ := List.mem_map.1 hx; exact y.2⟩
  rw [h2, List.length_map, h1, ← map_flat, List.flatMap_map]
end Go.Proofs.Ytpiofcjkekpboaa
