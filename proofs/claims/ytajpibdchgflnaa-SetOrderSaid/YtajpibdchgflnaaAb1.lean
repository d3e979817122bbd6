/- The abstract layer, second part: how the world goes on: objects are made and written, slices are appended to. -/
import Derived.Test.YtajpibdchgflnaaAb0
namespace Go.Proofs.Ytajpibdchgflnaa
set_option linter.unusedSimpArgs false
set_option linter.unusedVariables false
open Go.RowKit

/-- cells written over from a place on -/
def splice {α : Type} : List α → Nat → List α → List α
  | l, _, [] => l
  | l, o, v :: r => splice (l.set o v) (o + 1) r
theorem splice_nil {α : Type} (l : List α) (o : Nat) : splice l o [] = l := rfl
theorem splice_cons {α : Type} (l : List α) (o : Nat) (v : α) (r : List α) : splice l o (v :: r) = splice (l.set o v) (o + 1) r := rfl
theorem splice_length {α : Type} : ∀ (r l : List α) (o : Nat), (splice l o r).length = l.length
  | [], _, _ => rfl
  | v :: r, l, o => by rw [splice_cons, splice_length r]; simp
theorem mem_splice {α : Type} : ∀ {r l : List α} {o : Nat} {x : α}, x ∈ splice l o r → x ∈ l ∨ x ∈ r
  | [], _, _, _, h => .inl h
  | v :: r, l, o, x, h => by
    rcases mem_splice (r := r) h with h | h
    · rcases List.mem_or_eq_of_mem_set h with h | h
      · exact .inl h
      · subst h; exact .inr (by simp)
    · exact .inr (by simp [h])
theorem RepL.set {g : Gh} : ∀ {vs : List Value} {l : List AV} (o : Nat) {v : Value} {a : AV}, RepL g vs l → Rep g v a → RepL g (vs.set o v) (l.set o a)
  | _, _, _, _, _, .nil, _ => by simp; exact .nil
  | _, _, 0, _, _, .cons _ hl, h => .cons h hl
  | _, _, o + 1, _, _, .cons h0 hl, h => .cons h0 (RepL.set o hl h)
theorem RepL.splice {g : Gh} : ∀ {us : List Value} {m : List AV} {vs : List Value} {l : List AV} (o : Nat), RepL g vs l → RepL g us m → RepL g (splice vs o us) (splice l o m)
  | _, _, _, _, _, h, .nil => h
  | _, _, _, _, o, h, .cons h0 hl => RepL.splice (o + 1) (h.set o h0) hl
theorem splice_get {α : Type} : ∀ (r l : List α) (o i : Nat) (x : α), (splice l o r)[i]? = some x → (l[i]? = some x ∧ (i < o ∨ o + r.length ≤ i)) ∨ ∃ j, i = o + j ∧ r[j]? = some x
  | [], l, o, i, x, h => by
    simp only [splice_nil] at h
    refine .inl ⟨h, ?_⟩
    simp only [List.length_nil]; omega
  | v :: r, l, o, i, x, h => by
    rw [splice_cons] at h
    rcases splice_get r _ _ i x h with ⟨h, hi⟩ | ⟨j, hij, h'⟩
    · by_cases e : i = o
      · subst e
        rw [List.getElem?_set] at h
        simp only [if_true] at h
        split at h
        · simp only [Option.some.injEq] at h; subst h; exact .inr ⟨0, rfl, rfl⟩
        · cases h
      · rw [List.getElem?_set_ne (fun e' => e e'.symm)] at h
        refine .inl ⟨h, ?_⟩
        simp only [List.length_cons]; omega
    · exact .inr ⟨j + 1, by omega, by simpa using h'⟩

theorem heap_setCell_at {w : World} {b o : Nat} {arr : Array Value} {e : TypeId} (v : Value) (h : w.heap[b]? = some (.cells arr e (0, 0))) :
    (w.setCell ⟨b, o, none⟩ v).heap[b]? = some (.cells (arr.setIfInBounds o v) e (0, 0)) := by
  have hb : b < w.heap.size := lt_of_block h
  simp only [World.setCell, Array.getElem?_modify, if_true, h]
  rfl
theorem heap_setCells {b : Nat} {e : TypeId} : ∀ (vs : List Value) (o : Nat) (w : World) (arr : Array Value), w.heap[b]? = some (.cells arr e (0, 0)) →
    ∃ arr', (w.setCells b o vs).heap[b]? = some (.cells arr' e (0, 0)) ∧ arr'.toList = splice arr.toList o vs
  | [], o, w, arr, h => ⟨arr, h, rfl⟩
  | v :: r, o, w, arr, h => by
    obtain ⟨arr', h1, h2⟩ := heap_setCells r (o + 1) _ _ (heap_setCell_at v h)
    refine ⟨arr', h1, ?_⟩
    rw [h2, splice_cons, Array.toList_setIfInBounds]
theorem heap_setCells_other {b : Nat} : ∀ (vs : List Value) (o : Nat) (w : World) (k : Nat), k ≠ b → (w.setCells b o vs).heap[k]? = w.heap[k]?
  | [], _, _, _, _ => rfl
  | v :: r, o, w, k, h => by rw [World.setCells, heap_setCells_other r _ _ k h, Below.heap_setCell _ _ _ _ h]
theorem setCells_rest {b : Nat} : ∀ (vs : List Value) (o : Nat) (w : World), (w.setCells b o vs).os = w.os ∧ (w.setCells b o vs).tape = w.tape ∧ (w.setCells b o vs).output = w.output ∧ (w.setCells b o vs).heap.size = w.heap.size
  | [], _, _ => ⟨rfl, rfl, rfl, rfl⟩
  | v :: r, o, w => by
    obtain ⟨a, b', c, d⟩ := setCells_rest r (o + 1) (w.setCell ⟨b, o, none⟩ v)
    exact ⟨a, b', c, d.trans (by simp [World.setCell])⟩

theorem heap_new (w : World) (o : Obj) : (w.alloc o).heap[w.heap.size]? = some o := by unfold World.alloc; exact Array.getElem?_push_size

section
variable {P : Program} {g : Gh} {h : Hp} {w : World}

theorem Sim.cellsAt (hs : Sim P g h w) {b off : Nat} {vs : List Value} (hc : CellsAt g b off vs) : (∀ i v, vs[i]? = some v → w.cell? ⟨b, off + i, none⟩ = some v) ∧ ∀ v ∈ vs, v.oneCell' = true :=
  ⟨fun i v hv => (hs.prot _ _ _ (hc i v hv)).1, fun v hv => by obtain ⟨i, hi, e⟩ := List.mem_iff_getElem.1 hv; exact (hs.prot _ _ _ (hc i v (by simp [hi, e]))).2⟩
theorem Sim.clt (hs : Sim P g h w) {b o : Nat} {v : Value} (hc : g.C b o = some v) : b < w.heap.size := World.block_lt_of_cell? w ⟨b, o, none⟩ (hs.prot _ _ _ hc).1
theorem Sim.cnew (hs : Sim P g h w) {b : Nat} (hb : w.heap.size ≤ b) (o : Nat) : g.C b o = none := by
  cases hc : g.C b o with
  | none => rfl
  | some v => have := hs.clt hc; omega

theorem FrameOk.keep {g' : Gh} {w' : World} {tmps : Array Value} {fr : Fr} (hf : FrameOk P g w tmps fr) (hg : GLe g g')
    (hc : ∀ b k, g.own b = some (.slot k) → ¬ g.F b → (∀ j, g.io j ≠ some b) → w'.heap[b]? = w.heap[b]? ∧ g'.own b = some (.slot k) ∧ (∀ o, g'.C b o = g.C b o) ∧ ¬ g'.F b ∧ ∀ j, g'.io j ≠ some b) : FrameOk P g' w' tmps fr := by
  intro k a hk
  obtain ⟨v, h1, h2, h3⟩ := hf k a hk
  exact ⟨v, h1, h2.mono hg, h3.keep fun b o1 _ o3 o4 => hc b k o1 o3 o4⟩

/-- only draws have been made -/
theorem Sim.drewN (hs : Sim P g h w) (n : Nat) : Sim P g h (w.drewN n) :=
  ⟨fun b o v hc => hs.prot b o v hc, fun id s l hl => (hs.obj id s l hl).keep (.refl g) (fun _ _ h8 h9 => ⟨rfl, fun _ => rfl, h8, h9⟩) (fun _ _ o1 o3 o4 => ⟨rfl, o1, fun _ => rfl, o3, o4⟩), hs.inj, hs.dom, hs.flt, hs.olt⟩
theorem FrameOk.drewN {tmps : Array Value} {fr : Fr} (hf : FrameOk P g w tmps fr) (n : Nat) : FrameOk P g (w.drewN n) tmps fr :=
  hf.keep (.refl g) (fun _ _ o1 o3 o4 => ⟨rfl, o1, fun _ => rfl, o3, o4⟩)

/-- a new object -/
def Gh.obj (g : Gh) (n b : Nat) : Gh := { g with io := fun i => if i = n then some b else g.io i }
theorem gle_obj (hs : Sim P g h w) : GLe g (g.obj h.length w.heap.size) :=
  ⟨fun _ _ _ h => h, fun i b hb => by have := (hs.dom i b hb).1; simp only [Gh.obj]; rw [if_neg (by omega)]; exact hb⟩
theorem io_obj (hs : Sim P g h w) {i b : Nat} (hb : b < w.heap.size) (he : (g.obj h.length w.heap.size).io i = some b) : g.io i = some b := by
  simp only [Gh.obj] at he
  split at he
  · simp only [Option.some.injEq] at he; omega
  · exact he
theorem Sim.alloc (hs : Sim P g h w) (arr : Array Value) (e : TypeId) (l : List AV) (hl : RepL g arr.toList l) (h1 : ∀ v ∈ arr.toList, v.oneCell' = true) (ho : ∀ (i : Nat) v a, arr.toList[i]? = some v → l[i]? = some a → Owned P g w (.cell h.length i) v a) :
    Sim P (g.obj h.length w.heap.size) (h ++ [some (false, l)]) (w.alloc (.cells arr e)) ∧ Ev g w (g.obj h.length w.heap.size) (w.alloc (.cells arr e)) := by
  have hle := gle_obj hs
  refine ⟨⟨?_, ?_, ?_, ?_, ?_, ?_⟩, ⟨hle, fun _ => .rfl, fun b hb => ⟨Below.heap_alloc _ _ _ (hs.flt b hb), fun _ => rfl, rfl, fun i hi => io_obj hs (hs.flt b hb) hi⟩, rfl, rfl, rfl, by simp⟩⟩
  · intro b o v hc
    have hc' := hs.prot b o v hc
    exact ⟨cell_alloc hc'.1 _, hc'.2⟩
  · intro id s l' hid
    by_cases hlt : id < h.length
    · rw [List.getElem?_append_left hlt] at hid
      exact (hs.obj id s l' hid).keep hle (fun b hb h8 h9 => ⟨Below.heap_alloc _ _ _ (hs.dom id b hb).2, fun _ => rfl, h8, h9⟩)
        (fun b i o1 o3 o4 => ⟨Below.heap_alloc _ _ _ (hs.olt b _ o1), o1, fun _ => rfl, o3, fun j hj => o4 j (io_obj hs (hs.olt b _ o1) hj)⟩)
    · rw [List.getElem?_append_right (by omega)] at hid
      have hid0 : id = h.length := by
        rcases Nat.eq_zero_or_pos (id - h.length) with h0 | h0
        · omega
        · rw [List.getElem?_eq_none (by simp; omega)] at hid; cases hid
      subst hid0
      simp only [Nat.sub_self, List.getElem?_cons_zero, Option.some.injEq, Prod.mk.injEq] at hid
      obtain ⟨rfl, rfl⟩ := hid
      refine ⟨w.heap.size, arr, e, by simp [Gh.obj], heap_new w _, hl.mono hle, h1, fun i v a hv ha => (ho i v a hv ha).keep fun b o1 _ o3 o4 => ⟨Below.heap_alloc _ _ _ (hs.olt b _ o1), o1, fun _ => rfl, o3, fun j hj => o4 j (io_obj hs (hs.olt b _ o1) hj)⟩, fun _ o => hs.cnew (Nat.le_refl _) o, (fun h => by cases h), fun hf => by have := hs.flt _ hf; omega, ?_⟩
      cases ho : g.own w.heap.size with
      | none => exact ho
      | some x => have := hs.olt _ _ ho; omega
  · intro i j b hi hj
    simp only [Gh.obj] at hi hj
    split at hi <;> split at hj
    · omega
    · simp only [Option.some.injEq] at hi; have := (hs.dom j b hj).2; omega
    · simp only [Option.some.injEq] at hj; have := (hs.dom i b hi).2; omega
    · exact hs.inj i j b hi hj
  · intro i b hi
    simp only [Gh.obj] at hi
    split at hi
    · simp only [Option.some.injEq] at hi; simp; omega
    · have := hs.dom i b hi; simp; omega
  · intro b hb; have := hs.flt b hb; simp; omega
  · intro b x hb; have := hs.olt b x hb; simp; omega
theorem FrameOk.alloc {tmps : Array Value} {fr : Fr} (hs : Sim P g h w) (hf : FrameOk P g w tmps fr) (o : Obj) : FrameOk P (g.obj h.length w.heap.size) (w.alloc o) tmps fr :=
  hf.keep (gle_obj hs) (fun b k o1 o3 o4 => ⟨Below.heap_alloc _ _ _ (hs.olt b _ o1), o1, fun _ => rfl, o3, fun j hj => o4 j (io_obj hs (hs.olt b _ o1) hj)⟩)

/-- an object is written over -/
theorem Sim.store (hs : Sim P g h w) {id : Nat} {l : List AV} (hid : h[id]? = some (some (false, l))) {b : Nat} (hb : g.io id = some b) (off : Nat) (vs : List Value) (as : List AV)
    (hr : RepL g vs as) (h1 : ∀ v ∈ vs, v.oneCell' = true) (ho : ∀ (j : Nat) v a, vs[j]? = some v → as[j]? = some a → Owned P g w (.cell id (off + j)) v a) :
    Sim P g (h.set id (some (false, splice l off as))) (w.setCells b off vs) ∧ Ev g w g (w.setCells b off vs) := by
  obtain ⟨b', arr, e, q1, q2, q3, q4, q5, q6, q7, q8, q9⟩ := hs.obj id false l hid
  obtain rfl : b = b' := by rw [hb] at q1; simpa using q1
  obtain ⟨r1, r2, r3, r4⟩ := setCells_rest (b := b) vs off w
  have hidlt : id < h.length := (List.getElem?_eq_some_iff.1 hid).1
  refine ⟨⟨?_, ?_, hs.inj, ?_, ?_, ?_⟩, ⟨.refl g, fun _ => .rfl, fun b1 hb1 => ⟨heap_setCells_other _ _ _ _ (fun e => by subst e; exact q8 hb1), fun _ => rfl, rfl, fun _ h => h⟩, r1, r2, r3, Nat.le_of_eq r4.symm⟩⟩
  · intro b1 o v hc
    have hne : b1 ≠ b := fun e => by subst e; rw [q6 rfl o] at hc; cases hc
    have := hs.prot b1 o v hc
    exact ⟨by rw [World.cell?_of_block (w := w) (heap_setCells_other _ _ _ _ hne)]; exact this.1, this.2⟩
  · intro id' s l' hl'
    by_cases e1 : id' = id
    · subst e1
      rw [List.getElem?_set] at hl'
      simp only [if_true, hidlt, Option.some.injEq, Prod.mk.injEq] at hl'
      obtain ⟨rfl, rfl⟩ := hl'
      obtain ⟨arr', w1, w2⟩ := heap_setCells vs off w arr q2
      refine ⟨b, arr', e, hb, w1, by rw [w2]; exact q3.splice off hr, by rw [w2]; exact fun v hv => (mem_splice hv).elim (q4 v) (h1 v), ?_, q6, (fun h => by cases h), q8, q9⟩
      intro i v a hv ha
      rw [w2] at hv
      rcases splice_get _ _ _ _ _ ha with ⟨ha, hi⟩ | ⟨j, hij, ha'⟩
      · rcases splice_get _ _ _ _ _ hv with ⟨hv, _⟩ | ⟨j, hij, hv'⟩
        · exact (q5 i v a hv ha).keep fun b2 o1 _ o3 o4 => ⟨heap_setCells_other _ _ _ _ (fun e => o4 id' (by rw [e]; exact hb)), o1, fun _ => rfl, o3, o4⟩
        · have hj : j < vs.length := (List.getElem?_eq_some_iff.1 hv').1
          have := hr.length
          omega
      · rcases splice_get _ _ _ _ _ hv with ⟨hv, hi2⟩ | ⟨j2, hij2, hv'⟩
        · have hj : j < as.length := (List.getElem?_eq_some_iff.1 ha').1
          have := hr.length
          omega
        · obtain rfl : j2 = j := by omega
          subst hij
          exact (ho j2 v a hv' ha').keep fun b2 o1 _ o3 o4 => ⟨heap_setCells_other _ _ _ _ (fun e => o4 id' (by rw [e]; exact hb)), o1, fun _ => rfl, o3, o4⟩
    · rw [List.getElem?_set_ne (fun e => e1 e.symm)] at hl'
      exact (hs.obj id' s l' hl').keep (.refl g) (fun b1 hb1 h8 h9 => ⟨heap_setCells_other _ _ _ _ (fun e => e1 (hs.inj _ _ _ (by rw [← e]; exact hb1) hb)), fun _ => rfl, h8, h9⟩)
        (fun b1 i o1 o3 o4 => ⟨heap_setCells_other _ _ _ _ (fun e => o4 id (by rw [e]; exact hb)), o1, fun _ => rfl, o3, o4⟩)
  · intro i b1 hi; have := hs.dom i b1 hi; rw [List.length_set, r4]; exact this
  · intro b1 hb1; rw [r4]; exact hs.flt b1 hb1
  · intro b1 x hb1; rw [r4]; exact hs.olt b1 x hb1
theorem FrameOk.store {tmps : Array Value} {fr : Fr} (hf : FrameOk P g w tmps fr) {id b : Nat} (hb : g.io id = some b) (off : Nat) (vs : List Value) : FrameOk P g (w.setCells b off vs) tmps fr :=
  hf.keep (.refl g) (fun b1 k o1 o3 o4 => ⟨heap_setCells_other _ _ _ _ (fun e => o4 id (by rw [e]; exact hb)), o1, fun _ => rfl, o3, o4⟩)

end
end Go.Proofs.Ytajpibdchgflnaa
