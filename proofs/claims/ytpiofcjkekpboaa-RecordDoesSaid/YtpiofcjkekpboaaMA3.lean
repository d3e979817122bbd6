/- Texts of one proof, laid together: Ab0 Ab1. -/
import Derived.Test.YtpiofcjkekpboaaMA1
import Derived.Deep.LoopGhost
import Derived.Laws.IdiomCopy
set_option maxRecDepth 100000
set_option maxHeartbeats 16000000

set_option linter.unusedSimpArgs false
set_option linter.unusedVariables false
/- The abstract layer, first part: values without addresses, what they stand for, and what is kept of the world. No program in sight. -/
namespace Go.Proofs.Ytpiofcjkekpboaa
open Go.RowKit

inductive Fl where
  | ro
  | clip
  | own (e : TypeId)

inductive AV where
  | bool (b : Bool)
  | int (k : IntKind) (n : Int)
  | str (s : ByteArray)
  | nilp
  | ptr (id off : Nat)
  | fp (l : List AV)
  | lst (f : Fl) (n : Nat) (l : List AV)
  | hs (id n : Nat)
  | hsc (id n c : Nat)
  | agg (l : List AV)
  | tup (l : List AV)
  | fn (f : FuncId) (cap : List AV)
  | fnb (f : FuncId) (bnd : List AV)
  | nilf
  | opq
  | itr (s : ByteArray) (pos : Nat)
  | stk (e : TypeId) (o : Option Value) (l : List Int)
  | raw (v : Value) (n : Nat)
  | rawp (v : Value) (i : Nat)
  | frn (Q : World → Value → Prop)
  | omp (b : Nat) (ks vs : List AV)
  | mp (b : Nat)
  | fmp (ks vs : List AV)

inductive Loc where
  | slot (k : Nat)
  | cell (id i : Nat)

structure Gh where
  C : Nat → Nat → Option Value
  io : Nat → Option Nat
  F : Nat → Prop
  own : Nat → Option Loc
  X : Nat → Option Obj

abbrev Fr := List (Nat × AV)
abbrev Hp := List (Option (Bool × List AV))

def plain : AV → Bool
 | .lst (.own _) _ _ => false
 | .itr _ _ => false
 | .omp _ _ _ => false
 | .stk _ _ _ => false
 | _ => true
def plains (l : List AV) : Prop := ∀ a ∈ l, plain a = true
def deg : AV → AV
 | .lst (.own _) n l => .lst .ro n l
 | .itr _ _ => .opq
 | .omp b _ _ => .mp b
 | .stk _ (some v) l => .raw v l.length
 | .stk _ none _ => .opq
 | a => a
theorem plain_deg (a : AV) : plain (deg a) = true := by
 cases a with
 | lst f n l => cases f <;> rfl
 | stk e o l => cases o <;> rfl
 | _ => rfl
def pv1 : AV → Option Value
 | .bool b => some (.bool b)
 | .int k n => some (.int k n)
 | .str s => some (.string s)
 | _ => none
def pvl : List AV → Option (List Value)
 | [] => some []
 | a :: l => match pv1 a, pvl l with
  | some v, some vs => some (v :: vs)
  | _, _ => none
def pv : AV → Option Value
 | .agg l => match pvl l with
  | some vs => some (.agg vs.toArray)
  | none => none
 | .bool b => some (.bool b)
 | .int k n => some (.int k n)
 | .str s => some (.string s)
 | _ => none
def pvs : List AV → Option (List Value)
 | [] => some []
 | a :: l => match pv a, pvs l with
  | some v, some vs => some (v :: vs)
  | _, _ => none
def MapIs (obj : Option Obj) (ks vs : List AV) : Prop := ∃ es clock, obj = some (.map es clock) ∧ pvs ks = some (es.toList.map (·.key)) ∧ pvs vs = some (es.toList.map (·.val))

def CellsAt (g : Gh) (b off : Nat) (vs : List Value) : Prop := ∀ i v, vs[i]? = some v → g.C b (off + i) = some v

mutual
inductive Rep (g : Gh) : Value → AV → Prop where
  | bool (b : Bool) : Rep g (.bool b) (.bool b)
  | int (k : IntKind) (n : Int) : Rep g (.int k n) (.int k n)
  | str (s : ByteArray) : Rep g (.string s) (.str s)
  | nilp : Rep g (.pointer none) .nilp
  | ptr (id off b : Nat) : g.io id = some b → Rep g (.pointer (some ⟨b, off, none⟩)) (.ptr id off)
  | fp (b off : Nat) (vs : List Value) (l : List AV) : CellsAt g b off vs → plains l → RepL g vs l → Rep g (.pointer (some ⟨b, off, none⟩)) (.fp l)
  | lst (b off n c : Nat) (f : Fl) (vs : List Value) (l : List AV) : CellsAt g b off vs → plains l → n ≤ c → (f = .clip → c = n) → RepL g vs l → Rep g (.slice (some ⟨b, off, none⟩) n c) (.lst f n l)
  | lst0 (a : Option Addr) (c : Nat) (f : Fl) : (f = .clip → c = 0) → Rep g (.slice a 0 c) (.lst f 0 [])
  | hs (id b n c : Nat) : g.io id = some b → n ≤ c → Rep g (.slice (some ⟨b, 0, none⟩) n c) (.hs id n)
  | hsc (id b n c : Nat) : g.io id = some b → n ≤ c → Rep g (.slice (some ⟨b, 0, none⟩) n c) (.hsc id n c)
  | agg (vs : List Value) (l : List AV) : (∀ v ∈ vs, v.oneCell' = true) → plains l → RepL g vs l → Rep g (.agg vs.toArray) (.agg l)
  | tup (vs : List Value) (l : List AV) : plains l → RepL g vs l → Rep g (.tuple vs.toArray) (.tup l)
  | fn (f : FuncId) (vs : List Value) (l : List AV) : plains l → RepL g vs l → Rep g (.func (.func f) #[] vs.toArray) (.fn f l)
  | fnb (f : FuncId) (vs : List Value) (l : List AV) : plains l → RepL g vs l → Rep g (.func (.func f) vs.toArray #[]) (.fnb f l)
  | nilf : Rep g .nilFunc .nilf
  | opq (v : Value) : v.oneCell' = true → v ≠ .nilIface → Rep g v .opq
  | itr (b : Nat) (s : ByteArray) (pos : Nat) : Rep g (.pointer (some ⟨b, 0, none⟩)) (.itr s pos)
  | stk (a : Option Addr) (c : Nat) (e : TypeId) (o : Option Value) (l : List Int) : (c = 0 ∨ ∃ b, a = some ⟨b, 0, none⟩) → l.length ≤ c → (∀ v, o = some v → v = .slice a l.length c) → Rep g (.slice a l.length c) (.stk e o l)
  | raw (a : Option Addr) (n c : Nat) : (c = 0 ∨ ∃ b, a = some ⟨b, 0, none⟩) → n ≤ c → Rep g (.slice a n c) (.raw (.slice a n c) n)
  | rawp (b i n c : Nat) : Rep g (.pointer (some ⟨b, i, none⟩)) (.rawp (.slice (some ⟨b, 0, none⟩) n c) i)
  | frn (v : Value) (Q : World → Value → Prop) (S : Nat → Prop) (W0 : World) : v.oneCell' = true → (∃ b o, v = .pointer (some ⟨b, o, none⟩)) → (∀ w, (∀ j, S j → w.heap[j]? = W0.heap[j]?) → Q w v) → (∀ j, S j → ∃ o, W0.heap[j]? = some o ∧ g.X j = some o) → Rep g v (.frn Q)
  | omp (b : Nat) (ks vs : List AV) : Rep g (.map (some b)) (.omp b ks vs)
  | mp (b : Nat) : Rep g (.map (some b)) (.mp b)
  | fmp (b : Nat) (obj : Obj) (ks vs : List AV) : g.X b = some obj → MapIs (some obj) ks vs → Rep g (.map (some b)) (.fmp ks vs)
inductive RepL (g : Gh) : List Value → List AV → Prop where
  | nil : RepL g [] []
  | cons {v : Value} {a : AV} {vs : List Value} {l : List AV} : Rep g v a → RepL g vs l → RepL g (v :: vs) (a :: l)
end

theorem cells_one {v : Value} (h : v.oneCell' = true) : v.cells = [v].toArray := by cases v <;> first | rfl | (simp [Value.oneCell'] at h)
structure GLe (g g' : Gh) : Prop where
  C : ∀ b o v, g.C b o = some v → g'.C b o = some v
  io : ∀ i b, g.io i = some b → g'.io i = some b
  X : ∀ b o, g.X b = some o → g'.X b = some o
theorem GLe.refl (g : Gh) : GLe g g := ⟨fun _ _ _ h => h, fun _ _ h => h, fun _ _ h => h⟩
theorem GLe.trans {g g1 g2 : Gh} (h : GLe g g1) (h' : GLe g1 g2) : GLe g g2 := ⟨fun b o v x => h'.C _ _ _ (h.C b o v x), fun i b x => h'.io _ _ (h.io i b x), fun b o x => h'.X _ _ (h.X b o x)⟩
theorem CellsAt.mono {g g' : Gh} {b off : Nat} {vs : List Value} (h : CellsAt g b off vs) (hg : GLe g g') : CellsAt g' b off vs := fun i v x => hg.C _ _ _ (h i v x)

mutual
theorem Rep.mono {g g' : Gh} (hg : GLe g g') : ∀ {v : Value} {a : AV}, Rep g v a → Rep g' v a
  | _, _, .bool b => .bool b
  | _, _, .int k n => .int k n
  | _, _, .str s => .str s
  | _, _, .nilp => .nilp
  | _, _, .ptr id off b h => .ptr id off b (hg.io _ _ h)
  | _, _, .fp b off vs l h hp hl => .fp b off vs l (h.mono hg) hp (RepL.mono hg hl)
  | _, _, .lst b off n c f vs l h hp h1 h2 hl => .lst b off n c f vs l (h.mono hg) hp h1 h2 (RepL.mono hg hl)
  | _, _, .lst0 a c f h => .lst0 a c f h
  | _, _, .hs id b n c h h1 => .hs id b n c (hg.io _ _ h) h1
  | _, _, .hsc id b n c h h1 => .hsc id b n c (hg.io _ _ h) h1
  | _, _, .agg vs l h hp hl => .agg vs l h hp (RepL.mono hg hl)
  | _, _, .tup vs l hp hl => .tup vs l hp (RepL.mono hg hl)
  | _, _, .fn f vs l hp hl => .fn f vs l hp (RepL.mono hg hl)
  | _, _, .fnb f vs l hp hl => .fnb f vs l hp (RepL.mono hg hl)
  | _, _, .nilf => .nilf
  | _, _, .opq v h h' => .opq v h h'
  | _, _, .itr b s p => .itr b s p
  | _, _, .stk a c e o l h h' h2 => .stk a c e o l h h' h2
  | _, _, .raw a n c h h' => .raw a n c h h'
  | _, _, .rawp b i n c => .rawp b i n c
  | _, _, .frn v Q S W0 h1 h2 h3 h4 => .frn v Q S W0 h1 h2 h3 (fun j hj => by obtain ⟨o, x, y⟩ := h4 j hj; exact ⟨o, x, hg.X _ _ y⟩)
  | _, _, .omp b ks vs => .omp b ks vs
  | _, _, .mp b => .mp b
  | _, _, .fmp b obj ks vs h1 h2 => .fmp b obj ks vs (hg.X _ _ h1) h2
theorem RepL.mono {g g' : Gh} (hg : GLe g g') : ∀ {vs : List Value} {l : List AV}, RepL g vs l → RepL g' vs l
  | _, _, .nil => .nil
  | _, _, .cons h hl => .cons (Rep.mono hg h) (RepL.mono hg hl)
end

theorem RepL.length {g : Gh} : ∀ {vs : List Value} {l : List AV}, RepL g vs l → vs.length = l.length
 | _, _, .nil => rfl
 | _, _, .cons _ h => by simp [RepL.length h]
theorem RepL.get {g : Gh} : ∀ {vs : List Value} {l : List AV}, RepL g vs l → ∀ (i : Nat) (a : AV), l[i]? = some a → ∃ v, vs[i]? = some v ∧ Rep g v a
 | _, _, .nil, i, a, h => by simp at h
 | _, _, .cons h hl, 0, a, e => by simp at e; subst e; exact ⟨_, rfl, h⟩
 | _, _, .cons h hl, i + 1, a, e => by simp at e; simpa using RepL.get hl i a e
theorem RepL.append {g : Gh} : ∀ {vs : List Value} {l : List AV} {us : List Value} {m : List AV}, RepL g vs l → RepL g us m → RepL g (vs ++ us) (l ++ m)
 | _, _, _, _, .nil, h => h
 | _, _, _, _, .cons h hl, h' => .cons h (RepL.append hl h')
theorem RepL.take {g : Gh} : ∀ {vs : List Value} {l : List AV} (n : Nat), RepL g vs l → RepL g (vs.take n) (l.take n)
 | _, _, 0, _ => by simp; exact .nil
 | _, _, n + 1, .nil => by simp; exact .nil
 | _, _, n + 1, .cons h hl => .cons h (RepL.take n hl)
theorem RepL.drop {g : Gh} : ∀ {vs : List Value} {l : List AV} (n : Nat), RepL g vs l → RepL g (vs.drop n) (l.drop n)
 | _, _, 0, h => h
 | _, _, n + 1, .nil => by simp; exact .nil
 | _, _, n + 1, .cons h hl => RepL.drop n hl
theorem RepL.mk {g : Gh} : ∀ {vs : List Value} {l : List AV}, vs.length = l.length → (∀ (i : Nat) (v : Value) (a : AV), vs[i]? = some v → l[i]? = some a → Rep g v a) → RepL g vs l
 | [], [], _, _ => .nil
 | [], _ :: _, h, _ => by simp at h
 | _ :: _, [], h, _ => by simp at h
 | v :: vs, a :: l, h, hr => .cons (hr 0 v a rfl rfl) (RepL.mk (by simpa using h) fun i u b h1 h2 => hr (i + 1) u b (by simpa using h1) (by simpa using h2))
theorem RepL.deg {g : Gh} : ∀ {vs : List Value} {l : List AV}, RepL g vs l → RepL g vs (l.map deg)
 | _, _, .nil => .nil
 | _, _, .cons (a := a) h hl => .cons (by
   cases h with
   | lst b off n c f vs l h1 h2 h3 h4 h5 => cases f with
    | own e => exact .lst b off n c .ro vs l h1 h2 h3 (fun h => by cases h) h5
    | _ => exact .lst b off n c _ vs l h1 h2 h3 h4 h5
   | lst0 a c f h => cases f with
    | own e => exact .lst0 a c .ro (fun h => by cases h)
    | _ => exact .lst0 a c _ h
   | itr b s p => exact .opq _ rfl (fun h => by cases h)
   | omp b ks vs => exact .mp b
   | mp b => exact .mp b
   | fmp b obj ks vs h1 h2 => exact .fmp b obj ks vs h1 h2
   | stk a c e o l h h' h2 => cases o with
    | none => exact .opq _ rfl (fun h => by cases h)
    | some v => rw [h2 v rfl]; exact .raw a l.length c h h'
   | opq v h h' => exact .opq _ h h'
   | _ => first | exact .bool _ | exact .int _ _ | exact .str _ | exact .nilp | (exact .ptr _ _ _ ‹_›) | (exact .fp _ _ _ _ ‹_› ‹_› ‹_›) | (exact .hs _ _ _ _ ‹_› ‹_›) | (exact .hsc _ _ _ _ ‹_› ‹_›) | (exact .agg _ _ ‹_› ‹_› ‹_›) | (exact .tup _ _ ‹_› ‹_›) | (exact .fn _ _ _ ‹_› ‹_›) | (exact .fnb _ _ _ ‹_› ‹_›) | exact .nilf | (exact .raw _ _ _ ‹_› ‹_›) | (exact .rawp _ _ _ _) | exact .frn _ _ _ _ ‹_› ‹_› ‹_› ‹_›) (RepL.deg hl)
theorem Rep.deg {g : Gh} {v : Value} {a : AV} (h : Rep g v a) : Rep g v (deg a) := by
 cases RepL.deg (RepL.cons h .nil) with
 | cons h _ => exact h

def lk : Fr → Nat → Option AV
 | [], _ => none
 | (j, a) :: r, k => if j = k then some a else lk r k
theorem lk_cons (j k : Nat) (a : AV) (r : Fr) : lk ((j, a) :: r) k = if j = k then some a else lk r k := rfl

def Owned (P : Program) (g : Gh) (w : World) (x : Loc) (v : Value) : AV → Prop
 | .lst (.own e) n l => ∃ sz, (P.info? e).map (·.size) = some sz ∧ l.length = n * sz ∧ ((∃ vs, w.ownsRow 0 e sz v n vs ∧ 
   ∀ b, v.ownBlock = some b → g.own b = some x ∧ (∀ o, l.length ≤ o → g.C b o = none) ∧ ¬ g.F b ∧ ∀ id, g.io id ≠ some b) ∨ ∃ a, v = .slice a n n)
 | .itr s pos => ∃ b, v = .pointer (some ⟨b, 0, none⟩) ∧ w.heap[b]? = some (.stringIter s pos) ∧ g.own b = some x ∧ (∀ o, g.C b o = none) ∧ ¬ g.F b ∧ ∀ id, g.io id ≠ some b
 | .omp _ ks vs => ∃ b, v = .map (some b) ∧ MapIs w.heap[b]? ks vs ∧ g.own b = some x ∧ (∀ o, g.C b o = none) ∧ ¬ g.F b ∧ ∀ id, g.io id ≠ some b
 | .stk e _ l => (P.info? e).map (·.size) = some 1 ∧ ((w.ownsRow 0 e 1 v l.length (l.map (Value.int .i64)) ∧ ∀ b, v.ownBlock = some b → g.own b = some x ∧ (∀ o, g.C b o = none) ∧ ¬ g.F b ∧ ∀ id, g.io id ≠ some b) ∨ ((∃ a, v = .slice a 0 0) ∧ l = []))
 | _ => True
theorem Owned.plain {P : Program} {g : Gh} {w : World} {x : Loc} {v : Value} {a : AV} (h : plain a = true) : Owned P g w x v a := by
 cases a with
 | lst f n l => cases f <;> first | trivial | (simp [Go.Proofs.Ytpiofcjkekpboaa.plain] at h)
 | itr s pos => simp [Go.Proofs.Ytpiofcjkekpboaa.plain] at h
 | omp b0 ks vs => simp [Go.Proofs.Ytpiofcjkekpboaa.plain] at h
 | stk e o l => simp [Go.Proofs.Ytpiofcjkekpboaa.plain] at h
 | _ => trivial
theorem owns_same {w w' : World} {base : Nat} {e : TypeId} {size : Nat} {v : Value} {n : Nat} {xs : List Value} (h : w.ownsRow base e size v n xs) (hb : ∀ b, v.ownBlock = some b → w'.heap[b]? = w.heap[b]?) : w'.ownsRow base e size v n xs := by
 refine ⟨h.1, ?_⟩
 rcases h.2 with h | ⟨g, c, cur, hv, hg, hh, h4⟩
 ·exact .inl h
 ·exact .inr ⟨g, c, cur, hv, hg, by rw [hb g (by rw [hv]; rfl)]; exact hh, h4⟩
theorem Owned.keep {P : Program} {g g' : Gh} {w w' : World} {x : Loc} {v : Value} {a : AV} (h : Owned P g w x v a)
  (hb : ∀ b, g.own b = some x → ¬ g.F b → (∀ id, g.io id ≠ some b) → w'.heap[b]? = w.heap[b]? ∧ g'.own b = some x ∧ (∀ o, g'.C b o = g.C b o) ∧ ¬ g'.F b ∧ ∀ id, g'.io id ≠ some b) : Owned P g' w' x v a := by
 cases a with
 | lst f n l =>
  cases f with
  | own e =>
   obtain ⟨sz, h1, h3, ⟨vs, h2, h4⟩ | h2⟩ := h
   ·refine ⟨sz, h1, h3, .inl ⟨vs, owns_same h2 (fun b hv => (hb b (h4 b hv).1 (h4 b hv).2.2.1 (h4 b hv).2.2.2).1), fun b hv => ?_⟩⟩
    obtain ⟨q1, q2, q3, q4, q5⟩ := hb b (h4 b hv).1 (h4 b hv).2.2.1 (h4 b hv).2.2.2
    exact ⟨q2, fun o ho => by rw [q3]; exact (h4 b hv).2.1 o ho, q4, q5⟩
   ·exact ⟨sz, h1, h3, .inr h2⟩
  | _ => trivial
 | itr s pos =>
  obtain ⟨b, h1, h2, h3, h4, h5, h6⟩ := h
  obtain ⟨q1, q2, q3, q4, q5⟩ := hb b h3 h5 h6
  exact ⟨b, h1, q1.trans h2, q2, fun o => (q3 o).trans (h4 o), q4, q5⟩
 | omp b0 ks vs =>
  obtain ⟨b, h1, h2, h3, h4, h5, h6⟩ := h
  obtain ⟨q1, q2, q3, q4, q5⟩ := hb b h3 h5 h6
  exact ⟨b, h1, by rw [q1]; exact h2, q2, fun o => (q3 o).trans (h4 o), q4, q5⟩
 | stk e o l =>
  obtain ⟨h1, ⟨h2, h3⟩ | h2⟩ := h
  ·refine ⟨h1, .inl ⟨owns_same h2 (fun b hv => (hb b (h3 b hv).1 (h3 b hv).2.2.1 (h3 b hv).2.2.2).1), fun b hv => ?_⟩⟩
   obtain ⟨q1, q2, q3, q4, q5⟩ := hb b (h3 b hv).1 (h3 b hv).2.2.1 (h3 b hv).2.2.2
   exact ⟨q2, fun o => (q3 o).trans ((h3 b hv).2.1 o), q4, q5⟩
  ·exact ⟨h1, .inr h2⟩
 | _ => trivial

theorem get_app {arr rest : Array Value} {i : Nat} {v : Value} (h : arr.toList[i]? = some v) : (arr ++ rest)[i]? = some v := by
 rw [Array.getElem?_toList] at h
 rw [Array.getElem?_append_left (Array.getElem?_eq_some_iff.1 h).1]
 exact h
theorem set_app {α : Type} (a r : List α) (o : Nat) (x : α) : ∃ r' : List α, (a ++ r).set o x = a.set o x ++ r' := by
 by_cases h : o < a.length
 ·exact ⟨r, by rw [List.set_append_left _ _ h]⟩
 ·exact ⟨r.set (o - a.length) x, by
   rw [List.set_append_right _ _ (by omega)]
   congr 1
   exact (List.set_eq_of_length_le (by omega)).symm⟩
def ObjOk (P : Program) (g : Gh) (w : World) (id : Nat) (s : Bool) (l : List AV) : Prop :=
 ∃ b arr e, g.io id = some b ∧ (∃ rest : Array Value, w.heap[b]? = some (.cells (arr ++ rest) e (0, 0))) ∧ RepL g arr.toList l ∧ (∀ v ∈ arr.toList, v.oneCell' = true) ∧
  (∀ (i : Nat) v a, arr.toList[i]? = some v → l[i]? = some a → Owned P g w (.cell id i) v a) ∧ (s = false → ∀ o, g.C b o = none) ∧ (s = true → CellsAt g b 0 arr.toList) ∧ ¬ g.F b ∧ g.own b = none
theorem ObjOk.keep {P : Program} {g g' : Gh} {w w' : World} {id : Nat} {s : Bool} {l : List AV} (h : ObjOk P g w id s l) (hg : GLe g g')
  (hb : ∀ b, g.io id = some b → ¬ g.F b → g.own b = none → w'.heap[b]? = w.heap[b]? ∧ (∀ o, g'.C b o = g.C b o) ∧ ¬ g'.F b ∧ g'.own b = none)
  (hc : ∀ b i, g.own b = some (.cell id i) → ¬ g.F b → (∀ j, g.io j ≠ some b) → w'.heap[b]? = w.heap[b]? ∧ g'.own b = some (.cell id i) ∧ (∀ o, g'.C b o = g.C b o) ∧ ¬ g'.F b ∧ ∀ j, g'.io j ≠ some b) : ObjOk P g' w' id s l := by
 obtain ⟨b, arr, e, h1, ⟨rest, h2⟩, h3, h4, h5, h6, h7, h8, h9⟩ := h
 obtain ⟨q1, q2, q3, q4⟩ := hb b h1 h8 h9
 exact ⟨b, arr, e, hg.io _ _ h1, ⟨rest, q1.trans h2⟩, h3.mono hg, h4, fun i v a x y => (h5 i v a x y).keep fun b' o1 o3 o4 => hc b' i o1 o3 o4, fun e o => by rw [q2]; exact h6 e o, fun e => (h7 e).mono hg, q3, q4⟩

structure Sim (P : Program) (g : Gh) (h : Hp) (w : World) : Prop where
  prot : ∀ b o v, g.C b o = some v → w.cell? ⟨b, o, none⟩ = some v ∧ v.oneCell' = true
  obj : ∀ id s l, h[id]? = some (some (s, l)) → ObjOk P g w id s l
  inj : ∀ i j b, g.io i = some b → g.io j = some b → i = j
  dom : ∀ i b, g.io i = some b → i < h.length ∧ b < w.heap.size
  flt : ∀ b, g.F b → b < w.heap.size
  olt : ∀ b x, g.own b = some x → b < w.heap.size
  hole : ∀ i, h[i]? = some none → g.io i = none
  fro : ∀ b o, g.X b = some o → w.heap[b]? = some o ∧ g.own b = none ∧ ∀ i, g.io i ≠ some b

structure Ev (g : Gh) (w : World) (g' : Gh) (w' : World) : Prop where
  le : GLe g g'
  F : ∀ b, g'.F b ↔ g.F b
  Fb : ∀ b, g.F b → w'.heap[b]? = w.heap[b]? ∧ (∀ o, g'.C b o = g.C b o) ∧ g'.own b = g.own b ∧ ∀ i, g'.io i = some b → g.io i = some b
  os : w'.os = w.os
  tape : w'.tape = w.tape
  output : w'.output = w.output
  size : w.heap.size ≤ w'.heap.size
  Fx : ∀ b, g.F b → g'.X b = g.X b
theorem Ev.refl (g : Gh) (w : World) : Ev g w g w := ⟨.refl g, fun _ => .rfl, fun _ _ => ⟨rfl, fun _ => rfl, rfl, fun _ h => h⟩, rfl, rfl, rfl, Nat.le_refl _, fun _ _ => rfl⟩
theorem Ev.trans {g g1 g2 : Gh} {w w1 w2 : World} (h : Ev g w g1 w1) (h' : Ev g1 w1 g2 w2) : Ev g w g2 w2 :=
  ⟨h.le.trans h'.le, fun b => (h'.F b).trans (h.F b), fun b hb => by
    obtain ⟨a1, a2, a3, a4⟩ := h.Fb b hb
    obtain ⟨b1, b2, b3, b4⟩ := h'.Fb b ((h.F b).2 hb)
    exact ⟨b1.trans a1, fun o => (b2 o).trans (a2 o), b3.trans a3, fun i x => a4 i (b4 i x)⟩,
   h'.os.trans h.os, h'.tape.trans h.tape, h'.output.trans h.output, Nat.le_trans h.size h'.size, fun b hb => (h'.Fx b ((h.F b).2 hb)).trans (h.Fx b hb)⟩
theorem Ev.drew (g : Gh) (w : World) (n : Nat) : Ev g w g (w.drewN n) := ⟨.refl g, fun _ => .rfl, fun _ _ => ⟨rfl, fun _ => rfl, rfl, fun _ h => h⟩, rfl, rfl, rfl, Nat.le_refl _, fun _ _ => rfl⟩

def FrameOk (P : Program) (g : Gh) (w : World) (tmps : Array Value) (fr : Fr) : Prop :=
 ∀ k a, lk fr k = some a → ∃ v, tmps[k]? = some v ∧ Rep g v a ∧ Owned P g w (.slot k) v a
def splice {α : Type} : List α → Nat → List α → List α
 | l, _, [] => l
 | l, o, v :: r => splice (l.set o v) (o + 1) r
theorem splice_nil {α : Type} (l : List α) (o : Nat) : splice l o [] = l := rfl
theorem splice_cons {α : Type} (l : List α) (o : Nat) (v : α) (r : List α) : splice l o (v :: r) = splice (l.set o v) (o + 1) r := rfl
theorem splice_app {α : Type} : ∀ (v a r : List α) (o : Nat), ∃ r' : List α, splice (a ++ r) o v = splice a o v ++ r'
 | [], _, r, _ => ⟨r, rfl⟩
 | x :: v, a, r, o => by
  obtain ⟨r1, h1⟩ := set_app a r o x
  obtain ⟨r2, h2⟩ := splice_app v (a.set o x) r1 (o + 1)
  exact ⟨r2, by rw [splice_cons, h1, h2, splice_cons]⟩
theorem splice_length {α : Type} : ∀ (r l : List α) (o : Nat), (splice l o r).length = l.length
 | [], _, _ => rfl
 | v :: r, l, o => by rw [splice_cons, splice_length r]; simp
theorem mem_splice {α : Type} : ∀ {r l : List α} {o : Nat} {x : α}, x ∈ splice l o r → x ∈ l ∨ x ∈ r
 | [], _, _, _, h => .inl h
 | v :: r, l, o, x, h => by
  rcases mem_splice (r := r) h with h | h
  ·rcases List.mem_or_eq_of_mem_set h with h | h
   ·exact .inl h
   ·subst h; exact .inr (by simp)
  ·exact .inr (by simp [h])
theorem RepL.set {g : Gh} : ∀ {vs : List Value} {l : List AV} (o : Nat) {v : Value} {a : AV}, RepL g vs l → Rep g v a → RepL g (vs.set o v) (l.set o a)
 | _, _, _, _, _, .nil, _ => by simp; exact .nil
 | _, _, 0, _, _, .cons _ hl, h => .cons h hl
 | _, _, o + 1, _, _, .cons h0 hl, h => .cons h0 (RepL.set o hl h)
theorem RepL.splice {g : Gh} : ∀ {us : List Value} {m : List AV} {vs : List Value} {l : List AV} (o : Nat), RepL g vs l → RepL g us m → RepL g (splice vs o us) (splice l o m)
 | _, _, _, _, _, h, .nil => h
 | _, _, _, _, o, h, .cons h0 hl => RepL.splice (o + 1) (h.set o h0) hl
theorem splice_get {α : Type} : ∀ (r l : List α) (o i : Nat) (x : α), (splice l o r)[i]? = some x → (l[i]? = some x ∧ (i < o ∨ o + r.length ≤ i)) ∨ ∃ j, i = o + j ∧ r[j]? = some x
 | [], l, o, i, x, h => by
  simp only [splice_nil] at h
  refine .inl ⟨h, ?_⟩
  simp only [List.length_nil]; omega
 | v :: r, l, o, i, x, h => by
  rw [splice_cons] at h
  rcases splice_get r _ _ i x h with ⟨h, hi⟩ | ⟨j, hij, h'⟩
  ·by_cases e : i = o
   ·subst e
    rw [List.getElem?_set] at h
    simp only [if_true] at h
    split at h
    ·simp only [Option.some.injEq] at h; subst h; exact .inr ⟨0, rfl, rfl⟩
    ·cases h
   ·rw [List.getElem?_set_ne (fun e' => e e'.symm)] at h
    refine .inl ⟨h, ?_⟩
    simp only [List.length_cons]; omega
  ·exact .inr ⟨j + 1, by omega, by simpa using h'⟩

theorem heap_setCell_at {w : World} {b o : Nat} {arr : Array Value} {e : TypeId} (v : Value) (h : w.heap[b]? = some (.cells arr e (0, 0))) :
  (w.setCell ⟨b, o, none⟩ v).heap[b]? = some (.cells (arr.setIfInBounds o v) e (0, 0)) := by
 have hb : b < w.heap.size := lt_of_block h
 simp only [World.setCell, Array.getElem?_modify, if_true, h]
 rfl
theorem heap_setCells {b : Nat} {e : TypeId} : ∀ (vs : List Value) (o : Nat) (w : World) (arr : Array Value), w.heap[b]? = some (.cells arr e (0, 0)) →
  ∃ arr', (w.setCells b o vs).heap[b]? = some (.cells arr' e (0, 0)) ∧ arr'.toList = splice arr.toList o vs
 | [], o, w, arr, h => ⟨arr, h, rfl⟩
 | v :: r, o, w, arr, h => by
  obtain ⟨arr', h1, h2⟩ := heap_setCells r (o + 1) _ _ (heap_setCell_at v h)
  refine ⟨arr', h1, ?_⟩
  rw [h2, splice_cons, Array.toList_setIfInBounds]
theorem heap_setCells_other {b : Nat} : ∀ (vs : List Value) (o : Nat) (w : World) (k : Nat), k ≠ b → (w.setCells b o vs).heap[k]? = w.heap[k]?
 | [], _, _, _, _ => rfl
 | v :: r, o, w, k, h => by rw [World.setCells, heap_setCells_other r _ _ k h, Below.heap_setCell _ _ _ _ h]
theorem setCells_rest {b : Nat} : ∀ (vs : List Value) (o : Nat) (w : World), (w.setCells b o vs).os = w.os ∧ (w.setCells b o vs).tape = w.tape ∧ (w.setCells b o vs).output = w.output ∧ (w.setCells b o vs).heap.size = w.heap.size
 | [], _, _ => ⟨rfl, rfl, rfl, rfl⟩
 | v :: r, o, w => by
  obtain ⟨a, b', c, d⟩ := setCells_rest r (o + 1) (w.setCell ⟨b, o, none⟩ v)
  exact ⟨a, b', c, d.trans (by simp [World.setCell])⟩

theorem heap_new (w : World) (o : Obj) : (w.alloc o).heap[w.heap.size]? = some o := by unfold World.alloc; exact Array.getElem?_push_size

section
variable {P : Program} {g : Gh} {h : Hp} {w : World}

theorem Sim.cellsAt (hs : Sim P g h w) {b off : Nat} {vs : List Value} (hc : CellsAt g b off vs) : (∀ i v, vs[i]? = some v → w.cell? ⟨b, off + i, none⟩ = some v) ∧ ∀ v ∈ vs, v.oneCell' = true :=
 ⟨fun i v hv => (hs.prot _ _ _ (hc i v hv)).1, fun v hv => by obtain ⟨i, hi, e⟩ := List.mem_iff_getElem.1 hv; exact (hs.prot _ _ _ (hc i v (by simp [hi, e]))).2⟩
theorem Sim.clt (hs : Sim P g h w) {b o : Nat} {v : Value} (hc : g.C b o = some v) : b < w.heap.size := World.block_lt_of_cell? w ⟨b, o, none⟩ (hs.prot _ _ _ hc).1
theorem Sim.cnew (hs : Sim P g h w) {b : Nat} (hb : w.heap.size ≤ b) (o : Nat) : g.C b o = none := by
 cases hc : g.C b o with
 | none => rfl
 | some v => have := hs.clt hc; omega

theorem FrameOk.keep {g' : Gh} {w' : World} {tmps : Array Value} {fr : Fr} (hf : FrameOk P g w tmps fr) (hg : GLe g g')
  (hc : ∀ b k, g.own b = some (.slot k) → ¬ g.F b → (∀ j, g.io j ≠ some b) → w'.heap[b]? = w.heap[b]? ∧ g'.own b = some (.slot k) ∧ (∀ o, g'.C b o = g.C b o) ∧ ¬ g'.F b ∧ ∀ j, g'.io j ≠ some b) : FrameOk P g' w' tmps fr := by
 intro k a hk
 obtain ⟨v, h1, h2, h3⟩ := hf k a hk
 exact ⟨v, h1, h2.mono hg, h3.keep fun b o1 o3 o4 => hc b k o1 o3 o4⟩

theorem Sim.drewN (hs : Sim P g h w) (n : Nat) : Sim P g h (w.drewN n) :=
 ⟨fun b o v hc => hs.prot b o v hc, fun id s l hl => (hs.obj id s l hl).keep (.refl g) (fun _ _ h8 h9 => ⟨rfl, fun _ => rfl, h8, h9⟩) (fun _ _ o1 o3 o4 => ⟨rfl, o1, fun _ => rfl, o3, o4⟩), hs.inj, hs.dom, hs.flt, hs.olt, hs.hole, hs.fro⟩
theorem FrameOk.drewN {tmps : Array Value} {fr : Fr} (hf : FrameOk P g w tmps fr) (n : Nat) : FrameOk P g (w.drewN n) tmps fr :=
 hf.keep (.refl g) (fun _ _ o1 o3 o4 => ⟨rfl, o1, fun _ => rfl, o3, o4⟩)

def Gh.obj (g : Gh) (n b : Nat) : Gh := { g with io := fun i => if i = n then some b else g.io i }
theorem gle_objAt {id : Nat} (hn : g.io id = none) (b : Nat) : GLe g (g.obj id b) :=
 ⟨fun _ _ _ h => h, fun i b' hb => by simp only [Gh.obj]; rw [if_neg (fun e => by rw [e, hn] at hb; cases hb)]; exact hb, fun _ _ h => h⟩
theorem io_objAt {id i b n : Nat} (hb : b < n) (he : (g.obj id n).io i = some b) : g.io i = some b := by
 simp only [Gh.obj] at he
 split at he
 ·simp only [Option.some.injEq] at he; omega
 ·exact he
theorem Sim.holes (hs : Sim P g h w) (m : Nat) : Sim P g (h ++ List.replicate m none) w := by
 refine ⟨hs.prot, fun id s l hl => ?_, hs.inj, fun i b hi => ⟨by have := (hs.dom i b hi).1; simp; omega, (hs.dom i b hi).2⟩, hs.flt, hs.olt, fun i hi => ?_, hs.fro⟩
 ·by_cases hlt : id < h.length
  ·rw [List.getElem?_append_left hlt] at hl; exact hs.obj id s l hl
  ·rw [List.getElem?_append_right (by omega), List.getElem?_replicate] at hl
   split at hl <;> simp at hl
 ·by_cases hlt : i < h.length
  ·rw [List.getElem?_append_left hlt] at hi; exact hs.hole i hi
  ·cases hio : g.io i with
   | none => rfl
   | some b => exact absurd (hs.dom i b hio).1 hlt
theorem Sim.allocAt (hs : Sim P g h w) {id : Nat} (hid0 : h[id]? = some none) (arr : Array Value) (e : TypeId) (l : List AV) (hl : RepL g arr.toList l) (h1 : ∀ v ∈ arr.toList, v.oneCell' = true) (ho : ∀ (i : Nat) v a, arr.toList[i]? = some v → l[i]? = some a → Owned P g w (.cell id i) v a) :
  Sim P (g.obj id w.heap.size) (h.set id (some (false, l))) (w.alloc (.cells arr e)) ∧ Ev g w (g.obj id w.heap.size) (w.alloc (.cells arr e)) := by
 have hn := hs.hole id hid0
 have hle := gle_objAt hn w.heap.size
 have hidlt : id < h.length := (List.getElem?_eq_some_iff.1 hid0).1
 refine ⟨⟨?_, ?_, ?_, ?_, ?_, ?_, ?_, fun b o hx => by obtain ⟨q1, q2, q3⟩ := hs.fro b o hx; exact ⟨(Below.heap_alloc _ _ _ (lt_of_block q1)).trans q1, q2, fun i hi => q3 i (io_objAt (lt_of_block q1) hi)⟩⟩, ⟨hle, fun _ => .rfl, fun b hb => ⟨Below.heap_alloc _ _ _ (hs.flt b hb), fun _ => rfl, rfl, fun i hi => io_objAt (hs.flt b hb) hi⟩, rfl, rfl, rfl, by simp, fun _ _ => rfl⟩⟩
 ·intro b o v hc
  have hc' := hs.prot b o v hc
  exact ⟨cell_alloc hc'.1 _, hc'.2⟩
 ·intro id' s l' hid
  by_cases e1 : id' = id
  ·subst e1
   rw [List.getElem?_set] at hid
   simp only [if_true, hidlt, Option.some.injEq, Prod.mk.injEq] at hid
   obtain ⟨rfl, rfl⟩ := hid
   refine ⟨w.heap.size, arr, e, by simp [Gh.obj], ⟨#[], by rw [Array.append_empty]; exact heap_new w _⟩, hl.mono hle, h1, fun i v a hv ha => (ho i v a hv ha).keep fun b o1 o3 o4 => ⟨Below.heap_alloc _ _ _ (hs.olt b _ o1), o1, fun _ => rfl, o3, fun j hj => o4 j (io_objAt (hs.olt b _ o1) hj)⟩, fun _ o => hs.cnew (Nat.le_refl _) o, (fun h => by cases h), fun hf => by have := hs.flt _ hf; omega, ?_⟩
   cases ho : g.own w.heap.size with
   | none => exact ho
   | some x => have := hs.olt _ _ ho; omega
  ·rw [List.getElem?_set_ne (fun e => e1 e.symm)] at hid
   exact (hs.obj id' s l' hid).keep hle (fun b hb h8 h9 => ⟨Below.heap_alloc _ _ _ (hs.dom id' b hb).2, fun _ => rfl, h8, h9⟩)
    (fun b i o1 o3 o4 => ⟨Below.heap_alloc _ _ _ (hs.olt b _ o1), o1, fun _ => rfl, o3, fun j hj => o4 j (io_objAt (hs.olt b _ o1) hj)⟩)
 ·intro i j b hi hj
  simp only [Gh.obj] at hi hj
  split at hi <;> split at hj
  ·omega
  ·simp only [Option.some.injEq] at hi; have := (hs.dom j b hj).2; omega
  ·simp only [Option.some.injEq] at hj; have := (hs.dom i b hi).2; omega
  ·exact hs.inj i j b hi hj
 ·intro i b hi
  rw [List.length_set]
  simp only [Gh.obj] at hi
  split at hi
  ·simp only [Option.some.injEq] at hi; simp; omega
  ·have := hs.dom i b hi; simp; omega
 ·intro b hb; have := hs.flt b hb; simp; omega
 ·intro b x hb; have := hs.olt b x hb; simp; omega
 ·intro i hi
  rw [List.getElem?_set] at hi
  split at hi
  ·simp at hi
  ·next hne => simp only [Gh.obj]; rw [if_neg (fun e => hne e.symm)]; exact hs.hole i hi
theorem FrameOk.allocAt {tmps : Array Value} {fr : Fr} {id : Nat} (hs : Sim P g h w) (hid0 : h[id]? = some none) (hf : FrameOk P g w tmps fr) (o : Obj) : FrameOk P (g.obj id w.heap.size) (w.alloc o) tmps fr :=
 hf.keep (gle_objAt (hs.hole id hid0) _) (fun b k o1 o3 o4 => ⟨Below.heap_alloc _ _ _ (hs.olt b _ o1), o1, fun _ => rfl, o3, fun j hj => o4 j (io_objAt (hs.olt b _ o1) hj)⟩)
theorem hole1 (h : Hp) : (h ++ List.replicate 1 none)[h.length]? = some none := by simp
theorem Sim.alloc (hs : Sim P g h w) (arr : Array Value) (e : TypeId) (l : List AV) (hl : RepL g arr.toList l) (h1 : ∀ v ∈ arr.toList, v.oneCell' = true) (ho : ∀ (i : Nat) v a, arr.toList[i]? = some v → l[i]? = some a → Owned P g w (.cell h.length i) v a) :
  Sim P (g.obj h.length w.heap.size) (h ++ [some (false, l)]) (w.alloc (.cells arr e)) ∧ Ev g w (g.obj h.length w.heap.size) (w.alloc (.cells arr e)) := by
 have := (hs.holes 1).allocAt (hole1 h) arr e l hl h1 ho
 have e1 : (h ++ List.replicate 1 none).set h.length (some (false, l)) = h ++ [some (false, l)] := by simp
 rw [e1] at this
 exact this
theorem FrameOk.alloc {tmps : Array Value} {fr : Fr} (hs : Sim P g h w) (hf : FrameOk P g w tmps fr) (o : Obj) : FrameOk P (g.obj h.length w.heap.size) (w.alloc o) tmps fr :=
 FrameOk.allocAt (hs.holes 1) (hole1 h) hf o

theorem hole_set {id i : Nat} {x : Bool × List AV} (hi : (h.set id (some x))[i]? = some none) : h[i]? = some none := by
 rw [List.getElem?_set] at hi
 split at hi
 ·simp at hi
 ·exact hi
theorem Sim.store (hs : Sim P g h w) {id : Nat} {l : List AV} (hid : h[id]? = some (some (false, l))) {b : Nat} (hb : g.io id = some b) (off : Nat) (vs : List Value) (ax : List AV)
  (hr : RepL g vs ax) (h1 : ∀ v ∈ vs, v.oneCell' = true) (ho : ∀ (j : Nat) v a, vs[j]? = some v → ax[j]? = some a → Owned P g w (.cell id (off + j)) v a) :
  Sim P g (h.set id (some (false, splice l off ax))) (w.setCells b off vs) ∧ Ev g w g (w.setCells b off vs) := by
 obtain ⟨b', arr, e, q1, ⟨rest, q2⟩, q3, q4, q5, q6, q7, q8, q9⟩ := hs.obj id false l hid
 obtain rfl : b = b' := by rw [hb] at q1; simpa using q1
 obtain ⟨r1, r2, r3, r4⟩ := setCells_rest (b := b) vs off w
 have hidlt : id < h.length := (List.getElem?_eq_some_iff.1 hid).1
 refine ⟨⟨?_, ?_, hs.inj, ?_, ?_, ?_, fun i hi => hs.hole i (hole_set hi), fun b1 o hx => by obtain ⟨q1, q2, q3⟩ := hs.fro b1 o hx; exact ⟨(heap_setCells_other _ _ _ _ (fun e => q3 id (by rw [e]; exact hb))).trans q1, q2, q3⟩⟩, ⟨.refl g, fun _ => .rfl, fun b1 hb1 => ⟨heap_setCells_other _ _ _ _ (fun e => by subst e; exact q8 hb1), fun _ => rfl, rfl, fun _ h => h⟩, r1, r2, r3, Nat.le_of_eq r4.symm, fun _ _ => rfl⟩⟩
 ·intro b1 o v hc
  have hne : b1 ≠ b := fun e => by subst e; rw [q6 rfl o] at hc; cases hc
  have := hs.prot b1 o v hc
  exact ⟨by rw [World.cell?_of_block (w := w) (heap_setCells_other _ _ _ _ hne)]; exact this.1, this.2⟩
 ·intro id' s l' hl'
  by_cases e1 : id' = id
  ·subst e1
   rw [List.getElem?_set] at hl'
   simp only [if_true, hidlt, Option.some.injEq, Prod.mk.injEq] at hl'
   obtain ⟨rfl, rfl⟩ := hl'
   obtain ⟨arr1, w1, w3⟩ := heap_setCells vs off w (arr ++ rest) q2
   obtain ⟨arr', rest', w1, w2⟩ : ∃ arr' rest' : Array Value, (w.setCells b off vs).heap[b]? = some (.cells (arr' ++ rest') e (0, 0)) ∧ arr'.toList = splice arr.toList off vs := by
    obtain ⟨r', hr'⟩ := splice_app vs arr.toList rest.toList off
    refine ⟨(splice arr.toList off vs).toArray, r'.toArray, ?_, rfl⟩
    rw [w1]
    congr 2
    apply Array.toList_inj.1
    rw [w3, Array.toList_append, Array.toList_append, hr']
   refine ⟨b, arr', e, hb, ⟨rest', w1⟩, by rw [w2]; exact q3.splice off hr, by rw [w2]; exact fun v hv => (mem_splice hv).elim (q4 v) (h1 v), ?_, q6, (fun h => by cases h), q8, q9⟩
   intro i v a hv ha
   rw [w2] at hv
   rcases splice_get _ _ _ _ _ ha with ⟨ha, hi⟩ | ⟨j, hij, ha'⟩
   ·rcases splice_get _ _ _ _ _ hv with ⟨hv, _⟩ | ⟨j, hij, hv'⟩
    ·exact (q5 i v a hv ha).keep fun b2 o1 o3 o4 => ⟨heap_setCells_other _ _ _ _ (fun e => o4 id' (by rw [e]; exact hb)), o1, fun _ => rfl, o3, o4⟩
    ·have hj : j < vs.length := (List.getElem?_eq_some_iff.1 hv').1
     have := hr.length
     omega
   ·rcases splice_get _ _ _ _ _ hv with ⟨hv, hi2⟩ | ⟨j2, hij2, hv'⟩
    ·have hj : j < ax.length := (List.getElem?_eq_some_iff.1 ha').1
     have := hr.length
     omega
    ·obtain rfl : j2 = j := by omega
     subst hij
     exact (ho j2 v a hv' ha').keep fun b2 o1 o3 o4 => ⟨heap_setCells_other _ _ _ _ (fun e => o4 id' (by rw [e]; exact hb)), o1, fun _ => rfl, o3, o4⟩
  ·rw [List.getElem?_set_ne (fun e => e1 e.symm)] at hl'
   exact (hs.obj id' s l' hl').keep (.refl g) (fun b1 hb1 h8 h9 => ⟨heap_setCells_other _ _ _ _ (fun e => e1 (hs.inj _ _ _ (by rw [← e]; exact hb1) hb)), fun _ => rfl, h8, h9⟩)
    (fun b1 i o1 o3 o4 => ⟨heap_setCells_other _ _ _ _ (fun e => o4 id (by rw [e]; exact hb)), o1, fun _ => rfl, o3, o4⟩)
 ·intro i b1 hi; have := hs.dom i b1 hi; rw [List.length_set, r4]; exact this
 ·intro b1 hb1; rw [r4]; exact hs.flt b1 hb1
 ·intro b1 x hb1; rw [r4]; exact hs.olt b1 x hb1
theorem FrameOk.store {tmps : Array Value} {fr : Fr} (hf : FrameOk P g w tmps fr) {id b : Nat} (hb : g.io id = some b) (off : Nat) (vs : List Value) : FrameOk P g (w.setCells b off vs) tmps fr :=
 hf.keep (.refl g) (fun b1 k o1 o3 o4 => ⟨heap_setCells_other _ _ _ _ (fun e => o4 id (by rw [e]; exact hb)), o1, fun _ => rfl, o3, o4⟩)

end
end Go.Proofs.Ytpiofcjkekpboaa
