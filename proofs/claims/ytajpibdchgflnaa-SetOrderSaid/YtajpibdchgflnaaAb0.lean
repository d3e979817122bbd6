/- The abstract layer, first part: values without addresses, what they stand for, and what is kept of the world. No program in sight. -/
import Derived.Test.YtajpibdchgflnaaBase
import Derived.Deep.LoopGhost
import Derived.Laws.IdiomCopy
namespace Go.Proofs.Ytajpibdchgflnaa
set_option linter.unusedSimpArgs false
set_option linter.unusedVariables false
open Go.RowKit

/-- How a slice may be used: only read; only read, and full; appended to (its elements' type). -/
inductive Fl where
  | ro
  | clip
  | own (e : TypeId)

/-- Values without addresses. -/
inductive AV where
  | bool (b : Bool)
  | int (k : IntKind) (n : Int)
  | str (s : ByteArray)
  | nilp
  | ptr (id off : Nat)
  | fp (l : List AV)
  | lst (f : Fl) (n : Nat) (l : List AV)
  | hs (id n : Nat)
  | agg (l : List AV)
  | tup (l : List AV)
  | fn (f : FuncId) (cap : List AV)
  | nilf

inductive Loc where
  | slot (k : Nat)
  | cell (id i : Nat)

/-- What is known beside the world: cells that stay, where objects lie, what is another's, who may append to a block. -/
structure Gh where
  C : Nat → Nat → Option Value
  io : Nat → Option Nat
  F : Nat → Prop
  own : Nat → Option Loc

abbrev Fr := List (Nat × AV)
abbrev Hp := List (Option (Bool × List AV))

def plain : AV → Bool
  | .lst (.own _) _ _ => false
  | _ => true
def plains (l : List AV) : Prop := ∀ a ∈ l, plain a = true
def deg : AV → AV
  | .lst (.own _) n l => .lst .ro n l
  | a => a
theorem plain_deg (a : AV) : plain (deg a) = true := by
  cases a with
  | lst f n l => cases f <;> rfl
  | _ => rfl
theorem deg_plain {a : AV} (h : plain a = true) : deg a = a := by
  cases a with
  | lst f n l => cases f <;> first | rfl | (simp [plain] at h)
  | _ => rfl

def CellsAt (g : Gh) (b off : Nat) (vs : List Value) : Prop := ∀ i v, vs[i]? = some v → g.C b (off + i) = some v

mutual
inductive Rep (g : Gh) : Value → AV → Prop where
  | bool (b : Bool) : Rep g (.bool b) (.bool b)
  | int (k : IntKind) (n : Int) : Rep g (.int k n) (.int k n)
  | str (s : ByteArray) : Rep g (.string s) (.str s)
  | nilp : Rep g (.pointer none) .nilp
  | ptr (id off b : Nat) : g.io id = some b → Rep g (.pointer (some ⟨b, off, none⟩)) (.ptr id off)
  | fp (b off : Nat) (vs : List Value) (l : List AV) : CellsAt g b off vs → plains l → RepL g vs l → Rep g (.pointer (some ⟨b, off, none⟩)) (.fp l)
  | lst (b off n c : Nat) (f : Fl) (vs : List Value) (l : List AV) : CellsAt g b off vs → plains l → n ≤ c → (f = .clip → c = n) → RepL g vs l → Rep g (.slice (some ⟨b, off, none⟩) n c) (.lst f n l)
  | lst0 (a : Option Addr) (c : Nat) (f : Fl) : (f = .clip → c = 0) → Rep g (.slice a 0 c) (.lst f 0 [])
  | hs (id b n c : Nat) : g.io id = some b → n ≤ c → Rep g (.slice (some ⟨b, 0, none⟩) n c) (.hs id n)
  | agg (vs : List Value) (l : List AV) : (∀ v ∈ vs, v.oneCell' = true) → plains l → RepL g vs l → Rep g (.agg vs.toArray) (.agg l)
  | tup (vs : List Value) (l : List AV) : plains l → RepL g vs l → Rep g (.tuple vs.toArray) (.tup l)
  | fn (f : FuncId) (vs : List Value) (l : List AV) : plains l → RepL g vs l → Rep g (.func (.func f) #[] vs.toArray) (.fn f l)
  | nilf : Rep g .nilFunc .nilf
inductive RepL (g : Gh) : List Value → List AV → Prop where
  | nil : RepL g [] []
  | cons {v : Value} {a : AV} {vs : List Value} {l : List AV} : Rep g v a → RepL g vs l → RepL g (v :: vs) (a :: l)
end

structure GLe (g g' : Gh) : Prop where
  C : ∀ b o v, g.C b o = some v → g'.C b o = some v
  io : ∀ i b, g.io i = some b → g'.io i = some b
theorem GLe.refl (g : Gh) : GLe g g := ⟨fun _ _ _ h => h, fun _ _ h => h⟩
theorem GLe.trans {g g1 g2 : Gh} (h : GLe g g1) (h' : GLe g1 g2) : GLe g g2 := ⟨fun b o v x => h'.C _ _ _ (h.C b o v x), fun i b x => h'.io _ _ (h.io i b x)⟩
theorem CellsAt.mono {g g' : Gh} {b off : Nat} {vs : List Value} (h : CellsAt g b off vs) (hg : GLe g g') : CellsAt g' b off vs := fun i v x => hg.C _ _ _ (h i v x)

mutual
theorem Rep.mono {g g' : Gh} (hg : GLe g g') : ∀ {v : Value} {a : AV}, Rep g v a → Rep g' v a
  | _, _, .bool b => .bool b
  | _, _, .int k n => .int k n
  | _, _, .str s => .str s
  | _, _, .nilp => .nilp
  | _, _, .ptr id off b h => .ptr id off b (hg.io _ _ h)
  | _, _, .fp b off vs l h hp hl => .fp b off vs l (h.mono hg) hp (RepL.mono hg hl)
  | _, _, .lst b off n c f vs l h hp h1 h2 hl => .lst b off n c f vs l (h.mono hg) hp h1 h2 (RepL.mono hg hl)
  | _, _, .lst0 a c f h => .lst0 a c f h
  | _, _, .hs id b n c h h1 => .hs id b n c (hg.io _ _ h) h1
  | _, _, .agg vs l h hp hl => .agg vs l h hp (RepL.mono hg hl)
  | _, _, .tup vs l hp hl => .tup vs l hp (RepL.mono hg hl)
  | _, _, .fn f vs l hp hl => .fn f vs l hp (RepL.mono hg hl)
  | _, _, .nilf => .nilf
theorem RepL.mono {g g' : Gh} (hg : GLe g g') : ∀ {vs : List Value} {l : List AV}, RepL g vs l → RepL g' vs l
  | _, _, .nil => .nil
  | _, _, .cons h hl => .cons (Rep.mono hg h) (RepL.mono hg hl)
end

theorem RepL.length {g : Gh} : ∀ {vs : List Value} {l : List AV}, RepL g vs l → vs.length = l.length
  | _, _, .nil => rfl
  | _, _, .cons _ h => by simp [RepL.length h]
theorem RepL.get {g : Gh} : ∀ {vs : List Value} {l : List AV}, RepL g vs l → ∀ (i : Nat) (a : AV), l[i]? = some a → ∃ v, vs[i]? = some v ∧ Rep g v a
  | _, _, .nil, i, a, h => by simp at h
  | _, _, .cons h hl, 0, a, e => by simp at e; subst e; exact ⟨_, rfl, h⟩
  | _, _, .cons h hl, i + 1, a, e => by simp at e; simpa using RepL.get hl i a e
theorem RepL.append {g : Gh} : ∀ {vs : List Value} {l : List AV} {us : List Value} {m : List AV}, RepL g vs l → RepL g us m → RepL g (vs ++ us) (l ++ m)
  | _, _, _, _, .nil, h => h
  | _, _, _, _, .cons h hl, h' => .cons h (RepL.append hl h')
theorem RepL.take {g : Gh} : ∀ {vs : List Value} {l : List AV} (n : Nat), RepL g vs l → RepL g (vs.take n) (l.take n)
  | _, _, 0, _ => by simp; exact .nil
  | _, _, n + 1, .nil => by simp; exact .nil
  | _, _, n + 1, .cons h hl => .cons h (RepL.take n hl)
theorem RepL.drop {g : Gh} : ∀ {vs : List Value} {l : List AV} (n : Nat), RepL g vs l → RepL g (vs.drop n) (l.drop n)
  | _, _, 0, h => h
  | _, _, n + 1, .nil => by simp; exact .nil
  | _, _, n + 1, .cons h hl => RepL.drop n hl
theorem RepL.mk {g : Gh} : ∀ {vs : List Value} {l : List AV}, vs.length = l.length → (∀ (i : Nat) (v : Value) (a : AV), vs[i]? = some v → l[i]? = some a → Rep g v a) → RepL g vs l
  | [], [], _, _ => .nil
  | [], _ :: _, h, _ => by simp at h
  | _ :: _, [], h, _ => by simp at h
  | v :: vs, a :: l, h, hr => .cons (hr 0 v a rfl rfl) (RepL.mk (by simpa using h) fun i u b h1 h2 => hr (i + 1) u b (by simpa using h1) (by simpa using h2))
theorem RepL.deg {g : Gh} : ∀ {vs : List Value} {l : List AV}, RepL g vs l → RepL g vs (l.map deg)
  | _, _, .nil => .nil
  | _, _, .cons (a := a) h hl => .cons (by
      cases h with
      | lst b off n c f vs l h1 h2 h3 h4 h5 => cases f with
        | own e => exact .lst b off n c .ro vs l h1 h2 h3 (fun h => by cases h) h5
        | _ => exact .lst b off n c _ vs l h1 h2 h3 h4 h5
      | lst0 a c f h => cases f with
        | own e => exact .lst0 a c .ro (fun h => by cases h)
        | _ => exact .lst0 a c _ h
      | _ => first | exact .bool _ | exact .int _ _ | exact .str _ | exact .nilp | (exact .ptr _ _ _ ‹_›) | (exact .fp _ _ _ _ ‹_› ‹_› ‹_›) | (exact .hs _ _ _ _ ‹_› ‹_›) | (exact .agg _ _ ‹_› ‹_› ‹_›) | (exact .tup _ _ ‹_› ‹_›) | (exact .fn _ _ _ ‹_› ‹_›) | exact .nilf) (RepL.deg hl)
theorem Rep.deg {g : Gh} {v : Value} {a : AV} (h : Rep g v a) : Rep g v (deg a) := by
  cases RepL.deg (RepL.cons h .nil) with
  | cons h _ => exact h

def lk : Fr → Nat → Option AV
  | [], _ => none
  | (j, a) :: r, k => if j = k then some a else lk r k
theorem lk_cons (j k : Nat) (a : AV) (r : Fr) : lk ((j, a) :: r) k = if j = k then some a else lk r k := rfl

/-- who holds a slice that may be appended to (or it is full) -/
def Owned (P : Program) (g : Gh) (w : World) (x : Loc) (v : Value) : AV → Prop
  | .lst (.own e) n l => ∃ sz, (P.info? e).map (·.size) = some sz ∧ l.length = n * sz ∧ ((∃ vs, w.ownsRow 0 e sz v n vs ∧ 
      ∀ b, v.ownBlock = some b → g.own b = some x ∧ (∀ o, l.length ≤ o → g.C b o = none) ∧ ¬ g.F b ∧ ∀ id, g.io id ≠ some b) ∨ ∃ a, v = .slice a n n)
  | _ => True
theorem Owned.plain {P : Program} {g : Gh} {w : World} {x : Loc} {v : Value} {a : AV} (h : plain a = true) : Owned P g w x v a := by
  cases a with
  | lst f n l => cases f <;> first | trivial | (simp [Go.Proofs.Ytajpibdchgflnaa.plain] at h)
  | _ => trivial
theorem owns_same {w w' : World} {base : Nat} {e : TypeId} {size : Nat} {v : Value} {n : Nat} {xs : List Value} (h : w.ownsRow base e size v n xs) (hb : ∀ b, v.ownBlock = some b → w'.heap[b]? = w.heap[b]?) : w'.ownsRow base e size v n xs := by
  refine ⟨h.1, ?_⟩
  rcases h.2 with h | ⟨g, c, cur, hv, hg, hh, h4⟩
  · exact .inl h
  · exact .inr ⟨g, c, cur, hv, hg, by rw [hb g (by rw [hv]; rfl)]; exact hh, h4⟩
theorem Owned.keep {P : Program} {g g' : Gh} {w w' : World} {x : Loc} {v : Value} {a : AV} (h : Owned P g w x v a)
    (hb : ∀ b, g.own b = some x → v.ownBlock = some b → ¬ g.F b → (∀ id, g.io id ≠ some b) → w'.heap[b]? = w.heap[b]? ∧ g'.own b = some x ∧ (∀ o, g'.C b o = g.C b o) ∧ ¬ g'.F b ∧ ∀ id, g'.io id ≠ some b) : Owned P g' w' x v a := by
  cases a with
  | lst f n l =>
    cases f with
    | own e =>
      obtain ⟨sz, h1, h3, ⟨vs, h2, h4⟩ | h2⟩ := h
      · refine ⟨sz, h1, h3, .inl ⟨vs, owns_same h2 (fun b hv => (hb b (h4 b hv).1 hv (h4 b hv).2.2.1 (h4 b hv).2.2.2).1), fun b hv => ?_⟩⟩
        obtain ⟨q1, q2, q3, q4, q5⟩ := hb b (h4 b hv).1 hv (h4 b hv).2.2.1 (h4 b hv).2.2.2
        exact ⟨q2, fun o ho => by rw [q3]; exact (h4 b hv).2.1 o ho, q4, q5⟩
      · exact ⟨sz, h1, h3, .inr h2⟩
    | _ => trivial
  | _ => trivial

/-- An object lies where it is said to lie. -/
def ObjOk (P : Program) (g : Gh) (w : World) (id : Nat) (s : Bool) (l : List AV) : Prop :=
  ∃ b arr e, g.io id = some b ∧ w.heap[b]? = some (.cells arr e (0, 0)) ∧ RepL g arr.toList l ∧ (∀ v ∈ arr.toList, v.oneCell' = true) ∧
    (∀ (i : Nat) v a, arr.toList[i]? = some v → l[i]? = some a → Owned P g w (.cell id i) v a) ∧ (s = false → ∀ o, g.C b o = none) ∧ (s = true → CellsAt g b 0 arr.toList) ∧ ¬ g.F b ∧ g.own b = none
theorem ObjOk.keep {P : Program} {g g' : Gh} {w w' : World} {id : Nat} {s : Bool} {l : List AV} (h : ObjOk P g w id s l) (hg : GLe g g')
    (hb : ∀ b, g.io id = some b → ¬ g.F b → g.own b = none → w'.heap[b]? = w.heap[b]? ∧ (∀ o, g'.C b o = g.C b o) ∧ ¬ g'.F b ∧ g'.own b = none)
    (hc : ∀ b i, g.own b = some (.cell id i) → ¬ g.F b → (∀ j, g.io j ≠ some b) → w'.heap[b]? = w.heap[b]? ∧ g'.own b = some (.cell id i) ∧ (∀ o, g'.C b o = g.C b o) ∧ ¬ g'.F b ∧ ∀ j, g'.io j ≠ some b) : ObjOk P g' w' id s l := by
  obtain ⟨b, arr, e, h1, h2, h3, h4, h5, h6, h7, h8, h9⟩ := h
  obtain ⟨q1, q2, q3, q4⟩ := hb b h1 h8 h9
  exact ⟨b, arr, e, hg.io _ _ h1, q1.trans h2, h3.mono hg, h4, fun i v a x y => (h5 i v a x y).keep fun b' o1 _ o3 o4 => hc b' i o1 o3 o4, fun e o => by rw [q2]; exact h6 e o, fun e => (h7 e).mono hg, q3, q4⟩

/-- The world holds what is known of it. -/
structure Sim (P : Program) (g : Gh) (h : Hp) (w : World) : Prop where
  prot : ∀ b o v, g.C b o = some v → w.cell? ⟨b, o, none⟩ = some v ∧ v.oneCell' = true
  obj : ∀ id s l, h[id]? = some (some (s, l)) → ObjOk P g w id s l
  inj : ∀ i j b, g.io i = some b → g.io j = some b → i = j
  dom : ∀ i b, g.io i = some b → i < h.length ∧ b < w.heap.size
  flt : ∀ b, g.F b → b < w.heap.size
  olt : ∀ b x, g.own b = some x → b < w.heap.size

/-- How the world and what is known go on. -/
structure Ev (g : Gh) (w : World) (g' : Gh) (w' : World) : Prop where
  le : GLe g g'
  F : ∀ b, g'.F b ↔ g.F b
  Fb : ∀ b, g.F b → w'.heap[b]? = w.heap[b]? ∧ (∀ o, g'.C b o = g.C b o) ∧ g'.own b = g.own b ∧ ∀ i, g'.io i = some b → g.io i = some b
  os : w'.os = w.os
  tape : w'.tape = w.tape
  output : w'.output = w.output
  size : w.heap.size ≤ w'.heap.size
theorem Ev.refl (g : Gh) (w : World) : Ev g w g w := ⟨.refl g, fun _ => .rfl, fun _ _ => ⟨rfl, fun _ => rfl, rfl, fun _ h => h⟩, rfl, rfl, rfl, Nat.le_refl _⟩
theorem Ev.trans {g g1 g2 : Gh} {w w1 w2 : World} (h : Ev g w g1 w1) (h' : Ev g1 w1 g2 w2) : Ev g w g2 w2 :=
  ⟨h.le.trans h'.le, fun b => (h'.F b).trans (h.F b), fun b hb => by
    obtain ⟨a1, a2, a3, a4⟩ := h.Fb b hb
    obtain ⟨b1, b2, b3, b4⟩ := h'.Fb b ((h.F b).2 hb)
    exact ⟨b1.trans a1, fun o => (b2 o).trans (a2 o), b3.trans a3, fun i x => a4 i (b4 i x)⟩,
   h'.os.trans h.os, h'.tape.trans h.tape, h'.output.trans h.output, Nat.le_trans h.size h'.size⟩
theorem Ev.drew (g : Gh) (w : World) (n : Nat) : Ev g w g (w.drewN n) := ⟨.refl g, fun _ => .rfl, fun _ _ => ⟨rfl, fun _ => rfl, rfl, fun _ h => h⟩, rfl, rfl, rfl, Nat.le_refl _⟩

/-- The frame holds what is known of it. -/
def FrameOk (P : Program) (g : Gh) (w : World) (tmps : Array Value) (fr : Fr) : Prop :=
  ∀ k a, lk fr k = some a → ∃ v, tmps[k]? = some v ∧ Rep g v a ∧ Owned P g w (.slot k) v a

end Go.Proofs.Ytajpibdchgflnaa
