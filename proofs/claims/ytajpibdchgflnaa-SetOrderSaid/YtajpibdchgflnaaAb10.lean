/- The abstract layer, eleventh part: calls that leave all objects alone, whatever objects there are. -/
import Derived.Test.YtajpibdchgflnaaAb9
namespace Go.Proofs.Ytajpibdchgflnaa
set_option linter.unusedSimpArgs false
set_option linter.unusedVariables false
open Go.RowKit Go.Lib

section
variable {P : Program} {g : Gh} {h : Hp} {w : World}

mutual
theorem Rep.free {g g' : Gh} (hC : ∀ b o v, g.C b o = some v → g'.C b o = some v) : ∀ {v : Value} {a : AV}, Rep g v a → free a = true → Rep g' v a
  | _, _, .bool b, _ => .bool b
  | _, _, .int k n, _ => .int k n
  | _, _, .str s, _ => .str s
  | _, _, .nilp, _ => .nilp
  | _, _, .ptr id off b h, hf => by simp [Go.Proofs.Ytajpibdchgflnaa.free] at hf
  | _, _, .fp b off vs l h hp hl, hf => .fp b off vs l (fun i v x => hC _ _ _ (h i v x)) hp (RepL.free hC hl (by simpa [Go.Proofs.Ytajpibdchgflnaa.free] using hf))
  | _, _, .lst b off n c f vs l h hp h1 h2 hl, hf => .lst b off n c f vs l (fun i v x => hC _ _ _ (h i v x)) hp h1 h2 (RepL.free hC hl (by simpa [Go.Proofs.Ytajpibdchgflnaa.free] using hf))
  | _, _, .lst0 a c f h, _ => .lst0 a c f h
  | _, _, .hs id b n c h h1, hf => by simp [Go.Proofs.Ytajpibdchgflnaa.free] at hf
  | _, _, .agg vs l h hp hl, hf => .agg vs l h hp (RepL.free hC hl (by simpa [Go.Proofs.Ytajpibdchgflnaa.free] using hf))
  | _, _, .tup vs l hp hl, hf => .tup vs l hp (RepL.free hC hl (by simpa [Go.Proofs.Ytajpibdchgflnaa.free] using hf))
  | _, _, .fn f vs l hp hl, hf => .fn f vs l hp (RepL.free hC hl (by simpa [Go.Proofs.Ytajpibdchgflnaa.free] using hf))
  | _, _, .nilf, _ => .nilf
theorem RepL.free {g g' : Gh} (hC : ∀ b o v, g.C b o = some v → g'.C b o = some v) : ∀ {vs : List Value} {l : List AV}, RepL g vs l → free.frees l = true → RepL g' vs l
  | _, _, .nil, _ => .nil
  | _, _, .cons h hl, hf => by
    simp only [free.frees, Bool.and_eq_true] at hf
    exact .cons (Rep.free hC h hf.1) (RepL.free hC hl hf.2)
end

/-- all objects are another's -/
def Gh.bare (g : Gh) : Gh :=
  { C := g.C, io := fun _ => none, F := fun b => g.F b ∨ (∃ i, g.io i = some b) ∨ (∃ x, g.own b = some x), own := fun _ => none }
theorem Sim.bare (hs : Sim P g h w) : Sim P g.bare [] w :=
  ⟨hs.prot, (fun id s l hl => by simp at hl), (fun i j b hi => by cases hi), (fun i b hi => by cases hi), by
    rintro b (hf | ⟨i, hi⟩ | ⟨x, hx⟩)
    · exact hs.flt b hf
    · exact (hs.dom i b hi).2
    · exact hs.olt b x hx, (fun b x hx => by cases hx)⟩
def Gh.more (g g1 : Gh) : Gh := { g with C := g1.C }
theorem Sim.more {g1 : Gh} {w1 : World} {h1 : Hp} (hs : Sim P g h w) (hev : Ev g.bare w g1 w1) (hs1 : Sim P g1 h1 w1) : Sim P (g.more g1) h w1 ∧ Ev g w (g.more g1) w1 := by
  have hle : GLe g (g.more g1) := ⟨fun b o v hc => hev.le.C b o v hc, fun _ _ h => h⟩
  refine ⟨⟨hs1.prot, ?_, hs.inj, fun i b hi => ⟨(hs.dom i b hi).1, Nat.lt_of_lt_of_le (hs.dom i b hi).2 hev.size⟩, fun b hb => Nat.lt_of_lt_of_le (hs.flt b hb) hev.size, fun b x hx => Nat.lt_of_lt_of_le (hs.olt b x hx) hev.size⟩, ⟨hle, fun _ => .rfl, fun b hb => ?_, hev.os, hev.tape, hev.output, hev.size⟩⟩
  · intro id s l hl
    refine (hs.obj id s l hl).keep hle (fun b hb h8 h9 => ?_) (fun b i o1 o3 o4 => ?_)
    · obtain ⟨q1, q2, _⟩ := hev.Fb b (.inr (.inl ⟨id, hb⟩))
      exact ⟨q1, q2, h8, h9⟩
    · obtain ⟨q1, q2, _⟩ := hev.Fb b (.inr (.inr ⟨_, o1⟩))
      exact ⟨q1, o1, q2, o3, o4⟩
  · obtain ⟨q1, q2, _⟩ := hev.Fb b (.inl hb)
    exact ⟨q1, q2, rfl, fun _ h => h⟩
/-- A call that leaves all objects alone does so whatever objects there are. -/
theorem PCalls.acalls {f : FuncId} {args : List AV} {v : AV} (hp : PCalls P f args v) (h : Hp) : ACalls P f args h (fun a h' => a = v ∧ h' = h) := by
  obtain ⟨hfa, hfv, hent, hc⟩ := hp
  refine ⟨hent, fun g w vargs hs hns hr hpl => ?_⟩
  refine (hc g.bare w vargs hs.bare (fun b k h => by cases h) (RepL.free (g := g) (g' := g.bare) (fun _ _ _ h => h) hr hfa) hpl).mono ?_
  rintro e w1 ⟨x, a, h1, g1, rfl, r1, r2, r3, r4, r5, rfl, rfl⟩
  obtain ⟨s1, s2⟩ := hs.more r1 r2
  exact ⟨x, a, h, g.more g1, rfl, s2, s1, hns, Rep.free (g := g1) (g' := g.more g1) (fun _ _ _ h => h) r4 hfv, r5, rfl, rfl⟩
theorem PCalls.use {f : FuncId} {args : List AV} {v : AV} (hp : PCalls P f args v) {h : Hp} {R : AV → Hp → Prop} (hR : R v h) : ACalls P f args h R :=
  (hp.acalls h).mono fun _ _ ⟨e1, e2⟩ => by subst e1; subst e2; exact hR

/-- objects that nobody asks for any more -/
def Gh.drop (g : Gh) : Gh := { g with io := fun _ => none }
theorem Sim.drop (hs : Sim P g h w) : Sim P g.drop [] w :=
  ⟨hs.prot, (fun id s l hl => by simp at hl), (fun i j b hi => by cases hi), (fun i b hi => by cases hi), hs.flt, hs.olt⟩

/-- What is done to nothing but what is new. -/
theorem pcalls_of {f : FuncId} {args : List AV} {v : AV} (ha : free.frees args = true) (hv : free v = true) (hc : ACalls P f args [] (fun a _ => a = v)) : PCalls P f args v := by
  refine ⟨ha, hv, hc.1, fun g w vargs hs hns hr hpl => ?_⟩
  refine (hc.2 g w vargs hs hns hr hpl).mono ?_
  rintro e w1 ⟨x, a, h1, g1, rfl, r1, r2, r3, r4, r5, rfl⟩
  refine ⟨x, a, [], g1.drop, rfl, ⟨⟨r1.le.C, fun i b hi => ?_⟩, r1.F, fun b hb => ?_, r1.os, r1.tape, r1.output, r1.size⟩, r2.drop, r3, Rep.free (g := g1) (g' := g1.drop) (fun _ _ _ h => h) r4 hv, r5, rfl, rfl⟩
  · exact absurd (hs.dom i b hi).1 (by simp)
  · obtain ⟨q1, q2, q3, q4⟩ := r1.Fb b hb
    exact ⟨q1, q2, q3, fun i hi => by cases hi⟩

end
end Go.Proofs.Ytajpibdchgflnaa
