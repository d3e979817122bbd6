/- Texts of one proof, laid together: Bk. -/
import Derived.Test.YtpiofcjkekpboaaMA14
import Derived.Below

/- From calls to the abstract layer: what is shown of a call in every world, as a call that leaves all objects alone. -/
namespace Go.Proofs.Ytpiofcjkekpboaa
set_option linter.unusedSimpArgs false
set_option linter.unusedVariables false
open Go.RowKit Go.Lib

def Gh.news (g : Gh) (w w' : World) : Gh := { g with C := fun b o => if b < w.heap.size then g.C b o else (w'.cell? ⟨b, o, none⟩).filter (fun v => v.oneCell'), X := fun b => if b < w.heap.size then g.X b else w'.heap[b]? }
theorem news_new {g : Gh} {w w' : World} {b o : Nat} {v : Value} (hb : w.heap.size ≤ b) (hc : w'.cell? ⟨b, o, none⟩ = some v) (h1 : v.oneCell' = true) : (g.news w w').C b o = some v := by
  simp only [Gh.news]
  rw [if_neg (by omega), hc]
  simp [h1]
theorem news_le {P : Program} {g : Gh} {h : Hp} {w w' : World} (hs : Sim P g h w) : GLe g (g.news w w') :=
  ⟨fun b o v hc => by simp only [Gh.news]; rw [if_pos (hs.clt hc)]; exact hc, fun _ _ h => h, fun b o hx => by simp only [Gh.news]; rw [if_pos (lt_of_block (hs.fro b o hx).1)]; exact hx⟩
theorem pcalls_calls {P : Program} {f : FuncId} {args : List AV} {v : AV} (hfa : free.frees args = true) (hfv : free v = true) (hpv : plain v = true) (hent : entersB P f = true)
    (hc : ∀ g w vargs, Sim P g [] w → RepL g vargs args → Calls P f vargs.toArray w fun e w' => ∃ x, e = .returned x ∧ Below w.heap.size w w' ∧ Rep (g.news w w') x v) : PCalls P f args v := by
  refine ⟨hfa, hfv, hent, fun g w vargs hs hns hr hp => (hc g w vargs hs hr).mono ?_⟩
  rintro e w' ⟨x, rfl, hb, hx⟩
  have hblk : ∀ b, b < w.heap.size → w'.heap[b]? = w.heap[b]? := fun b hb' => hb.block b hb'
  refine ⟨x, v, [], g.news w w', rfl, ⟨news_le hs, fun _ => .rfl, fun b hF => ⟨hblk b (hs.flt b hF), fun o => by simp only [Gh.news]; rw [if_pos (hs.flt b hF)], rfl, fun _ h => h⟩, hb.os, hb.tape, hb.output, hb.size, fun b hF => by simp only [Gh.news]; rw [if_pos (hs.flt b hF)]⟩, ⟨?_, fun id s l h => by simp at h, hs.inj, fun i b hi => absurd (hs.dom i b hi).1 (by simp), fun b hF => Nat.lt_of_lt_of_le (hs.flt b hF) hb.size, fun b y hy => Nat.lt_of_lt_of_le (hs.olt b y hy) hb.size, fun i h => by simp at h, fun b o hx => ?_⟩, hns, hx, hpv, rfl, rfl⟩
  rotate_left
  · simp only [Gh.news] at hx
    split at hx
    · next hlt => exact ⟨(hblk b hlt).trans (hs.fro b o hx).1, (hs.fro b o hx).2⟩
    · next hge =>
      refine ⟨hx, ?_, fun i hi => absurd (hs.dom i b hi).1 (by simp)⟩
      cases ho : g.own b with
      | none => exact ho
      | some x => exact absurd (hs.olt b x ho) hge
  intro b o u hcu
  simp only [Gh.news] at hcu
  split at hcu
  · next hlt =>
    have := hs.prot b o u hcu
    exact ⟨by rw [World.cell?_of_block (w := w) (hblk b hlt)]; exact this.1, this.2⟩
  · simp only [Option.filter_eq_some_iff] at hcu
    exact hcu
theorem repl_str {g : Gh} : ∀ {vs : List Value} {l : List ByteArray}, RepL g vs (l.map .str) → vs = l.map .string
  | [], [], _ => rfl
  | v :: vs, s :: l, h => by
    cases h with
    | cons h1 h2 => cases h1; rw [repl_str h2]; rfl
theorem rep_strs {P : Program} {g : Gh} {h : Hp} {w : World} {v : Value} {f : Fl} {l : List ByteArray} (hs : Sim P g h w) (hr : Rep g v (.lst f l.length (l.map .str))) :
    ∃ a c, v = .slice a l.length c ∧ RowOf w a (l.map .string) := by
  obtain ⟨a, c, vs, h1, h2, h3, _⟩ := row_of hs hr
  obtain rfl := repl_str h3
  exact ⟨a, c, h1, h2⟩
end Go.Proofs.Ytpiofcjkekpboaa
