/- Texts of one proof, laid together: Br Os. -/
import Derived.Test.YtpjlkefadnbgdaaGreatMX14
import Derived.Test.YtpjlkefadnbgdaaGreatMX8
import Derived.Below
import Derived.OpenShut

/- From the abstract layer to calls: what came in, as values without addresses. No law in sight. -/
namespace Go.Proofs.YtpjlkefadnbgdaaGreat
set_option linter.unusedSimpArgs false
set_option linter.unusedVariables false
open Go.RowKit Go.Lib Go.ChangeShapes Go.WideShapes Go.ChangeAt

def gW (W : World) : Gh := ⟨fun b o => (W.cell? ⟨b, o, none⟩).filter (fun v => v.oneCell'), fun _ => none, fun b => b < W.heap.size, fun _ => none, fun b => W.heap[b]?⟩
theorem gW_sim (P : Program) (W : World) : Sim P (gW W) [] W :=
  ⟨fun b o v h => by
      simp only [gW, Option.filter_eq_some_iff] at h; exact h,
   fun id s l h => by simp at h, fun i j b h => (nomatch h), fun i b h => (nomatch h), fun b h => h, fun b x h => (nomatch h), fun i h => by simp at h, fun b o h => ⟨h, rfl, fun i hi => (nomatch hi)⟩⟩
theorem calls_true {P : Program} {f : FuncId} {args : List AV} {W : World} {vargs : List Value} (hc : ACalls P f args [] (fun a _ => a = .bool true)) (hr : RepL (gW W) vargs args) (hp : plains args) :
    Calls P f vargs.toArray W fun e w' => e = .returned (.bool true) ∧ Below W.heap.size W w' := by
  refine (hc.2 (gW W) W vargs (gW_sim P W) (fun b k h => by cases h) hr hp).mono ?_
  rintro e w' ⟨x, a, h', g', rfl, ev, hs, _, hx, _, rfl⟩
  cases hx with
  | bool b => exact ⟨rfl, ev.os, ev.tape, ev.output, ev.size, fun k hk => (ev.Fb k hk).1⟩
section
variable {H : Type} {enc : TypeId × Value → H} {P : Program} {W : World}
end
end Go.Proofs.YtpjlkefadnbgdaaGreat

/- Opening what came in, by its shape: one law for whatever type of numbers, texts, lists and structs. No program in sight. -/
namespace Go.Proofs.YtpjlkefadnbgdaaGreat
set_option linter.unusedSimpArgs false
set_option linter.unusedVariables false
open Go.RowKit Go.Lib Go.ChangeShapes Go.WideShapes Go.ChangeAt

inductive Sh where
  | int (k : IntKind)
  | bool
  | str
  | slice (es : List Sh)

mutual
inductive ShOk : Sh → AV → Prop where
  | int (k : IntKind) (n : Int) : (Lit.int k n).wf = true → ShOk (.int k) (.int k n)
  | bool (b : Bool) : ShOk .bool (.bool b)
  | str (s : ByteArray) : s.size ≤ maxLen → ShOk .str (.str s)
  | slice (es : List Sh) (gs : List (List AV)) : gs.length ≤ 9223372036854775807 → (∀ g ∈ gs, ShOks es g) → ShOk (.slice es) (.lst .ro gs.length gs.flatten)
inductive ShOks : List Sh → List AV → Prop where
  | nil : ShOks [] []
  | cons {s : Sh} {a : AV} {ss : List Sh} {l : List AV} : ShOk s a → ShOks ss l → ShOks (s :: ss) (a :: l)
end
theorem ShOk.plain {s : Sh} {a : AV} (h : ShOk s a) : plain a = true := by cases h <;> rfl
theorem ShOks.plains : ∀ {ss : List Sh} {l : List AV}, ShOks ss l → plains l
  | _, _, .nil => fun a ha => by simp at ha
  | _, _, .cons h hl => fun a ha => by
    rcases List.mem_cons.1 ha with rfl | ha
    · exact h.plain
    · exact hl.plains a ha
theorem ShOks.app : ∀ {ss : List Sh} {l : List AV} {ts : List Sh} {m : List AV}, ShOks ss l → ShOks ts m → ShOks (ss ++ ts) (l ++ m)
  | _, _, _, _, .nil, h => h
  | _, _, _, _, .cons h hl, h' => .cons h (ShOks.app hl h')
theorem ShOks.len : ∀ {ss : List Sh} {l : List AV}, ShOks ss l → l.length = ss.length
  | _, _, .nil => rfl
  | _, _, .cons _ h => by simp [ShOks.len h]

section
variable {H : Type} {enc : TypeId × Value → H} {P : Program} {W : World}

end
end Go.Proofs.YtpjlkefadnbgdaaGreat
