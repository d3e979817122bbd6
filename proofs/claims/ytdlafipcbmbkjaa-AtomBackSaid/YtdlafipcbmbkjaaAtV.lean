/- AtomLoads for every input. -/
import Derived.Test.YtdlafipcbmbkjaaAtU
namespace Go.Proofs.Ytdlafipcbmbkjaa
open Go.RowKit Go.Maps Go.ChangeShapes Go.WideShapes Go.ChangeAt

theorem okWide_arr {P : Program} {w : World} {r : Reach} {base : Nat} {t e : TypeId} {v : Value} {n : Nat} (ht : P.underlying t = some (.array n e)) (h : Value.okWide P w r base t v) : ∃ cs, v = .agg cs ∧ cs.size = P.cellsOf t := by
  simp only [Value.okWide, ht] at h
  obtain ⟨cs, h1, h2, _⟩ := h
  exact ⟨cs, h1, h2⟩
theorem array6 {α : Type} {cs : Array α} (h : cs.size = 6) : ∃ f : Nat → α, cs = #[f 0, f 1, f 2, f 3, f 4, f 5] := by
  obtain ⟨l⟩ := cs
  match l, h with
  | [c0, c1, c2, c3, c4, c5], _ => exact ⟨fun k => if k = 0 then c0 else if k = 1 then c1 else if k = 2 then c2 else if k = 3 then c3 else if k = 4 then c4 else c5, rfl⟩
theorem choose6 {α : Type} [Inhabited α] {Q : Nat → α → Prop} (h : ∀ k, k < 6 → ∃ x, Q k x) : ∃ f : Nat → α, ∀ k, k < 6 → Q k (f k) := Deep.choose_lt h

theorem open_lists {H : Type} {enc : TypeId × Value → H} {W : World} {base : Nat} {v : Value} {d : DataW H} {p : List MemPlace} (hv : Value.okWide Try.prog W .any base 31 v)
    (h : DataW.Trod enc Try.prog W 0 (fun _ => true) true 31 v d p) :
    ∃ (a : Nat → Option Addr) (ls : Nat → List ByteArray) (c : Nat → Nat), v = listsVal a ls c ∧ (∀ k, k < 6 → RowOf W (a k) ((ls k).map .string)) ∧ (∀ k, k < 6 → (ls k).length ≤ 9223372036854775807) ∧
      (∀ k, k < 6 → ∀ s ∈ ls k, s.size ≤ maxLen) ∧ (∀ k, k < 6 → a k = none → c k = 0) := by
  obtain ⟨cs, rfl, hsz⟩ := okWide_arr Try.underlying31 hv
  rw [show Try.prog.cellsOf 31 = 6 by kernel_rfl] at hsz
  obtain ⟨f, rfl⟩ := array6 hsz
  obtain ⟨fuel, hf⟩ := h
  obtain ⟨xs, m, _, _, _, hlen, hx⟩ := DataW.trod_array Try.underlying31 hf
  rw [show Try.prog.cellsOf 30 = 1 by kernel_rfl] at hx
  have hk : ∀ k, k < 6 → ∃ z : Option Addr × Nat × List ByteArray, f k = .slice z.1 z.2.2.length z.2.1 ∧ z.2.2.length ≤ 9223372036854775807 ∧ (z.1 = none → z.2.1 = 0) ∧ RowOf W z.1 (z.2.2.map .string) ∧ ∀ s ∈ z.2.2, s.size ≤ maxLen := by
    intro k hk
    have h1 := hx k hk
    rw [List.getElem?_eq_getElem (by omega)] at h1
    have h2 : ((Value.agg #[f 0, f 1, f 2, f 3, f 4, f 5]).cells.toList.drop (k * 1)).take 1 = [f k] := by
      have : k = 0 ∨ k = 1 ∨ k = 2 ∨ k = 3 ∨ k = 4 ∨ k = 5 := by omega
      rcases this with rfl | rfl | rfl | rfl | rfl | rfl <;> rfl
    rw [h2] at h1
    obtain ⟨a, cap, l, e, h3, h4, h5, h6⟩ := open_strs Try.underlying30 Try.underlying9 (by kernel_rfl) h1
    exact ⟨(a, cap, l), e, h3, h4, h5, h6⟩
  obtain ⟨z, hz⟩ := choose6 hk
  refine ⟨fun k => (z k).1, fun k => (z k).2.2, fun k => (z k).2.1, ?_, fun k hk => (hz k hk).2.2.2.1, fun k hk => (hz k hk).2.1, fun k hk => (hz k hk).2.2.2.2, fun k hk => (hz k hk).2.2.1⟩
  unfold listsVal
  rw [← (hz 0 (by omega)).1, ← (hz 1 (by omega)).1, ← (hz 2 (by omega)).1, ← (hz 3 (by omega)).1, ← (hz 4 (by omega)).1, ← (hz 5 (by omega)).1]

theorem atomLoads_calls {H : Type} {enc : TypeId × Value → H} (W : World) {base : Nat} {v : Value} {d : DataW H} {p : List MemPlace} (hv : Value.okWide Try.prog W .any base 31 v)
    (h : DataW.Trod enc Try.prog W 0 (fun _ => true) true 31 v d p) :
    Calls Try.prog 5 #[v] W fun e w' => e = .returned (.bool true) ∧ Below W.heap.size W w' := by
  obtain ⟨a, ls, c, rfl, h1, h2, h3, h4⟩ := open_lists hv h
  exact loads_walk a ls c W h1 h2 h3 h4

end Go.Proofs.Ytdlafipcbmbkjaa
