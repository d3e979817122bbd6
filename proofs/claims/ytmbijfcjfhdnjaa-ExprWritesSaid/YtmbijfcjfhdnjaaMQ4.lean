/- Texts of one proof, laid together: Byt. -/
import Derived.Test.YtmbijfcjfhdnjaaMQ2
import Derived.Lib.AppendStr
import Derived.Lib.UnsafeStr
import Derived.Laws.BytesString

/- General: appending a string's bytes or one byte to an owned row, with the block it lies in; a row of bytes as a string. No program in sight. -/
namespace Go.Proofs.Ytmbijfcjfhdnjaa
set_option linter.unusedSimpArgs false
set_option linter.unusedVariables false
open Go.RowKit Go.Lib

section
variable {P : Program} (w : World)
theorem run_append_str (base : Nat) (t u ty e : TypeId) (i : TypeInfo) (ht : P.underlying t = some (.slice e)) (hu : P.underlying u = some .string) (hi : P.info? e = some i) (hz : i.zero = some (.int .u8 0))
    (hsize : i.size = 1) (hby : i.bytes = 1)
    (v : Value) (n : Nat) (xs : List Value) (hown : w.ownsRow base e 1 v n xs) (s : ByteArray)
    (h63 : n + s.size ≤ maxLen) (hbytes : n + s.size ≤ 140737488355328) (hbase : base ≤ w.heap.size) :
    ∃ a' cap' w', (Builtin.append_ #[t, u] ty #[v, .string s]).run P w = .ok (.slice a' (n + s.size) cap') w' ∧ w'.ownsRow base e 1 (.slice a' (n + s.size) cap') (n + s.size) (xs ++ strCells s) ∧ w.grownBy w' v.ownBlock ∧
      ((Value.slice a' (n + s.size) cap').ownBlock = v.ownBlock ∨ (Value.slice a' (n + s.size) cap').ownBlock = some w.heap.size) ∧ (a' = none → cap' = 0) := by
  obtain ⟨v', w', hr, h2, h3, h4⟩ := run_append_own_string (P := P) w base t u ty e i ht hu hi hz hsize hby v n xs hown s h63 hbytes hbase
  obtain ⟨a', cap', rfl, hcap⟩ := owns_form h2
  refine ⟨a', cap', w', hr, h2, h3, ?_, hcap⟩
  have hsmall : n + s.size ≤ 9223372036854775807 := by simp only [maxLen] at h63; omega
  have hxl : xs.length = n := by simpa using hown.1
  rcases hown.2 with ⟨rfl, rfl⟩ | ⟨g, cap, cur, rfl, hbg, hg, hnc, hcm, hcs, htake⟩
  · by_cases hm : s.size = 0
    · left; have := h4.2 ⟨rfl, hm⟩; rw [this]
    · right
      have hx : xs = [] := List.eq_nil_of_length_eq_zero hxl
      subst hx
      have hr' := run_append_nil_string (P := P) w t u ty e i (.int .u8 0) ht hu hi hz s (by omega) (by omega) (by rw [hby]; omega)
      rw [hr] at hr'
      injection hr' with hr' _
      injection hr' with hr' _ _
      rw [hr']; rfl
  · by_cases hroom : n + s.size ≤ cap
    · left
      have hcs' : cur.size = cap := by simpa using hcs
      have hr' := run_append_room_string (P := P) w t u ty e i ht hu hi hsize g n cap cur hg s hroom (by omega)
      rw [hr] at hr'
      injection hr' with hr' _
      injection hr' with hr' _ _
      rw [hr']; rfl
    · right
      have holds : ∀ j u, xs[j]? = some u → w.cell? ((⟨g, 0, none⟩ : Addr).add j) = some u := hown.cells (g := g) rfl
      have hr' := run_append_grow_string (P := P) w t u ty e i (.int .u8 0) ht hu hi hz ⟨g, 0, none⟩ n cap xs (by rw [hsize]; simpa using hxl) holds s (by omega) (by omega) (by rw [hby]; exact growslice_fits (by omega) (by omega))
      rw [hr] at hr'
      injection hr' with hr' _
      injection hr' with hr' _ _
      rw [hr']; rfl

theorem wp_append_str {o : Oper} {a : Act} {K : Act → World → Prop} {Q : Exit → Act → World → Prop} (sl x : Operand) (t u : TypeId)
    (ho : o.op = .call { callee := .builtin .append, args := #[sl, x], argTypes := #[t, u] })
    (base : Nat) (e : TypeId) (i : TypeInfo) (ht : P.underlying t = some (.slice e)) (hu : P.underlying u = some .string) (hi : P.info? e = some i) (hz : i.zero = some (.int .u8 0))
    (hsize : i.size = 1) (hby : i.bytes = 1)
    (v : Value) (n : Nat) (xs : List Value) (hs : a.eval sl = v) (hown : w.ownsRow base e 1 v n xs) (s : ByteArray) (hx : a.eval x = .string s)
    (h63 : n + s.size ≤ maxLen) (hbytes : n + s.size ≤ 140737488355328) (hbase : base ≤ w.heap.size)
    (h : ∀ a' cap' w', w'.ownsRow base e 1 (.slice a' (n + s.size) cap') (n + s.size) (xs ++ strCells s) → w.grownBy w' v.ownBlock →
      ((Value.slice a' (n + s.size) cap').ownBlock = v.ownBlock ∨ (Value.slice a' (n + s.size) cap').ownBlock = some w.heap.size) → (a' = none → cap' = 0) → K (a.put o.dst (.slice a' (n + s.size) cap')) w') : o.wp P a w K Q := by
  obtain ⟨a', cap', w', hr, h2, h3, h4, h5⟩ := run_append_str (P := P) w base t u o.type e i ht hu hi hz hsize hby v n xs hown s h63 hbytes hbase
  unfold Oper.wp execOp
  simp only [ho, resolve, invoke, builtin, Sem.run_bind, Sem.run_pure, Result.andThen_ok, List.map_toArray, List.map_cons, List.map_nil, hs, hx, hr]
  exact h a' cap' w' h2 h3 h4 h5
theorem wpList_append_str {ops : Array Oper} {rest : List Oper} {o : Oper} {a : Act} {Q : Exit → Act → World → Prop} (hgd : o.guard = none) (sl x : Operand) (t u : TypeId)
    (ho : o.op = .call { callee := .builtin .append, args := #[sl, x], argTypes := #[t, u] })
    (base : Nat) (e : TypeId) (i : TypeInfo) (ht : P.underlying t = some (.slice e)) (hu : P.underlying u = some .string) (hi : P.info? e = some i) (hz : i.zero = some (.int .u8 0))
    (hsize : i.size = 1) (hby : i.bytes = 1)
    (v : Value) (n : Nat) (xs : List Value) (hs : a.eval sl = v) (hown : w.ownsRow base e 1 v n xs) (s : ByteArray) (hx : a.eval x = .string s)
    (h63 : n + s.size ≤ maxLen) (hbytes : n + s.size ≤ 140737488355328) (hbase : base ≤ w.heap.size)
    (h : ∀ a' cap' w', w'.ownsRow base e 1 (.slice a' (n + s.size) cap') (n + s.size) (xs ++ strCells s) → w.grownBy w' v.ownBlock →
      ((Value.slice a' (n + s.size) cap').ownBlock = v.ownBlock ∨ (Value.slice a' (n + s.size) cap').ownBlock = some w.heap.size) → (a' = none → cap' = 0) → wpList P ops Q rest (a.put o.dst (.slice a' (n + s.size) cap')) w') : wpList P ops Q (o :: rest) a w :=
  wpList_plain hgd fun _ hK => wp_append_str w sl x t u ho base e i ht hu hi hz hsize hby v n xs hs hown s hx h63 hbytes hbase fun a' cap' w' h2 h3 h4 h5 => hK _ _ (h a' cap' w' h2 h3 h4 h5)
end

/-- the bytes of a list, pushed one by one -/
theorem push_all : ∀ (l : List UInt8) (s : ByteArray), (l.map fun b => (b.toNat : Int)).foldl (fun r n => r.push (UInt8.ofNat n.toNat)) s = ⟨(s.data.toList ++ l).toArray⟩
  | [], s => by simp
  | c :: l, s => by
    rw [List.map_cons, List.foldl_cons, push_all l]
    apply ByteArray.ext
    apply Array.ext'
    simp [ByteArray.push]
/-- string(b), b a row of bytes -/
theorem run_row_string {P : Program} (w : World) (src dst e : TypeId) (a : Option Addr) (n c : Nat) (l : List UInt8) (hl : l.length = n) (hrow : RowOf w a (byteCells l)) (hac : a = none → n = 0)
    (hs : P.underlying src = some (.slice e)) (he : P.underlying e = some (.int .u8)) (hd : P.underlying dst = some .string) :
    (convert src dst (.slice a n c)).run P w = .ok (.string ⟨l.toArray⟩) w := by
  rw [run_convert_bytes_string w src dst e a n c hs he hd]
  cases a with
  | none =>
    have : l = [] := List.eq_nil_of_length_eq_zero (by rw [hl]; exact hac rfl)
    subst this
    rfl
  | some ad =>
    have h := run_bytesToString (P := P) w ad n c (l.map fun b => (b.toNat : Int)) ?_
    · rw [h, push_all]; rfl
    · have hc : ∀ j v, (byteCells l)[j]? = some v → w.cell? (ad.add j) = some v := by
        rcases hrow with h | ⟨b, off, h, hcell⟩
        · intro j v hv; rw [h] at hv; simp at hv
        · injection h with h; subst h; intro j v hv; rw [add_none]; exact hcell j v hv
      have := run_loadCells_list (P := P) (w := w) ad (byteCells l) hc
      rw [byteCells_length, hl] at this
      rw [this]; simp [byteCells]

end Go.Proofs.Ytmbijfcjfhdnjaa
