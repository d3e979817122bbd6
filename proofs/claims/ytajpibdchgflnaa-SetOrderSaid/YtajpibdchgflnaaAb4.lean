/- The abstract layer, fifth part: operations that only tell a value do so. -/
import Derived.Test.YtajpibdchgflnaaAb3
namespace Go.Proofs.Ytajpibdchgflnaa
set_option linter.unusedSimpArgs false
set_option linter.unusedVariables false
open Go.RowKit Go.Lib

section
variable {P : Program} {g : Gh} {h : Hp} {w : World} {fr : Fr} {act : Act}

theorem tells_bin2 {op : BinOp} {x y : Value} {a b : AV} {K : AV → Prop} (t : TypeId) (hx : Rep g x a) (hy : Rep g y b) (hv : bin2 op a b K) : Tells P g w (binOp op t x y) K := by
  unfold bin2 at hv
  split at hv
  · cases hx; cases hy
    split at hv
    · have : ¬ (_ < (0 : Int)) := Int.not_lt.2 hv.1
      exact ⟨_, _, by simp only [binOp, Op.shift]; rw [if_neg this]; rfl, .int _ _, rfl, hv.2⟩
    · have : ¬ (_ < (0 : Int)) := Int.not_lt.2 hv.1
      exact ⟨_, _, by simp only [binOp, Op.shift]; rw [if_neg this]; rfl, .int _ _, rfl, hv.2⟩
    · next h1 h2 =>
      obtain ⟨rfl, hv⟩ := hv
      exact tells_ibin t h1 h2 hv
  · cases hx; cases hy; exact tells_sbin t hv
  · exact hv.elim

theorem run_eqGuard {op : BinOp} {t : TypeId} {x y : Operand} {u v : Value} {a b : AV} (hx : Rep g u a) (hy : Rep g v b) (hna : ∀ l, a ≠ .agg l) : (eqGuard op t x y u v).run P w = .ok () w := by
  cases hx with
  | agg vs l _ _ _ => exact absurd rfl (hna l)
  | _ => unfold eqGuard; cases op <;> rfl

/-- what is loaded -/
theorem tells_load {b o : Nat} {vs : List Value} {l : List AV} {K : AV → Prop} {t : TypeId} {i : TypeInfo} {d : TypeDesc} {sz : Option Nat} (hcell : ∀ j v, vs[j]? = some v → w.cell? ⟨b, o + j, none⟩ = some v) (hr : RepL g vs l) (h1 : ∀ v ∈ vs, v.oneCell' = true)
    (hi : P.info? t = some i) (hu : P.underlying t = some d) (hsz : (if isAggT d then decide (sz = some i.size) else decide (sz = none)) = true) (hv : loadK sz l K) : Tells P g w (Instr.loadAt t (.pointer (some ⟨b, o, none⟩))) K := by
  have hagg : (isAgg t).run P w = .ok (isAggT d) w := by
    simp only [isAgg, Sem.run_bind, run_underlying hu, Result.andThen_ok]
    cases d <;> rfl
  have hload : (Instr.loadAt t (.pointer (some ⟨b, o, none⟩))).run P w = (if isAggT d then ((loadCells ⟨b, o, none⟩ i.size).run P w).andThen (fun cs w => .ok (.agg cs) w) else (load ⟨b, o, none⟩).run P w) := by
    simp only [Instr.loadAt, Instr.sureAddr, loadVar, Sem.run_bind, Sem.run_pure, Result.andThen_ok, hagg]
    cases isAggT d <;> simp [sizeOf, typeInfo, hi]
  by_cases hd : isAggT d = true
  · rw [if_pos hd] at hsz hload
    have hsz := of_decide_eq_true hsz
    subst hsz
    obtain ⟨hl, hK⟩ := hv
    have hlen : (vs.take i.size).length = i.size := by rw [List.length_take, hr.length]; omega
    have hc := run_loadCells_list (P := P) (w := w) ⟨b, o, none⟩ (vs.take i.size) (fun j v hj => by
      rw [add_none]
      rw [List.getElem?_take] at hj
      split at hj
      · exact hcell j v hj
      · cases hj)
    rw [hlen] at hc
    rw [hc] at hload
    refine ⟨_, _, hload, .agg _ _ (fun v hv => h1 v (List.mem_of_mem_take hv)) ?_ (hr.take i.size).deg, rfl, hK⟩
    intro a ha
    obtain ⟨a', _, rfl⟩ := List.mem_map.1 ha
    exact plain_deg a'
  · rw [if_neg hd] at hsz hload
    have hsz := of_decide_eq_true hsz
    subst hsz
    unfold loadK at hv
    cases hr with
    | nil => exact hv.elim
    | cons h0 hl =>
      have hc := hcell 0 _ rfl
      rw [Nat.add_zero] at hc
      exact ⟨_, _, by rw [hload, run_load, hc], h0.deg, plain_deg _, hv⟩

theorem fill_ok {fs : Array Field} (act : Act) (hf : FrameOk P g w act.tmps fr) {places : Array (Nat × Nat)} (hp : ∀ (i : Nat) f, fs[i]? = some f → ∃ sz, (P.info? f.type).map (·.size) = some sz ∧ places[i]? = some (f.offset, sz)) :
    ∀ (ps : List (Nat × Operand)) (parts : List (Nat × Nat × Opd)) (cells : List Value) (tmpl : List AV) (K : List AV → Prop), chkParts P fs ps parts = true → RepL g cells tmpl → plains tmpl → (∀ v ∈ cells, v.oneCell' = true) → buildK fr tmpl parts K →
      ∃ cells' l, Instr.fill (places[·]?) cells.toArray (ps.map fun q => (q.1, act.eval q.2)) = some cells'.toArray ∧ RepL g cells' l ∧ plains l ∧ (∀ v ∈ cells', v.oneCell' = true) ∧ K l
  | [], [], cells, tmpl, K, _, h1, h2, h3, h4 => ⟨cells, tmpl, rfl, h1, h2, h3, h4⟩
  | [], _ :: _, _, _, _, h, _, _, _, _ => by simp [chkParts] at h
  | _ :: _, [], _, _, _, h, _, _, _, _ => by simp [chkParts] at h
  | (i, x) :: r, (off, sz, y) :: r', cells, tmpl, K, hc, h1, h2, h3, h4 => by
    simp only [chkParts, Bool.and_eq_true] at hc
    obtain ⟨hc1, hc2⟩ := hc
    simp only [buildK] at h4
    split at h4
    · next a hev =>
      obtain ⟨⟨hnt, hlen, hfit⟩, h4⟩ := h4
      cases hfi : fs[i]? with
      | none => rw [hfi] at hc1; simp at hc1
      | some f =>
        rw [hfi] at hc1
        simp only [Bool.and_eq_true, beq_iff_eq] at hc1
        obtain ⟨⟨rfl, hsz⟩, hco⟩ := hc1
        obtain ⟨sz', hsz', hpl⟩ := hp i f hfi
        rw [hsz] at hsz'
        simp only [Option.some.injEq] at hsz'
        subst hsz'
        obtain ⟨hra, hpa⟩ := ev_ok hf hco hev
        -- the part's cells
        obtain ⟨us, hus, hru, hone, hplain⟩ : ∃ us : List Value, (act.eval x).cells = us.toArray ∧ RepL g us (cellsOf a) ∧ (∀ v ∈ us, v.oneCell' = true) ∧ plains (cellsOf a) := by
          generalize act.eval x = u at hra
          cases hra with
          | agg vs l q1 q2 q3 => exact ⟨vs, by rfl, q3, q1, q2⟩
          | tup vs l q1 q2 => simp [isTup] at hnt
          | _ => exact ⟨[_], by rfl, .cons (by first | exact .bool _ | exact .int _ _ | exact .str _ | exact .nilp | (exact .ptr _ _ _ ‹_›) | (exact .fp _ _ _ _ ‹_› ‹_› ‹_›) | (exact .lst _ _ _ _ _ _ _ ‹_› ‹_› ‹_› ‹_› ‹_›) | (exact .lst0 _ _ _ ‹_›) | (exact .hs _ _ _ _ ‹_› ‹_›) | (exact .fn _ _ _ ‹_› ‹_›) | exact .nilf) .nil, by simp [Value.oneCell'], by intro b hb; simp only [cellsOf, List.mem_singleton] at hb; subst hb; exact hpa⟩
        have hul : us.length = sz := by rw [hru.length]; exact hlen
        have hfold : (us.toArray.zipIdx.foldl (fun cs (c, j) => cs.setIfInBounds (f.offset + j) c) cells.toArray) = (splice cells f.offset us).toArray := by
          have key : ∀ (us : List Value) (k : Nat) (cs : List Value), ((us.zipIdx k).foldl (fun (cs : Array Value) (q : Value × Nat) => cs.setIfInBounds (f.offset + q.2) q.1) cs.toArray) = (splice cs (f.offset + k) us).toArray := by
            intro us
            induction us with
            | nil => intro k cs; rfl
            | cons u us ih =>
              intro k cs
              rw [List.zipIdx_cons, List.foldl_cons, splice_cons]
              have := ih (k + 1) (cs.set (f.offset + k) u)
              simpa [Nat.add_assoc] using this
          have := key us 0 cells
          simpa using this
        obtain ⟨cells', l, q1, q2⟩ := fill_ok act hf hp r r' (splice cells f.offset us) (splice tmpl f.offset (cellsOf a)) K hc2 (h1.splice _ hru) (fun b hb => (mem_splice hb).elim (h2 b) (hplain b)) (fun v hv => (mem_splice hv).elim (h3 v) (hone v)) h4
        refine ⟨cells', l, ?_, q2⟩
        rw [← q1]
        simp only [List.map_cons, Instr.fill, hpl, hus]
        have hcond : (us.toArray.size ≠ sz || f.offset + us.toArray.size > cells.toArray.size) = false := by
          simp only [List.size_toArray, hul, h1.length]
          simp; omega
        simp only [List.size_toArray] at hcond ⊢
        rw [hcond]
        simp only [Bool.false_eq_true, if_false]
        rw [hfold]
    · exact h4.elim

end
end Go.Proofs.Ytajpibdchgflnaa
