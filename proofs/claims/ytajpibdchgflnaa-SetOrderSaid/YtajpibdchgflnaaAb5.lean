/- The abstract layer, sixth part: all operations that only tell a value. -/
import Derived.Test.YtajpibdchgflnaaAb4
namespace Go.Proofs.Ytajpibdchgflnaa
set_option linter.unusedSimpArgs false
set_option linter.unusedVariables false
open Go.RowKit Go.Lib

section
variable {P : Program} {g : Gh} {h : Hp} {w : World} {fr : Fr} {act : Act}

/-- an operation tells a value, and leaves the world alone -/
def OpTells (P : Program) (g : Gh) (w : World) (act : Act) (o : Oper) (K : AV → Prop) : Prop := ∃ v a, (execOp act.eval o).run P w = .ok (.value v) w ∧ Rep g v a ∧ plain a = true ∧ K a
theorem OpTells.of {o : Oper} {s : Sem Value} {K : AV → Prop} (he : execOp act.eval o = (do pure (.value (← s)))) (ht : Tells P g w s K) : OpTells P g w act o K := by
  obtain ⟨v, a, h1, h2⟩ := ht
  exact ⟨v, a, by rw [he]; simp [h1], h2⟩
theorem Tells.pure {v : Value} {a : AV} {K : AV → Prop} (hr : Rep g v a) (hp : plain a = true) (hK : K a) : Tells P g w (pure v) K := ⟨v, a, rfl, hr, hp, hK⟩

theorem opt_ev {fr : Fr} {x : Opd} {K : AV → Prop} (h : match ev fr x with | some a => K a | none => False) : ∃ a, ev fr x = some a ∧ K a := by
  cases he : ev fr x with
  | none => rw [he] at h; exact h.elim
  | some a => rw [he] at h; exact ⟨a, rfl, h⟩

theorem slice_in (t e : TypeId) (a : Option Addr) (n c : Nat) (lo hi mx : Option Value) (i j m : Int) (sz : Nat) (ht : P.underlying t = some (.slice e)) (hsz : (P.info? e).map (·.size) = some sz)
    (hlo : lo = none ∧ i = 0 ∨ ∃ k, lo = some (.int k i)) (hhi : hi = none ∧ j = n ∨ ∃ k, hi = some (.int k j)) (hmx : mx = none ∧ m = c ∨ (∃ k, mx = some (.int k m)) ∧ hi ≠ none) (h0 : 0 ≤ i) (h1 : i ≤ j) (h2 : j ≤ m) (h3 : m ≤ c) :
    (Instr.sliceAt t (.slice a n c) lo hi mx).run P w = .ok (.slice (if m.toNat = i.toNat then a else a.map (·.add (i.toNat * sz))) (j.toNat - i.toNat) (m.toNat - i.toNat)) w := by
  have hinfo : ∃ inf, P.info? e = some inf ∧ inf.size = sz := by
    cases hp : P.info? e with
    | none => rw [hp] at hsz; cases hsz
    | some inf => rw [hp] at hsz; simp at hsz; exact ⟨inf, rfl, hsz⟩
  obtain ⟨inf, hinf, rfl⟩ := hinfo
  have hb : (Instr.sliceBounds true n c lo hi mx).run P w = .ok (i.toNat, j.toNat, m.toNat) w := by
    have j0 : 0 ≤ j := by omega
    have m0 : 0 ≤ m := by omega
    have e1 : ((j.toNat : Nat) : Int) = j := Int.toNat_of_nonneg j0
    have e2 : ((m.toNat : Nat) : Int) = m := Int.toNat_of_nonneg m0
    unfold Instr.sliceBounds
    rcases hmx with ⟨rfl, rfl⟩ | ⟨⟨k3, rfl⟩, hne⟩
    · rcases hhi with ⟨rfl, rfl⟩ | ⟨k2, rfl⟩ <;> rcases hlo with ⟨rfl, rfl⟩ | ⟨k1, rfl⟩ <;> simp [run_sliceBound_if, h0, h1, h2, j0, e1]
    · rcases hhi with ⟨rfl, rfl⟩ | ⟨k2, rfl⟩
      · exact absurd rfl hne
      · rcases hlo with ⟨rfl, rfl⟩ | ⟨k1, rfl⟩ <;> simp [run_sliceBound_if, h0, h1, h2, h3, j0, m0, e1, e2]
  have hs : (Instr.sliceAt t (.slice a n c) lo hi mx).run P w = (Instr.slice t (.slice a n c) lo hi mx).run P w := by
    simp [Instr.sliceAt, run_underlying ht]
  rw [hs]
  simp only [Instr.slice, Sem.run_bind, run_underlying ht, Result.andThen_ok, hb]
  simp [sizeOf, typeInfo, hinf]

theorem info_size {e : TypeId} {sz : Nat} (h : (P.info? e).map (·.size) = some sz) : ∃ i, P.info? e = some i ∧ i.size = sz := by
  cases hp : P.info? e with
  | none => rw [hp] at h; cases h
  | some i => rw [hp] at h; simp at h; exact ⟨i, rfl, h⟩

theorem val_mv {o : Oper} {y : Opd} {K : AV → Prop} (hf : FrameOk P g w act.tmps fr) (hc : chkVal P o.op (.mv y) = true) (hv : val fr h (.mv y) K) : OpTells P g w act o K := by
  obtain ⟨a, he, hK⟩ := opt_ev hv
  simp only [chkVal] at hc
  split at hc
  · next x hop => obtain ⟨h1, h2⟩ := ev_ok hf hc he; exact ⟨_, _, by simp [execOp, hop], h1, h2, hK⟩
  · next x hop => obtain ⟨h1, h2⟩ := ev_ok hf hc he; exact ⟨_, _, by simp [execOp, hop], h1, h2, hK⟩
  · cases hc
theorem val_pick {o : Oper} {c x y : Opd} {K : AV → Prop} (hf : FrameOk P g w act.tmps fr) (hc : chkVal P o.op (.pick c x y) = true) (hv : val fr h (.pick c x y) K) : OpTells P g w act o K := by
  simp only [chkVal] at hc
  split at hc
  · next c' a' b' hop =>
    simp only [Bool.and_eq_true] at hc
    simp only [val] at hv
    split at hv
    · next p hp =>
      obtain ⟨h1, _⟩ := ev_ok hf hc.1.1 hp
      generalize hcv : act.eval c' = u at h1
      cases h1
      cases p with
      | true =>
        obtain ⟨a, he, hK⟩ := opt_ev (hv.1 rfl)
        obtain ⟨q1, q2⟩ := ev_ok hf hc.1.2 he
        exact ⟨_, _, by simp [execOp, hop, hcv, asBool], q1, q2, hK⟩
      | false =>
        obtain ⟨a, he, hK⟩ := opt_ev (hv.2 rfl)
        obtain ⟨q1, q2⟩ := ev_ok hf hc.2 he
        exact ⟨_, _, by simp [execOp, hop, hcv, asBool], q1, q2, hK⟩
    · exact hv.elim
  · cases hc
theorem val_load {o : Oper} {sz : Option Nat} {y : Opd} {K : AV → Prop} (hs : Sim P g h w) (hf : FrameOk P g w act.tmps fr) (hc : chkVal P o.op (.load sz y) = true) (hv : val fr h (.load sz y) K) : OpTells P g w act o K := by
  simp only [chkVal] at hc
  split at hc
  · next t x hop =>
    simp only [Bool.and_eq_true] at hc
    obtain ⟨hc1, hc2⟩ := hc
    split at hc2
    · next i d hi hu =>
      refine OpTells.of (s := Instr.loadAt t (act.eval x)) (by simp [execOp, hop]) ?_
      simp only [val] at hv
      split at hv
      · next id off he =>
        obtain ⟨h1, _⟩ := ev_ok hf hc1 he
        generalize act.eval x = u at h1
        cases h1 with
        | ptr _ _ b hb =>
          split at hv
          · next s l hl =>
            obtain ⟨b', arr, e, q1, q2, q3, q4, _⟩ := hs.obj id s l hl
            obtain rfl : b = b' := by rw [hb] at q1; simpa using q1
            refine tells_load (vs := arr.toList.drop off) (fun j v hj => ?_) (q3.drop off) (fun v hv => q4 v (List.mem_of_mem_drop hv)) hi hu hc2 hv
            rw [cell_of_row w b (off + j) arr e (0, 0) q2]
            rw [List.getElem?_drop] at hj
            simpa using hj
          · exact hv.elim
      · next l he =>
        obtain ⟨h1, _⟩ := ev_ok hf hc1 he
        generalize act.eval x = u at h1
        cases h1 with
        | fp b off vs l hcs hp hr =>
          obtain ⟨r1, r2⟩ := hs.cellsAt hcs
          exact tells_load r1 hr r2 hi hu hc2 hv
      · exact hv.elim
    · cases hc2
  · cases hc
theorem val_nilck {o : Oper} {y : Opd} {K : AV → Prop} (hf : FrameOk P g w act.tmps fr) (hc : chkVal P o.op (.nilck y) = true) (hv : val fr h (.nilck y) K) : OpTells P g w act o K := by
  simp only [chkVal] at hc
  split at hc
  · next x hop =>
    simp only [val] at hv
    split at hv
    · next id off he =>
      obtain ⟨h1, h2⟩ := ev_ok hf hc he
      generalize hx : act.eval x = u at h1
      cases h1
      exact ⟨_, _, by simp only [execOp, hop, hx]; rfl, by constructor; assumption, h2, hv⟩
    · next l he =>
      obtain ⟨h1, h2⟩ := ev_ok hf hc he
      generalize hx : act.eval x = u at h1
      cases h1 with
      | fp b off vs l q1 q2 q3 => exact ⟨_, _, by simp only [execOp, hop, hx]; rfl, .fp b off vs l q1 q2 q3, h2, hv⟩
    · next f l he =>
      obtain ⟨h1, h2⟩ := ev_ok hf hc he
      generalize hx : act.eval x = u at h1
      cases h1 with
      | fn _ vs l q1 q2 => exact ⟨_, _, by simp only [execOp, hop, hx]; rfl, .fn _ vs l q1 q2, h2, hv⟩
    · exact hv.elim
  · cases hc
theorem val_bin {o : Oper} {op : BinOp} {x y : Opd} {K : AV → Prop} (hf : FrameOk P g w act.tmps fr) (hc : chkVal P o.op (.bin op x y) = true) (hv : val fr h (.bin op x y) K) : OpTells P g w act o K := by
  simp only [chkVal] at hc
  split at hc
  · next op' t x' y' t' hop =>
    simp only [Bool.and_eq_true, decide_eq_true_eq] at hc
    obtain ⟨⟨rfl, hc1⟩, hc2⟩ := hc
    simp only [val] at hv
    split at hv
    · next a b ha hb =>
      obtain ⟨h1, _⟩ := ev_ok hf hc1 ha
      obtain ⟨h2, _⟩ := ev_ok hf hc2 hb
      refine OpTells.of (s := do eqGuard op' t x' y' (act.eval x') (act.eval y'); binOp op' t (act.eval x') (act.eval y')) (by simp [execOp, hop]) ?_
      obtain ⟨v, r, q1, q2⟩ := tells_bin2 (P := P) (w := w) t h1 h2 hv
      refine ⟨v, r, ?_, q2⟩
      have hna : ∀ l, a ≠ .agg l := fun l e => by subst e; simp [bin2] at hv
      rw [Sem.run_bind, run_eqGuard h1 h2 hna, Result.andThen_ok, q1]
    · exact hv.elim
  · cases hc
theorem val_pnil {o : Oper} {neg : Bool} {x : Opd} {K : AV → Prop} (hf : FrameOk P g w act.tmps fr) (hc : chkVal P o.op (.pnil neg x) = true) (hv : val fr h (.pnil neg x) K) : OpTells P g w act o K := by
  simp only [chkVal] at hc
  split at hc
  · next op' t x' y' t' hop =>
    simp only [Bool.and_eq_true, decide_eq_true_eq] at hc
    obtain ⟨⟨⟨hop', hc1⟩, hc2⟩, hc3⟩ := hc
    split at hc3
    · next e ht =>
      have ht' : P.underlying t = some (.pointer (P.pointee t)) := by rw [ht]; simp [Program.pointee, ht]
      obtain ⟨h2, _⟩ := ev_ok hf hc2 (a := .nilp) rfl
      generalize hy : act.eval y' = u2 at h2
      cases h2
      have key : ∀ p : Option Addr, act.eval x' = .pointer p → K (.bool (if neg then !p.isNone else p.isNone)) → OpTells P g w act o K := by
        intro p hx hK
        have hg : (eqGuard op' t x' y' (.pointer p) (.pointer none)).run P w = .ok () w := by unfold eqGuard; cases op' <;> rfl
        refine ⟨.bool (if neg then !p.isNone else p.isNone), _, ?_, .bool _, rfl, hK⟩
        simp only [execOp, hop, hx, hy, Sem.run_bind, hg, Result.andThen_ok]
        subst hop'
        cases neg
        · simp only [Bool.false_eq_true, if_false]; rw [run_eql_pointer_nil w t p ht']; rfl
        · simp only [if_true]; rw [run_neq_pointer_nil w t p ht']; rfl
      simp only [val] at hv
      split at hv
      · next he =>
        obtain ⟨h1, _⟩ := ev_ok hf hc1 he
        generalize hx : act.eval x' = u at h1
        cases h1
        exact key none hx (by cases neg <;> exact hv)
      · next he =>
        obtain ⟨h1, _⟩ := ev_ok hf hc1 he
        generalize hx : act.eval x' = u at h1
        cases h1
        exact key _ hx (by cases neg <;> exact hv)
      · next he =>
        obtain ⟨h1, _⟩ := ev_ok hf hc1 he
        generalize hx : act.eval x' = u at h1
        cases h1
        exact key _ hx (by cases neg <;> exact hv)
      · exact hv.elim
    · cases hc3
  · cases hc
theorem val_bbin {o : Oper} {neg : Bool} {x y : Opd} {K : AV → Prop} (hf : FrameOk P g w act.tmps fr) (hc : chkVal P o.op (.bbin neg x y) = true) (hv : val fr h (.bbin neg x y) K) : OpTells P g w act o K := by
  simp only [chkVal] at hc
  split at hc
  · next op' t x' y' t' hop =>
    simp only [Bool.and_eq_true, decide_eq_true_eq] at hc
    obtain ⟨⟨⟨hop', hc1⟩, hc2⟩, hc3⟩ := hc
    split at hc3
    · next ht =>
      simp only [val] at hv
      split at hv
      · next a b ha hb =>
        obtain ⟨h1, _⟩ := ev_ok hf hc1 ha
        obtain ⟨h2, _⟩ := ev_ok hf hc2 hb
        generalize hx : act.eval x' = u at h1
        generalize hy : act.eval y' = u2 at h2
        cases h1; cases h2
        have hg : (eqGuard op' t x' y' (.bool a) (.bool b)).run P w = .ok () w := by unfold eqGuard; cases op' <;> rfl
        refine ⟨.bool (if neg then decide (a ≠ b) else decide (a = b)), _, ?_, .bool _, rfl, hv⟩
        simp only [execOp, hop, hx, hy, Sem.run_bind, hg, Result.andThen_ok]
        subst hop'
        cases neg
        · simp only [Bool.false_eq_true, if_false]; rw [run_eql_bool w t a b ht]; cases a <;> cases b <;> rfl
        · simp only [if_true]; rw [run_neq_bool w t a b ht]; cases a <;> cases b <;> rfl
      · exact hv.elim
    · cases hc3
  · cases hc
theorem val_not {o : Oper} {y : Opd} {K : AV → Prop} (hf : FrameOk P g w act.tmps fr) (hc : chkVal P o.op (.not y) = true) (hv : val fr h (.not y) K) : OpTells P g w act o K := by
  simp only [chkVal] at hc
  split at hc
  · next t x hop =>
    simp only [val] at hv
    split at hv
    · next p he =>
      obtain ⟨h1, _⟩ := ev_ok hf hc he
      generalize hx : act.eval x = u at h1
      cases h1
      exact ⟨_, _, by simp only [execOp, hop, hx]; rfl, .bool _, rfl, hv⟩
    · exact hv.elim
  · cases hc
theorem val_conv {o : Oper} {k : IntKind} {y : Opd} {K : AV → Prop} (hf : FrameOk P g w act.tmps fr) (hc : chkVal P o.op (.conv k y) = true) (hv : val fr h (.conv k y) K) : OpTells P g w act o K := by
  simp only [chkVal] at hc
  split at hc
  · next s t x hop =>
    simp only [Bool.and_eq_true] at hc
    obtain ⟨hc1, hc2⟩ := hc
    split at hc2
    · next ds k' hs ht =>
      have hc2 := of_decide_eq_true hc2
      subst hc2
      simp only [val] at hv
      split at hv
      · next k2 n he =>
        obtain ⟨h1, _⟩ := ev_ok hf hc1 he
        generalize hx : act.eval x = u at h1
        cases h1
        refine ⟨.int k' (k'.wrap n), _, ?_, .int _ _, rfl, hv⟩
        simp only [execOp, hop, hx, convert, Sem.run_bind, run_underlying hs, run_underlying ht, Result.andThen_ok]
        cases ds <;> rfl
      · exact hv.elim
    · cases hc2
  · cases hc
theorem val_cstr {o : Oper} {y : Opd} {K : AV → Prop} (hf : FrameOk P g w act.tmps fr) (hc : chkVal P o.op (.cstr y) = true) (hv : val fr h (.cstr y) K) : OpTells P g w act o K := by
  simp only [chkVal] at hc
  split at hc
  · next s t x hop =>
    simp only [Bool.and_eq_true] at hc
    obtain ⟨hc1, hc2⟩ := hc
    split at hc2
    · next ds hs ht =>
      simp only [val] at hv
      split at hv
      · next s' he =>
        obtain ⟨h1, _⟩ := ev_ok hf hc1 he
        generalize hx : act.eval x = u at h1
        cases h1
        refine ⟨.string s', _, ?_, .str _, rfl, hv⟩
        simp only [execOp, hop, hx, convert, Sem.run_bind, run_underlying hs, run_underlying ht, Result.andThen_ok]
        cases ds <;> rfl
      · exact hv.elim
    · cases hc2
  · cases hc
theorem val_fld {o : Oper} {off : Nat} {y : Opd} {K : AV → Prop} (hf : FrameOk P g w act.tmps fr) (hc : chkVal P o.op (.fld off y) = true) (hv : val fr h (.fld off y) K) : OpTells P g w act o K := by
  simp only [chkVal] at hc
  split at hc
  · next s x i hop =>
    simp only [Bool.and_eq_true] at hc
    obtain ⟨hc1, hc2⟩ := hc
    split at hc2
    · next fs hs =>
      split at hc2
      · next f hf' =>
        simp only [Bool.and_eq_true, beq_iff_eq] at hc2
        obtain ⟨rfl, hc2⟩ := hc2
        split at hc2
        · next inf hinf =>
          have hnz : inf.size ≠ 0 := by simpa using hc2
          have hrun : ∀ b o' : Nat, (Instr.fieldAt s (.pointer (some ⟨b, o', none⟩)) i).run P w = .ok (.pointer (some ⟨b, o' + f.offset, none⟩)) w := by
            intro b o'
            simp [Instr.fieldAt, run_underlying hs, hf', Instr.sureAddr, fieldPlace, sizeOf, typeInfo, hinf, hnz, add_none]
          refine OpTells.of (s := Instr.fieldAt s (act.eval x) i) (by simp [execOp, hop]) ?_
          simp only [val] at hv
          split at hv
          · next id o' he =>
            obtain ⟨h1, _⟩ := ev_ok hf hc1 he
            generalize hx : act.eval x = u at h1
            cases h1 with
            | ptr _ _ b hb => exact ⟨_, _, hrun b o', .ptr _ _ b hb, rfl, hv⟩
          · next l he =>
            obtain ⟨h1, _⟩ := ev_ok hf hc1 he
            generalize hx : act.eval x = u at h1
            cases h1 with
            | fp b o' vs l q1 q2 q3 =>
              refine ⟨_, _, hrun b o', .fp b (o' + f.offset) (vs.drop f.offset) _ (fun j v hj => ?_) (fun a ha => q2 a (List.mem_of_mem_drop ha)) (q3.drop _), rfl, hv⟩
              rw [List.getElem?_drop] at hj
              rw [Nat.add_assoc]
              exact q1 _ _ hj
          · exact hv.elim
        · cases hc2
      · cases hc2
    · cases hc2
  · cases hc
theorem val_idxa {o : Oper} {sz : Nat} {y z : Opd} {K : AV → Prop} (hf : FrameOk P g w act.tmps fr) (hc : chkVal P o.op (.idxa sz y z) = true) (hv : val fr h (.idxa sz y z) K) : OpTells P g w act o K := by
  simp only [chkVal] at hc
  split at hc
  · next t x i hop =>
    simp only [Bool.and_eq_true] at hc
    obtain ⟨⟨hc1, hc2⟩, hc3⟩ := hc
    split at hc3
    · next e ht =>
      obtain ⟨inf, hinf, rfl⟩ := info_size (eq_of_beq hc3)
      refine OpTells.of (s := Instr.indexAt t (act.eval x) (act.eval i)) (by simp [execOp, hop]) ?_
      have hrun : ∀ (b off n c : Nat) (k : IntKind) (j : Int), 0 ≤ j → j < n → (Instr.indexAt t (.slice (some ⟨b, off, none⟩) n c) (.int k j)).run P w = .ok (.pointer (some ⟨b, off + j.toNat * inf.size, none⟩)) w := by
        intro b off n c k j h0 h1
        simp [Instr.indexAt, run_underlying ht, asIntOf, h0, h1, sizeOf, typeInfo, hinf, add_none]
      simp only [val] at hv
      split at hv
      · next f n l k j he hj =>
        obtain ⟨h1, _⟩ := ev_ok hf hc1 he
        obtain ⟨h2, _⟩ := ev_ok hf hc2 hj
        generalize hx : act.eval x = u at h1
        generalize hx2 : act.eval i = u2 at h2
        cases h2
        obtain ⟨⟨j0, j1⟩, hv⟩ := hv
        cases h1 with
        | lst b off n c f vs l q1 q2 q3 q4 q5 =>
          refine ⟨_, _, hrun _ _ _ _ _ _ j0 j1, .fp b (off + j.toNat * inf.size) (vs.drop (j.toNat * inf.size)) _ (fun q v hq => ?_) (fun a ha => q2 a (List.mem_of_mem_drop ha)) (q5.drop _), rfl, hv⟩
          rw [List.getElem?_drop] at hq
          rw [Nat.add_assoc]
          exact q1 _ _ hq
        | lst0 a c f q => simp at j1; omega
      · next id n k j he hj =>
        obtain ⟨h1, _⟩ := ev_ok hf hc1 he
        obtain ⟨h2, _⟩ := ev_ok hf hc2 hj
        generalize hx : act.eval x = u at h1
        generalize hx2 : act.eval i = u2 at h2
        cases h2
        obtain ⟨⟨j0, j1⟩, hv⟩ := hv
        cases h1 with
        | hs _ b n c hb hn =>
          have := hrun b 0 n c k j j0 j1
          rw [Nat.zero_add] at this
          exact ⟨_, _, this, .ptr _ _ b hb, rfl, hv⟩
      · exact hv.elim
    · cases hc3
  · cases hc
theorem val_idxs {o : Oper} {y z : Opd} {K : AV → Prop} (hf : FrameOk P g w act.tmps fr) (hc : chkVal P o.op (.idxs y z) = true) (hv : val fr h (.idxs y z) K) : OpTells P g w act o K := by
  simp only [chkVal] at hc
  split at hc
  · next t x i hop =>
    simp only [Bool.and_eq_true] at hc
    obtain ⟨⟨hc1, hc2⟩, hc3⟩ := hc
    split at hc3
    · next ht =>
      simp only [val] at hv
      split at hv
      · next s k j he hj =>
        obtain ⟨h1, _⟩ := ev_ok hf hc1 he
        obtain ⟨h2, _⟩ := ev_ok hf hc2 hj
        generalize hx : act.eval x = u at h1
        generalize hx2 : act.eval i = u2 at h2
        cases h1; cases h2
        obtain ⟨⟨j0, j1⟩, hv⟩ := hv
        have hlt : j.toNat < s.size := by omega
        have hb : ∃ b, s[j.toNat]? = some b ∧ s.data.toList[j.toNat]? = some b := by
          refine ⟨s[j.toNat], by simp [hlt], ?_⟩
          have : j.toNat < s.data.toList.length := by simpa using hlt
          rw [List.getElem?_eq_getElem this]; rfl
        obtain ⟨b, hb1, hb2⟩ := hb
        refine ⟨.int .u8 b.toNat, _, ?_, .int _ _, rfl, by rw [show byteAt s j.toNat = b.toNat by simp [byteAt, hb2]] at hv; exact hv⟩
        simp [execOp, hop, hx, hx2, Instr.index, asIntOf, run_underlying ht, j0, hb1]
      · exact hv.elim
    · cases hc3
  · cases hc
theorem val_ext {o : Oper} {i : Nat} {y : Opd} {K : AV → Prop} (hf : FrameOk P g w act.tmps fr) (hc : chkVal P o.op (.ext i y) = true) (hv : val fr h (.ext i y) K) : OpTells P g w act o K := by
  simp only [chkVal] at hc
  split at hc
  · next x j hop =>
    simp only [Bool.and_eq_true, beq_iff_eq] at hc
    obtain ⟨hc1, rfl⟩ := hc
    simp only [val] at hv
    split at hv
    · next l he =>
      obtain ⟨h1, _⟩ := ev_ok hf hc1 he
      generalize hx : act.eval x = u at h1
      cases h1 with
      | tup vs l q1 q2 =>
        split at hv
        · next a ha =>
          obtain ⟨v, hv1, hv2⟩ := q2.get i a ha
          exact ⟨v, a, by simp [execOp, hop, hx, Instr.extract, hv1], hv2, q1 a (List.mem_of_getElem? ha), hv⟩
        · exact hv.elim
    · exact hv.elim
  · cases hc
theorem of_toList1 {α : Type} {a : Array α} {x : α} (h : a.toList = [x]) : a = #[x] := by cases a; simp at h; simp [h]
theorem of_toList2 {α : Type} {a : Array α} {x y : α} (h : a.toList = [x, y]) : a = #[x, y] := by cases a; simp at h; simp [h]
theorem of_toList0 {α : Type} {a : Array α} (h : a.toList = []) : a = #[] := by cases a; simp at h; simp [h]
theorem val_lens {o : Oper} {y : Opd} {K : AV → Prop} (hf : FrameOk P g w act.tmps fr) (hc : chkVal P o.op (.lens y) = true) (hv : val fr h (.lens y) K) : OpTells P g w act o K := by
  simp only [chkVal] at hc
  split at hc
  · next c hop =>
    split at hc
    · next x t h1 h2 h3 =>
      simp only [Bool.and_eq_true] at hc
      obtain ⟨hc1, hc2⟩ := hc
      have hex : execOp act.eval o = (do pure (.value (← Builtin.len_ #[t] o.type #[act.eval x]))) := by
        simp [execOp, hop, resolve, invoke, builtin, h1, of_toList1 h2, of_toList1 h3]
      refine OpTells.of hex ?_
      simp only [val] at hv
      split at hv
      · next s he =>
        obtain ⟨h1, _⟩ := ev_ok hf hc1 he
        generalize hx : act.eval x = u at h1
        cases h1
        split at hc2
        · next ht => exact ⟨_, _, by simp [Builtin.len_, run_underlying ht]; rfl, .int _ _, rfl, hv⟩
        · cases hc2
      · exact hv.elim
    · cases hc
  · cases hc
theorem val_lenl {o : Oper} {y : Opd} {K : AV → Prop} (hf : FrameOk P g w act.tmps fr) (hc : chkVal P o.op (.lenl y) = true) (hv : val fr h (.lenl y) K) : OpTells P g w act o K := by
  simp only [chkVal] at hc
  split at hc
  · next c hop =>
    split at hc
    · next x t h1 h2 h3 =>
      simp only [Bool.and_eq_true] at hc
      obtain ⟨hc1, hc2⟩ := hc
      have hex : execOp act.eval o = (do pure (.value (← Builtin.len_ #[t] o.type #[act.eval x]))) := by
        simp [execOp, hop, resolve, invoke, builtin, h1, of_toList1 h2, of_toList1 h3]
      refine OpTells.of hex ?_
      split at hc2
      · next e ht =>
        simp only [val] at hv
        split at hv
        · next f n l he =>
          obtain ⟨h1, _⟩ := ev_ok hf hc1 he
          generalize hx : act.eval x = u at h1
          cases h1 with
          | lst b off n c f vs l q1 q2 q3 q4 q5 => exact ⟨_, _, by simp [Builtin.len_, run_underlying ht]; rfl, .int _ _, rfl, hv⟩
          | lst0 a c f q => exact ⟨_, _, by simp [Builtin.len_, run_underlying ht]; rfl, .int _ _, rfl, hv⟩
        · next id n he =>
          obtain ⟨h1, _⟩ := ev_ok hf hc1 he
          generalize hx : act.eval x = u at h1
          cases h1 with
          | hs _ b n c hb hn => exact ⟨_, _, by simp [Builtin.len_, run_underlying ht]; rfl, .int _ _, rfl, hv⟩
        · exact hv.elim
      · cases hc2
    · cases hc
  · cases hc
theorem val_mn {o : Oper} {y z : Opd} {K : AV → Prop} (hf : FrameOk P g w act.tmps fr) (hc : chkVal P o.op (.mn y z) = true) (hv : val fr h (.mn y z) K) : OpTells P g w act o K := by
  simp only [chkVal] at hc
  split at hc
  · next c hop =>
    split at hc
    · next x x' h1 h2 =>
      simp only [Bool.and_eq_true] at hc
      obtain ⟨hc1, hc2⟩ := hc
      simp only [val] at hv
      split at hv
      · next k a k' b he he' =>
        obtain ⟨q1, _⟩ := ev_ok hf hc1 he
        obtain ⟨q2, _⟩ := ev_ok hf hc2 he'
        generalize hx : act.eval x = u at q1
        generalize hx2 : act.eval x' = u2 at q2
        cases q1; cases q2
        exact ⟨_, _, by simp [execOp, hop, resolve, invoke, builtin, h1, of_toList2 h2, hx, hx2, Builtin.min_, Builtin.min2], .int _ _, rfl, hv⟩
      · exact hv.elim
    · cases hc
  · cases hc
theorem val_mx {o : Oper} {y z : Opd} {K : AV → Prop} (hf : FrameOk P g w act.tmps fr) (hc : chkVal P o.op (.mx y z) = true) (hv : val fr h (.mx y z) K) : OpTells P g w act o K := by
  simp only [chkVal] at hc
  split at hc
  · next c hop =>
    split at hc
    · next x x' h1 h2 =>
      simp only [Bool.and_eq_true] at hc
      obtain ⟨hc1, hc2⟩ := hc
      simp only [val] at hv
      split at hv
      · next k a k' b he he' =>
        obtain ⟨q1, _⟩ := ev_ok hf hc1 he
        obtain ⟨q2, _⟩ := ev_ok hf hc2 he'
        generalize hx : act.eval x = u at q1
        generalize hx2 : act.eval x' = u2 at q2
        cases q1; cases q2
        exact ⟨_, _, by simp [execOp, hop, resolve, invoke, builtin, h1, of_toList2 h2, hx, hx2, Builtin.max_, Builtin.max2], .int _ _, rfl, hv⟩
      · exact hv.elim
    · cases hc
  · cases hc
theorem val_mkfn {o : Oper} {f : FuncId} {caps : List Opd} {K : AV → Prop} (hf : FrameOk P g w act.tmps fr) (hc : chkVal P o.op (.mkfn f caps) = true) (hv : val fr h (.mkfn f caps) K) : OpTells P g w act o K := by
  simp only [chkVal] at hc
  split at hc
  · next fn first cs hop =>
    split at hc
    · next f' h2 =>
      simp only [Bool.and_eq_true, beq_iff_eq] at hc
      obtain ⟨rfl, hc2⟩ := hc
      simp only [val] at hv
      split at hv
      · next l he =>
        obtain ⟨q1, q2⟩ := evs_ok hf hc2 he
        refine ⟨.func (.func f') #[] (cs.toList.map act.eval).toArray, _, ?_, .fn f' _ l q2 q1, rfl, hv⟩
        have : (cs.toList.map act.eval).toArray = cs.map act.eval := by cases cs; simp
        simp [execOp, hop, Instr.makeFunc, of_toList0 h2]
        exact this.symm
      · exact hv.elim
    · cases hc
  · cases hc
theorem val_b2s {o : Oper} {y : Opd} {K : AV → Prop} (hs : Sim P g h w) (hf : FrameOk P g w act.tmps fr) (hc : chkVal P o.op (.b2s y) = true) (hv : val fr h (.b2s y) K) : OpTells P g w act o K := by
  simp only [chkVal] at hc
  split at hc
  · next s t x hop =>
    simp only [Bool.and_eq_true] at hc
    obtain ⟨hc1, hc2⟩ := hc
    split at hc2
    · next e hsrc hdst =>
      split at hc2
      · next he8 =>
        simp only [val] at hv
        split at hv
        · next f n l he =>
          obtain ⟨bs, rfl, rfl, hK⟩ := hv
          obtain ⟨h1, _⟩ := ev_ok hf hc1 he
          generalize hx : act.eval x = u at h1
          refine OpTells.of (s := convert s t u) (by simp [execOp, hop, hx]) ?_
          have hbc : ∀ {vs : List Value} {bs : List UInt8}, RepL g vs (bs.map (fun b => AV.int .u8 b.toNat)) → vs = byteCells bs := by
            intro vs bs
            induction bs generalizing vs with
            | nil => intro h; cases h; rfl
            | cons b bs ih =>
              intro h
              cases h with
              | cons h0 hl =>
                cases h0
                rw [ih hl]; rfl
          generalize hn : bs.length = n at h1
          generalize hl : bs.map (fun b => AV.int .u8 b.toNat) = l at h1
          cases h1 with
          | lst b off n c f vs l q1 q2 q3 q4 q5 =>
            subst hn
            subst hl
            obtain ⟨r1, r2⟩ := hs.cellsAt q1
            have hvs := hbc q5
            subst hvs
            exact ⟨_, _, run_row_string w s t e _ _ _ bs rfl (.inr ⟨b, off, rfl, r1⟩) (fun h => by cases h) hsrc he8 hdst, .str _, rfl, hK⟩
          | lst0 a c f q =>
            cases bs with
            | cons _ _ => simp at hn
            | nil => exact ⟨_, _, run_row_string w s t e a 0 c [] rfl (.inl rfl) (fun _ => rfl) hsrc he8 hdst, .str _, rfl, hK⟩
        · exact hv.elim
      · cases hc2
    · cases hc2
  · cases hc
theorem evD_ok (hf : FrameOk P g w act.tmps fr) {x : Option Operand} {y : Option Opd} (hc : chkO x y = true) {d : AV} {k : IntKind} {n : Int} (he : evD fr d y = some (.int k n)) : x = none ∧ d = .int k n ∨ x.map act.eval = some (.int k n) := by
  unfold chkO at hc
  split at hc
  · simp only [evD, Option.some.injEq] at he; exact .inl ⟨rfl, he⟩
  · next x y =>
    obtain ⟨h1, _⟩ := ev_ok hf hc he
    generalize hx : act.eval x = u at h1
    cases h1
    exact .inr (by simp [hx])
  · cases hc
theorem val_slcs {o : Oper} {y : Opd} {lo hi : Option Opd} {K : AV → Prop} (hf : FrameOk P g w act.tmps fr) (hc : chkVal P o.op (.slcs y lo hi) = true) (hv : val fr h (.slcs y lo hi) K) : OpTells P g w act o K := by
  simp only [chkVal] at hc
  split at hc
  · next t x lo' hi' hop =>
    simp only [Bool.and_eq_true] at hc
    obtain ⟨⟨⟨hc1, hc2⟩, hc3⟩, hc4⟩ := hc
    split at hc4
    · next ht =>
      simp only [val] at hv
      split at hv
      · next s he =>
        obtain ⟨h1, _⟩ := ev_ok hf hc1 he
        generalize hx : act.eval x = u at h1
        cases h1
        split at hv
        · next k1 l k2 u hl hu =>
          obtain ⟨⟨l0, l1, l2⟩, hv⟩ := hv
          have u0 : 0 ≤ u := by omega
          have e1 : ((u.toNat : Nat) : Int) = u := Int.toNat_of_nonneg u0
          have hb : (Instr.sliceBounds false s.size s.size (lo'.map act.eval) (hi'.map act.eval) none).run P w = .ok (l.toNat, u.toNat, s.size) w := by
            rcases evD_ok hf hc2 hl with ⟨rfl, hd⟩ | hd <;> rcases evD_ok hf hc3 hu with ⟨rfl, hd2⟩ | hd2
            · injection hd with _ hd; injection hd2 with _ hd2; subst hd; subst hd2; simp [Instr.sliceBounds]
            · injection hd with _ hd; subst hd; simp [Instr.sliceBounds, hd2, run_sliceBound_if, u0, l2]
            · injection hd2 with _ hd2; subst hd2; simp [Instr.sliceBounds, hd, run_sliceBound_if, l0, l1]
            · simp [Instr.sliceBounds, hd, hd2, run_sliceBound_if, l0, l1, u0, l2, e1]
          refine OpTells.of (s := Instr.sliceAt t (.string s) (lo'.map act.eval) (hi'.map act.eval) none) (by simp [execOp, hop, hx]) ⟨.string (s.extract l.toNat u.toNat), _, ?_, .str _, rfl, hv⟩
          rw [run_sliceAt_string w t _ _ _ _ ht]
          simp [Instr.slice, run_underlying ht, hb]
        · exact hv.elim
      · exact hv.elim
    · cases hc4
  · cases hc
theorem val_slcl {o : Oper} {sz : Nat} {y : Opd} {lo hi mx : Option Opd} {K : AV → Prop} (hf : FrameOk P g w act.tmps fr) (hc : chkVal P o.op (.slcl sz y lo hi mx) = true) (hv : val fr h (.slcl sz y lo hi mx) K) : OpTells P g w act o K := by
  simp only [chkVal] at hc
  split at hc
  · next t x lo' hi' mx' hop =>
    simp only [Bool.and_eq_true] at hc
    obtain ⟨⟨⟨⟨⟨hc1, hc2⟩, hc3⟩, hc4⟩, hc5⟩, hc6⟩ := hc
    split at hc6
    · next e ht =>
      have hsz := eq_of_beq hc6
      simp only [val] at hv
      split at hv
      · next f n l he =>
        obtain ⟨h1, _⟩ := ev_ok hf hc1 he
        generalize hx : act.eval x = u at h1
        split at hv
        · next k1 i k2 j hl hu =>
          obtain ⟨⟨i0, i1, i2, hll⟩, hv⟩ := hv
          obtain ⟨a, c, rfl, hnc, hrep⟩ : ∃ a c, u = .slice a n c ∧ n ≤ c ∧ ∀ (f' : Fl) (a' : Option Addr) (c' : Nat), (∀ e', f' ≠ .own e') → (a' = a ∧ j.toNat - i.toNat = 0 ∨ a' = a.map (·.add (i.toNat * sz))) → j.toNat - i.toNat ≤ c' → (f' = .clip → c' = j.toNat - i.toNat) →
              Rep g (.slice a' (j.toNat - i.toNat) c') (.lst f' (j.toNat - i.toNat) ((l.drop (i.toNat * sz)).take ((j.toNat - i.toNat) * sz))) := by
            cases h1 with
            | lst b off n c f vs l q1 q2 q3 q4 q5 =>
              refine ⟨_, _, rfl, q3, fun f' a' c' hf' ha' hc' hcl => ?_⟩
              rcases ha' with ⟨rfl, hz⟩ | rfl
              · rw [hz]; simp only [Nat.zero_mul, List.take_zero]; exact .lst0 _ _ _ (fun h => by rw [hcl h, hz])
              · simp only [Option.map_some, add_none]
                refine .lst b (off + i.toNat * sz) _ c' f' ((vs.drop (i.toNat * sz)).take ((j.toNat - i.toNat) * sz)) _ (fun q v hq => ?_) (fun a ha => q2 a (List.mem_of_mem_drop (List.mem_of_mem_take ha))) hc' hcl ((q5.drop _).take _)
                rw [List.getElem?_take] at hq
                split at hq
                · rw [List.getElem?_drop] at hq
                  rw [Nat.add_assoc]
                  exact q1 _ _ hq
                · cases hq
            | lst0 a c f q =>
              refine ⟨_, _, rfl, Nat.zero_le _, fun f' a' c' hf' ha' hc' hcl => ?_⟩
              have hz : j.toNat - i.toNat = 0 := by omega
              rw [hz]; simp only [Nat.zero_mul, List.take_zero]; exact .lst0 _ _ _ (fun h => by rw [hcl h, hz])
          have hlo : lo'.map act.eval = none ∧ i = 0 ∨ ∃ k, lo'.map act.eval = some (.int k i) := by
            rcases evD_ok hf hc2 hl with ⟨rfl, hd⟩ | hd
            · injection hd with _ hd; exact .inl ⟨rfl, hd.symm⟩
            · exact .inr ⟨_, hd⟩
          have hhi : hi'.map act.eval = none ∧ j = n ∨ ∃ k, hi'.map act.eval = some (.int k j) := by
            rcases evD_ok hf hc3 hu with ⟨rfl, hd⟩ | hd
            · injection hd with _ hd; exact .inl ⟨rfl, hd.symm⟩
            · exact .inr ⟨_, hd⟩
          have hnc' : (n : Int) ≤ c := by omega
          have hae : ∀ m : Nat, (if m = i.toNat then a else a.map (·.add (i.toNat * sz))) = a ∧ j.toNat - i.toNat = 0 ∨ (if m = i.toNat then a else a.map (·.add (i.toNat * sz))) = a.map (·.add (i.toNat * sz)) ∨ m < j.toNat := by
            intro m
            by_cases hm : m = i.toNat
            · rw [if_pos hm]
              by_cases hj : j.toNat ≤ m
              · exact .inl ⟨rfl, by omega⟩
              · exact .inr (.inr (by omega))
            · rw [if_neg hm]; exact .inr (.inl rfl)
          split at hv
          · next hmx =>
            have hmx' : mx' = none := by
              cases mx' with
              | none => rfl
              | some _ => simp [chkO] at hc4
            subst hmx'
            have hr := slice_in (w := w) t e a n c (lo'.map act.eval) (hi'.map act.eval) none i j c sz ht hsz hlo hhi (.inl ⟨rfl, rfl⟩) i0 i1 (by omega) (by omega)
            refine OpTells.of (s := Instr.sliceAt t (.slice a n c) (lo'.map act.eval) (hi'.map act.eval) none) (by simp [execOp, hop, hx]) ⟨_, _, hr, hrep .ro _ _ (fun _ h => by cases h) ?_ (by omega) (fun h => by cases h), rfl, hv⟩
            rcases hae ((c : Int).toNat) with h | h | h
            · exact .inl h
            · exact .inr h
            · exfalso; omega
          · next mm hmx =>
            split at hv
            · next k3 m hm =>
              obtain ⟨rfl, hv⟩ := hv
              cases mx' with
              | none => simp [chkO] at hc4
              | some m' =>
                obtain ⟨h3, _⟩ := ev_ok hf hc4 hm
                generalize hm' : act.eval m' = u3 at h3
                cases h3
                have hne : hi'.map act.eval ≠ none := by
                  simp at hc5
                  intro hn
                  cases hi' with
                  | some _ => cases hn
                  | none =>
                    cases hi with
                    | none => simp at hc5
                    | some _ => simp [chkO] at hc3
                have hr := slice_in (w := w) t e a n c (lo'.map act.eval) (hi'.map act.eval) (some (.int k3 m)) i m m sz ht hsz hlo hhi (.inr ⟨⟨k3, rfl⟩, hne⟩) i0 i1 (by omega) (by omega)
                refine OpTells.of (s := Instr.sliceAt t (.slice a n c) (lo'.map act.eval) (hi'.map act.eval) (some (.int k3 m))) (by simp [execOp, hop, hx, hm']) ⟨_, _, hr, hrep .clip _ _ (fun _ h => by cases h) ?_ (by omega) (fun _ => rfl), rfl, hv⟩
                rcases hae m.toNat with h | h | h
                · exact .inl h
                · exact .inr h
                · exfalso; omega
            · exact hv.elim
        · exact hv.elim
      · exact hv.elim
    · cases hc6
  · cases hc
theorem val_build {o : Oper} {tmpl : List AV} {parts : List (Nat × Nat × Opd)} {K : AV → Prop} (hf : FrameOk P g w act.tmps fr) (hc : chkVal P o.op (.build tmpl parts) = true) (hv : val fr h (.build tmpl parts) K) : OpTells P g w act o K := by
  simp only [chkVal] at hc
  split at hc
  · next t ps hop =>
    split at hc
    · next i fs hi hu =>
      simp only [Bool.and_eq_true] at hc
      obtain ⟨⟨hc1, hc2⟩, hc3⟩ := hc
      split at hc1
      · next z hz =>
        obtain ⟨r1, r2, r3⟩ := chkVs_ok g hc1
        have hall : ∀ f ∈ fs.toList, ∃ inf, P.info? f.type = some inf := fun f hf => by
          have := List.all_eq_true.1 hc2 f hf
          exact Option.isSome_iff_exists.1 this
        -- the places of the fields
        have hpl : ∃ places : Array (Nat × Nat), (fs.mapM (m := Sem) fun f => do pure (f.offset, ← sizeOf f.type)).run P w = .ok places w ∧ ∀ (i : Nat) f, fs[i]? = some f → ∃ sz, (P.info? f.type).map (·.size) = some sz ∧ places[i]? = some (f.offset, sz) := by
          have key : ∀ (l : List Field), (∀ f ∈ l, ∃ inf, P.info? f.type = some inf) → ∃ ql : List (Nat × Nat), (l.mapM (m := Sem) fun f => do pure (f.offset, ← sizeOf f.type)).run P w = .ok ql w ∧ ∀ (i : Nat) f, l[i]? = some f → ∃ sz, (P.info? f.type).map (·.size) = some sz ∧ ql[i]? = some (f.offset, sz) := by
            intro l
            induction l with
            | nil => intro _; exact ⟨[], rfl, fun i f h => by simp at h⟩
            | cons f l ih =>
              intro hl
              obtain ⟨ql, h1, h2⟩ := ih (fun f hf => hl f (by simp [hf]))
              obtain ⟨inf, hinf⟩ := hl f (by simp)
              refine ⟨(f.offset, inf.size) :: ql, ?_, ?_⟩
              · simp [sizeOf, typeInfo, hinf] at h1 ⊢; simp [h1]
              · intro i f' hf'
                cases i with
                | zero => simp at hf'; subst hf'; exact ⟨inf.size, by simp [hinf], rfl⟩
                | succ i => simpa using h2 i f' (by simpa using hf')
          obtain ⟨ql, h1, h2⟩ := key fs.toList hall
          refine ⟨ql.toArray, ?_, fun i f hf => ?_⟩
          · rw [Array.mapM_eq_mapM_toList]
            simp only [Sem.run_map, h1]
            rfl
          · obtain ⟨sz, q1, q2⟩ := h2 i f (by simpa using hf)
            exact ⟨sz, q1, by simpa using q2⟩
        obtain ⟨places, hp1, hp2⟩ := hpl
        obtain ⟨cells', l, f1, f2, f3, f4, f5⟩ := fill_ok act hf hp2 ps.toList parts z.cells.toList tmpl _ hc3 r1 r2 r3 hv
        refine OpTells.of (s := Instr.build t (ps.map fun q => (q.1, act.eval q.2))) (by simp [execOp, hop]) ⟨.agg cells'.toArray, _, ?_, .agg _ _ f4 f3 f2, rfl, f5⟩
        have hz2 : (zeroValue t).run P w = .ok z w := by simp [zeroValue, typeInfo, hi, hz]
        simp only [Instr.build, Sem.run_bind, hz2, Result.andThen_ok, run_underlying hu, hp1]
        have : (Array.map (fun q => (q.1, act.eval q.2)) ps).toList = ps.toList.map fun q => (q.1, act.eval q.2) := by simp
        rw [this, show z.cells = z.cells.toList.toArray by simp, f1]
        rfl
      · cases hc1
    · cases hc
  · cases hc

theorem ex_sound {o : Oper} {e : Ex} {ys : List Opd} {l : List AV} {a : AV} (hf : FrameOk P g w act.tmps fr) (hc : chkEx P o.op e ys = true) (he : evs fr ys = some l) (hx : exF e l = some a) : ∃ v, (execOp act.eval o).run P w = .ok (.value v) w ∧ Rep g v a ∧ plain a = true := by
  cases e with
  | binw op =>
    simp only [chkEx] at hc
    split at hc
    · next op' t x y _ hop =>
      simp only [Bool.and_eq_true, decide_eq_true_eq] at hc
      obtain ⟨rfl, hc⟩ := hc
      obtain ⟨hr, _⟩ := evs_ok hf hc he
      simp only [List.map_cons, List.map_nil] at hr
      unfold exF at hx
      split at hx
      · next op1 k x1 k' y1 he1 _ =>
        injection he1 with he1
        subst he1
        cases hr with
        | cons h1 hr =>
          cases hr with
          | cons h2 hr =>
            cases hr
            generalize hu : act.eval x = u at h1
            generalize hu' : act.eval y = u' at h2
            cases h1
            cases h2
            split at hx
            · next hk =>
              subst hk
              split at hx
              all_goals first
                | (simp only [Option.some.injEq] at hx; subst hx; exact ⟨_, by simp [execOp, hop, hu, hu', eqGuard, binOp, Op.intArith], .int _ _, rfl⟩)
                | cases hx
            · cases hx
      · cases hx
    · cases hc
theorem val_ex {o : Oper} {e : Ex} {ys : List Opd} {K : AV → Prop} (hf : FrameOk P g w act.tmps fr) (hc : chkVal P o.op (.ex e ys) = true) (hv : val fr h (.ex e ys) K) : OpTells P g w act o K := by
  simp only [val] at hv
  split at hv
  · next l he =>
    split at hv
    · next a hx =>
      obtain ⟨v, h1, h2, h3⟩ := ex_sound hf hc he hx
      exact ⟨v, a, h1, h2, h3, hv⟩
    · exact hv.elim
  · exact hv.elim
theorem val_sound {o : Oper} {a : AOp} {K : AV → Prop} (hs : Sim P g h w) (hf : FrameOk P g w act.tmps fr) (hc : chkVal P o.op a = true) (hv : val fr h a K) : OpTells P g w act o K := by
  cases a with
  | ex e ys => exact val_ex hf hc hv
  | mv y => exact val_mv hf hc hv
  | pick c x y => exact val_pick hf hc hv
  | build t p => exact val_build hf hc hv
  | load s x => exact val_load hs hf hc hv
  | lds s x =>
    refine val_load (sz := s) (y := x) hs hf hc ?_
    simp only [val] at hv ⊢
    split at hv
    · split at hv
      · next heq => rw [heq]; exact hv
      · exact hv.elim
    · exact hv
    · exact hv.elim
  | nilck x => exact val_nilck hf hc hv
  | bin op x y => exact val_bin hf hc hv
  | pnil n x => exact val_pnil hf hc hv
  | bbin n x y => exact val_bbin hf hc hv
  | not x => exact val_not hf hc hv
  | conv k x => exact val_conv hf hc hv
  | cstr x => exact val_cstr hf hc hv
  | b2s x => exact val_b2s hs hf hc hv
  | fld o x => exact val_fld hf hc hv
  | idxa s x i => exact val_idxa hf hc hv
  | idxs x i => exact val_idxs hf hc hv
  | slcs x l u => exact val_slcs hf hc hv
  | slcl s x l u m => exact val_slcl hf hc hv
  | ext i x => exact val_ext hf hc hv
  | lens x => exact val_lens hf hc hv
  | lenl x => exact val_lenl hf hc hv
  | mn x y => exact val_mn hf hc hv
  | mx x y => exact val_mx hf hc hv
  | mkfn f c => exact val_mkfn hf hc hv
  | _ => exact hv.elim

end
end Go.Proofs.Ytajpibdchgflnaa
