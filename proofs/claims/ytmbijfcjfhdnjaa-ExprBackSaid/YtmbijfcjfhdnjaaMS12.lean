/- Texts of one proof, laid together: Ee Ef Eg Kg Kh Kj Kk Ay. -/
import Derived.Test.YtmbijfcjfhdnjaaMS11
import Derived.Test.YtmbijfcjfhdnjaaMS10

/- Expressions: Read. -/
-- fast
-- rows
namespace Go.Proofs.Ytmbijfcjfhdnjaa
set_option linter.unusedSimpArgs false
set_option linter.unusedVariables false
open Go.RowKit Go.Lib

/-- may a token be written? -/
def wdB (t : Tok) : Bool := !decide (wordT t.kind t.name t.of = ⟨#[]⟩)
def resX (r : List Trm × Nat × Int) : AV := .tup [vTrs r.1, .int .i64 r.2.1, .int .i64 r.2.2]
theorem free_resX (r : List Trm × Nat × Int) : free (resX r) = true := by simp [resX, vTrs, free, free.frees, frees_trs]
theorem rdps_trs : ∀ l : List Trm, rdps (trsC l) = trsC l
  | [] => rdps_nil
  | x :: l => by
    have := rdps_trs l
    simp only [trsC, List.flatMap_cons, trC, List.cons_append, List.nil_append, rdpw] at this ⊢
    rw [this]
theorem take_size {r r' : Rdr} {t : Tok} (h : takeR r t = .inr r') : r'.out.length + r'.w.length ≤ r.out.length + r.w.length + 1 := by
  have key : ∀ m, (popL m r.w).length + (popR m r.w).length = r.w.length := fun m => by
    rw [← List.length_append, popL, popR, List.takeWhile_append_dropWhile]
  unfold takeR at h
  split at h
  · split at h
    · split at h
      · cases h
      · simp only [Sum.inr.injEq] at h; subst h; simp; omega
    · split at h
      · split at h
        · cases h
        · simp only [Sum.inr.injEq] at h; subst h; simp; omega
      · cases h
  · split at h
    · simp only [Sum.inr.injEq] at h; subst h
      have := key (bindK t.kind)
      simp only [List.length_append, List.length_map, List.length_cons]; omega
    · split at h
      · split at h
        · cases h
        · simp only [Sum.inr.injEq] at h; subst h
          have := key 1
          simp only [List.length_append, List.length_map, List.length_tail]; omega
      · cases h
theorem rcnt_le {r : Rdr} (h : rcnt r) : r.opn ≤ r.w.length := by rw [← h.1]; exact List.count_le_length
set_option maxRecDepth 100000 in
set_option maxHeartbeats 4000000 in
theorem p_read (l : List Tok) (hl : l.length ≤ 5000) (hn : ∀ t ∈ l, t.name.size ≤ 1000000) : PCalls Try.prog 19 [vToks l] (resX (readR wdB l)) := by
  refine pcalls_of (by simp [vToks, free, free.frees, frees_toks]) (free_resX _) (ACalls.deep (acalls_of mixed J_expr_Read_ok (Nat.le_of_ble_eq_true rfl) ?_)); simp only [J_expr_Read, vToks, wkr,wk,if_true,if_false,forall_const,implies_true,ne_eq,eq_self,Nat.reduceEqDiff,Nat.reduceAdd,Nat.reduceMul,Nat.reduceSub,Nat.reduceLeDiff,Nat.reduceLT,Int.reduceEq,Int.reduceLT,Int.reduceLE,Int.reduceAdd,Int.reduceSub,Int.reduceMul,Int.reduceNeg,Int.reduceNe,reduceCtorEq,Int.reduceToNat,↓reduceIte]
  refine W_loop (fun m fr h' => ∃ i : Nat, i ≤ l.length ∧ m = l.length - i ∧ (∀ j (hj : j < l.length), j < i → wdB l[j] = true) ∧ fr = [(0, .lst .ro l.length (toksC l)), (11, .lst .ro l.length (toksC l)), (12, .int .i64 l.length), (13, .int .i64 i)]) l.length ⟨0, by omega, by omega, fun j _ h => by omega, rfl⟩ ?_
  rintro m fr h' ⟨i, hi, rfl, hw, rfl⟩
  simp only [J_expr_Read_j4, wkr,wk,if_true,if_false,forall_const,implies_true,ne_eq,eq_self,Nat.reduceEqDiff,Nat.reduceAdd,Nat.reduceMul,Nat.reduceSub,Nat.reduceLeDiff,Nat.reduceLT,Int.reduceEq,Int.reduceLT,Int.reduceLE,Int.reduceAdd,Int.reduceSub,Int.reduceMul,Int.reduceNeg,Int.reduceNe,reduceCtorEq,Int.reduceToNat,↓reduceIte]
  refine ⟨fun hlt => ?_, fun hge => ?_⟩
  · have hil : i < l.length := by omega
    have hd : (toksC l).drop ((i : Int).toNat * 4) = _ := toksC_drop hil
    have qw := p_word l[i].kind l[i].name l[i].of l[i].at_ (hn _ (List.getElem_mem hil))
    refine ⟨⟨by omega, by omega⟩, ?_⟩
    simp only [wkr,wk,if_true,if_false,forall_const,implies_true,ne_eq,eq_self,Nat.reduceEqDiff,Nat.reduceAdd,Nat.reduceMul,Nat.reduceSub,Nat.reduceLeDiff,Nat.reduceLT,Int.reduceEq,Int.reduceLT,Int.reduceLE,Int.reduceAdd,Int.reduceSub,Int.reduceMul,Int.reduceNeg,Int.reduceNe,reduceCtorEq,Int.reduceToNat,↓reduceIte, hd]
    refine PCalls.use (qw) ?_; simp only [wkr,wk,if_true,if_false,forall_const,implies_true,ne_eq,eq_self,Nat.reduceEqDiff,Nat.reduceAdd,Nat.reduceMul,Nat.reduceSub,Nat.reduceLeDiff,Nat.reduceLT,Int.reduceEq,Int.reduceLT,Int.reduceLE,Int.reduceAdd,Int.reduceSub,Int.reduceMul,Int.reduceNeg,Int.reduceNe,reduceCtorEq,Int.reduceToNat,↓reduceIte]
    refine ⟨fun h0 => ?_, fun h0 => ⟨inR_of (by omega) (by omega), l.length - (i + 1), by omega, i + 1, by omega, rfl, fun j hj hji => ?_, rfl⟩⟩
    · have hf : l.findIdx? (fun t => !wdB t) = some i := by
        rw [List.findIdx?_eq_some_iff_getElem]
        refine ⟨hil, by simp [wdB, h0], fun j hj => ?_⟩
        rw [hw j (by omega) hj]; simp
      unfold readR
      rw [hf]
      simp only [rdpw, resX, vTrs]
      rfl
    · rcases Nat.lt_or_ge j i with h1 | h1
      · exact hw j hj h1
      · obtain rfl : j = i := by omega
        simpa [wdB] using h0
  · have hall : ∀ t ∈ l, wdB t = true := fun t ht => by
      obtain ⟨j, hj, rfl⟩ := List.mem_iff_getElem.1 ht
      exact hw j hj (by omega)
    have hr0 := runR_eq l 0 false ⟨[], [], 0, false⟩ (fun _ => by simp)
    rw [readR_acc hall]
    simp only [J_expr_Read_j3, wkr,wk,if_true,if_false,forall_const,implies_true,ne_eq,eq_self,Nat.reduceEqDiff,Nat.reduceAdd,Nat.reduceMul,Nat.reduceSub,Nat.reduceLeDiff,Nat.reduceLT,Int.reduceEq,Int.reduceLT,Int.reduceLE,Int.reduceAdd,Int.reduceSub,Int.reduceMul,Int.reduceNeg,Int.reduceNe,reduceCtorEq,Int.reduceToNat,↓reduceIte]
    obtain ⟨id, hid⟩ : ∃ id, id = h'.length := ⟨_, rfl⟩
    rw [← hid]
    refine W_loop (fun m fr h'' => ∃ (i : Nat) (r : Rdr), i ≤ l.length ∧ m = l.length - i ∧ runR 0 ⟨[], [], 0, false⟩ l = runR i r (l.drop i) ∧ rcnt r ∧ r.out.length + r.w.length ≤ i ∧ h''[id]? = some (rob none r) ∧ fr = [(0, .lst .ro l.length (toksC l)), (7, .ptr id 0), (23, .lst .ro l.length (toksC l)), (24, .int .i64 l.length), (25, .int .i64 i)]) l.length ⟨0, ⟨[], [], 0, false⟩, by omega, by omega, rfl, ⟨rfl, by simp⟩, by simp, by rw [hid]; exact boxE, rfl⟩ ?_
    rintro m fr h'' ⟨i2, r, hi2, rfl, hrun, hrc, hsz, hob, rfl⟩
    simp only [J_expr_Read_j2, wkr,wk,if_true,if_false,forall_const,implies_true,ne_eq,eq_self,Nat.reduceEqDiff,Nat.reduceAdd,Nat.reduceMul,Nat.reduceSub,Nat.reduceLeDiff,Nat.reduceLT,Int.reduceEq,Int.reduceLT,Int.reduceLE,Int.reduceAdd,Int.reduceSub,Int.reduceMul,Int.reduceNeg,Int.reduceNe,reduceCtorEq,Int.reduceToNat,↓reduceIte]
    refine ⟨fun hlt => ?_, fun hge2 => ?_⟩
    · have hil : i2 < l.length := by omega
      have hd : (toksC l).drop ((i2 : Int).toNat * 4) = _ := toksC_drop hil
      refine ⟨⟨by omega, by omega⟩, ?_⟩
      have htk := fun ex => a_take (t := l[i2]) (holdE hob ex) hrc (by omega) (by omega) (by have := rcnt_le hrc; omega)
      simp only [tC] at htk
      rw [List.drop_eq_getElem_cons hil] at hrun
      simp only [runR] at hrun
      simp only [wkr,wk,if_true,if_false,forall_const,implies_true,ne_eq,eq_self,Nat.reduceEqDiff,Nat.reduceAdd,Nat.reduceMul,Nat.reduceSub,Nat.reduceLeDiff,Nat.reduceLT,Int.reduceEq,Int.reduceLT,Int.reduceLE,Int.reduceAdd,Int.reduceSub,Int.reduceMul,Int.reduceNeg,Int.reduceNe,reduceCtorEq,Int.reduceToNat,↓reduceIte, hd]
      refine ACalls.use (htk _) ?_; rintro _ _ ⟨rfl, rfl⟩; simp only [wkr,wk,if_true,if_false,forall_const,implies_true,ne_eq,eq_self,Nat.reduceEqDiff,Nat.reduceAdd,Nat.reduceMul,Nat.reduceSub,Nat.reduceLeDiff,Nat.reduceLT,Int.reduceEq,Int.reduceLT,Int.reduceLE,Int.reduceAdd,Int.reduceSub,Int.reduceMul,Int.reduceNeg,Int.reduceNe,reduceCtorEq,Int.reduceToNat,↓reduceIte]
      cases ht : takeR r l[i2] with
      | inl e =>
        rw [ht] at hrun
        simp only at hrun
        rw [hrun] at hr0
        obtain ⟨g1, g2⟩ := take_inl ht
        rw [g1]
        cases hc : ctlE 100 0 false 0 false l with
        | inr y => rw [hc] at hr0; cases hr0
        | inl y =>
          rw [hc] at hr0
          simp only [Sum.inl.injEq] at hr0
          subst hr0
          obtain ⟨_, _, he⟩ := ctlE_lt _ _ _ _ _ _ _ hc
          refine ⟨fun h0 => ?_, fun h0 => absurd h0 (by omega)⟩
          simp only [rdpw, resX, vTrs]
          rfl
      | inr r' =>
        rw [ht] at hrun
        simp only at hrun
        obtain ⟨g1, g2⟩ := take_inr ht
        rw [g1, g2]
        refine ⟨fun h => absurd rfl h, fun _ => ⟨inR_of (by omega) (by omega), l.length - (i2 + 1), by omega, i2 + 1, r', by omega, rfl, hrun, rcnt_take hrc ht, by have := take_size ht; omega, hset1 (holdE hob _) _, rfl⟩⟩
    · obtain rfl : i2 = l.length := by omega
      rw [List.drop_length] at hrun
      simp only [runR] at hrun
      rw [hrun] at hr0
      cases hc : ctlE 100 0 false 0 false l with
      | inl y => rw [hc] at hr0; cases hr0
      | inr y =>
        obtain ⟨b, n⟩ := y
        rw [hc] at hr0
        simp only [Sum.inr.injEq] at hr0
        obtain ⟨out, w, opn, beh⟩ := r
        simp only [Rdr.mk.injEq] at hr0
        obtain ⟨rfl, rfl, rfl, rfl⟩ := hr0
        have hla := a_lay (m := 1) hob (by decide) hrc.2 (by simp only at hsz ⊢; omega) (by simp only at hsz ⊢; omega)
        have hob2 := hset1 hob (rob none (layR 1 ⟨(srun l ([], [])).1, (srun l ([], [])).2, opn, beh⟩))
        simp only [rob, layR] at hla hob hob2
        have hrd : (srun l ([], [])).1 ++ (popL 1 (srun l ([], [])).2).map sgn = readD l := rfl
        rw [hrd] at hla hob2
        simp only [J_expr_Read_j1, hob, wkr,wk,if_true,if_false,forall_const,implies_true,ne_eq,eq_self,Nat.reduceEqDiff,Nat.reduceAdd,Nat.reduceMul,Nat.reduceSub,Nat.reduceLeDiff,Nat.reduceLT,Int.reduceEq,Int.reduceLT,Int.reduceLE,Int.reduceAdd,Int.reduceSub,Int.reduceMul,Int.reduceNeg,Int.reduceNe,reduceCtorEq,Int.reduceToNat,↓reduceIte]
        refine ⟨fun hb => ⟨fun h0 => ?_, fun h0 => ?_⟩, fun hb => ?_⟩
        · rw [if_pos (.inr (by omega))]
          simp only [rdpw, resX, vTrs]
          rfl
        · rw [if_neg (by rw [hb]; simp; omega)]
          refine ACalls.use (hla) ?_; rintro _ _ ⟨rfl, rfl⟩; simp only [wkr,wk,if_true,if_false,forall_const,implies_true,ne_eq,eq_self,Nat.reduceEqDiff,Nat.reduceAdd,Nat.reduceMul,Nat.reduceSub,Nat.reduceLeDiff,Nat.reduceLT,Int.reduceEq,Int.reduceLT,Int.reduceLE,Int.reduceAdd,Int.reduceSub,Int.reduceMul,Int.reduceNeg,Int.reduceNe,reduceCtorEq,Int.reduceToNat,↓reduceIte, hob2]
          refine ⟨fun h2 => ?_, fun h2 => ?_⟩
          · rw [if_pos (by omega)]
            simp only [rdpw, resX, vTrs]
            rfl
          · rw [if_neg (by omega)]
            simp only [rdpw, resX, vTrs, rdps_trs]
            rfl
        · rw [if_pos (.inl hb)]
          simp only [rdpw, resX, vTrs]
          rfl
end Go.Proofs.Ytmbijfcjfhdnjaa

/- Expressions: the document's Read. -/
-- fast
-- rows
namespace Go.Proofs.Ytmbijfcjfhdnjaa
set_option linter.unusedSimpArgs false
set_option linter.unusedVariables false
open Go.RowKit Go.Lib

theorem eqTrue {p : Prop} (h : p) : p = True := eq_true h
theorem eqFalse {p : Prop} (h : ¬ p) : p = False := eq_false h
end Go.Proofs.Ytmbijfcjfhdnjaa

/- Expressions: the document's terms, and its Read. -/
-- fast
-- rows
namespace Go.Proofs.Ytmbijfcjfhdnjaa
set_option linter.unusedSimpArgs false
set_option linter.unusedVariables false
open Go.RowKit Go.Lib

theorem srun_size : ∀ (l : List Tok) (s : List Trm × List Int), (srun l s).1.length + (srun l s).2.length ≤ s.1.length + s.2.length + l.length
  | [], s => by simp [srun]
  | t :: l, s => by
    have ih := srun_size l (sstep s t)
    have key : ∀ m, (popL m s.2).length + (popR m s.2).length = s.2.length := fun m => by
      rw [← List.length_append, popL, popR, List.takeWhile_append_dropWhile]
    have h1 : (sstep s t).1.length + (sstep s t).2.length ≤ s.1.length + s.2.length + 1 := by
      unfold sstep
      split
      · simp; omega
      · split
        · simp; omega
        · split
          · have := key 1
            simp only [List.length_append, List.length_map, List.length_tail]; omega
          · have := key (bindK t.kind)
            simp only [List.length_append, List.length_map, List.length_cons]; omega
    show (srun l (sstep s t)).1.length + (srun l (sstep s t)).2.length ≤ _
    rw [List.length_cons]; omega
theorem readD_size (l : List Tok) : (readD l).length ≤ l.length := by
  have h1 := srun_size l ([], [])
  have h2 : (popL 1 (srun l ([], [])).2).length ≤ (srun l ([], [])).2.length := (List.takeWhile_prefix _).length_le
  unfold readD
  simp only [List.length_append, List.length_map, List.length_nil] at h1 ⊢
  omega
end Go.Proofs.Ytmbijfcjfhdnjaa

/- The program's name and sign. -/
namespace Go.Proofs.Ytmbijfcjfhdnjaa
set_option linter.unusedSimpArgs false
set_option linter.unusedVariables false
open Go.RowKit Go.Lib

def colonL (l : List UInt8) : Bool := match l with
  | [] => false
  | b :: _ => b.toNat == 58
/-- a name's token, as the program tells it -/
def pnameL (l : List UInt8) : Sig :=
  if aheW (ba (l.take (stopN innI l))) ≠ 0 ∧ colonL (l.drop (stopN innI l)) = true then
    (1, ba ((l.drop (stopN innI l + 1)).take (stopN innI (l.drop (stopN innI l + 1)))), aheW (ba (l.take (stopN innI l))), stopN innI l + 1 + stopN innI (l.drop (stopN innI l + 1)))
  else if keyW (ba (l.take (stopN innI l))) ≠ 0 then (keyW (ba (l.take (stopN innI l))), ba [], 0, stopN innI l)
  else (1, ba (l.take (stopN innI l)), 3, stopN innI l)
def sigV (x : Sig) (a : Nat) : AV := .tup [.agg [.int .i64 x.1, .str x.2.1, .int .i64 x.2.2.1, .int .i64 0], .int .i64 (a + x.2.2.2 : Nat)]
set_option maxRecDepth 100000 in
set_option maxHeartbeats 4000000 in
theorem p_pname (s : ByteArray) (a : Nat) (hs : s.size ≤ 1000000) (ha : a < s.size) :
    PCalls Try.prog 57 [.str s, .int .i64 a] (sigV (pnameL (s.data.toList.drop a)) a) := by
  have hl := len_size s
  obtain ⟨L, hL⟩ : ∃ L, L = s.data.toList.drop a := ⟨_, rfl⟩
  have hLl : L.length = s.size - a := by rw [hL, List.length_drop]; omega
  have hle := stopN_le innI L
  have q1 := p_stop (f := 76) p_inName hi_inn s a hs (by omega)
  rw [← hL] at q1 ⊢
  obtain ⟨m, hm⟩ : ∃ m, m = stopN innI L := ⟨_, rfl⟩
  rw [← hm] at q1 hle
  rw [show ((a : Int) + (m : Nat)) = ((a + m : Nat) : Int) by omega] at q1
  refine pcalls_of (by first | rfl | simp [free, free.frees, frees_str, frees_u8, frees_u16]) (by first | rfl | simp [free, free.frees, frees_str, frees_u8, frees_u16]) (acalls_of mixed J_token_name_ok (Nat.le_of_ble_eq_true rfl) ?_); simp only [J_token_name, wk,if_true,if_false,forall_const,implies_true,ne_eq,eq_self,Nat.reduceEqDiff,Nat.reduceAdd,Nat.reduceMul,Nat.reduceSub,Nat.reduceLeDiff,Nat.reduceLT,Int.reduceEq,Int.reduceLT,Int.reduceLE,Int.reduceAdd,Int.reduceSub,Int.reduceMul,Int.reduceNeg,Int.reduceNe,reduceCtorEq,Int.reduceToNat,↓reduceIte]
  refine PCalls.use (q1) ?_; simp only [wk,if_true,if_false,forall_const,implies_true,ne_eq,eq_self,Nat.reduceEqDiff,Nat.reduceAdd,Nat.reduceMul,Nat.reduceSub,Nat.reduceLeDiff,Nat.reduceLT,Int.reduceEq,Int.reduceLT,Int.reduceLE,Int.reduceAdd,Int.reduceSub,Int.reduceMul,Int.reduceNeg,Int.reduceNe,reduceCtorEq,Int.reduceToNat,↓reduceIte]
  have hw : s.extract a (a + m) = ba (L.take m) := by rw [ext_ba, ← hL]
  simp only [Int.toNat_natCast, hw, wk,if_true,if_false,forall_const,implies_true,ne_eq,eq_self,Nat.reduceEqDiff,Nat.reduceAdd,Nat.reduceMul,Nat.reduceSub,Nat.reduceLeDiff,Nat.reduceLT,Int.reduceEq,Int.reduceLT,Int.reduceLE,Int.reduceAdd,Int.reduceSub,Int.reduceMul,Int.reduceNeg,Int.reduceNe,reduceCtorEq,Int.reduceToNat,↓reduceIte]
  refine ⟨⟨by omega, by omega, by omega⟩, ?_⟩
  refine PCalls.use (p_ahead (ba (L.take m))) ?_; simp only [wk,if_true,if_false,forall_const,implies_true,ne_eq,eq_self,Nat.reduceEqDiff,Nat.reduceAdd,Nat.reduceMul,Nat.reduceSub,Nat.reduceLeDiff,Nat.reduceLT,Int.reduceEq,Int.reduceLT,Int.reduceLE,Int.reduceAdd,Int.reduceSub,Int.reduceMul,Int.reduceNeg,Int.reduceNe,reduceCtorEq,Int.reduceToNat,↓reduceIte]
  have hcol : colonL (L.drop m) = true ↔ (a + m < s.size ∧ byteAt s (a + m) = 58) := by
    rcases Nat.lt_or_ge (a + m) s.size with h | h
    · have hml : m < L.length := by omega
      rw [List.drop_eq_getElem_cons hml]
      have e : L[m] = s.data.toList[a + m] := by simp only [hL, List.getElem_drop]
      rw [byte_at (show a + m < s.data.toList.length by omega), ← e]
      simp [colonL, h]
    · rw [List.drop_of_length_le (by omega)]
      simp [colonL]; omega
  have hd2 : s.data.toList.drop (a + m + 1) = L.drop (m + 1) := by rw [hL, List.drop_drop, Nat.add_assoc]
  have e1 : ((a : Int) + (m : Nat)) = ((a + m : Nat) : Int) := by omega
  have yes : (aheW (ba (L.take m)) ≠ 0 ∧ colonL (L.drop m) = true) → pnameL L = (1, ba ((L.drop (m + 1)).take (stopN innI (L.drop (m + 1)))), aheW (ba (L.take m)), m + 1 + stopN innI (L.drop (m + 1))) := fun h => by
    unfold pnameL; rw [← hm, if_pos h]
  have no : ¬ (aheW (ba (L.take m)) ≠ 0 ∧ colonL (L.drop m) = true) → pnameL L = if keyW (ba (L.take m)) ≠ 0 then (keyW (ba (L.take m)), ba [], 0, m) else (1, ba (L.take m), 3, m) := fun h => by
    unfold pnameL; rw [← hm, if_neg h]
  have qk := p_keyword (ba (L.take m))
  refine ⟨fun h1 => ⟨fun h2 => ⟨⟨by omega, by omega⟩, fun h3 => ⟨inR_of (by omega) (by omega), ?_⟩, fun h3 => ?_⟩, fun h2 => ?_⟩, fun h1 => ?_⟩
  · rw [Int.toNat_natCast] at h3
    have q2 := p_stop (f := 76) p_inName hi_inn s (a + m + 1) hs (by omega)
    rw [hd2] at q2
    have y := yes ⟨h1, hcol.2 ⟨by omega, by omega⟩⟩
    obtain ⟨m2, hm2⟩ : ∃ m2, m2 = stopN innI (L.drop (m + 1)) := ⟨_, rfl⟩
    rw [← hm2] at q2 y
    have hle2 : m2 ≤ (L.drop (m + 1)).length := by rw [hm2]; exact stopN_le _ _
    rw [List.length_drop] at hle2
    rw [show ((a + m : Nat) : Int) + 1 = ((a + m + 1 : Nat) : Int) by omega]
    rw [show ((a + m + 1 : Nat) : Int) + (m2 : Nat) = ((a + m + 1 + m2 : Nat) : Int) by omega] at q2
    refine PCalls.use (q2) ?_; simp only [wk,if_true,if_false,forall_const,implies_true,ne_eq,eq_self,Nat.reduceEqDiff,Nat.reduceAdd,Nat.reduceMul,Nat.reduceSub,Nat.reduceLeDiff,Nat.reduceLT,Int.reduceEq,Int.reduceLT,Int.reduceLE,Int.reduceAdd,Int.reduceSub,Int.reduceMul,Int.reduceNeg,Int.reduceNe,reduceCtorEq,Int.reduceToNat,↓reduceIte]
    refine ⟨⟨by omega, by omega, by omega⟩, ?_⟩
    rw [y]
    have hw2 : s.extract (a + m + 1) (a + m + 1 + m2) = ba ((L.drop (m + 1)).take m2) := by rw [ext_ba, hd2]
    rw [Int.toNat_natCast, Int.toNat_natCast, hw2]
    rw [show (a + m + 1 + m2 : Nat) = a + (m + 1 + m2) by omega]
    exact ⟨Nat.le_refl _, rfl⟩
  all_goals (refine PCalls.use qk ?_; simp only [wk,if_true,if_false,forall_const,implies_true,ne_eq,eq_self,Nat.reduceEqDiff,Nat.reduceAdd,Nat.reduceMul,Nat.reduceSub,Nat.reduceLeDiff,Nat.reduceLT,Int.reduceEq,Int.reduceLT,Int.reduceLE,Int.reduceAdd,Int.reduceSub,Int.reduceMul,Int.reduceNeg,Int.reduceNe,reduceCtorEq,Int.reduceToNat,↓reduceIte])
  all_goals (
    rw [no (by
      first
        | (intro hh; exact h3 (by have := (hcol.1 hh.2).2; rw [Int.toNat_natCast]; omega))
        | (intro hh; exact h2 (by have := (hcol.1 hh.2).1; omega))
        | (intro hh; exact hh.1 h1))]
    refine ⟨fun hk => ?_, fun hk => ?_⟩
    · rw [if_pos hk]; exact ⟨Nat.le_refl _, rfl⟩
    · rw [if_neg (fun h => h hk)]; exact ⟨Nat.le_refl _, rfl⟩)
end Go.Proofs.Ytmbijfcjfhdnjaa

/- The program's sign is the token at a place: plain laws. -/
namespace Go.Proofs.Ytmbijfcjfhdnjaa
set_option linter.unusedSimpArgs false
set_option linter.unusedVariables false
open Go.RowKit Go.Lib

theorem dec_val (s : ByteArray) (p : Nat) : (Utf8.decode s p).1 ≤ 1114111 ∧ (128 ≤ (Utf8.decode s p).1 → Utf8.valid ((Utf8.decode s p).1 : Nat) = true) := by
  have e : Utf8.runeError ≤ 1114111 ∧ (128 ≤ Utf8.runeError → Utf8.valid (Utf8.runeError : Nat) = true) := by decide
  have hb : ∀ k, (s.get! k).toNat < 256 := fun k => (s.get! k).toNat_lt
  simp only [Utf8.decode]
  split
  · exact ⟨by simp only; omega, fun h => by simp only at h; omega⟩
  · split
    · next c =>
      split
      · have := hb (p + 0)
        refine ⟨by simp only; omega, fun _ => ?_⟩
        unfold Utf8.valid
        simp only [Bool.or_eq_true, Bool.and_eq_true, decide_eq_true_eq]
        left; omega
      · exact e
    · split
      · split
        · next c =>
          simp only [Bool.and_eq_true, decide_eq_true_eq] at c
          refine ⟨?_, fun _ => c.2⟩
          have := c.2
          unfold Utf8.valid at this
          simp only [Bool.or_eq_true, Bool.and_eq_true, decide_eq_true_eq] at this
          simp only; omega
        · exact e
      · split
        · split
          · next c =>
            simp only [Bool.and_eq_true, decide_eq_true_eq] at c
            refine ⟨?_, fun _ => c.2⟩
            have := c.2
            unfold Utf8.valid at this
            simp only [Bool.or_eq_true, Bool.and_eq_true, decide_eq_true_eq] at this
            simp only; omega
          · exact e
        · exact e
/-- a text of names' bytes, and a colon behind it -/
theorem colon_iff {p L : List UInt8} (hp : ∀ b ∈ p, innI b.toNat = true) : L.take (p.length + 1) = p ++ [58] ↔ (L.take (stopN innI L) = p ∧ colonL (L.drop (stopN innI L)) = true) := by
  constructor
  · intro h
    have e : L = p ++ 58 :: L.drop (p.length + 1) := by
      have := (List.take_append_drop (p.length + 1) L).symm
      rw [h] at this
      simpa using this
    have hs : stopN innI L = p.length := by
      rw [e]
      unfold stopN
      refine tw_len (by simp) (fun b hb => ?_) (fun h => ?_)
      · rw [List.take_left] at hb; exact hp b hb
      · rw [List.getElem_append_right (Nat.le_refl _)]; simp; decide
    rw [hs, e]
    simp [colonL]
  · rintro ⟨h1, h2⟩
    have e := (List.take_append_drop (stopN innI L) L).symm
    rw [h1] at e
    obtain ⟨r, hr⟩ : ∃ r, L.drop (stopN innI L) = 58 :: r := by
      cases hd : L.drop (stopN innI L) with
      | nil => rw [hd] at h2; cases h2
      | cons c r =>
        rw [hd] at h2
        have : c = 58 := by
          apply UInt8.toNat_inj.1; simpa [colonL] using h2
        exact ⟨r, by rw [this]⟩
    rw [hr] at e
    rw [e]; simp [List.take_append]
    exact List.take_of_length_le (by omega)
theorem beg_key {L : List UInt8} {k : Int} (p : List UInt8) (hk : preW k = ba (p ++ [58])) (hp : ∀ b ∈ p, innI b.toNat = true) : begL (preW k) L = true ↔ (ba (L.take (stopN innI L)) = ba p ∧ colonL (L.drop (stopN innI L)) = true) := by
  unfold begL
  rw [hk, decide_eq_true_eq, ba_list, ba_len2, List.length_append, List.length_singleton, colon_iff hp, ba_inj]
theorem kind_name (L : List UInt8) : kindL L = if aheW (ba (L.take (stopN innI L))) ≠ 0 ∧ colonL (L.drop (stopN innI L)) = true then aheW (ba (L.take (stopN innI L))) else 0 := by
  have b1 := beg_key (L := L) (k := 1) [107, 101, 121] rfl (by decide)
  have b2 := beg_key (L := L) (k := 2) [99, 104, 97, 110] rfl (by decide)
  have b4 := beg_key (L := L) (k := 4) [103, 114, 111, 117, 112] rfl (by decide)
  have b5 := beg_key (L := L) (k := 5) [114, 111, 108, 101] rfl (by decide)
  unfold kindL aheW
  simp only [b1, b2, b4, b5]
  by_cases hc : colonL (L.drop (stopN innI L)) = true
  · simp only [hc, and_true]
    show _ = _
    simp only [ba, List.toArray]
    by_cases h1 : ba (L.take (stopN innI L)) = ⟨#[107, 101, 121]⟩
    · simp_all [ba]
    · by_cases h2 : ba (L.take (stopN innI L)) = ⟨#[99, 104, 97, 110]⟩
      · simp_all [ba]
      · by_cases h4 : ba (L.take (stopN innI L)) = ⟨#[103, 114, 111, 117, 112]⟩
        · simp_all [ba]
        · by_cases h5 : ba (L.take (stopN innI L)) = ⟨#[114, 111, 108, 101]⟩
          · simp_all [ba]
          · simp_all [ba]
  · simp [hc]
/-- a kind stands ahead: it is one of four; its text is as long as the name and the colon -/
theorem ahe_len (w : ByteArray) (h : aheW w ≠ 0) : aheW w ∈ kinds ∧ (preW (aheW w)).size = w.size + 1 := by
  unfold aheW at h ⊢
  split
  · next e => rw [e]; decide
  · split
    · next e => rw [e]; decide
    · split
      · next e => rw [e]; decide
      · split
        · next e => rw [e]; decide
        · next h1 h2 h3 h4 => simp [h1, h2, h3, h4] at h
theorem may_stop (L : List UInt8) : mayN (ba (L.take (stopN innI L))) = true ↔ (lttI (L.headD 0).toNat = true ∧ stopN innI L ≤ 24) := by
  have hle := stopN_le innI L
  unfold mayN mayL
  rw [ba_list]
  simp only [Bool.and_eq_true, decide_eq_true_eq, List.length_take]
  cases L with
  | nil => simp [stopN, lttI]
  | cons b r =>
    by_cases hb : innI b.toNat = true
    · have h1 : 1 ≤ stopN innI (b :: r) := by rw [stopN_cons hb]; omega
      obtain ⟨m, hm⟩ : ∃ m, stopN innI (b :: r) = m + 1 := ⟨stopN innI (b :: r) - 1, by omega⟩
      have hall : ((b :: r).take (stopN innI (b :: r))).all (fun b => innI b.toNat) = true := by
        rw [List.all_eq_true]
        intro c hc
        obtain ⟨i, hi, rfl⟩ := List.mem_iff_getElem.1 hc
        rw [List.length_take] at hi
        rw [List.getElem_take]
        exact stopN_at (by omega) (by omega)
      rw [hall, hm]
      simp only [List.take_succ_cons, List.headD_cons]
      rw [hm] at hle
      constructor
      · rintro ⟨h1, h2, h3, h4⟩; exact ⟨h3, by omega⟩
      · rintro ⟨h1, h2⟩; exact ⟨by omega, by omega, h1, trivial⟩
    · have hz := stopN_zero (q := innI) (r := r) (b := b) (by simpa using hb)
      have hl : lttI b.toNat = false := by
        simp only [innI, Bool.or_eq_true, not_or] at hb
        simpa using hb.1.1.1
      rw [hz]; simp [hl]
theorem kind_nl {b : UInt8} {r : List UInt8} (h : lttI b.toNat = false) : kindL (b :: r) = 0 := by
  rw [kind_name, if_neg]
  rintro ⟨h1, -⟩
  apply h1
  have e : ∀ (c : UInt8) (p : List UInt8), lttI c.toNat = true → ba ((b :: r).take (stopN innI (b :: r))) ≠ ba (c :: p) := fun c p hc h2 => by
    rw [ba_inj] at h2
    have h3 : b = c := by
      cases hm : stopN innI (b :: r) with
      | zero => rw [hm] at h2; simp at h2
      | succ m => rw [hm, List.take_succ_cons] at h2; exact (List.cons.inj h2).1
    rw [h3] at h; rw [h] at hc; cases hc
  have k1 : ¬ ba ((b :: r).take (stopN innI (b :: r))) = ⟨#[107, 101, 121]⟩ := e 107 [101, 121] (by decide)
  have k2 : ¬ ba ((b :: r).take (stopN innI (b :: r))) = ⟨#[99, 104, 97, 110]⟩ := e 99 [104, 97, 110] (by decide)
  have k4 : ¬ ba ((b :: r).take (stopN innI (b :: r))) = ⟨#[103, 114, 111, 117, 112]⟩ := e 103 [114, 111, 117, 112] (by decide)
  have k5 : ¬ ba ((b :: r).take (stopN innI (b :: r))) = ⟨#[114, 111, 108, 101]⟩ := e 114 [111, 108, 101] (by decide)
  unfold aheW
  rw [if_neg k1, if_neg k2, if_neg k4, if_neg k5]
theorem sign_nl {b : UInt8} {r : List UInt8} (h : lttI b.toNat = false) : signL (b :: r) = plainL (b :: r) := by
  unfold signL; rw [if_pos (kind_nl h)]
/-- what is said of a word -/
def goodT (x : Sig) (l : List UInt8) : Bool := decide (wordT x.1 x.2.1 x.2.2.1 ≠ ⟨#[]⟩) && fineL (l.drop x.2.2.2)
theorem ba_app_ne {o : Int} {w : ByteArray} (h : o ∈ kinds) : preW o ++ w ≠ ⟨#[]⟩ := by
  intro e
  have := congrArg ByteArray.size e
  rw [ByteArray.size_append] at this
  have h2 := (pre_ok h).1
  have h3 : (⟨#[]⟩ : ByteArray).size = 0 := rfl
  omega
theorem atomW_kind {o : Int} {w : ByteArray} (h : o ∈ kinds) : atomW o w ≠ ⟨#[]⟩ ↔ mayN w = true := by
  have h2 : o = 1 ∨ o = 2 ∨ o = 4 ∨ o = 5 := by simpa [kinds] using h
  have h0 := kinds_nz h
  unfold atomW
  rw [if_neg h0]
  by_cases hm : mayN w = true
  · rw [if_pos hm, if_pos h2]; exact ⟨fun _ => hm, fun _ => ba_app_ne h⟩
  · rw [if_neg hm]; exact ⟨fun h => absurd rfl h, fun h => absurd h hm⟩
theorem name_some (L : List UInt8) : nameL L = if lttI (L.headD 0).toNat = true ∧ stopN innI L ≤ 24 ∧ fineL (L.drop (stopN innI L)) = true then some (stopN innI L) else none := by
  cases L with
  | nil => rfl
  | cons b r => rfl
/-- where a letter stands -/
theorem sign_letter {b : UInt8} {r : List UInt8} (h : lttI b.toNat = true) : signL (b :: r) = if goodT (pnameL (b :: r)) (b :: r) = true then some (pnameL (b :: r)) else none := by
  obtain ⟨L, hL⟩ : ∃ L, L = b :: r := ⟨_, rfl⟩
  have hhd : lttI (L.headD 0).toNat = true := by rw [hL]; exact h
  have hin : innI b.toNat = true := by simp [innI, h]
  have h1 : 1 ≤ stopN innI L := by rw [hL, stopN_cons hin]; omega
  have hle := stopN_le innI L
  have hpl : plainL L = match nameL L with
      | none => none
      | some n => if keyW (ba (L.take n)) = 0 then some (1, ba (L.take n), 3, n) else some (keyW (ba (L.take n)), ba [], 0, n) := by
    rw [hL]; simp only [plainL]; rw [if_pos h]; try rfl
  rw [← hL]
  have hwl : (ba (L.take (stopN innI L))).size = stopN innI L := by rw [ba_len2, List.length_take]; omega
  unfold signL
  rw [kind_name]
  by_cases hc : aheW (ba (L.take (stopN innI L))) ≠ 0 ∧ colonL (L.drop (stopN innI L)) = true
  · obtain ⟨a1, a2⟩ := ahe_len _ hc.1
    rw [if_pos hc, if_neg hc.1]
    have hp : pnameL L = (1, ba ((L.drop (stopN innI L + 1)).take (stopN innI (L.drop (stopN innI L + 1)))), aheW (ba (L.take (stopN innI L))), stopN innI L + 1 + stopN innI (L.drop (stopN innI L + 1))) := by unfold pnameL; rw [if_pos hc]
    rw [hp]
    obtain ⟨k, hk⟩ : ∃ k, k = aheW (ba (L.take (stopN innI L))) := ⟨_, rfl⟩
    rw [← hk] at a1 a2 ⊢
    rw [hwl] at a2
    rw [a2]
    obtain ⟨M, hM⟩ : ∃ M, M = L.drop (stopN innI L + 1) := ⟨_, rfl⟩
    rw [← hM]
    unfold atomL goodT
    rw [name_some]
    have hat := atomW_kind (w := ba (M.take (stopN innI M))) a1
    rw [may_stop] at hat
    have hdr : L.drop (stopN innI L + 1 + stopN innI M) = M.drop (stopN innI M) := by rw [hM, List.drop_drop]
    simp only [hdr]
    have hw1 : wordT 1 (ba (M.take (stopN innI M))) k = atomW k (ba (M.take (stopN innI M))) := by unfold wordT; rw [if_pos rfl]
    rw [hw1]
    by_cases hg : lttI (M.headD 0).toNat = true ∧ stopN innI M ≤ 24 ∧ fineL (M.drop (stopN innI M)) = true
    · have h3 := hat.2 ⟨hg.1, hg.2.1⟩
      rw [if_pos hg]
      simp [h3, hg.2.2]
    · rw [if_neg hg]
      rw [if_neg]
      simp only [Bool.and_eq_true, decide_eq_true_eq]
      rintro ⟨g1, g2⟩
      have := hat.1 g1
      exact hg ⟨this.1, this.2, g2⟩
  · rw [if_neg hc, if_pos rfl, hpl]
    have hp : pnameL L = if keyW (ba (L.take (stopN innI L))) ≠ 0 then (keyW (ba (L.take (stopN innI L))), ba [], 0, stopN innI L) else (1, ba (L.take (stopN innI L)), 3, stopN innI L) := by unfold pnameL; rw [if_neg hc]
    rw [hp, name_some]
    by_cases hk : keyW (ba (L.take (stopN innI L))) = 0
    · rw [if_neg (show ¬ keyW (ba (L.take (stopN innI L))) ≠ 0 from fun h => h hk)]
      have hw : wordT 1 (ba (L.take (stopN innI L))) 3 ≠ ⟨#[]⟩ ↔ mayN (ba (L.take (stopN innI L))) = true := by
        unfold wordT atomW
        rw [if_pos rfl, if_neg (by decide)]
        by_cases hm : mayN (ba (L.take (stopN innI L))) = true
        · rw [if_pos hm, if_neg (by decide), if_pos ⟨rfl, hk⟩]
          refine ⟨fun _ => hm, fun _ e => ?_⟩
          rw [e] at hwl
          have h3 : (⟨#[]⟩ : ByteArray).size = 0 := rfl
          omega
        · rw [if_neg hm]; exact ⟨fun h => absurd rfl h, fun h => absurd h hm⟩
      rw [may_stop] at hw
      unfold goodT
      by_cases hg : lttI (L.headD 0).toNat = true ∧ stopN innI L ≤ 24 ∧ fineL (L.drop (stopN innI L)) = true
      · have h3 := hw.2 ⟨hg.1, hg.2.1⟩
        rw [if_pos hg]
        simp [h3, hg.2.2, hk]
      · rw [if_neg hg, if_neg]
        simp only [Bool.and_eq_true, decide_eq_true_eq]
        rintro ⟨g1, g2⟩
        have := hw.1 g1
        exact hg ⟨this.1, this.2, g2⟩
    · rw [if_pos (show keyW (ba (L.take (stopN innI L))) ≠ 0 from hk)]
      have hm24 : stopN innI L ≤ 24 := by
        unfold keyW at hk
        rw [← hwl]
        by_cases e1 : ba (L.take (stopN innI L)) = ⟨#[97, 110, 100]⟩
        · rw [e1]; decide
        · rw [if_neg e1] at hk
          by_cases e2 : ba (L.take (stopN innI L)) = ⟨#[102, 111, 114]⟩
          · rw [e2]; decide
          · rw [if_neg e2] at hk
            by_cases e3 : ba (L.take (stopN innI L)) = ⟨#[97, 115]⟩
            · rw [e3]; decide
            · rw [if_neg e3] at hk; exact absurd rfl hk
      have hw : wordT (keyW (ba (L.take (stopN innI L)))) (ba []) 0 ≠ ⟨#[]⟩ := by
        unfold keyW at hk ⊢
        split
        · decide
        · split
          · decide
          · split
            · decide
            · next e1 e2 e3 => rw [if_neg e1, if_neg e2, if_neg e3] at hk; exact absurd rfl hk
      unfold goodT
      by_cases hg : fineL (L.drop (stopN innI L)) = true
      · rw [if_pos ⟨hhd, hm24, hg⟩]
        simp [hw, hg, hk]
      · rw [if_neg (fun h => hg h.2.2), if_neg]
        simp only [Bool.and_eq_true, decide_eq_true_eq]
        exact fun h => hg h.2
end Go.Proofs.Ytmbijfcjfhdnjaa

/- The program's sign. -/
namespace Go.Proofs.Ytmbijfcjfhdnjaa
set_option linter.unusedSimpArgs false
set_option linter.unusedVariables false
open Go.RowKit Go.Lib

/-- the program's sign: token and place behind; nothing: zero -/
def psV (l : List UInt8) (a : Nat) : AV := match signL l with
  | some (k, w, o, n) => .tup [.agg [.int .i64 k, .str w, .int .i64 o, .int .i64 0], .int .i64 (a + n : Nat)]
  | none => .tup [.agg [.int .i64 0, .str ⟨#[]⟩, .int .i64 0, .int .i64 0], .int .i64 0]
theorem free_psV (l : List UInt8) (a : Nat) : free (psV l a) = true := by unfold psV; split <;> rfl
theorem sig_124 {b : UInt8} {r : List UInt8} (h : b.toNat = 124) : signL (b :: r) = some (4, ba [], 0, 1) := by
  have hl : lttI b.toNat = false := by rw [h]; rfl
  rw [sign_nl hl]; simp only [plainL]
  rw [if_neg (by simp [hl]), if_neg (by omega), if_pos h]
theorem sig_40 {b : UInt8} {r : List UInt8} (h : b.toNat = 40) : signL (b :: r) = some (6, ba [], 0, 1) := by
  have hl : lttI b.toNat = false := by rw [h]; rfl
  rw [sign_nl hl]; simp only [plainL]
  rw [if_neg (by simp [hl]), if_neg (by omega), if_neg (by omega), if_pos h]
theorem sig_41 {b : UInt8} {r : List UInt8} (h : b.toNat = 41) : signL (b :: r) = some (7, ba [], 0, 1) := by
  have hl : lttI b.toNat = false := by rw [h]; rfl
  rw [sign_nl hl]; simp only [plainL]
  rw [if_neg (by simp [hl]), if_neg (by omega), if_neg (by omega), if_neg (by omega), if_pos h]
theorem sig_sign {b : UInt8} {r : List UInt8} (h : sigB b.toNat = true) : signL (b :: r) = some (9, ba [b], 0, 1) := by
  have h2 : b.toNat = 61 ∨ b.toNat = 44 ∨ b.toNat = 59 ∨ b.toNat = 60 ∨ b.toNat = 62 ∨ b.toNat = 33 ∨ b.toNat = 63 ∨ b.toNat = 42 := by
    simpa [sigB, or_assoc] using h
  have hl : lttI b.toNat = false := by simp [lttI]; omega
  have hd : digI b.toNat = false := by simp [digI]; omega
  rw [sign_nl hl]; simp only [plainL]
  rw [if_neg (by simp [hl]), if_neg (by omega), if_neg (by omega), if_neg (by omega), if_neg (by omega), if_neg (by simp [hd]), if_pos h]
theorem good_d (r : List UInt8) {b : UInt8} : goodT (1, ⟨#[68]⟩, 0, 1) (b :: r) = fineL r := by
  have : wordT 1 ⟨#[68]⟩ 0 ≠ ⟨#[]⟩ := by decide
  unfold goodT
  simp [this]
theorem sig_d {b : UInt8} {r : List UInt8} (h : b.toNat = 68) : signL (b :: r) = if goodT (1, ⟨#[68]⟩, 0, 1) (b :: r) = true then some (1, ⟨#[68]⟩, 0, 1) else none := by
  have hl : lttI b.toNat = false := by rw [h]; rfl
  rw [sign_nl hl, good_d]; simp only [plainL]
  rw [if_neg (by simp [hl]), if_pos h]; rfl
theorem sig_dig {b : UInt8} {r : List UInt8} (h : digI b.toNat = true) : signL (b :: r) = if goodT (8, ba ((b :: r).take (stopN digI (b :: r))), 0, stopN digI (b :: r)) (b :: r) = true then some (8, ba ((b :: r).take (stopN digI (b :: r))), 0, stopN digI (b :: r)) else none := by
  have h2 : 48 ≤ b.toNat ∧ b.toNat ≤ 57 := by simp [digI] at h; omega
  have hl : lttI b.toNat = false := by simp [lttI]; omega
  obtain ⟨L, hL⟩ : ∃ L, L = b :: r := ⟨_, rfl⟩
  have hpl : plainL L = if numW (ba (L.take (stopN digI L))) = true ∧ fineL (L.drop (stopN digI L)) = true then some (8, ba (L.take (stopN digI L)), 0, stopN digI L) else none := by
    rw [hL]; simp only [plainL]
    rw [if_neg (by simp [hl]), if_neg (by omega), if_neg (by omega), if_neg (by omega), if_neg (by omega), if_pos h]
  rw [sign_nl hl, ← hL, hpl]
  have hg : goodT (8, ba (L.take (stopN digI L)), 0, stopN digI L) L = true ↔ numW (ba (L.take (stopN digI L))) = true ∧ fineL (L.drop (stopN digI L)) = true := by
    have hw : wordT 8 (ba (L.take (stopN digI L))) 0 = if numW (ba (L.take (stopN digI L))) = true then ba (L.take (stopN digI L)) else ⟨#[]⟩ := by
      unfold wordT; rw [if_neg (by decide), if_neg (by decide), if_pos rfl]
    unfold goodT
    simp only [Bool.and_eq_true, decide_eq_true_eq]
    rw [hw]
    by_cases hn : numW (ba (L.take (stopN digI L))) = true
    · rw [if_pos hn]
      have : ba (L.take (stopN digI L)) ≠ ⟨#[]⟩ := by
        intro e; rw [e] at hn; revert hn; decide
      simp [hn, this]
    · rw [if_neg hn]; simp [hn]
  simp only [hg]
theorem sig_else {b : UInt8} {r : List UInt8} (h1 : b.toNat ≠ 124) (h2 : b.toNat ≠ 40) (h3 : b.toNat ≠ 41) (h4 : sigB b.toNat = false) (h5 : b.toNat ≠ 68) (h6 : digI b.toNat = false) (h7 : lttI b.toNat = false) : signL (b :: r) = if goodT (0, ⟨#[]⟩, 0, 1) (b :: r) = true then some (0, ⟨#[]⟩, 0, 1) else none := by
  have hg : goodT (0, ⟨#[]⟩, 0, 1) (b :: r) = false := by
    have : ¬ wordT 0 ⟨#[]⟩ 0 ≠ ⟨#[]⟩ := by decide
    unfold goodT
    rw [decide_eq_false this]; rfl
  rw [hg, sign_nl h7]; simp only [plainL]
  rw [if_neg (by simp [h7]), if_neg h5, if_neg h1, if_neg h2, if_neg h3, if_neg (by simp [h6]), if_neg (by simp [h4])]; rfl
theorem pname_le (l : List UInt8) : (pnameL l).2.1.size ≤ l.length ∧ (pnameL l).2.2.2 ≤ l.length := by
  have h1 := stopN_le innI l
  have h2 := stopN_le innI (l.drop (stopN innI l + 1))
  rw [List.length_drop] at h2
  unfold pnameL
  split
  · next h =>
    have h3 : stopN innI l < l.length := by
      rcases Nat.lt_or_ge (stopN innI l) l.length with h3 | h3
      · exact h3
      · rw [List.drop_of_length_le h3] at h; exact absurd h.2 (by simp [colonL])
    simp only [ba_len2, List.length_take, List.length_drop]
    omega
  · split <;> simp [ba_len2] <;> omega
set_option maxRecDepth 100000 in
set_option maxHeartbeats 4000000 in
theorem p_psign (s : ByteArray) (a : Nat) (v : Int) (hs : s.size ≤ 1000000) (ha : a < s.size) (hv : v = (Utf8.decode s a).1) :
    PCalls Try.prog 34 [.str s, .int .i64 a, .int .i32 v] (psV (s.data.toList.drop a) a) := by
  have hl := len_size s
  have hal : a < s.data.toList.length := by omega
  have hd : s.data.toList.drop a = s.data.toList[a] :: s.data.toList.drop (a + 1) := List.drop_eq_getElem_cons hal
  obtain ⟨b, hb⟩ : ∃ b, b = s.data.toList[a] := ⟨_, rfl⟩
  obtain ⟨r, hr⟩ : ∃ r, r = s.data.toList.drop (a + 1) := ⟨_, rfl⟩
  have hdv := dec_val s a
  have hlo : b.toNat < 128 → v = b.toNat := fun h => by rw [hv, dec_lt hal (by rw [← hb]; exact h), hb]
  have hhi : ¬ b.toNat < 128 → 128 ≤ v := fun h => by have := (dec_ge hal (by rw [← hb]; exact h)).1; rw [hv]; omega
  have qc := p_containsRune v (by omega) (by omega) (fun h => by rw [hv]; exact hdv.2 (by omega))
  have qd := p_digit v
  have ql := p_letter v
  have qs := p_stop (f := 55) p_digit hi_dig s a hs (by omega)
  have qn := p_pname s a hs ha
  rw [← hb, ← hr] at hd
  obtain ⟨L, hL⟩ : ∃ L, L = b :: r := ⟨_, rfl⟩
  rw [← hL] at hd
  have hLl : L.length = s.size - a := by rw [← hd, List.length_drop]; omega
  rw [hd] at qs qn ⊢
  have hch : ∀ q : Int → Bool, (∀ r, 128 ≤ r → q r = q 128) → q v = q b.toNat := fun q hi => by
    by_cases h : b.toNat < 128
    · rw [hlo h]
    · rw [hi v (hhi h), hi b.toNat (by omega)]
  rw [hch _ hi_dig] at qd
  rw [hch _ hi_ltt] at ql
  refine pcalls_of rfl (free_psV _ _) (acalls_of mixed J_token_sign_ok (Nat.le_of_ble_eq_true rfl) ?_); simp only [J_token_sign, wk,if_true,if_false,forall_const,implies_true,ne_eq,eq_self,Nat.reduceEqDiff,Nat.reduceAdd,Nat.reduceMul,Nat.reduceSub,Nat.reduceLeDiff,Nat.reduceLT,Int.reduceEq,Int.reduceLT,Int.reduceLE,Int.reduceAdd,Int.reduceSub,Int.reduceMul,Int.reduceNeg,Int.reduceNe,reduceCtorEq,Int.reduceToNat,↓reduceIte]
  refine ⟨inR_of (by omega) (by omega), ?_⟩
  have lo : ∀ n : Nat, n < 128 → v = n → b.toNat = n := fun n hn e => by
    by_cases h : b.toNat < 128
    · have := hlo h; omega
    · have := hhi h; omega
  refine ⟨fun e => ?_, fun e1 => ⟨fun e => ?_, fun e2 => ⟨fun e => ?_, fun e3 => ?_⟩⟩⟩
  · unfold psV; rw [hL, sig_124 (lo 124 (by omega) e)]; exact ⟨Nat.le_refl _, rfl⟩
  · unfold psV; rw [hL, sig_40 (lo 40 (by omega) e)]; exact ⟨Nat.le_refl _, rfl⟩
  · unfold psV; rw [hL, sig_41 (lo 41 (by omega) e)]; exact ⟨Nat.le_refl _, rfl⟩
  refine PCalls.use (qc) ?_; simp only [wk,if_true,if_false,forall_const,implies_true,ne_eq,eq_self,Nat.reduceEqDiff,Nat.reduceAdd,Nat.reduceMul,Nat.reduceSub,Nat.reduceLeDiff,Nat.reduceLT,Int.reduceEq,Int.reduceLT,Int.reduceLE,Int.reduceAdd,Int.reduceSub,Int.reduceMul,Int.reduceNeg,Int.reduceNe,reduceCtorEq,Int.reduceToNat,↓reduceIte]
  have hfree : ∀ n : Nat, a + n ≤ s.size → PCalls Try.prog 32 [.str s, .int .i64 (a + n : Nat), .fn 58 []] (.int .i64 ((a + n : Nat) + stopN freI (L.drop n))) := fun n hn => by
    have := p_stop (f := 58) p_free hi_fre s (a + n) hs hn
    rw [← List.drop_drop, hd] at this
    exact this
  have hfin : ∀ n : Nat, a + n ≤ s.size → ((stopN freI (L.drop n) = 0 ∧ a + n < s.size) ↔ fineL (L.drop n) = false) := fun n hn => by
    rcases Nat.lt_or_ge (a + n) s.size with h | h
    · have hnl : n < L.length := by omega
      rw [List.drop_eq_getElem_cons hnl]
      show _ ↔ freI (L[n]).toNat = false
      by_cases hf : freI (L[n]).toNat = true
      · rw [stopN_cons hf, hf]; simp
      · have hf2 : freI (L[n]).toNat = false := by simpa using hf
        rw [stopN_zero hf2]; simp [hf2, h]
    · rw [List.drop_of_length_le (by omega)]
      constructor
      · rintro ⟨-, h2⟩; omega
      · intro h2; cases h2
  have one : ∀ n : Nat, ((a : Int) + (n : Nat)) = ((a + n : Nat) : Int) := fun n => by omega
  have one1 : ((a : Int) + 1) = ((a + 1 : Nat) : Int) := by omega
  -- the four ways on
  have bad : ∀ k w o n, (signL L = if goodT (k, w, o, n) L = true then some (k, w, o, n) else none) → goodT (k, w, o, n) L = false → psV L a = .tup [.agg [.int .i64 0, .str ⟨#[]⟩, .int .i64 0, .int .i64 0], .int .i64 0] := fun k w o n h1 h2 => by
    unfold psV; rw [h1, h2]; rfl
  have good : ∀ k w o n, (signL L = if goodT (k, w, o, n) L = true then some (k, w, o, n) else none) → goodT (k, w, o, n) L = true → psV L a = .tup [.agg [.int .i64 k, .str w, .int .i64 o, .int .i64 0], .int .i64 (a + n : Nat)] := fun k w o n h1 h2 => by
    unfold psV; rw [h1, h2]; rfl
  refine ⟨fun e => ?_, fun e4 => ⟨fun e => ?_, fun e5 => ?_⟩⟩
  · have hb2 : sigB b.toNat = true ∧ v = b.toNat := by
      by_cases h : b.toNat < 128
      · rw [hlo h] at e; exact ⟨by simpa using e, hlo h⟩
      · have := hhi h
        simp [sigB] at e; omega
    have henc : Utf8.encode v = ba [b] := by
      have : b.toNat < 128 := by have := hb2.1; simp [sigB] at this; omega
      rw [hb2.2]
      unfold Utf8.encode Utf8.valid
      have e1 : (decide ((0 : Int) ≤ (b.toNat : Int)) && decide ((b.toNat : Int) < 55296)) = true := by simp; omega
      simp only [e1, Bool.true_or, if_true, Int.toNat_natCast, this]
      simp [ba]
    unfold psV; rw [hL, sig_sign hb2.1, henc]; exact ⟨Nat.le_refl _, rfl⟩
  · have hsig := sig_d (r := r) (lo 68 (by omega) e)
    rw [← hL] at hsig
    have qw := p_word 1 ⟨#[68]⟩ 0 0 (by decide)
    rw [one1]
    have qf := hfree (1) (by omega)
    have hf := hfin (1) (by omega)
    have hgd := good _ _ _ _ hsig
    have hbd := bad _ _ _ _ hsig
    simp only [goodT] at hgd hbd
    simp only [J_token_sign_j1, wk,if_true,if_false,forall_const,implies_true,ne_eq,eq_self,Nat.reduceEqDiff,Nat.reduceAdd,Nat.reduceMul,Nat.reduceSub,Nat.reduceLeDiff,Nat.reduceLT,Int.reduceEq,Int.reduceLT,Int.reduceLE,Int.reduceAdd,Int.reduceSub,Int.reduceMul,Int.reduceNeg,Int.reduceNe,reduceCtorEq,Int.reduceToNat,↓reduceIte]
    refine PCalls.use qw ?_; simp only [wk,if_true,if_false,forall_const,implies_true,ne_eq,eq_self,Nat.reduceEqDiff,Nat.reduceAdd,Nat.reduceMul,Nat.reduceSub,Nat.reduceLeDiff,Nat.reduceLT,Int.reduceEq,Int.reduceLT,Int.reduceLE,Int.reduceAdd,Int.reduceSub,Int.reduceMul,Int.reduceNeg,Int.reduceNe,reduceCtorEq,Int.reduceToNat,↓reduceIte]
    refine ⟨fun hne => ?_, fun he => ?_⟩
    · have hne2 := decide_eq_true hne
      simp only [hne2, Bool.true_and] at hgd hbd
      refine PCalls.use qf ?_; simp only [wk,if_true,if_false,forall_const,implies_true,ne_eq,eq_self,Nat.reduceEqDiff,Nat.reduceAdd,Nat.reduceMul,Nat.reduceSub,Nat.reduceLeDiff,Nat.reduceLT,Int.reduceEq,Int.reduceLT,Int.reduceLE,Int.reduceAdd,Int.reduceSub,Int.reduceMul,Int.reduceNeg,Int.reduceNe,reduceCtorEq,Int.reduceToNat,↓reduceIte]
      refine ⟨fun h1 => ⟨fun h2 => ?_, fun h2 => ?_⟩, fun h1 => ?_⟩
      · rw [hbd (hf.1 ⟨by omega, by omega⟩)]; exact ⟨Nat.le_refl _, rfl⟩
      · rw [hgd (by cases hx : fineL _ with | true => rfl | false => (exfalso; have := hf.2 hx; omega))]; exact ⟨Nat.le_refl _, rfl⟩
      · rw [hgd (by cases hx : fineL _ with | true => rfl | false => (exfalso; have := hf.2 hx; omega))]; exact ⟨Nat.le_refl _, rfl⟩
    · rw [hbd (by rw [he]; simp)]; exact ⟨Nat.le_refl _, rfl⟩
  · refine PCalls.use (qd) ?_; simp only [wk,if_true,if_false,forall_const,implies_true,ne_eq,eq_self,Nat.reduceEqDiff,Nat.reduceAdd,Nat.reduceMul,Nat.reduceSub,Nat.reduceLeDiff,Nat.reduceLT,Int.reduceEq,Int.reduceLT,Int.reduceLE,Int.reduceAdd,Int.reduceSub,Int.reduceMul,Int.reduceNeg,Int.reduceNe,reduceCtorEq,Int.reduceToNat,↓reduceIte]
    refine ⟨fun e => ?_, fun e6 => ?_⟩
    · have hsig := sig_dig (r := r) e
      rw [← hL] at hsig
      have hle := stopN_le digI L
      obtain ⟨n, hn⟩ : ∃ n, n = stopN digI L := ⟨_, rfl⟩
      rw [← hn] at qs hsig hle
      rw [one n] at qs
      refine PCalls.use (qs) ?_; simp only [wk,if_true,if_false,forall_const,implies_true,ne_eq,eq_self,Nat.reduceEqDiff,Nat.reduceAdd,Nat.reduceMul,Nat.reduceSub,Nat.reduceLeDiff,Nat.reduceLT,Int.reduceEq,Int.reduceLT,Int.reduceLE,Int.reduceAdd,Int.reduceSub,Int.reduceMul,Int.reduceNeg,Int.reduceNe,reduceCtorEq,Int.reduceToNat,↓reduceIte]
      have hw : s.extract a (a + n) = ba (L.take n) := by rw [ext_ba, hd]
      refine ⟨⟨by omega, by omega, by omega⟩, ?_⟩
      rw [Int.toNat_natCast, Int.toNat_natCast, hw]
      have qw := p_word 8 (ba (L.take n)) 0 0 (by rw [ba_len2, List.length_take]; omega)
      have qf := hfree (n) (by omega)
      have hf := hfin (n) (by omega)
      have hgd := good _ _ _ _ hsig
      have hbd := bad _ _ _ _ hsig
      simp only [goodT] at hgd hbd
      simp only [J_token_sign_j1, wk,if_true,if_false,forall_const,implies_true,ne_eq,eq_self,Nat.reduceEqDiff,Nat.reduceAdd,Nat.reduceMul,Nat.reduceSub,Nat.reduceLeDiff,Nat.reduceLT,Int.reduceEq,Int.reduceLT,Int.reduceLE,Int.reduceAdd,Int.reduceSub,Int.reduceMul,Int.reduceNeg,Int.reduceNe,reduceCtorEq,Int.reduceToNat,↓reduceIte]
      refine PCalls.use qw ?_; simp only [wk,if_true,if_false,forall_const,implies_true,ne_eq,eq_self,Nat.reduceEqDiff,Nat.reduceAdd,Nat.reduceMul,Nat.reduceSub,Nat.reduceLeDiff,Nat.reduceLT,Int.reduceEq,Int.reduceLT,Int.reduceLE,Int.reduceAdd,Int.reduceSub,Int.reduceMul,Int.reduceNeg,Int.reduceNe,reduceCtorEq,Int.reduceToNat,↓reduceIte]
      refine ⟨fun hne => ?_, fun he => ?_⟩
      · have hne2 := decide_eq_true hne
        simp only [hne2, Bool.true_and] at hgd hbd
        refine PCalls.use qf ?_; simp only [wk,if_true,if_false,forall_const,implies_true,ne_eq,eq_self,Nat.reduceEqDiff,Nat.reduceAdd,Nat.reduceMul,Nat.reduceSub,Nat.reduceLeDiff,Nat.reduceLT,Int.reduceEq,Int.reduceLT,Int.reduceLE,Int.reduceAdd,Int.reduceSub,Int.reduceMul,Int.reduceNeg,Int.reduceNe,reduceCtorEq,Int.reduceToNat,↓reduceIte]
        refine ⟨fun h1 => ⟨fun h2 => ?_, fun h2 => ?_⟩, fun h1 => ?_⟩
        · rw [hbd (hf.1 ⟨by omega, by omega⟩)]; exact ⟨Nat.le_refl _, rfl⟩
        · rw [hgd (by cases hx : fineL _ with | true => rfl | false => (exfalso; have := hf.2 hx; omega))]; exact ⟨Nat.le_refl _, rfl⟩
        · rw [hgd (by cases hx : fineL _ with | true => rfl | false => (exfalso; have := hf.2 hx; omega))]; exact ⟨Nat.le_refl _, rfl⟩
      · rw [hbd (by rw [he]; simp)]; exact ⟨Nat.le_refl _, rfl⟩
    · refine PCalls.use (ql) ?_; simp only [wk,if_true,if_false,forall_const,implies_true,ne_eq,eq_self,Nat.reduceEqDiff,Nat.reduceAdd,Nat.reduceMul,Nat.reduceSub,Nat.reduceLeDiff,Nat.reduceLT,Int.reduceEq,Int.reduceLT,Int.reduceLE,Int.reduceAdd,Int.reduceSub,Int.reduceMul,Int.reduceNeg,Int.reduceNe,reduceCtorEq,Int.reduceToNat,↓reduceIte]
      refine ⟨fun e => ?_, fun e7 => ?_⟩
      · have hsig := sign_letter (r := r) e
        rw [← hL] at hsig
        have hple := pname_le L
        obtain ⟨k, w, o, n, hpn⟩ : ∃ k w o n, pnameL L = (k, w, o, n) := ⟨_, _, _, _, rfl⟩
        rw [hpn] at hsig qn hple
        simp only at hple
        have qw := p_word k w o 0 (by omega)
        simp only [sigV] at qn
        refine PCalls.use (qn) ?_; simp only [wk,if_true,if_false,forall_const,implies_true,ne_eq,eq_self,Nat.reduceEqDiff,Nat.reduceAdd,Nat.reduceMul,Nat.reduceSub,Nat.reduceLeDiff,Nat.reduceLT,Int.reduceEq,Int.reduceLT,Int.reduceLE,Int.reduceAdd,Int.reduceSub,Int.reduceMul,Int.reduceNeg,Int.reduceNe,reduceCtorEq,Int.reduceToNat,↓reduceIte]
        have qf := hfree (n) (by omega)
        have hf := hfin (n) (by omega)
        have hgd := good _ _ _ _ hsig
        have hbd := bad _ _ _ _ hsig
        simp only [goodT] at hgd hbd
        simp only [J_token_sign_j1, wk,if_true,if_false,forall_const,implies_true,ne_eq,eq_self,Nat.reduceEqDiff,Nat.reduceAdd,Nat.reduceMul,Nat.reduceSub,Nat.reduceLeDiff,Nat.reduceLT,Int.reduceEq,Int.reduceLT,Int.reduceLE,Int.reduceAdd,Int.reduceSub,Int.reduceMul,Int.reduceNeg,Int.reduceNe,reduceCtorEq,Int.reduceToNat,↓reduceIte]
        refine PCalls.use qw ?_; simp only [wk,if_true,if_false,forall_const,implies_true,ne_eq,eq_self,Nat.reduceEqDiff,Nat.reduceAdd,Nat.reduceMul,Nat.reduceSub,Nat.reduceLeDiff,Nat.reduceLT,Int.reduceEq,Int.reduceLT,Int.reduceLE,Int.reduceAdd,Int.reduceSub,Int.reduceMul,Int.reduceNeg,Int.reduceNe,reduceCtorEq,Int.reduceToNat,↓reduceIte]
        refine ⟨fun hne => ?_, fun he => ?_⟩
        · have hne2 := decide_eq_true hne
          simp only [hne2, Bool.true_and] at hgd hbd
          refine PCalls.use qf ?_; simp only [wk,if_true,if_false,forall_const,implies_true,ne_eq,eq_self,Nat.reduceEqDiff,Nat.reduceAdd,Nat.reduceMul,Nat.reduceSub,Nat.reduceLeDiff,Nat.reduceLT,Int.reduceEq,Int.reduceLT,Int.reduceLE,Int.reduceAdd,Int.reduceSub,Int.reduceMul,Int.reduceNeg,Int.reduceNe,reduceCtorEq,Int.reduceToNat,↓reduceIte]
          refine ⟨fun h1 => ⟨fun h2 => ?_, fun h2 => ?_⟩, fun h1 => ?_⟩
          · rw [hbd (hf.1 ⟨by omega, by omega⟩)]; exact ⟨Nat.le_refl _, rfl⟩
          · rw [hgd (by cases hx : fineL _ with | true => rfl | false => (exfalso; have := hf.2 hx; omega))]; exact ⟨Nat.le_refl _, rfl⟩
          · rw [hgd (by cases hx : fineL _ with | true => rfl | false => (exfalso; have := hf.2 hx; omega))]; exact ⟨Nat.le_refl _, rfl⟩
        · rw [hbd (by rw [he]; simp)]; exact ⟨Nat.le_refl _, rfl⟩
      · have hsig := sig_else (b := b) (r := r) (by intro h; apply e1; have := hlo (by omega); omega) (by intro h; apply e2; have := hlo (by omega); omega) (by intro h; apply e3; have := hlo (by omega); omega) (by
          by_cases h : b.toNat < 128
          · rw [hlo h] at e4; simpa using e4
          · simp [sigB]; omega) (by intro h; apply e5; have := hlo (by omega); omega) (by simpa using e6) (by simpa using e7)
        rw [← hL] at hsig
        have qw := p_word 0 ⟨#[]⟩ 0 0 (by decide)
        rw [one1]
        have qf := hfree (1) (by omega)
        have hf := hfin (1) (by omega)
        have hgd := good _ _ _ _ hsig
        have hbd := bad _ _ _ _ hsig
        simp only [goodT] at hgd hbd
        simp only [J_token_sign_j1, wk,if_true,if_false,forall_const,implies_true,ne_eq,eq_self,Nat.reduceEqDiff,Nat.reduceAdd,Nat.reduceMul,Nat.reduceSub,Nat.reduceLeDiff,Nat.reduceLT,Int.reduceEq,Int.reduceLT,Int.reduceLE,Int.reduceAdd,Int.reduceSub,Int.reduceMul,Int.reduceNeg,Int.reduceNe,reduceCtorEq,Int.reduceToNat,↓reduceIte]
        refine PCalls.use qw ?_; simp only [wk,if_true,if_false,forall_const,implies_true,ne_eq,eq_self,Nat.reduceEqDiff,Nat.reduceAdd,Nat.reduceMul,Nat.reduceSub,Nat.reduceLeDiff,Nat.reduceLT,Int.reduceEq,Int.reduceLT,Int.reduceLE,Int.reduceAdd,Int.reduceSub,Int.reduceMul,Int.reduceNeg,Int.reduceNe,reduceCtorEq,Int.reduceToNat,↓reduceIte]
        refine ⟨fun hne => ?_, fun he => ?_⟩
        · have hne2 := decide_eq_true hne
          simp only [hne2, Bool.true_and] at hgd hbd
          refine PCalls.use qf ?_; simp only [wk,if_true,if_false,forall_const,implies_true,ne_eq,eq_self,Nat.reduceEqDiff,Nat.reduceAdd,Nat.reduceMul,Nat.reduceSub,Nat.reduceLeDiff,Nat.reduceLT,Int.reduceEq,Int.reduceLT,Int.reduceLE,Int.reduceAdd,Int.reduceSub,Int.reduceMul,Int.reduceNeg,Int.reduceNe,reduceCtorEq,Int.reduceToNat,↓reduceIte]
          refine ⟨fun h1 => ⟨fun h2 => ?_, fun h2 => ?_⟩, fun h1 => ?_⟩
          · rw [hbd (hf.1 ⟨by omega, by omega⟩)]; exact ⟨Nat.le_refl _, rfl⟩
          · rw [hgd (by cases hx : fineL _ with | true => rfl | false => (exfalso; have := hf.2 hx; omega))]; exact ⟨Nat.le_refl _, rfl⟩
          · rw [hgd (by cases hx : fineL _ with | true => rfl | false => (exfalso; have := hf.2 hx; omega))]; exact ⟨Nat.le_refl _, rfl⟩
        · rw [hbd (by rw [he]; simp)]; exact ⟨Nat.le_refl _, rfl⟩
end Go.Proofs.Ytmbijfcjfhdnjaa

/- The program's All. -/
namespace Go.Proofs.Ytmbijfcjfhdnjaa
set_option linter.unusedSimpArgs false
set_option linter.unusedVariables false
open Go.RowKit Go.Lib

/-- no rune stretches over a place -/
def noJ (s : ByteArray) (e : Nat) : Prop := ∀ p, p < e → p + (Utf8.decode s p).2 ≤ e
theorem noJ_atB {s : ByteArray} {e : Nat} (he : e ≤ s.size) (h : atB s e) : noJ s e := fun p hp => step_le h hp he
theorem noJ_size (s : ByteArray) : noJ s s.size := fun p hp => (step_one hp).2
theorem noJ_low {s : ByteArray} {e : Nat} (he : e < s.data.toList.length) (h : (s.data.toList[e]).toNat < 128) : noJ s e := fun p hp => by
  have hpl : p < s.data.toList.length := by omega
  by_cases h1 : (s.data.toList[p]).toNat < 128
  · rw [dec_lt hpl h1]; show p + 1 ≤ e; omega
  · obtain ⟨d1, d2, d3, d4⟩ := dec_ge hpl h1
    rcases Nat.lt_or_ge e (p + (Utf8.decode s p).2) with h2 | h2
    · have := d4 e he hp h2; omega
    · exact h2
theorem noJ_note {s : ByteArray} {i : Nat} (hi : i ≤ s.size) : i + stopN notI (s.data.toList.drop i) ≤ s.size ∧ noJ s (i + stopN notI (s.data.toList.drop i)) := by
  have hl := len_size s
  have hle := stopN_le notI (s.data.toList.drop i)
  have hll : (s.data.toList.drop i).length = s.data.toList.length - i := List.length_drop
  refine ⟨by omega, ?_⟩
  rcases Nat.lt_or_ge (stopN notI (s.data.toList.drop i)) (s.data.toList.drop i).length with h | h
  · have h2 := stopN_end h
    rw [List.getElem_drop] at h2
    refine noJ_low (by omega) ?_
    simp only [notI, decide_eq_false_iff_not, Decidable.not_not] at h2
    omega
  · have : i + stopN notI (s.data.toList.drop i) = s.size := by omega
    rw [this]; exact noJ_size s
theorem signL_kind {l : List UInt8} {k : Int} {w : ByteArray} {o : Int} {n : Nat} (h : signL l = some (k, w, o, n)) : k ≠ 0 := by
  unfold signL at h
  split at h
  · unfold plainL at h
    repeat' split at h
    all_goals first
      | (cases h; done)
      | (simp only [Option.some.injEq, Prod.mk.injEq] at h; obtain ⟨rfl, _⟩ := h; first | decide | assumption)
  · unfold atomL at h
    split at h
    · cases h
    · simp only [Option.some.injEq, Prod.mk.injEq] at h; obtain ⟨rfl, _⟩ := h; decide
set_option maxRecDepth 100000 in
set_option maxHeartbeats 4000000 in
theorem p_pall (s : ByteArray) (hs : s.size ≤ 1000000) : PCalls Try.prog 13 [.str s] (resV (allT s)) := by
  have hl := len_size s
  refine pcalls_of rfl (free_resV _) (ACalls.deep (acalls_of mixed J_token_All_ok (Nat.le_of_ble_eq_true rfl) ?_)); simp only [J_token_All, wk,if_true,if_false,forall_const,implies_true,ne_eq,eq_self,Nat.reduceEqDiff,Nat.reduceAdd,Nat.reduceMul,Nat.reduceSub,Nat.reduceLeDiff,Nat.reduceLT,Int.reduceEq,Int.reduceLT,Int.reduceLE,Int.reduceAdd,Int.reduceSub,Int.reduceMul,Int.reduceNeg,Int.reduceNe,reduceCtorEq,Int.reduceToNat,↓reduceIte]
  unfold allT
  refine ⟨fun hbig => ?_, fun hbig => ?_⟩
  · rw [if_pos (by omega)]
    simp only [rdpw, resV, vToks, toksC]
    rfl
  rw [if_neg (by omega)]
  refine W_loop (fun m fr h' => ∃ (p e : Nat) (acc : List Tok), p ≤ s.size ∧ e ≤ s.size ∧ m = s.size - p ∧ acc.length ≤ 1000 ∧ noJ s e ∧ scan s.data.toList 0 [] = scan (s.data.toList.drop (max p e)) (max p e) acc ∧ fr = [(0, .str s), (5, .lst (.own 28) acc.length (toksC acc)), (6, .int .i64 e), (15, .itr s p)]) s.size ⟨0, 0, [], by omega, by omega, by omega, by simp, fun p hp => by omega, rfl, rfl⟩ ?_
  rintro m fr h' ⟨p, e, acc, hp, he, rfl, hacc, hj, hscan, rfl⟩
  simp only [J_token_All_j2, wk,if_true,if_false,forall_const,implies_true,ne_eq,eq_self,Nat.reduceEqDiff,Nat.reduceAdd,Nat.reduceMul,Nat.reduceSub,Nat.reduceLeDiff,Nat.reduceLT,Int.reduceEq,Int.reduceLT,Int.reduceLE,Int.reduceAdd,Int.reduceSub,Int.reduceMul,Int.reduceNeg,Int.reduceNe,reduceCtorEq,Int.reduceToNat,↓reduceIte]
  refine ⟨fun hlt => ?_, fun hge => ?_⟩
  · have hpl : p < s.size := by omega
    have hal : p < s.data.toList.length := by omega
    have hd : s.data.toList.drop p = s.data.toList[p] :: s.data.toList.drop (p + 1) := List.drop_eq_getElem_cons hal
    obtain ⟨b, hb⟩ : ∃ b, b = s.data.toList[p] := ⟨_, rfl⟩
    rw [← hb] at hd
    have hone := step_one hpl
    have hlo : b.toNat < 128 → Utf8.decode s p = (b.toNat, 1) := fun h => by rw [dec_lt hal (by rw [← hb]; exact h), hb]
    have hhi : ¬ b.toNat < 128 → 128 ≤ (Utf8.decode s p).1 := fun h => (dec_ge hal (by rw [← hb]; exact h)).1
    have q := p_psign s p (Utf8.decode s p).1 hs hpl rfl
    rw [hd] at q
    obtain ⟨v, hv⟩ : ∃ v, v = (Utf8.decode s p).1 := ⟨_, rfl⟩
    obtain ⟨d, hdd⟩ : ∃ d, d = (Utf8.decode s p).2 := ⟨_, rfl⟩
    rw [← hv] at q hhi
    rw [← hdd] at hone
    simp only [← hv, ← hdd]
    have ch : ∀ n : Nat, n < 128 → ((v : Int) = n ↔ b.toNat = n) := fun n hn => by
      by_cases h : b.toNat < 128
      · have := congrArg Prod.fst (hlo h); simp only at this; omega
      · have := hhi h; omega
    have c32 := ch 32 (by omega)
    have c9 := ch 9 (by omega)
    have c10 := ch 10 (by omega)
    have c35 := ch 35 (by omega)
    have d1 : b.toNat < 128 → d = 1 := fun h => by have := congrArg Prod.snd (hlo h); simp only at this; omega
    -- on with the same tokens
    have on : ∀ e' : Nat, e' ≤ s.size → noJ s e' → scan s.data.toList 0 [] = scan (s.data.toList.drop (max (p + d) e')) (max (p + d) e') acc → ∃ m, m < s.size - p ∧ ∃ (p' e'' : Nat) (acc' : List Tok), p' ≤ s.size ∧ e'' ≤ s.size ∧ m = s.size - p' ∧ acc'.length ≤ 1000 ∧ noJ s e'' ∧ scan s.data.toList 0 [] = scan (s.data.toList.drop (max p' e'')) (max p' e'') acc' ∧ [(0, AV.str s), (5, .lst (.own 28) acc.length (toksC acc)), (6, .int .i64 e'), (15, .itr s (p + d))] = [(0, .str s), (5, .lst (.own 28) acc'.length (toksC acc')), (6, .int .i64 e''), (15, .itr s p')] := fun e' h1 h2 h3 =>
      ⟨s.size - (p + d), by omega, p + d, e', acc, by omega, h1, rfl, hacc, h2, h3, rfl⟩
    have far : p < e → scan s.data.toList 0 [] = scan (s.data.toList.drop (max (p + d) e)) (max (p + d) e) acc := fun h => by
      have := hj p h
      rw [← hdd] at this
      rw [hscan, show max (p + d) e = max p e by omega]
    have hsc : ¬ p < e → scan s.data.toList 0 [] = if blankB b = true then scan (s.data.toList.drop (p + 1)) (p + 1) acc
        else if b.toNat = 35 then scan (s.data.toList.drop (p + stopN notI (s.data.toList.drop p))) (p + stopN notI (s.data.toList.drop p)) acc
        else match signL (s.data.toList.drop p) with
          | none => ([], p, 2)
          | some (k, w, o, n) => if acc.length = 1000 then ([], p, 3) else scan (s.data.toList.drop (p + n)) (p + n) (acc ++ [⟨k, w, o, p⟩]) := fun h => by
      rw [hscan, show max p e = p by omega]
      rw [hd, scan_cons, ← hd]
      simp only [List.drop_drop]
      try rfl
    have blank : ¬ p < e → blankB b = true → scan s.data.toList 0 [] = scan (s.data.toList.drop (max (p + d) e)) (max (p + d) e) acc := fun h h2 => by
      have : d = 1 := d1 (by simp [blankB] at h2; omega)
      rw [hsc h, if_pos h2, show max (p + d) e = p + 1 by omega]
    have hblank : ∀ n : Nat, n = 32 ∨ n = 9 ∨ n = 10 → b.toNat = n → blankB b = true := fun n h h2 => by
      rw [← h2] at h
      rcases h with h | h | h <;> simp [blankB, h]
    refine ⟨fun nlt => ⟨fun n32 => ⟨fun n9 => ⟨fun ev => ?_, fun n10 => ⟨fun ev => ?_, fun n35 => ?_⟩⟩, fun ev => ?_⟩, fun ev => ?_⟩, fun hpe => ?_⟩
    · exact on e he hj (blank (by omega) (hblank 10 (by omega) (c10.1 ev)))
    · have h35 := c35.1 ev
      obtain ⟨k1, k2⟩ := noJ_note (s := s) (i := p) hp
      have q2 := p_stop (f := 33) p_not hi_not s p hs hp
      have h1 : 1 ≤ stopN notI (s.data.toList.drop p) := by rw [hd]; exact note_one h35
      obtain ⟨n, hn⟩ : ∃ n, n = stopN notI (s.data.toList.drop p) := ⟨_, rfl⟩
      rw [← hn] at k1 k2 q2 h1
      rw [show ((p : Int) + (n : Nat)) = ((p + n : Nat) : Int) by omega] at q2
      have hd1 := d1 (by omega)
      refine PCalls.use q2 ?_; simp only [wk,if_true,if_false,forall_const,implies_true,ne_eq,eq_self,Nat.reduceEqDiff,Nat.reduceAdd,Nat.reduceMul,Nat.reduceSub,Nat.reduceLeDiff,Nat.reduceLT,Int.reduceEq,Int.reduceLT,Int.reduceLE,Int.reduceAdd,Int.reduceSub,Int.reduceMul,Int.reduceNeg,Int.reduceNe,reduceCtorEq,Int.reduceToNat,↓reduceIte]
      refine on (p + n) k1 k2 ?_
      rw [hsc (by omega), if_neg (by simp [blankB, h35]), if_pos h35, ← hn, show max (p + d) (p + n) = p + n by omega]
    · have hsc2 := hsc (by omega)
      rw [if_neg (by simp [blankB]; omega), if_neg (by omega)] at hsc2
      unfold psV at q
      rw [hd] at hsc2
      cases hsg : signL (b :: s.data.toList.drop (p + 1)) with
      | none =>
        rw [hsg] at q hsc2
        refine PCalls.use (q) ?_; simp only [wk,if_true,if_false,forall_const,implies_true,ne_eq,eq_self,Nat.reduceEqDiff,Nat.reduceAdd,Nat.reduceMul,Nat.reduceSub,Nat.reduceLeDiff,Nat.reduceLT,Int.reduceEq,Int.reduceLT,Int.reduceLE,Int.reduceAdd,Int.reduceSub,Int.reduceMul,Int.reduceNeg,Int.reduceNe,reduceCtorEq,Int.reduceToNat,↓reduceIte]
        simp only [hsc2, resV, vToks, toksC, rdpw]
        rfl
      | some x =>
        obtain ⟨k, w, o, n⟩ := x
        rw [hsg] at q hsc2
        have hk := signL_kind hsg
        have hasc := signL_ascii hsg
        have hn1 := hasc.1
        rw [← hd] at hasc
        obtain ⟨k1, k2⟩ := ascii_at (by omega) hasc
        refine PCalls.use (q) ?_; simp only [wk,if_true,if_false,forall_const,implies_true,ne_eq,eq_self,Nat.reduceEqDiff,Nat.reduceAdd,Nat.reduceMul,Nat.reduceSub,Nat.reduceLeDiff,Nat.reduceLT,Int.reduceEq,Int.reduceLT,Int.reduceLE,Int.reduceAdd,Int.reduceSub,Int.reduceMul,Int.reduceNeg,Int.reduceNe,reduceCtorEq,Int.reduceToNat,↓reduceIte]
        have hjn := noJ_atB k1 k2
        have hdn := hjn p (by omega)
        rw [← hdd] at hdn
        refine ⟨fun h => absurd h hk, fun _ => ⟨fun h => ?_, fun h => ?_⟩⟩
        · simp only [hsc2, show acc.length = 1000 by omega, if_true, resV, vToks, toksC, rdpw]
          rfl
        · refine ⟨⟨by omega, by omega⟩, s.size - (p + d), by omega, p + d, p + n, acc ++ [⟨k, w, o, p⟩], by omega, k1, rfl, by simp; omega, hjn, ?_, ?_⟩
          · rw [hsc2]
            simp only
            rw [if_neg (by omega), show max (p + d) (p + n) = p + n by omega]
          · simp [toksC_sn]
    · exact on e he hj (blank (by omega) (hblank 9 (by omega) (c9.1 ev)))
    · exact on e he hj (blank (by omega) (hblank 32 (by omega) (c32.1 ev)))
    · exact on e he hj (far (by omega))
  · have hn : scan s.data.toList 0 [] = (acc, 0, 0) := by
      rw [hscan, List.drop_of_length_le (by omega)]
      rfl
    simp only [J_token_All_j1, hn, resV, vToks, rdpw, rdps_toks, wk,if_true,if_false,forall_const,implies_true,ne_eq,eq_self,Nat.reduceEqDiff,Nat.reduceAdd,Nat.reduceMul,Nat.reduceSub,Nat.reduceLeDiff,Nat.reduceLT,Int.reduceEq,Int.reduceLT,Int.reduceLE,Int.reduceAdd,Int.reduceSub,Int.reduceMul,Int.reduceNeg,Int.reduceNe,reduceCtorEq,Int.reduceToNat,↓reduceIte]
    rfl
end Go.Proofs.Ytmbijfcjfhdnjaa

/- A call that leaves all objects alone may be handed objects: for the call they stay as they are. What it tells is then known but for its lists. -/
namespace Go.Proofs.Ytmbijfcjfhdnjaa
set_option linter.unusedSimpArgs false
set_option linter.unusedVariables false
open Go.RowKit Go.Lib

mutual
/-- without what lists and places hold -/
def fgt : AV → AV
  | .lst _ _ _ => .opq
  | .fp _ => .opq
  | .fn _ _ => .opq
  | .ptr _ _ => .opq
  | .hs _ _ => .opq
  | .itr _ _ => .opq
  | .stk _ _ _ => .opq
  | .agg l => .agg (fgts l)
  | .tup l => .tup (fgts l)
  | a => a
def fgts : List AV → List AV
  | [] => []
  | a :: l => fgt a :: fgts l
end
theorem plain_fgt (a : AV) : plain (fgt a) = true := by
  cases a <;> simp [fgt, plain]
theorem plains_fgt : ∀ l : List AV, plains (fgts l)
  | [] => by intro a ha; simp [fgts] at ha
  | a :: l => by
    intro b hb
    simp only [fgts, List.mem_cons] at hb
    rcases hb with rfl | hb
    · exact plain_fgt a
    · exact plains_fgt l b hb
mutual
theorem Rep.fgt {g g' : Gh} : ∀ {v : Value} {a : AV}, Rep g v a → Rep g' v (fgt a)
  | _, _, .bool b => by simp only [Go.Proofs.Ytmbijfcjfhdnjaa.fgt]; exact .bool b
  | _, _, .int k n => by simp only [Go.Proofs.Ytmbijfcjfhdnjaa.fgt]; exact .int k n
  | _, _, .str s => by simp only [Go.Proofs.Ytmbijfcjfhdnjaa.fgt]; exact .str s
  | _, _, .nilp => by simp only [Go.Proofs.Ytmbijfcjfhdnjaa.fgt]; exact .nilp
  | _, _, .ptr id off b h => by simp only [Go.Proofs.Ytmbijfcjfhdnjaa.fgt]; exact .opq _ rfl (fun h => by cases h)
  | _, _, .fp b off vs l h hp hl => by simp only [Go.Proofs.Ytmbijfcjfhdnjaa.fgt]; exact .opq _ rfl (fun h => by cases h)
  | _, _, .lst b off n c f vs l h hp h1 h2 hl => by simp only [Go.Proofs.Ytmbijfcjfhdnjaa.fgt]; exact .opq _ rfl (fun h => by cases h)
  | _, _, .lst0 a c f h => by simp only [Go.Proofs.Ytmbijfcjfhdnjaa.fgt]; exact .opq _ rfl (fun h => by cases h)
  | _, _, .hs id b n c h h1 => by simp only [Go.Proofs.Ytmbijfcjfhdnjaa.fgt]; exact .opq _ rfl (fun h => by cases h)
  | _, _, .agg vs l h hp hl => by simp only [Go.Proofs.Ytmbijfcjfhdnjaa.fgt]; exact .agg vs _ h (plains_fgt l) (RepL.fgt hl)
  | _, _, .tup vs l hp hl => by simp only [Go.Proofs.Ytmbijfcjfhdnjaa.fgt]; exact .tup vs _ (plains_fgt l) (RepL.fgt hl)
  | _, _, .fn f vs l hp hl => by simp only [Go.Proofs.Ytmbijfcjfhdnjaa.fgt]; exact .opq _ rfl (fun h => by cases h)
  | _, _, .nilf => by simp only [Go.Proofs.Ytmbijfcjfhdnjaa.fgt]; exact .nilf
  | _, _, .opq v h h' => by simp only [Go.Proofs.Ytmbijfcjfhdnjaa.fgt]; exact .opq v h h'
  | _, _, .itr b s p => by simp only [Go.Proofs.Ytmbijfcjfhdnjaa.fgt]; exact .opq _ rfl (fun h => by cases h)
  | _, _, .stk a c e o l h1 h2 h3 => by simp only [Go.Proofs.Ytmbijfcjfhdnjaa.fgt]; exact .opq _ rfl (fun h => by cases h)
  | _, _, .raw a m c h1 h2 => by simp only [Go.Proofs.Ytmbijfcjfhdnjaa.fgt]; exact .raw a m c h1 h2
  | _, _, .rawp b i m c => by simp only [Go.Proofs.Ytmbijfcjfhdnjaa.fgt]; exact .rawp b i m c
theorem RepL.fgt {g g' : Gh} : ∀ {vs : List Value} {l : List AV}, RepL g vs l → RepL g' vs (fgts l)
  | _, _, .nil => by simp only [fgts]; exact .nil
  | _, _, .cons h hr => by simp only [fgts]; exact .cons (Rep.fgt h) (RepL.fgt hr)
end
/-- all objects are another's, and stay as they are -/
noncomputable def Gh.still (g : Gh) (h : Hp) (w : World) : Gh := { g.bare with C := (g.ice h w).C }
open Classical in
section
variable {P : Program} {g : Gh} {h : Hp} {w : World}
theorem Sim.still (hs : Sim P g h w) : Sim P (g.still h w) [] w := by
  have hb := hs.bare
  refine ⟨fun b o u hu => ?_, (fun id s l hl => by simp at hl), hb.inj, hb.dom, hb.flt, hb.olt, hb.hole⟩
  simp only [Gh.still, Gh.ice] at hu
  split at hu
  · next u' hu' => simp only [Option.some.injEq] at hu; subst hu; exact hs.prot b o _ hu'
  · split at hu
    · simp only [Option.filter_eq_some_iff] at hu; exact hu
    · cases hu
end
end Go.Proofs.Ytmbijfcjfhdnjaa
