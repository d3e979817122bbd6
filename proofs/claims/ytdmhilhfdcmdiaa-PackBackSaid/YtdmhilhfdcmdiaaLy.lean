/- PackBack over the abstract code. -/
import Derived.Test.YtdmhilhfdcmdiaaPc
import Derived.Test.YtdmhilhfdcmdiaaFnQ
-- fast
namespace Go.Proofs.Ytdmhilhfdcmdiaa
set_option linter.unusedSimpArgs false
set_option linter.unusedVariables false
open Go.RowKit Go.Lib

theorem p_awake : PCalls Try.prog 13 [] (.bool true) := pcalls_of rfl rfl a_awake
theorem item_at {l : List Item} {i : Nat} (h : i < l.length) : 5 ≤ ((itemsAV l).drop ((i : Int).toNat * 5)).length ∧ ((itemsAV l).drop ((i : Int).toNat * 5)).take 5 = itemAV l[i] := by
  rw [show (i : Int).toNat = i by omega, items_drop h, List.length_append]
  exact ⟨by simp [itemAV], by simp [itemAV]⟩
theorem item_deg (x : Item) : (itemAV x).map deg = itemAV x := rfl
theorem set_old {h : Hp} {b : Nat} {o : Option (Bool × List AV)} (ho : h[b]? = some o) (y z : Option (Bool × List AV)) : (h ++ [y]).set b z = h.set b z ++ [y] := by
  rw [List.set_append_left _ _ (hlt_of ho)]
theorem end_get2 (h : Hp) (n : Nat) (z x : Option (Bool × List AV)) : (h.set n z ++ [x])[h.length]? = some x := by
  have := end_get (h.set n z) x
  rwa [List.length_set] at this
theorem get_old2 {h : Hp} {n : Nat} {y : Option (Bool × List AV)} (ho : h[n]? = some y) (z x : Option (Bool × List AV)) : (h.set n z ++ [x])[n]? = some z := hold _ (hset ho z)
/-- where an item begins -/
def bpos (l : List Item) (i : Nat) : Nat := ((l.take i).flatMap itemBytes).length
set_option maxRecDepth 100000 in
set_option maxHeartbeats 2000000 in
theorem a_back (l : List Item) (hl : l.length ≤ 9223372036854775807) : ACalls Try.prog 5 [.lst .ro l.length (itemsAV l)] [] (fun a _ => a = .bool true) := by
  refine acalls_of mixed J_law07_PackBack_ok (Nat.le_of_ble_eq_true rfl) ?_; simp only [J_law07_PackBack, wk,if_true,if_false,forall_const,implies_true,ne_eq,eq_self,Nat.reduceEqDiff,Nat.reduceAdd,Nat.reduceMul,Nat.reduceSub,Nat.reduceLeDiff,Nat.reduceLT,Int.reduceEq,Int.reduceLT,Int.reduceLE,Int.reduceAdd,Int.reduceSub,Int.reduceMul,Int.reduceNeg,Int.reduceNe,reduceCtorEq,Int.reduceToNat,↓reduceIte]
  refine PCalls.use (p_awake) ?_; simp only [wk,if_true,if_false,forall_const,implies_true,ne_eq,eq_self,Nat.reduceEqDiff,Nat.reduceAdd,Nat.reduceMul,Nat.reduceSub,Nat.reduceLeDiff,Nat.reduceLT,Int.reduceEq,Int.reduceLT,Int.reduceLE,Int.reduceAdd,Int.reduceSub,Int.reduceMul,Int.reduceNeg,Int.reduceNe,reduceCtorEq,Int.reduceToNat,↓reduceIte]
  refine PCalls.use (p_large l hl) ?_; simp only [wk,if_true,if_false,forall_const,implies_true,ne_eq,eq_self,Nat.reduceEqDiff,Nat.reduceAdd,Nat.reduceMul,Nat.reduceSub,Nat.reduceLeDiff,Nat.reduceLT,Int.reduceEq,Int.reduceLT,Int.reduceLE,Int.reduceAdd,Int.reduceSub,Int.reduceMul,Int.reduceNeg,Int.reduceNe,reduceCtorEq,Int.reduceToNat,↓reduceIte]
  intro hsm
  refine W_loop (fun n fr h => ∃ (i : Nat) (rest : Hp), i ≤ l.length ∧ i ≤ 100 ∧ n = 100 - i ∧ fr = [(0, .lst .ro l.length (itemsAV l)), (3, .ptr 0 0), (4, .int .i64 i)] ∧ h = oObj (wrs (l.take i)) :: rest ∧ (wrs (l.take i)).2.length ≤ 7000 * i) 100 ⟨0, [], by omega, by omega, rfl, rfl, rfl, by simp [wrs]⟩ ?_
  rintro n fr h ⟨i, rest, hi, hi100, rfl, rfl, rfl, hlen⟩
  have hend : ∀ (r : Hp), i = l.length ∨ i = 100 → ∀ Q, (∀ fr h, ev fr (.t 2) = some (.bool true) → Q .ret fr h) → W Try.prog J_law07_PackBack_j4 [(0, .lst .ro l.length (itemsAV l)), (3, .ptr 0 0)] (oObj (wrs (l.take i)) :: r) Q := by
    intro r hie Q hQ
    simp only [J_law07_PackBack_j4, wk,if_true,if_false,forall_const,implies_true,ne_eq,eq_self,Nat.reduceEqDiff,Nat.reduceAdd,Nat.reduceMul,Nat.reduceSub,Nat.reduceLeDiff,Nat.reduceLT,Int.reduceEq,Int.reduceLT,Int.reduceLE,Int.reduceAdd,Int.reduceSub,Int.reduceMul,Int.reduceNeg,Int.reduceNe,reduceCtorEq,Int.reduceToNat,↓reduceIte]
    refine ACalls.use (a_odone (s := wrs (l.take i)) rfl) ?_; rintro _ _ ⟨rfl, rfl⟩; simp only [wk,if_true,if_false,forall_const,implies_true,ne_eq,eq_self,Nat.reduceEqDiff,Nat.reduceAdd,Nat.reduceMul,Nat.reduceSub,Nat.reduceLeDiff,Nat.reduceLT,Int.reduceEq,Int.reduceLT,Int.reduceLE,Int.reduceAdd,Int.reduceSub,Int.reduceMul,Int.reduceNeg,Int.reduceNe,reduceCtorEq,Int.reduceToNat,↓reduceIte]
    simp only [told, wk,if_true,if_false,forall_const,implies_true,ne_eq,eq_self,Nat.reduceEqDiff,Nat.reduceAdd,Nat.reduceMul,Nat.reduceSub,Nat.reduceLeDiff,Nat.reduceLT,Int.reduceEq,Int.reduceLT,Int.reduceLE,Int.reduceAdd,Int.reduceSub,Int.reduceMul,Int.reduceNeg,Int.reduceNe,reduceCtorEq,Int.reduceToNat,↓reduceIte]
    cases hbad : (wrs (l.take i)).1 with
    | true =>
      simp only [eI, wk,if_true,if_false,forall_const,implies_true,ne_eq,eq_self,Nat.reduceEqDiff,Nat.reduceAdd,Nat.reduceMul,Nat.reduceSub,Nat.reduceLeDiff,Nat.reduceLT,Int.reduceEq,Int.reduceLT,Int.reduceLE,Int.reduceAdd,Int.reduceSub,Int.reduceMul,Int.reduceNeg,Int.reduceNe,reduceCtorEq,Int.reduceToNat,↓reduceIte]
      exact hQ _ _ (by rfl)
    | false =>
      obtain ⟨hok, hbs⟩ := wrs_good _ hbad
      simp only [eI, wk,if_true,if_false,forall_const,implies_true,ne_eq,eq_self,Nat.reduceEqDiff,Nat.reduceAdd,Nat.reduceMul,Nat.reduceSub,Nat.reduceLeDiff,Nat.reduceLT,Int.reduceEq,Int.reduceLT,Int.reduceLE,Int.reduceAdd,Int.reduceSub,Int.reduceMul,Int.reduceNeg,Int.reduceNe,reduceCtorEq,Int.reduceToNat,↓reduceIte]
      rw [hbs] at hlen ⊢
      obtain ⟨S, hS⟩ : ∃ S : ByteArray, S = ⟨((l.take i).flatMap itemBytes).toArray⟩ := ⟨_, rfl⟩
      have hSl : S.data.toList = (l.take i).flatMap itemBytes := by rw [hS]
      have hSs : S.size = bpos l i := by rw [bpos, ← hSl, ba_len]
      have hsz : S.size ≤ 700000 := by rw [hSs]; unfold bpos; omega
      rw [← hS]
      generalize hH : (oObj (wrs (l.take i)) :: r) = H
      refine ACalls.use (a_from S) ?_; rintro _ _ ⟨rfl, rfl⟩; simp only [wk,if_true,if_false,forall_const,implies_true,ne_eq,eq_self,Nat.reduceEqDiff,Nat.reduceAdd,Nat.reduceMul,Nat.reduceSub,Nat.reduceLeDiff,Nat.reduceLT,Int.reduceEq,Int.reduceLT,Int.reduceLE,Int.reduceAdd,Int.reduceSub,Int.reduceMul,Int.reduceNeg,Int.reduceNe,reduceCtorEq,Int.reduceToNat,↓reduceIte]
      refine W_loop (fun n fr h => ∃ k : Nat, k ≤ i ∧ n = i - k ∧ fr = [(0, .lst .ro l.length (itemsAV l)), (8, .ptr H.length 0), (9, .int .i64 k)] ∧ h[H.length]? = some (iObj S (false, bpos l k))) i ⟨0, by omega, by omega, rfl, end_get _ _⟩ ?_
      rintro n fr h ⟨k, hk, rfl, rfl, ho⟩
      have hle : ∀ j, j ≤ i → bpos l j ≤ S.size := by
        intro j hj
        rw [hSs]
        unfold bpos
        have : l.take i = l.take j ++ (l.take i).drop j := by
          have := List.take_append_drop j (l.take i)
          rw [List.take_take, Nat.min_eq_left hj] at this
          exact this.symm
        rw [this, List.flatMap_append, List.length_append]; omega
      have hbk := hle k (by omega)
      by_cases hki : k < i
      · have hkl : k < l.length := by omega
        have hk100 : k < 100 := by omega
        have hsx := small_of hsm hkl hk100
        have hit := item_at hkl
        have h0 : (0 ≤ (k : Int)) = True := eq_true (by omega)
        have hlt' : ((k : Int) < (l.length : Int)) = True := eq_true (by omega)
        have h100' : ((k : Int) < 100) = True := eq_true (by omega)
        have hitem : itemOk l[k] = true := hok _ (by rw [List.mem_take_iff_getElem]; exact ⟨k, by omega, rfl⟩)
        have hdr : S.data.toList.drop (bpos l k) = itemBytes l[k] ++ ((l.take i).drop (k + 1)).flatMap itemBytes := by
          have e : l.take i = l.take k ++ l[k] :: (l.take i).drop (k + 1) := by
            have := List.take_append_drop k (l.take i)
            rw [List.take_take, Nat.min_eq_left (by omega), List.drop_eq_getElem_cons (by simp; omega)] at this
            simpa using this.symm
          rw [hSl, e, List.flatMap_append, List.flatMap_cons, bpos, List.drop_left]
          rw [show (List.take k l ++ l[k] :: List.drop (k + 1) (List.take i l)) = l.take i from e.symm]
        have hnext : bpos l (k + 1) = bpos l k + (itemBytes l[k]).length := by
          unfold bpos; rw [List.take_succ_eq_append_getElem hkl, List.flatMap_append, List.length_append]; simp
        simp only [J_law07_PackBack_j3, h0, hlt', h100', hit, item_deg, itemAV, wk,if_true,if_false,forall_const,implies_true,ne_eq,eq_self,Nat.reduceEqDiff,Nat.reduceAdd,Nat.reduceMul,Nat.reduceSub,Nat.reduceLeDiff,Nat.reduceLT,Int.reduceEq,Int.reduceLT,Int.reduceLE,Int.reduceAdd,Int.reduceSub,Int.reduceMul,Int.reduceNeg,Int.reduceNe,reduceCtorEq,Int.reduceToNat,↓reduceIte]
        obtain ⟨N, hN⟩ : ∃ N, N = H.length := ⟨_, rfl⟩
        rw [← hN] at ho ⊢
        refine ⟨fun hk => ?_, fun hk => ⟨fun hk1 => ?_, fun hk1 => ⟨fun hk2 => ?_, fun hk2 => ⟨fun hk3 => ?_, fun hk3 => ?_⟩⟩⟩⟩
        · rw [itemOk, if_pos hk] at hitem
          simp only [okNum, decide_eq_true_eq] at hitem
          rw [itemBytes, if_pos hk] at hdr hnext
          have hr := rNum_at (most := l[k].n) hdr (by omega) (by omega)
          rw [← hnext] at hr
          refine ⟨_, _, a_inum (S := S) (s := (false, bpos l k)) l[k].n (hold _ ho) (by omega) hbk, seal_set (hold _ ho), ?_⟩
          simp only [Bool.false_eq_true, if_false, hr, vI, stO, set_old ho, end_get2, show ((l[k].n.toNat : Nat) : Int) = l[k].n by omega, J_law07_PackBack_j2, wk,if_true,if_false,forall_const,implies_true,ne_eq,eq_self,Nat.reduceEqDiff,Nat.reduceAdd,Nat.reduceMul,Nat.reduceSub,Nat.reduceLeDiff,Nat.reduceLT,Int.reduceEq,Int.reduceLT,Int.reduceLE,Int.reduceAdd,Int.reduceSub,Int.reduceMul,Int.reduceNeg,Int.reduceNe,reduceCtorEq,Int.reduceToNat,↓reduceIte]
          exact ⟨inR_of (by omega) (by omega), i - (k + 1), by omega, k + 1, by omega, rfl, rfl, get_old2 ho _ _⟩
        · rw [itemBytes, if_neg hk, if_pos hk1] at hdr hnext
          have hr := rText_at hdr hbk (by have := hsx.1; omega)
          rw [← hnext] at hr
          obtain ⟨q, hq, hc⟩ := a_itext (S := S) (s := (false, bpos l k)) l[k].t.size (hold (some (true, itemAV l[k])) ho) (by omega) hbk
          simp only [Bool.false_eq_true, if_false, hr, vS, stO, set_old ho, itemAV] at hc
          refine ⟨_, _, hc, by rw [← set_old ho]; exact seal_set (hold _ ho), ?_⟩
          simp only [end_get2, J_law07_PackBack_j2, wk,if_true,if_false,forall_const,implies_true,ne_eq,eq_self,Nat.reduceEqDiff,Nat.reduceAdd,Nat.reduceMul,Nat.reduceSub,Nat.reduceLeDiff,Nat.reduceLT,Int.reduceEq,Int.reduceLT,Int.reduceLE,Int.reduceAdd,Int.reduceSub,Int.reduceMul,Int.reduceNeg,Int.reduceNe,reduceCtorEq,Int.reduceToNat,↓reduceIte]
          exact ⟨inR_of (by omega) (by omega), i - (k + 1), by omega, k + 1, by omega, rfl, rfl, get_old2 ho _ _⟩
        · rw [itemOk, if_neg hk, if_neg hk1, if_pos hk2] at hitem
          rw [itemBytes, if_neg hk, if_neg hk1, if_pos hk2] at hdr hnext
          have hr := rWord_at hdr hitem
          rw [← hnext] at hr
          obtain ⟨q, hq, hc⟩ := a_iword (S := S) (s := (false, bpos l k)) (hold (some (true, itemAV l[k])) ho) (by omega) hbk
          simp only [Bool.false_eq_true, if_false, hr, vS, stO, set_old ho, itemAV] at hc
          refine ⟨_, _, hc, by rw [← set_old ho]; exact seal_set (hold _ ho), ?_⟩
          simp only [end_get2, J_law07_PackBack_j2, wk,if_true,if_false,forall_const,implies_true,ne_eq,eq_self,Nat.reduceEqDiff,Nat.reduceAdd,Nat.reduceMul,Nat.reduceSub,Nat.reduceLeDiff,Nat.reduceLT,Int.reduceEq,Int.reduceLT,Int.reduceLE,Int.reduceAdd,Int.reduceSub,Int.reduceMul,Int.reduceNeg,Int.reduceNe,reduceCtorEq,Int.reduceToNat,↓reduceIte]
          exact ⟨inR_of (by omega) (by omega), i - (k + 1), by omega, k + 1, by omega, rfl, rfl, get_old2 ho _ _⟩
        · rw [itemOk, if_neg hk, if_neg hk1, if_neg hk2, if_pos hk3] at hitem
          rw [itemBytes, if_neg hk, if_neg hk1, if_neg hk2, if_pos hk3] at hdr hnext
          have hr := rSet_at hdr hitem
          rw [← hnext] at hr
          have hc := a_iset (S := S) (s := (false, bpos l k)) (hold (some (true, itemAV l[k])) ho) (by omega) hbk
          simp only [Bool.false_eq_true, if_false, hr, vL, stO, set_old ho, itemAV] at hc
          have hc := hc.mono (R' := fun a h' => a = _ ∧ h' = _) (by rintro _ _ ⟨rfl, q, _, rfl⟩; exact ⟨rfl, rfl⟩)
          refine ⟨_, _, hc, by rw [← set_old ho]; exact seal_set (hold _ ho), ?_⟩
          simp only [end_get2, wk,if_true,if_false,forall_const,implies_true,ne_eq,eq_self,Nat.reduceEqDiff,Nat.reduceAdd,Nat.reduceMul,Nat.reduceSub,Nat.reduceLeDiff,Nat.reduceLT,Int.reduceEq,Int.reduceLT,Int.reduceLE,Int.reduceAdd,Int.reduceSub,Int.reduceMul,Int.reduceNeg,Int.reduceNe,reduceCtorEq,Int.reduceToNat,↓reduceIte]
          refine ⟨_, p_requal l[k].s l[k].s (by have := hsx.2.2.1; omega), ?_⟩
          simp only [J_law07_PackBack_j2, wk,if_true,if_false,forall_const,implies_true,ne_eq,eq_self,Nat.reduceEqDiff,Nat.reduceAdd,Nat.reduceMul,Nat.reduceSub,Nat.reduceLeDiff,Nat.reduceLT,Int.reduceEq,Int.reduceLT,Int.reduceLE,Int.reduceAdd,Int.reduceSub,Int.reduceMul,Int.reduceNeg,Int.reduceNe,reduceCtorEq,Int.reduceToNat,↓reduceIte]
          exact ⟨inR_of (by omega) (by omega), i - (k + 1), by omega, k + 1, by omega, rfl, rfl, get_old2 ho _ _⟩
        · rw [itemBytes, if_neg hk, if_neg hk1, if_neg hk2, if_neg hk3] at hnext
          simp only [J_law07_PackBack_j2, wk,if_true,if_false,forall_const,implies_true,ne_eq,eq_self,Nat.reduceEqDiff,Nat.reduceAdd,Nat.reduceMul,Nat.reduceSub,Nat.reduceLeDiff,Nat.reduceLT,Int.reduceEq,Int.reduceLT,Int.reduceLE,Int.reduceAdd,Int.reduceSub,Int.reduceMul,Int.reduceNeg,Int.reduceNe,reduceCtorEq,Int.reduceToNat,↓reduceIte]
          exact ⟨inR_of (by omega) (by omega), i - (k + 1), by omega, k + 1, by omega, rfl, rfl, by rw [hnext]; exact hold _ ho⟩
      · have hke : k = i := by omega
        subst hke
        obtain ⟨N, hN⟩ : ∃ N, N = H.length := ⟨_, rfl⟩
        rw [← hN] at ho ⊢
        have hd : S.size - bpos l k = 0 := by omega
        have hgo : ∀ Q', (∀ fr h, ev fr (.t 2) = some (.bool true) → Q' .ret fr h) → ∀ fr0, restr [8] fr0 = [(8, .ptr N 0)] → W Try.prog J_law07_PackBack_j1 fr0 h Q' := by
          intro Q' hQ' fr0 hf0
          simp only [J_law07_PackBack_j1, W_keep]
          rw [hf0]
          simp only [wk,if_true,if_false,forall_const,implies_true,ne_eq,eq_self,Nat.reduceEqDiff,Nat.reduceAdd,Nat.reduceMul,Nat.reduceSub,Nat.reduceLeDiff,Nat.reduceLT,Int.reduceEq,Int.reduceLT,Int.reduceLE,Int.reduceAdd,Int.reduceSub,Int.reduceMul,Int.reduceNeg,Int.reduceNe,reduceCtorEq,Int.reduceToNat,↓reduceIte]
          refine ACalls.use (a_left (S := S) (s := (false, bpos l k)) ho (by omega) hbk) ?_; rintro _ _ ⟨rfl, rfl⟩; simp only [wk,if_true,if_false,forall_const,implies_true,ne_eq,eq_self,Nat.reduceEqDiff,Nat.reduceAdd,Nat.reduceMul,Nat.reduceSub,Nat.reduceLeDiff,Nat.reduceLT,Int.reduceEq,Int.reduceLT,Int.reduceLE,Int.reduceAdd,Int.reduceSub,Int.reduceMul,Int.reduceNeg,Int.reduceNe,reduceCtorEq,Int.reduceToNat,↓reduceIte]
          rw [hd]
          simp only [Bool.false_eq_true, if_false, Int.natCast_zero, wk,if_true,if_false,forall_const,implies_true,ne_eq,eq_self,Nat.reduceEqDiff,Nat.reduceAdd,Nat.reduceMul,Nat.reduceSub,Nat.reduceLeDiff,Nat.reduceLT,Int.reduceEq,Int.reduceLT,Int.reduceLE,Int.reduceAdd,Int.reduceSub,Int.reduceMul,Int.reduceNeg,Int.reduceNe,reduceCtorEq,Int.reduceToNat,↓reduceIte]
          refine ACalls.use (a_idone (S := S) (s := (false, bpos l k)) ho (by omega) hbk) ?_; rintro _ _ ⟨rfl, rfl⟩; simp only [wk,if_true,if_false,forall_const,implies_true,ne_eq,eq_self,Nat.reduceEqDiff,Nat.reduceAdd,Nat.reduceMul,Nat.reduceSub,Nat.reduceLeDiff,Nat.reduceLT,Int.reduceEq,Int.reduceLT,Int.reduceLE,Int.reduceAdd,Int.reduceSub,Int.reduceMul,Int.reduceNeg,Int.reduceNe,reduceCtorEq,Int.reduceToNat,↓reduceIte]
          rw [show decide (bpos l k < S.size) = false by rw [decide_eq_false_iff_not]; omega]
          simp only [Bool.or_self, eI, wk,if_true,if_false,forall_const,implies_true,ne_eq,eq_self,Nat.reduceEqDiff,Nat.reduceAdd,Nat.reduceMul,Nat.reduceSub,Nat.reduceLeDiff,Nat.reduceLT,Int.reduceEq,Int.reduceLT,Int.reduceLE,Int.reduceAdd,Int.reduceSub,Int.reduceMul,Int.reduceNeg,Int.reduceNe,reduceCtorEq,Int.reduceToNat,↓reduceIte]
          exact hQ' _ _ (by rfl)
        simp only [J_law07_PackBack_j3, wk,if_true,if_false,forall_const,implies_true,ne_eq,eq_self,Nat.reduceEqDiff,Nat.reduceAdd,Nat.reduceMul,Nat.reduceSub,Nat.reduceLeDiff,Nat.reduceLT,Int.reduceEq,Int.reduceLT,Int.reduceLE,Int.reduceAdd,Int.reduceSub,Int.reduceMul,Int.reduceNeg,Int.reduceNe,reduceCtorEq,Int.reduceToNat,↓reduceIte]
        refine ⟨fun hlt => ⟨fun h100 => by omega, fun h100 => hgo _ (fun fr h hb => ?_) _ rfl⟩, fun hge => hgo _ (fun fr h hb => ?_) _ rfl⟩
        · exact hQ _ _ hb
        · exact hQ _ _ hb
  by_cases hc : i < l.length ∧ i < 100
  · obtain ⟨hil, h100⟩ := hc
    have hsx := small_of hsm hil h100
    have hit := item_at hil
    have h0 : (0 ≤ (i : Int)) = True := eq_true (by omega)
    have hlt' : ((i : Int) < (l.length : Int)) = True := eq_true (by omega)
    have h100' : ((i : Int) < 100) = True := eq_true (by omega)
    have hw : wrs (l.take (i + 1)) = wri (itemOk l[i]) (itemBytes l[i]) (wrs (l.take i)) := by rw [List.take_succ_eq_append_getElem hil, wrs_snoc]
    have hlen2 : (wrs (l.take (i + 1))).2.length ≤ 7000 * (i + 1) := by
      rw [hw]
      have := wri_len (itemOk l[i]) (itemBytes l[i]) (wrs (l.take i)) 7000 (fun h => itemBytes_len hsx h)
      omega
    simp only [J_law07_PackBack_j6, h0, hlt', h100', hit, item_deg, itemAV, wk,if_true,if_false,forall_const,implies_true,ne_eq,eq_self,Nat.reduceEqDiff,Nat.reduceAdd,Nat.reduceMul,Nat.reduceSub,Nat.reduceLeDiff,Nat.reduceLT,Int.reduceEq,Int.reduceLT,Int.reduceLE,Int.reduceAdd,Int.reduceSub,Int.reduceMul,Int.reduceNeg,Int.reduceNe,reduceCtorEq,Int.reduceToNat,↓reduceIte]
    refine ⟨fun hk => ?_, fun hk => ⟨fun hk1 => ?_, fun hk1 => ⟨fun hk2 => ?_, fun hk2 => ⟨fun hk3 => ?_, fun hk3 => ?_⟩⟩⟩⟩
    · refine ACalls.use (a_onum (s := wrs (l.take i)) l[i].n rfl (by omega)) ?_; rintro _ _ ⟨rfl, rfl⟩; simp only [wk,if_true,if_false,forall_const,implies_true,ne_eq,eq_self,Nat.reduceEqDiff,Nat.reduceAdd,Nat.reduceMul,Nat.reduceSub,Nat.reduceLeDiff,Nat.reduceLT,Int.reduceEq,Int.reduceLT,Int.reduceLE,Int.reduceAdd,Int.reduceSub,Int.reduceMul,Int.reduceNeg,Int.reduceNe,reduceCtorEq,Int.reduceToNat,↓reduceIte]
      simp only [J_law07_PackBack_j5, wk,if_true,if_false,forall_const,implies_true,ne_eq,eq_self,Nat.reduceEqDiff,Nat.reduceAdd,Nat.reduceMul,Nat.reduceSub,Nat.reduceLeDiff,Nat.reduceLT,Int.reduceEq,Int.reduceLT,Int.reduceLE,Int.reduceAdd,Int.reduceSub,Int.reduceMul,Int.reduceNeg,Int.reduceNe,reduceCtorEq,Int.reduceToNat,↓reduceIte]
      exact ⟨inR_of (by omega) (by omega), 100 - (i + 1), by omega, i + 1, _, by omega, by omega, rfl, rfl, by rw [hw, itemOk, itemBytes, if_pos hk, if_pos hk], hlen2⟩
    · refine ACalls.use (a_otext (s := wrs (l.take i)) l[i].t rfl (by omega) (by have := hsx.1; omega)) ?_; rintro _ _ ⟨rfl, rfl⟩; simp only [wk,if_true,if_false,forall_const,implies_true,ne_eq,eq_self,Nat.reduceEqDiff,Nat.reduceAdd,Nat.reduceMul,Nat.reduceSub,Nat.reduceLeDiff,Nat.reduceLT,Int.reduceEq,Int.reduceLT,Int.reduceLE,Int.reduceAdd,Int.reduceSub,Int.reduceMul,Int.reduceNeg,Int.reduceNe,reduceCtorEq,Int.reduceToNat,↓reduceIte]
      simp only [J_law07_PackBack_j5, wk,if_true,if_false,forall_const,implies_true,ne_eq,eq_self,Nat.reduceEqDiff,Nat.reduceAdd,Nat.reduceMul,Nat.reduceSub,Nat.reduceLeDiff,Nat.reduceLT,Int.reduceEq,Int.reduceLT,Int.reduceLE,Int.reduceAdd,Int.reduceSub,Int.reduceMul,Int.reduceNeg,Int.reduceNe,reduceCtorEq,Int.reduceToNat,↓reduceIte]
      exact ⟨inR_of (by omega) (by omega), 100 - (i + 1), by omega, i + 1, _, by omega, by omega, rfl, rfl, by rw [hw, itemOk, itemBytes, if_neg hk, if_neg hk, if_pos hk1, if_pos hk1], hlen2⟩
    · refine ACalls.use (a_oword (s := wrs (l.take i)) l[i].w rfl (by omega) (by have := hsx.2.1; omega)) ?_; rintro _ _ ⟨rfl, rfl⟩; simp only [wk,if_true,if_false,forall_const,implies_true,ne_eq,eq_self,Nat.reduceEqDiff,Nat.reduceAdd,Nat.reduceMul,Nat.reduceSub,Nat.reduceLeDiff,Nat.reduceLT,Int.reduceEq,Int.reduceLT,Int.reduceLE,Int.reduceAdd,Int.reduceSub,Int.reduceMul,Int.reduceNeg,Int.reduceNe,reduceCtorEq,Int.reduceToNat,↓reduceIte]
      simp only [J_law07_PackBack_j5, wk,if_true,if_false,forall_const,implies_true,ne_eq,eq_self,Nat.reduceEqDiff,Nat.reduceAdd,Nat.reduceMul,Nat.reduceSub,Nat.reduceLeDiff,Nat.reduceLT,Int.reduceEq,Int.reduceLT,Int.reduceLE,Int.reduceAdd,Int.reduceSub,Int.reduceMul,Int.reduceNeg,Int.reduceNe,reduceCtorEq,Int.reduceToNat,↓reduceIte]
      exact ⟨inR_of (by omega) (by omega), 100 - (i + 1), by omega, i + 1, _, by omega, by omega, rfl, rfl, by rw [hw, itemOk, itemBytes, if_neg hk, if_neg hk, if_neg hk1, if_neg hk1, if_pos hk2, if_pos hk2], hlen2⟩
    · refine ACalls.use (a_oset (s := wrs (l.take i)) l[i].s rfl (by omega) (by have := hsx.2.2.1; omega) (fun x hx => by have := hsx.2.2.2 x hx; omega)) ?_; rintro _ _ ⟨rfl, rfl⟩; simp only [wk,if_true,if_false,forall_const,implies_true,ne_eq,eq_self,Nat.reduceEqDiff,Nat.reduceAdd,Nat.reduceMul,Nat.reduceSub,Nat.reduceLeDiff,Nat.reduceLT,Int.reduceEq,Int.reduceLT,Int.reduceLE,Int.reduceAdd,Int.reduceSub,Int.reduceMul,Int.reduceNeg,Int.reduceNe,reduceCtorEq,Int.reduceToNat,↓reduceIte]
      simp only [J_law07_PackBack_j5, wk,if_true,if_false,forall_const,implies_true,ne_eq,eq_self,Nat.reduceEqDiff,Nat.reduceAdd,Nat.reduceMul,Nat.reduceSub,Nat.reduceLeDiff,Nat.reduceLT,Int.reduceEq,Int.reduceLT,Int.reduceLE,Int.reduceAdd,Int.reduceSub,Int.reduceMul,Int.reduceNeg,Int.reduceNe,reduceCtorEq,Int.reduceToNat,↓reduceIte]
      exact ⟨inR_of (by omega) (by omega), 100 - (i + 1), by omega, i + 1, _, by omega, by omega, rfl, rfl, by rw [hw, itemOk, itemBytes, if_neg hk, if_neg hk, if_neg hk1, if_neg hk1, if_neg hk2, if_neg hk2, if_pos hk3, if_pos hk3], hlen2⟩
    · simp only [J_law07_PackBack_j5, wk,if_true,if_false,forall_const,implies_true,ne_eq,eq_self,Nat.reduceEqDiff,Nat.reduceAdd,Nat.reduceMul,Nat.reduceSub,Nat.reduceLeDiff,Nat.reduceLT,Int.reduceEq,Int.reduceLT,Int.reduceLE,Int.reduceAdd,Int.reduceSub,Int.reduceMul,Int.reduceNeg,Int.reduceNe,reduceCtorEq,Int.reduceToNat,↓reduceIte]
      exact ⟨inR_of (by omega) (by omega), 100 - (i + 1), by omega, i + 1, _, by omega, by omega, rfl, rfl, by rw [hw, itemOk, itemBytes, if_neg hk, if_neg hk, if_neg hk1, if_neg hk1, if_neg hk2, if_neg hk2, if_neg hk3, if_neg hk3, wri_none], hlen2⟩
  · have hie : i = l.length ∨ i = 100 := by omega
    simp only [J_law07_PackBack_j6, wk,if_true,if_false,forall_const,implies_true,ne_eq,eq_self,Nat.reduceEqDiff,Nat.reduceAdd,Nat.reduceMul,Nat.reduceSub,Nat.reduceLeDiff,Nat.reduceLT,Int.reduceEq,Int.reduceLT,Int.reduceLE,Int.reduceAdd,Int.reduceSub,Int.reduceMul,Int.reduceNeg,Int.reduceNe,reduceCtorEq,Int.reduceToNat,↓reduceIte]
    refine ⟨fun hlt => ⟨fun h100 => absurd ⟨by omega, by omega⟩ hc, fun h100 => hend _ hie _ fun fr h hb => ?_⟩, fun hge => hend _ hie _ fun fr h hb => ?_⟩
    · simp only [wk,if_true,if_false,forall_const,implies_true,ne_eq,eq_self,Nat.reduceEqDiff,Nat.reduceAdd,Nat.reduceMul,Nat.reduceSub,Nat.reduceLeDiff,Nat.reduceLT,Int.reduceEq,Int.reduceLT,Int.reduceLE,Int.reduceAdd,Int.reduceSub,Int.reduceMul,Int.reduceNeg,Int.reduceNe,reduceCtorEq,Int.reduceToNat,↓reduceIte, hb]
    · simp only [wk,if_true,if_false,forall_const,implies_true,ne_eq,eq_self,Nat.reduceEqDiff,Nat.reduceAdd,Nat.reduceMul,Nat.reduceSub,Nat.reduceLeDiff,Nat.reduceLT,Int.reduceEq,Int.reduceLT,Int.reduceLE,Int.reduceAdd,Int.reduceSub,Int.reduceMul,Int.reduceNeg,Int.reduceNe,reduceCtorEq,Int.reduceToNat,↓reduceIte, hb]
end Go.Proofs.Ytdmhilhfdcmdiaa
