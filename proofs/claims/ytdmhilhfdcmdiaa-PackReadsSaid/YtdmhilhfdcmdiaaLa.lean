/- Layer 7's law: it is awake; what is too large. -/
import Derived.Test.YtdmhilhfdcmdiaaPj
import Derived.Test.YtdmhilhfdcmdiaaAb17
-- fast
namespace Go.Proofs.Ytdmhilhfdcmdiaa
set_option linter.unusedSimpArgs false
set_option linter.unusedVariables false
open Go.RowKit Go.Lib

theorem num_300 : num 300 = [172, 2] := by rw [num_ge (by omega), num_lt (by omega)]; rfl
theorem num_2 : num 2 = [2] := by rw [num_lt (by omega)]; rfl
def aw : ByteArray := ⟨#[172, 2, 2, 97, 98, 2, 1, 32, 1, 2, 0, 1, 0, 2]⟩
theorem aw_num : rNum aw 1000 0 = some (300, 2) := by kernel_rfl
theorem aw_text : rText aw 2 2 = some (⟨#[97, 98]⟩, 5) := by kernel_rfl
theorem aw_set : rSet aw 5 = some ([⟨#[32, 1]⟩, ⟨#[0, 1, 0, 2]⟩], 14) := by kernel_rfl
theorem aw_6 : rNum ⟨#[6]⟩ 5 0 = none := by kernel_rfl
theorem aw_may : setMay [⟨#[32, 1]⟩, ⟨#[0, 1, 0, 2]⟩] = true := by kernel_rfl
theorem aw_bytes : wri true (setBytes [⟨#[32, 1]⟩, ⟨#[0, 1, 0, 2]⟩]) (wri true (num 2 ++ [97, 98]) (wri (okNum 300) (num 300) (false, []))) = (false, [172, 2, 2, 97, 98, 2, 1, 32, 1, 2, 0, 1, 0, 2]) := by
  rw [num_300, num_2]; kernel_rfl
theorem aw_told : told (false, [172, 2, 2, 97, 98, 2, 1, 32, 1, 2, 0, 1, 0, 2]) = .tup [.str aw, .int .i64 0] := rfl
abbrev awO := oObj (false, [172, 2, 2, 97, 98, 2, 1, 32, 1, 2, 0, 1, 0, 2])
theorem aw_eq : (aw = ⟨#[172, 2, 2, 97, 98, 2, 1, 32, 1, 2, 0, 1, 0, 2]⟩) = True := eq_true rfl
theorem seal_set {h : Hp} {id : Nat} {l l' : List AV} (ho : h[id]? = some (some (false, l))) : SealEq h (h.set id (some (false, l'))) := by
  have hlt : id < h.length := (List.getElem?_eq_some_iff.1 ho).1
  intro i m
  by_cases e : i = id
  · subst e
    rw [hset ho, ho]; simp
  · rw [List.getElem?_set_ne (fun h => e h.symm)]
set_option maxRecDepth 100000 in
set_option maxHeartbeats 2000000 in
theorem a_awake : ACalls Try.prog 13 [] [] (fun a _ => a = .bool true) := by
  refine acalls_of mixed F_law07_awake_ok (Nat.le_of_ble_eq_true rfl) ?_; simp only [F_law07_awake, wk,if_true,if_false,forall_const,implies_true,ne_eq,eq_self,Nat.reduceEqDiff,Nat.reduceAdd,Nat.reduceMul,Nat.reduceSub,Nat.reduceLeDiff,Nat.reduceLT,Int.reduceEq,Int.reduceLT,Int.reduceLE,Int.reduceAdd,Int.reduceSub,Int.reduceMul,Int.reduceNeg,Int.reduceNe,reduceCtorEq,Int.reduceToNat,↓reduceIte]
  refine ACalls.use (a_onum (s := (false, [])) 300 rfl (by simp)) ?_; rintro _ _ ⟨rfl, rfl⟩; simp only [wk,if_true,if_false,forall_const,implies_true,ne_eq,eq_self,Nat.reduceEqDiff,Nat.reduceAdd,Nat.reduceMul,Nat.reduceSub,Nat.reduceLeDiff,Nat.reduceLT,Int.reduceEq,Int.reduceLT,Int.reduceLE,Int.reduceAdd,Int.reduceSub,Int.reduceMul,Int.reduceNeg,Int.reduceNe,reduceCtorEq,Int.reduceToNat,↓reduceIte]
  refine ACalls.use (a_otext (s := wri (okNum 300) (num 300) (false, [])) ⟨#[97, 98]⟩ rfl (by rw [num_300]; simp [wri, okNum]) (by decide)) ?_; rintro _ _ ⟨rfl, rfl⟩; simp only [wk,if_true,if_false,forall_const,implies_true,ne_eq,eq_self,Nat.reduceEqDiff,Nat.reduceAdd,Nat.reduceMul,Nat.reduceSub,Nat.reduceLeDiff,Nat.reduceLT,Int.reduceEq,Int.reduceLT,Int.reduceLE,Int.reduceAdd,Int.reduceSub,Int.reduceMul,Int.reduceNeg,Int.reduceNe,reduceCtorEq,Int.reduceToNat,↓reduceIte]
  refine PCalls.use (p_rof [8193] (by decide) (by decide)) ?_; simp only [wk,if_true,if_false,forall_const,implies_true,ne_eq,eq_self,Nat.reduceEqDiff,Nat.reduceAdd,Nat.reduceMul,Nat.reduceSub,Nat.reduceLeDiff,Nat.reduceLT,Int.reduceEq,Int.reduceLT,Int.reduceLE,Int.reduceAdd,Int.reduceSub,Int.reduceMul,Int.reduceNeg,Int.reduceNe,reduceCtorEq,Int.reduceToNat,↓reduceIte]
  refine PCalls.use (p_rof [1, 2] (by decide) (by decide)) ?_; simp only [wk,if_true,if_false,forall_const,implies_true,ne_eq,eq_self,Nat.reduceEqDiff,Nat.reduceAdd,Nat.reduceMul,Nat.reduceSub,Nat.reduceLeDiff,Nat.reduceLT,Int.reduceEq,Int.reduceLT,Int.reduceLE,Int.reduceAdd,Int.reduceSub,Int.reduceMul,Int.reduceNeg,Int.reduceNe,reduceCtorEq,Int.reduceToNat,↓reduceIte]
  rw [show (⟨(atomBytes [8193]).toArray⟩ : ByteArray) = ⟨#[32, 1]⟩ by kernel_rfl, show (⟨(atomBytes [1, 2]).toArray⟩ : ByteArray) = ⟨#[0, 1, 0, 2]⟩ by kernel_rfl, show num (⟨#[97, 98]⟩ : ByteArray).size = num 2 from rfl]
  refine ACalls.use (a_oset (s := wri true (num 2 ++ [97, 98]) (wri (okNum 300) (num 300) (false, []))) [⟨#[32, 1]⟩, ⟨#[0, 1, 0, 2]⟩] rfl (by rw [num_300, num_2]; decide) (by decide) (by decide)) ?_; rintro _ _ ⟨rfl, rfl⟩; simp only [wk,if_true,if_false,forall_const,implies_true,ne_eq,eq_self,Nat.reduceEqDiff,Nat.reduceAdd,Nat.reduceMul,Nat.reduceSub,Nat.reduceLeDiff,Nat.reduceLT,Int.reduceEq,Int.reduceLT,Int.reduceLE,Int.reduceAdd,Int.reduceSub,Int.reduceMul,Int.reduceNeg,Int.reduceNe,reduceCtorEq,Int.reduceToNat,↓reduceIte]
  rw [aw_may, aw_bytes]
  refine ACalls.use (a_odone (s := (false, [172, 2, 2, 97, 98, 2, 1, 32, 1, 2, 0, 1, 0, 2])) rfl) ?_; rintro _ _ ⟨rfl, rfl⟩; simp only [wk,if_true,if_false,forall_const,implies_true,ne_eq,eq_self,Nat.reduceEqDiff,Nat.reduceAdd,Nat.reduceMul,Nat.reduceSub,Nat.reduceLeDiff,Nat.reduceLT,Int.reduceEq,Int.reduceLT,Int.reduceLE,Int.reduceAdd,Int.reduceSub,Int.reduceMul,Int.reduceNeg,Int.reduceNe,reduceCtorEq,Int.reduceToNat,↓reduceIte]
  rw [aw_told]
  simp only [wk,if_true,if_false,forall_const,implies_true,ne_eq,eq_self,Nat.reduceEqDiff,Nat.reduceAdd,Nat.reduceMul,Nat.reduceSub,Nat.reduceLeDiff,Nat.reduceLT,Int.reduceEq,Int.reduceLT,Int.reduceLE,Int.reduceAdd,Int.reduceSub,Int.reduceMul,Int.reduceNeg,Int.reduceNe,reduceCtorEq,Int.reduceToNat,↓reduceIte]
  refine ACalls.use (a_from aw) ?_; rintro _ _ ⟨rfl, rfl⟩; simp only [wk,if_true,if_false,forall_const,implies_true,ne_eq,eq_self,Nat.reduceEqDiff,Nat.reduceAdd,Nat.reduceMul,Nat.reduceSub,Nat.reduceLeDiff,Nat.reduceLT,Int.reduceEq,Int.reduceLT,Int.reduceLE,Int.reduceAdd,Int.reduceSub,Int.reduceMul,Int.reduceNeg,Int.reduceNe,reduceCtorEq,Int.reduceToNat,↓reduceIte]
  have c1 : ACalls Try.prog 26 [.ptr 1 0, .int .i64 1000] [awO, iObj aw (false, 0)] (fun a h' => a = .int .i64 300 ∧ h' = [awO, iObj aw (false, 2)]) := by
    have := a_inum (S := aw) (id := 1) (h := [awO, iObj aw (false, 0)]) (s := (false, 0)) 1000 rfl (by decide) (by decide)
    simp only [Bool.false_eq_true, if_false, aw_num] at this
    exact this
  refine ACalls.use (c1) ?_; rintro _ _ ⟨rfl, rfl⟩; simp only [wk,if_true,if_false,forall_const,implies_true,ne_eq,eq_self,Nat.reduceEqDiff,Nat.reduceAdd,Nat.reduceMul,Nat.reduceSub,Nat.reduceLeDiff,Nat.reduceLT,Int.reduceEq,Int.reduceLT,Int.reduceLE,Int.reduceAdd,Int.reduceSub,Int.reduceMul,Int.reduceNeg,Int.reduceNe,reduceCtorEq,Int.reduceToNat,↓reduceIte]
  obtain ⟨q1, hq1, c2⟩ := a_itext (id := 1) (h := [awO, iObj aw (false, 2)]) (S := aw) (s := (false, 2)) 2 rfl (by decide) (by decide)
  simp only [Bool.false_eq_true, if_false, aw_text, vS, stO] at c2
  refine ACalls.use (c2) ?_; rintro _ _ ⟨rfl, rfl⟩; simp only [wk,if_true,if_false,forall_const,implies_true,ne_eq,eq_self,Nat.reduceEqDiff,Nat.reduceAdd,Nat.reduceMul,Nat.reduceSub,Nat.reduceLeDiff,Nat.reduceLT,Int.reduceEq,Int.reduceLT,Int.reduceLE,Int.reduceAdd,Int.reduceSub,Int.reduceMul,Int.reduceNeg,Int.reduceNe,reduceCtorEq,Int.reduceToNat,↓reduceIte]
  have c3 : ACalls Try.prog 35 [.ptr 1 0] [awO, iObj aw (false, 5)] (fun a h' => a = .int .i64 9 ∧ [awO, iObj aw (false, 5)] = h') := a_left (S := aw) (s := (false, 5)) rfl (by decide) (by decide)
  refine ACalls.use (c3) ?_; rintro _ _ ⟨rfl, rfl⟩; simp only [wk,if_true,if_false,forall_const,implies_true,ne_eq,eq_self,Nat.reduceEqDiff,Nat.reduceAdd,Nat.reduceMul,Nat.reduceSub,Nat.reduceLeDiff,Nat.reduceLT,Int.reduceEq,Int.reduceLT,Int.reduceLE,Int.reduceAdd,Int.reduceSub,Int.reduceMul,Int.reduceNeg,Int.reduceNe,reduceCtorEq,Int.reduceToNat,↓reduceIte]
  refine ACalls.use (a_iset (S := aw) (s := (false, 5)) rfl (by decide) (by decide)) ?_
  rintro _ _ ⟨rfl, q2, hq2, rfl⟩
  simp only [Bool.false_eq_true, if_false, aw_set, vL, stO, wk,if_true,if_false,forall_const,implies_true,ne_eq,eq_self,Nat.reduceEqDiff,Nat.reduceAdd,Nat.reduceMul,Nat.reduceSub,Nat.reduceLeDiff,Nat.reduceLT,Int.reduceEq,Int.reduceLT,Int.reduceLE,Int.reduceAdd,Int.reduceSub,Int.reduceMul,Int.reduceNeg,Int.reduceNe,reduceCtorEq,Int.reduceToNat,↓reduceIte]
  have c4 : ACalls Try.prog 37 [.ptr 1 0] [awO, iObj aw (false, 14)] (fun a h' => a = .int .i64 0 ∧ h' = [awO, iObj aw (false, 14)]) := a_idone (S := aw) (s := (false, 14)) rfl (by decide) (by decide)
  refine ACalls.use (c4) ?_; rintro _ _ ⟨rfl, rfl⟩; simp only [wk,if_true,if_false,forall_const,implies_true,ne_eq,eq_self,Nat.reduceEqDiff,Nat.reduceAdd,Nat.reduceMul,Nat.reduceSub,Nat.reduceLeDiff,Nat.reduceLT,Int.reduceEq,Int.reduceLT,Int.reduceLE,Int.reduceAdd,Int.reduceSub,Int.reduceMul,Int.reduceNeg,Int.reduceNe,reduceCtorEq,Int.reduceToNat,↓reduceIte]
  refine ACalls.use (a_from ⟨#[6]⟩) ?_; rintro _ _ ⟨rfl, rfl⟩; simp only [wk,if_true,if_false,forall_const,implies_true,ne_eq,eq_self,Nat.reduceEqDiff,Nat.reduceAdd,Nat.reduceMul,Nat.reduceSub,Nat.reduceLeDiff,Nat.reduceLT,Int.reduceEq,Int.reduceLT,Int.reduceLE,Int.reduceAdd,Int.reduceSub,Int.reduceMul,Int.reduceNeg,Int.reduceNe,reduceCtorEq,Int.reduceToNat,↓reduceIte]
  have c5 : ACalls Try.prog 26 [.ptr 2 0, .int .i64 5] [awO, iObj aw (false, 14), iObj ⟨#[6]⟩ (false, 0)] (fun a h' => a = .int .i64 0 ∧ h' = [awO, iObj aw (false, 14), iObj ⟨#[6]⟩ (true, 0)]) := by
    have := a_inum (S := ⟨#[6]⟩) (id := 2) (h := [awO, iObj aw (false, 14), iObj ⟨#[6]⟩ (false, 0)]) (s := (false, 0)) 5 rfl (by decide) (by decide)
    simp only [Bool.false_eq_true, if_false, aw_6] at this
    exact this
  have c6 : ACalls Try.prog 37 [.ptr 2 0] [awO, iObj aw (false, 14), iObj ⟨#[6]⟩ (true, 0)] (fun a h' => a = .int .i64 2 ∧ h' = [awO, iObj aw (false, 14), iObj ⟨#[6]⟩ (true, 0)]) := a_idone (S := ⟨#[6]⟩) (s := (true, 0)) rfl (by decide) (by decide)
  have c7 : ACalls Try.prog 35 [.ptr 2 0] [awO, iObj aw (false, 14), iObj ⟨#[6]⟩ (true, 0)] (fun a h' => a = .int .i64 0 ∧ [awO, iObj aw (false, 14), iObj ⟨#[6]⟩ (true, 0)] = h') := a_left (S := ⟨#[6]⟩) (s := (true, 0)) rfl (by decide) (by decide)
  refine ACalls.use c5 ?_
  rintro _ _ ⟨rfl, rfl⟩
  simp only [wk,if_true,if_false,forall_const,implies_true,ne_eq,eq_self,Nat.reduceEqDiff,Nat.reduceAdd,Nat.reduceMul,Nat.reduceSub,Nat.reduceLeDiff,Nat.reduceLT,Int.reduceEq,Int.reduceLT,Int.reduceLE,Int.reduceAdd,Int.reduceSub,Int.reduceMul,Int.reduceNeg,Int.reduceNe,reduceCtorEq,Int.reduceToNat,↓reduceIte, aw_eq, Int.cast_ofNat_Int]
  refine ACalls.use (c6) ?_; rintro _ _ ⟨rfl, rfl⟩; simp only [wk,if_true,if_false,forall_const,implies_true,ne_eq,eq_self,Nat.reduceEqDiff,Nat.reduceAdd,Nat.reduceMul,Nat.reduceSub,Nat.reduceLeDiff,Nat.reduceLT,Int.reduceEq,Int.reduceLT,Int.reduceLE,Int.reduceAdd,Int.reduceSub,Int.reduceMul,Int.reduceNeg,Int.reduceNe,reduceCtorEq,Int.reduceToNat,↓reduceIte]
  refine ACalls.use (c7) ?_; rintro _ _ ⟨rfl, rfl⟩; simp only [wk,if_true,if_false,forall_const,implies_true,ne_eq,eq_self,Nat.reduceEqDiff,Nat.reduceAdd,Nat.reduceMul,Nat.reduceSub,Nat.reduceLeDiff,Nat.reduceLT,Int.reduceEq,Int.reduceLT,Int.reduceLE,Int.reduceAdd,Int.reduceSub,Int.reduceMul,Int.reduceNeg,Int.reduceNe,reduceCtorEq,Int.reduceToNat,↓reduceIte]

/-- an item: what it is, number, text, word, set -/
structure Item where
  kind : Int
  n : Int
  t : ByteArray
  w : ByteArray
  s : List ByteArray
def itemAV (x : Item) : List AV := [.int .i64 x.kind, .int .i64 x.n, .str x.t, .str x.w, .lst .ro x.s.length (x.s.map .str)]
def itemsAV (l : List Item) : List AV := l.flatMap itemAV
def small (x : Item) : Prop := x.t.size ≤ 1000 ∧ x.w.size ≤ 100 ∧ x.s.length ≤ 60 ∧ ∀ y ∈ x.s, y.size ≤ 100
theorem items_drop {l : List Item} {i : Nat} (h : i < l.length) : (itemsAV l).drop (i * 5) = itemAV l[i] ++ itemsAV (l.drop (i + 1)) := by
  induction l generalizing i with
  | nil => simp at h
  | cons x l ih =>
    cases i with
    | zero => simp [itemsAV, itemAV]
    | succ i =>
      have : (i + 1) * 5 = 5 + i * 5 := by omega
      rw [this, ← List.drop_drop]
      have e : (itemsAV (x :: l)).drop 5 = itemsAV l := by simp [itemsAV, itemAV]
      rw [e, ih (by simpa using h)]
      simp
theorem items_len (l : List Item) : (itemsAV l).length = l.length * 5 := by
  induction l with
  | nil => rfl
  | cons x l ih => simp only [itemsAV, List.flatMap_cons, List.length_append, List.length_cons] at ih ⊢; rw [ih]; simp [itemAV]; omega
theorem frees_items (l : List Item) : free.frees (itemsAV l) = true := by
  induction l with
  | nil => rfl
  | cons x l ih =>
    have : itemsAV (x :: l) = itemAV x ++ itemsAV l := by simp [itemsAV]
    rw [this]
    simp [itemAV, free.frees, free, frees_str, ih]
/-- is one of the first items too large? -/
def largeP (l : List Item) : Prop := ∃ i, ∃ h : i < l.length, i < 100 ∧ ¬ small l[i]
def smallB (x : Item) : Bool := decide (x.t.size ≤ 1000 ∧ x.w.size ≤ 100 ∧ x.s.length ≤ 60) && x.s.all fun y => decide (y.size ≤ 100)
theorem smallB_iff (x : Item) : smallB x = true ↔ small x := by
  simp only [smallB, small, Bool.and_eq_true, decide_eq_true_eq, List.all_eq_true]
  constructor
  · rintro ⟨⟨h1, h2, h3⟩, h4⟩; exact ⟨h1, h2, h3, h4⟩
  · rintro ⟨h1, h2, h3, h4⟩; exact ⟨⟨h1, h2, h3⟩, h4⟩
def largeB (l : List Item) : Bool := (l.take 100).any fun x => !smallB x
theorem largeB_yes {l : List Item} (h : largeP l) : largeB l = true := by
  obtain ⟨i, hi, h1, h2⟩ := h
  unfold largeB
  rw [List.any_eq_true]
  refine ⟨l[i], List.mem_iff_getElem.2 ⟨i, by simp; omega, by simp⟩, ?_⟩
  cases hs : smallB l[i] with
  | false => rfl
  | true => exact absurd ((smallB_iff _).1 hs) h2
theorem largeB_no {l : List Item} (h : ¬ largeP l) : largeB l = false := by
  cases hb : largeB l with
  | false => rfl
  | true =>
    unfold largeB at hb
    rw [List.any_eq_true] at hb
    obtain ⟨x, hx, hn⟩ := hb
    obtain ⟨i, hi, e⟩ := List.mem_iff_getElem.1 hx
    simp only [List.length_take] at hi
    simp only [List.getElem_take] at e
    refine absurd ⟨i, by omega, by omega, fun hs => ?_⟩ h
    rw [e] at hs
    rw [(smallB_iff x).2 hs] at hn
    cases hn
theorem small_of {l : List Item} (h : largeB l = false) {i : Nat} (hi : i < l.length) (h1 : i < 100) : small l[i] :=
  Classical.byContradiction fun hn => by rw [largeB_yes ⟨i, hi, h1, hn⟩] at h; cases h
set_option maxRecDepth 100000 in
set_option maxHeartbeats 2000000 in
theorem p_large (l : List Item) (hl : l.length ≤ 9223372036854775807) : PCalls Try.prog 14 [.lst .ro l.length (itemsAV l)] (.bool (largeB l)) := by
  refine pcalls_of (by simp [free.frees, free, frees_items]) rfl (acalls_of mixed F_law07_large_ok (Nat.le_of_ble_eq_true rfl) ?_); simp only [F_law07_large, wk,if_true,if_false,forall_const,implies_true,ne_eq,eq_self,Nat.reduceEqDiff,Nat.reduceAdd,Nat.reduceMul,Nat.reduceSub,Nat.reduceLeDiff,Nat.reduceLT,Int.reduceEq,Int.reduceLT,Int.reduceLE,Int.reduceAdd,Int.reduceSub,Int.reduceMul,Int.reduceNeg,Int.reduceNe,reduceCtorEq,Int.reduceToNat,↓reduceIte]
  refine W_loop (fun n fr h => ∃ i : Nat, i ≤ l.length ∧ i ≤ 100 ∧ n = 100 - i ∧ fr = [(0, .lst .ro l.length (itemsAV l)), (3, .int .i64 i)] ∧ ∀ j, (hj : j < l.length) → j < i → small l[j]) 100 ⟨0, by omega, by omega, rfl, rfl, fun j _ h => by omega⟩ ?_
  rintro n fr h ⟨i, hi, hi100, rfl, rfl, hall⟩
  simp only [wk,if_true,if_false,forall_const,implies_true,ne_eq,eq_self,Nat.reduceEqDiff,Nat.reduceAdd,Nat.reduceMul,Nat.reduceSub,Nat.reduceLeDiff,Nat.reduceLT,Int.reduceEq,Int.reduceLT,Int.reduceLE,Int.reduceAdd,Int.reduceSub,Int.reduceMul,Int.reduceNeg,Int.reduceNe,reduceCtorEq,Int.reduceToNat,↓reduceIte]
  have hbig : ∀ {j : Nat} (hj : j < l.length), j < 100 → ¬ small l[j] → AV.bool true = .bool (largeB l) := fun hj h1 h2 => bool_eq (largeB_yes ⟨_, hj, h1, h2⟩).symm
  have hnot : (∀ j, (hj : j < l.length) → j < 100 → small l[j]) → AV.bool false = .bool (largeB l) := fun ha => bool_eq (largeB_no (by rintro ⟨j, h1, h2, h3⟩; exact h3 (ha j h1 h2))).symm
  refine ⟨fun hlt => ⟨fun h100 => ?_, fun h100 => hnot fun j hj h1 => hall j hj (by omega)⟩, fun hge => hnot fun j hj h1 => hall j hj (by omega)⟩
  have hil : i < l.length := by omega
  have hd : (itemsAV l).drop ((i : Int).toNat * 5) = .int .i64 l[i].kind :: .int .i64 l[i].n :: .str l[i].t :: .str l[i].w :: .lst .ro l[i].s.length (l[i].s.map .str) :: itemsAV (l.drop (i + 1)) := by rw [show (i : Int).toNat = i by omega, items_drop hil]; rfl
  have h0 : (0 ≤ (i : Int)) = True := eq_true (by omega)
  have hlt' : ((i : Int) < (l.length : Int)) = True := eq_true (by omega)
  simp only [wk,if_true,if_false,forall_const,implies_true,ne_eq,eq_self,Nat.reduceEqDiff,Nat.reduceAdd,Nat.reduceMul,Nat.reduceSub,Nat.reduceLeDiff,Nat.reduceLT,Int.reduceEq,Int.reduceLT,Int.reduceLE,Int.reduceAdd,Int.reduceSub,Int.reduceMul,Int.reduceNeg,Int.reduceNe,reduceCtorEq,Int.reduceToNat,↓reduceIte, hd, h0, hlt']
  refine ⟨fun h1 => ⟨fun h2 => ⟨fun h3 => ?_, fun h3 => ?_⟩, fun h2 => ?_⟩, fun h1 => ?_⟩
  · exact hbig hil (by omega) (fun hs => by have := hs.2.2.1; omega)
  rotate_left
  · exact hbig hil (by omega) (fun hs => by have := hs.2.1; omega)
  · exact hbig hil (by omega) (fun hs => by have := hs.1; omega)
  refine W_loop (fun n fr h' => ∃ k : Nat, k ≤ l[i].s.length ∧ n = l[i].s.length - k ∧ fr = [(0, .lst .ro l.length (itemsAV l)), (3, .int .i64 i), (45, .int .i64 l[i].s.length), (46, .int .i64 k)] ∧ ∀ j, (hj : j < l[i].s.length) → j < k → l[i].s[j].size ≤ 100) l[i].s.length ⟨0, by omega, by omega, rfl, fun j _ h => by omega⟩ ?_
  rintro n fr h' ⟨k, hk, rfl, rfl, hks⟩
  simp only [wk,if_true,if_false,forall_const,implies_true,ne_eq,eq_self,Nat.reduceEqDiff,Nat.reduceAdd,Nat.reduceMul,Nat.reduceSub,Nat.reduceLeDiff,Nat.reduceLT,Int.reduceEq,Int.reduceLT,Int.reduceLE,Int.reduceAdd,Int.reduceSub,Int.reduceMul,Int.reduceNeg,Int.reduceNe,reduceCtorEq,Int.reduceToNat,↓reduceIte]
  refine ⟨fun hkl => ?_, fun hkg => ?_⟩
  · have hkl' : k < l[i].s.length := by omega
    have h0k : (0 ≤ (k : Int)) = True := eq_true (by omega)
    have hk2 : ((k : Int) < (l[i].s.length : Int)) = True := eq_true (by omega)
    have hdk : (l[i].s.map AV.str).drop (k : Int).toNat = .str l[i].s[k] :: (l[i].s.map AV.str).drop (k + 1) := by rw [show (k : Int).toNat = k by omega, drop_str hkl']
    simp only [wk,if_true,if_false,forall_const,implies_true,ne_eq,eq_self,Nat.reduceEqDiff,Nat.reduceAdd,Nat.reduceMul,Nat.reduceSub,Nat.reduceLeDiff,Nat.reduceLT,Int.reduceEq,Int.reduceLT,Int.reduceLE,Int.reduceAdd,Int.reduceSub,Int.reduceMul,Int.reduceNeg,Int.reduceNe,reduceCtorEq,Int.reduceToNat,↓reduceIte, hd, h0, hlt', h0k, hk2, hdk]
    refine ⟨fun hbg => hbig hil (by omega) (fun hs => by have := hs.2.2.2 _ (List.getElem_mem hkl'); omega), fun hsm => ⟨inR_of (by omega) (by omega), _, ?_, k + 1, by omega, rfl, rfl, fun j hj hjk => ?_⟩⟩
    · omega
    · by_cases e : j = k
      · subst e; omega
      · exact hks j hj (by omega)
  · refine ⟨inR_of (by omega) (by omega), 100 - (i + 1), by omega, i + 1, by omega, by omega, rfl, rfl, fun j hj hji => ?_⟩
    by_cases e : j = i
    · subst e
      refine ⟨by omega, by omega, by omega, fun y hy => ?_⟩
      obtain ⟨q, hq, rfl⟩ := List.mem_iff_getElem.1 hy
      exact hks q hq (by omega)
    · exact hall j hj (by omega)
theorem hnew (h : Hp) (x : Option (Bool × List AV)) : (h ++ [x])[h.length]? = some x := by simp
theorem hnew_set (h : Hp) (x y : Option (Bool × List AV)) : (h ++ [x]).set h.length y = h ++ [y] := by simp
theorem hold {h : Hp} {i : Nat} {y : Option (Bool × List AV)} (x : Option (Bool × List AV)) (ho : h[i]? = some y) : (h ++ [x])[i]? = some y := by
  rw [List.getElem?_append_left (List.getElem?_eq_some_iff.1 ho).1, ho]
theorem hlt_of {h : Hp} {i : Nat} {y : Option (Bool × List AV)} (ho : h[i]? = some y) : i < h.length := (List.getElem?_eq_some_iff.1 ho).1
theorem wri_len (ok : Bool) (add : List UInt8) (s : Bool × List UInt8) (n : Nat) (h : ok = true → add.length ≤ n) : (wri ok add s).2.length ≤ s.2.length + n := by
  unfold wri
  split
  · omega
  · split
    · next hok => have := h hok; simp only [List.length_append]; omega
    · simp only; omega
theorem p_awake : PCalls Try.prog 13 [] (.bool true) := pcalls_of rfl rfl a_awake
end Go.Proofs.Ytdmhilhfdcmdiaa
