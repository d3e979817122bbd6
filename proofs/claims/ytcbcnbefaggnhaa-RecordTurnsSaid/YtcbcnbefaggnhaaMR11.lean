/- Texts of one proof, laid together: Rb Rc Rd Re Rf Ax Rg Rh Ri Rj Rk Pb Pc Sr Ss St Rl In Rm Rn Rp Rq FnR. -/
import Derived.Test.YtcbcnbefaggnhaaMR10
import Derived.Test.YtcbcnbefaggnhaaMR9
import Derived.Test.YtcbcnbefaggnhaaMR7
import Derived.Test.YtcbcnbefaggnhaaProg
import Derived.Test.YtcbcnbefaggnhaaMR8

/- acl's lists over the abstract code. -/
namespace Go.Proofs.Ytcbcnbefaggnhaa
set_option linter.unusedSimpArgs false
set_option linter.unusedVariables false
open Go.RowKit Go.Lib

theorem trimA {h ex : Hp} {a : AV} (hf : free a = true) : ∃ h2 ex', h ++ ex = h2 ++ ex' ∧ h.length ≤ h2.length ∧ low h2.length a = true ∧ (∀ (j : Nat) s l, h2[j]? = some (some (s, l)) → (∃ s', h[j]? = some (some (s', l))) ∨ low.lows h2.length l = true) ∧ h = h2 :=
  ⟨h, ex, rfl, Nat.le_refl _, low_free hf, fun _ s _ hl => .inl ⟨s, hl⟩, rfl⟩
theorem trimS {h ex : Hp} {a : AV} {id : Nat} {s : Bool} {l : List AV} (hf : free a = true) (hl : free.frees l = true) : ∃ h2 ex', h.set id (some (s, l)) ++ ex = h2 ++ ex' ∧ h.length ≤ h2.length ∧ low h2.length a = true ∧ (∀ (j : Nat) s l, h2[j]? = some (some (s, l)) → (∃ s', h[j]? = some (some (s', l))) ∨ low.lows h2.length l = true) ∧ h2 = h.set id (some (s, l)) := by
  refine ⟨_, ex, rfl, by simp, low_free hf, fun j s' l' hj => ?_, rfl⟩
  rw [List.getElem?_set] at hj
  split at hj
  · split at hj
    · simp only [Option.some.injEq, Prod.mk.injEq] at hj
      obtain ⟨_, rfl⟩ := hj
      exact .inr (lows_free hl)
    · cases hj
  · exact .inl ⟨_, hj⟩
theorem a_find1 {h : Hp} {b : Nat} {s : Bool} (x y : Ent) (ho : h[b]? = some (some (s, eC x))) (hx : x.who.length ≤ 9223372036854775807) :
    ACalls Try.prog 119 [vE y, .ptr b 0] h (fun a h' => a = .bool (sameEnt x y) ∧ h = h') := by
  have ho' : (h ++ [some (false, eC y)])[b]? = some (some (s, eC x)) := hold _ ho
  have q := p_esame x y hx
  simp only [vE, eC] at q ho'
  refine ACalls.trim (acalls_of mixed J_acl_List_find_1_ok (Nat.le_of_ble_eq_true rfl) ?_); simp only [J_acl_List_find_1, vE, eC, ho', wk,if_true,if_false,forall_const,implies_true,ne_eq,eq_self,Nat.reduceEqDiff,Nat.reduceAdd,Nat.reduceMul,Nat.reduceSub,Nat.reduceLeDiff,Nat.reduceLT,Int.reduceEq,Int.reduceLT,Int.reduceLE,Int.reduceAdd,Int.reduceSub,Int.reduceMul,Int.reduceNeg,Int.reduceNe,reduceCtorEq,Int.reduceToNat,↓reduceIte]
  refine PCalls.use (q) ?_; simp only [wk,if_true,if_false,forall_const,implies_true,ne_eq,eq_self,Nat.reduceEqDiff,Nat.reduceAdd,Nat.reduceMul,Nat.reduceSub,Nat.reduceLeDiff,Nat.reduceLT,Int.reduceEq,Int.reduceLT,Int.reduceLE,Int.reduceAdd,Int.reduceSub,Int.reduceMul,Int.reduceNeg,Int.reduceNe,reduceCtorEq,Int.reduceToNat,↓reduceIte]
  exact trimA rfl
/-- where an entry stands -/
def idxE (x : Ent) : List Ent → Int
  | [] => -1
  | y :: l => if sameEnt x y then 0 else if idxE x l < 0 then -1 else idxE x l + 1
def entsC (l : List Ent) : List AV := l.flatMap eC
theorem entsC_len (l : List Ent) : (entsC l).length = l.length * 2 := by
  induction l with
  | nil => rfl
  | cons x l ih => simp only [entsC, List.flatMap_cons, List.length_append, eC, List.length_cons, List.length_nil] at ih ⊢; omega
theorem entsC_drop : ∀ {l : List Ent} {i : Nat} (h : i < l.length), (entsC l).drop (i * 2) = .int .i64 l[i].op :: .lst .ro l[i].who.length (l[i].who.map .str) :: (entsC l).drop ((i + 1) * 2)
  | [], _, h => by simp at h
  | w :: l, 0, h => by simp [entsC, eC]
  | w :: l, i + 1, h => by
    have := entsC_drop (l := l) (i := i) (by simpa using h)
    simp only [entsC, List.flatMap_cons, eC, List.cons_append, List.nil_append] at this ⊢
    rw [show (i + 1) * 2 = i * 2 + 1 + 1 by omega, show (i + 1 + 1) * 2 = (i + 1) * 2 + 1 + 1 by omega]
    simp only [List.drop_succ_cons, List.getElem_cons_succ]
    exact this
theorem frees_entsC (l : List Ent) : free.frees (entsC l) = true := by
  induction l with
  | nil => rfl
  | cons x l ih => simp only [entsC, List.flatMap_cons, eC, List.cons_append, List.nil_append, free.frees, free, frees_str, Bool.true_and] at ih ⊢; exact ih
theorem idxE_none {x : Ent} : ∀ {l : List Ent}, (∀ y ∈ l, sameEnt x y = false) → idxE x l = -1
  | [], _ => rfl
  | y :: l, h => by
    have h1 := h y (by simp)
    have h2 := idxE_none (x := x) (l := l) (fun z hz => h z (by simp [hz]))
    simp [idxE, h1, h2]
theorem idxE_at {x : Ent} : ∀ {l : List Ent} {i : Nat} (h : i < l.length), (∀ y ∈ l.take i, sameEnt x y = false) → sameEnt x l[i] = true → idxE x l = i
  | [], _, h, _, _ => by simp at h
  | y :: l, 0, h, _, h2 => by
    simp only [List.getElem_cons_zero] at h2
    simp [idxE, h2]
  | y :: l, i + 1, h, h1, h2 => by
    have h3 := h1 y (by simp)
    have h4 := idxE_at (x := x) (l := l) (i := i) (by simpa using h) (fun z hz => h1 z (by simp [hz])) (by simpa using h2)
    simp only [idxE, h3, h4, Bool.false_eq_true, if_false]
    rw [if_neg (by omega)]
    omega
set_option maxRecDepth 100000 in
set_option maxHeartbeats 4000000 in
theorem a_idxf {h : Hp} {b : Nat} {s : Bool} (x : Ent) (l : List Ent) (ho : h[b]? = some (some (s, eC x))) (hx : x.who.length ≤ 9223372036854775807) (hl : l.length ≤ 1000000) :
    ACalls Try.prog 118 [.lst .ro l.length (entsC l), .fn 119 [.ptr b 0]] h (fun a h' => a = .int .i64 (idxE x l) ∧ h = h') := by
  refine acalls_of mixed J_slices_IndexFunc_api_Entry_api_Entry_ok (Nat.le_of_ble_eq_true rfl) ?_; simp only [J_slices_IndexFunc_api_Entry_api_Entry, wk,if_true,if_false,forall_const,implies_true,ne_eq,eq_self,Nat.reduceEqDiff,Nat.reduceAdd,Nat.reduceMul,Nat.reduceSub,Nat.reduceLeDiff,Nat.reduceLT,Int.reduceEq,Int.reduceLT,Int.reduceLE,Int.reduceAdd,Int.reduceSub,Int.reduceMul,Int.reduceNeg,Int.reduceNe,reduceCtorEq,Int.reduceToNat,↓reduceIte]
  refine W_loop (fun n fr h' => ∃ i : Nat, i ≤ l.length ∧ n = l.length - i ∧ h' = h ∧ fr = [(0, .lst .ro l.length (entsC l)), (1, .fn 119 [.ptr b 0]), (7, .int .i64 l.length), (8, .int .i64 i)] ∧ ∀ y ∈ l.take i, sameEnt x y = false) l.length ⟨0, by omega, by omega, rfl, rfl, by simp⟩ ?_
  rintro n fr h' ⟨i, hi, rfl, rfl, rfl, hall⟩
  simp only [J_slices_IndexFunc_api_Entry_api_Entry_j2, wk,if_true,if_false,forall_const,implies_true,ne_eq,eq_self,Nat.reduceEqDiff,Nat.reduceAdd,Nat.reduceMul,Nat.reduceSub,Nat.reduceLeDiff,Nat.reduceLT,Int.reduceEq,Int.reduceLT,Int.reduceLE,Int.reduceAdd,Int.reduceSub,Int.reduceMul,Int.reduceNeg,Int.reduceNe,reduceCtorEq,Int.reduceToNat,↓reduceIte]
  refine ⟨fun hlt => ?_, fun hge => ?_⟩
  · have hil : i < l.length := by omega
    have hd : (entsC l).drop ((i : Int).toNat * 2) = .int .i64 l[i].op :: .lst .ro l[i].who.length (l[i].who.map .str) :: (entsC l).drop ((i + 1) * 2) := by rw [show (i : Int).toNat = i by omega]; exact entsC_drop hil
    refine ⟨⟨by omega, by omega⟩, ?_⟩
    simp only [hd, wk,if_true,if_false,forall_const,implies_true,ne_eq,eq_self,Nat.reduceEqDiff,Nat.reduceAdd,Nat.reduceMul,Nat.reduceSub,Nat.reduceLeDiff,Nat.reduceLT,Int.reduceEq,Int.reduceLT,Int.reduceLE,Int.reduceAdd,Int.reduceSub,Int.reduceMul,Int.reduceNeg,Int.reduceNe,reduceCtorEq,Int.reduceToNat,↓reduceIte]
    have q := a_find1 x l[i] ho hx
    simp only [vE, eC] at q
    refine ACalls.use (q) ?_; rintro _ _ ⟨rfl, rfl⟩; simp only [wk,if_true,if_false,forall_const,implies_true,ne_eq,eq_self,Nat.reduceEqDiff,Nat.reduceAdd,Nat.reduceMul,Nat.reduceSub,Nat.reduceLeDiff,Nat.reduceLT,Int.reduceEq,Int.reduceLT,Int.reduceLE,Int.reduceAdd,Int.reduceSub,Int.reduceMul,Int.reduceNeg,Int.reduceNe,reduceCtorEq,Int.reduceToNat,↓reduceIte]
    refine ⟨fun e => int_eq (idxE_at hil hall e).symm, fun e => ⟨inR_of (by omega) (by omega), l.length - (i + 1), by omega, i + 1, by omega, rfl, by simp, fun y hy => ?_⟩⟩
    rw [List.take_succ_eq_append_getElem hil] at hy
    rcases List.mem_append.1 hy with hy | hy
    · exact hall y hy
    · simp at hy; subst hy; exact e
  · rw [List.take_of_length_le (by omega)] at hall
    simp only [J_slices_IndexFunc_api_Entry_api_Entry_j1, wk,if_true,if_false,forall_const,implies_true,ne_eq,eq_self,Nat.reduceEqDiff,Nat.reduceAdd,Nat.reduceMul,Nat.reduceSub,Nat.reduceLeDiff,Nat.reduceLT,Int.reduceEq,Int.reduceLT,Int.reduceLE,Int.reduceAdd,Int.reduceSub,Int.reduceMul,Int.reduceNeg,Int.reduceNe,reduceCtorEq,Int.reduceToNat,↓reduceIte]
    rw [idxE_none hall]
theorem rdp_fn (f : FuncId) (l : List AV) : rdp (.fn f l) = .fn f (rdps l) := by simp only [rdp]
theorem rdps_ents : ∀ l : List Ent, rdps (entsC l) = entsC l
  | [] => rdps_nil
  | x :: l => by
    have := rdps_ents l
    simp only [entsC, List.flatMap_cons, eC, List.cons_append, List.nil_append, rdpw] at this ⊢
    rw [this]
/-- a list of entries as an object -/
abbrev lObj (f : Fl) (l : List Ent) (ver : Int) : Option (Bool × List AV) := some (false, [.lst f l.length (entsC l), .int .i64 ver])
def okF (f : Fl) : Prop := f = .clip ∨ f = .own 28
set_option maxRecDepth 100000 in
set_option maxHeartbeats 4000000 in
theorem a_find {h : Hp} {id : Nat} {f : Fl} {l : List Ent} {ver : Int} (x : Ent) (hf : okF f) (ho : h[id]? = some (lObj f l ver)) (hx : x.who.length ≤ 9223372036854775807) (hl : l.length ≤ 1000000) :
    ACalls Try.prog 84 [.ptr id 0, vE x] h (fun a h' => a = .int .i64 (idxE x l) ∧ h = h') := by
  have ho' : (h ++ [some (false, eC x)])[id]? = some (lObj f l ver) := hold _ ho
  have q := a_idxf (h := h ++ [some (false, eC x)]) (b := h.length) (s := false) x l (by simp) hx hl
  simp only [vE, eC] at q ho'
  refine ACalls.trim (acalls_of mixed J_acl_List_find_ok (Nat.le_of_ble_eq_true rfl) ?_); simp only [J_acl_List_find, vE, eC, ho', wk,if_true,if_false,forall_const,implies_true,ne_eq,eq_self,Nat.reduceEqDiff,Nat.reduceAdd,Nat.reduceMul,Nat.reduceSub,Nat.reduceLeDiff,Nat.reduceLT,Int.reduceEq,Int.reduceLT,Int.reduceLE,Int.reduceAdd,Int.reduceSub,Int.reduceMul,Int.reduceNeg,Int.reduceNe,reduceCtorEq,Int.reduceToNat,↓reduceIte]
  rcases hf with rfl | rfl
  · simp only [deg_clip, wk,if_true,if_false,forall_const,implies_true,ne_eq,eq_self,Nat.reduceEqDiff,Nat.reduceAdd,Nat.reduceMul,Nat.reduceSub,Nat.reduceLeDiff,Nat.reduceLT,Int.reduceEq,Int.reduceLT,Int.reduceLE,Int.reduceAdd,Int.reduceSub,Int.reduceMul,Int.reduceNeg,Int.reduceNe,reduceCtorEq,Int.reduceToNat,↓reduceIte]
    refine ACalls.use (ACalls.argd (args := [.lst .clip l.length (entsC l), .fn 119 [.ptr h.length 0]]) (by simp only [rdpw, rdps_ents, rdp_fn]; exact q)) ?_
    rintro _ _ ⟨rfl, rfl⟩
    simp only [wk,if_true,if_false,forall_const,implies_true,ne_eq,eq_self,Nat.reduceEqDiff,Nat.reduceAdd,Nat.reduceMul,Nat.reduceSub,Nat.reduceLeDiff,Nat.reduceLT,Int.reduceEq,Int.reduceLT,Int.reduceLE,Int.reduceAdd,Int.reduceSub,Int.reduceMul,Int.reduceNeg,Int.reduceNe,reduceCtorEq,Int.reduceToNat,↓reduceIte]
    exact trimA rfl
  · simp only [deg_own, wk,if_true,if_false,forall_const,implies_true,ne_eq,eq_self,Nat.reduceEqDiff,Nat.reduceAdd,Nat.reduceMul,Nat.reduceSub,Nat.reduceLeDiff,Nat.reduceLT,Int.reduceEq,Int.reduceLT,Int.reduceLE,Int.reduceAdd,Int.reduceSub,Int.reduceMul,Int.reduceNeg,Int.reduceNe,reduceCtorEq,Int.reduceToNat,↓reduceIte]
    refine ACalls.use (q) ?_; rintro _ _ ⟨rfl, rfl⟩; simp only [wk,if_true,if_false,forall_const,implies_true,ne_eq,eq_self,Nat.reduceEqDiff,Nat.reduceAdd,Nat.reduceMul,Nat.reduceSub,Nat.reduceLeDiff,Nat.reduceLT,Int.reduceEq,Int.reduceLT,Int.reduceLE,Int.reduceAdd,Int.reduceSub,Int.reduceMul,Int.reduceNeg,Int.reduceNe,reduceCtorEq,Int.reduceToNat,↓reduceIte]
    exact trimA rfl
end Go.Proofs.Ytcbcnbefaggnhaa

/- acl's lists: Add, New, Remove, All. -/
namespace Go.Proofs.Ytcbcnbefaggnhaa
set_option linter.unusedSimpArgs false
set_option linter.unusedVariables false
open Go.RowKit Go.Lib

/-- what comes of an entry laid behind others: an error, or none -/
def addE (l : List Ent) (x : Ent) : Int := if mayEnt x = true then (if 0 ≤ idxE x l then 11 else if 12 ≤ l.length then 3 else 0) else 2
theorem set_left {h : Hp} {id : Nat} {x : Option (Bool × List AV)} (b : Option (Bool × List AV)) (hi : id < h.length) : (h ++ [b]).set id x = h.set id x ++ [b] := List.set_append_left _ _ hi
theorem entsC_snoc (l : List Ent) (x : Ent) : entsC l ++ [.int .i64 x.op, .lst .ro x.who.length (x.who.map .str)] = entsC (l ++ [x]) := by simp [entsC, eC]
theorem trimB {h ex : Hp} {a : AV} {q : Prop} (hf : free a = true) (hq : q) : ∃ h2 ex', h ++ ex = h2 ++ ex' ∧ h.length ≤ h2.length ∧ low h2.length a = true ∧ (∀ (j : Nat) s l, h2[j]? = some (some (s, l)) → (∃ s', h[j]? = some (some (s', l))) ∨ low.lows h2.length l = true) ∧ q ∧ h = h2 :=
  ⟨h, ex, rfl, Nat.le_refl _, low_free hf, fun _ s _ hl => .inl ⟨s, hl⟩, hq, rfl⟩
theorem deg_okF {f : Fl} (hf : okF f) : ∃ f', (∀ n m, deg (.lst f n m) = .lst f' n m) ∧ ∀ n m, deg (.lst f' n m) = .lst f' n m := by
  rcases hf with rfl | rfl
  · exact ⟨.clip, fun _ _ => rfl, fun _ _ => rfl⟩
  · exact ⟨.ro, fun _ _ => rfl, fun _ _ => rfl⟩
set_option maxRecDepth 100000 in
set_option maxHeartbeats 4000000 in
theorem a_add_no {h : Hp} {id : Nat} {f : Fl} {l : List Ent} {ver : Int} (x : Ent) (hf : okF f) (ho : h[id]? = some (lObj f l ver)) (hx : smallE x) (hl : l.length ≤ 1000000) (he : addE l x ≠ 0) :
    ACalls Try.prog 44 [.ptr id 0, vE x] h (fun a h' => a = .int .i64 (addE l x) ∧ h = h') := by
  have ho' : (h ++ [some (false, eC x)])[id]? = some (lObj f l ver) := hold _ ho
  have q1 := p_emay x hx
  have q2 := a_find (h := h ++ [some (false, eC x)]) (id := id) x hf ho' (by have := hx.1; omega) hl
  simp only [vE, eC] at q1 q2 ho'
  obtain ⟨f', hdeg, hdeg'⟩ := deg_okF hf
  refine ACalls.trim (acalls_of mixed J_acl_List_Add_ok (Nat.le_of_ble_eq_true rfl) ?_); simp only [J_acl_List_Add, vE, eC, ho', hdeg, hdeg', wk,if_true,if_false,forall_const,implies_true,ne_eq,eq_self,Nat.reduceEqDiff,Nat.reduceAdd,Nat.reduceMul,Nat.reduceSub,Nat.reduceLeDiff,Nat.reduceLT,Int.reduceEq,Int.reduceLT,Int.reduceLE,Int.reduceAdd,Int.reduceSub,Int.reduceMul,Int.reduceNeg,Int.reduceNe,reduceCtorEq,Int.reduceToNat,↓reduceIte]
  refine PCalls.use (q1) ?_; simp only [wk,if_true,if_false,forall_const,implies_true,ne_eq,eq_self,Nat.reduceEqDiff,Nat.reduceAdd,Nat.reduceMul,Nat.reduceSub,Nat.reduceLeDiff,Nat.reduceLT,Int.reduceEq,Int.reduceLT,Int.reduceLE,Int.reduceAdd,Int.reduceSub,Int.reduceMul,Int.reduceNeg,Int.reduceNe,reduceCtorEq,Int.reduceToNat,↓reduceIte]
  refine ⟨fun m => trimB rfl (int_eq (by unfold addE; rw [if_neg (by simp [m])])), fun m => ?_⟩
  have e0 : addE l x = if 0 ≤ idxE x l then 11 else if 12 ≤ l.length then 3 else 0 := by unfold addE; rw [if_pos m]
  refine ACalls.use (q2) ?_; rintro _ _ ⟨rfl, rfl⟩; simp only [wk,if_true,if_false,forall_const,implies_true,ne_eq,eq_self,Nat.reduceEqDiff,Nat.reduceAdd,Nat.reduceMul,Nat.reduceSub,Nat.reduceLeDiff,Nat.reduceLT,Int.reduceEq,Int.reduceLT,Int.reduceLE,Int.reduceAdd,Int.reduceSub,Int.reduceMul,Int.reduceNeg,Int.reduceNe,reduceCtorEq,Int.reduceToNat,↓reduceIte]
  refine ⟨fun i => trimB rfl (int_eq (by rw [e0, if_pos i])), fun i => ⟨fun n => trimB rfl (int_eq (by rw [e0, if_neg i, if_pos (by omega)])), fun n => ?_⟩⟩
  exact absurd (by rw [e0, if_neg i, if_neg (by omega)]) he
set_option maxRecDepth 100000 in
set_option maxHeartbeats 4000000 in
theorem a_add_ok {h : Hp} {id : Nat} {f : Fl} {l : List Ent} {ver : Int} (x : Ent) (hf : okF f) (ho : h[id]? = some (lObj f l ver)) (hx : smallE x) (hl : l.length ≤ 1000000) (hv : 0 ≤ ver ∧ ver ≤ 1000000000) (he : addE l x = 0) :
    ACalls Try.prog 44 [.ptr id 0, vE x] h (fun a h' => a = .int .i64 0 ∧ h' = h.set id (lObj (.own 28) (l ++ [x]) (ver + 1))) := by
  have hid : id < h.length := hlt_of ho
  have ho' : (h ++ [some (false, eC x)])[id]? = some (lObj f l ver) := hold _ ho
  have hs1 : ∀ y, ((h ++ [some (false, eC x)]).set id y)[id]? = some y := fun y => hset ho' y
  have q1 := p_emay x hx
  have q2 := a_find (h := h ++ [some (false, eC x)]) (id := id) x hf ho' (by have := hx.1; omega) hl
  have q3 := p_clone x hx
  have hlen := entsC_len l
  have m : mayEnt x = true := by
    unfold addE at he
    split at he
    · next m => exact m
    · cases he
  have i : ¬ 0 ≤ idxE x l := fun i => by unfold addE at he; rw [if_pos m, if_pos i] at he; cases he
  have n : ¬ 12 ≤ l.length := fun n => by unfold addE at he; rw [if_pos m, if_neg i, if_pos n] at he; cases he
  have htk : (entsC l).take (l.length * 2) = entsC l := by rw [← hlen, List.take_length]
  rw [m] at q1
  simp only [vE, eC] at q1 q2 q3 ho' hs1
  obtain ⟨f', hdeg, hdeg'⟩ := deg_okF hf
  refine ACalls.trim (acalls_of mixed J_acl_List_Add_ok (Nat.le_of_ble_eq_true rfl) ?_); simp only [J_acl_List_Add, vE, eC, ho', hdeg, hdeg', wk,if_true,if_false,forall_const,implies_true,ne_eq,eq_self,Nat.reduceEqDiff,Nat.reduceAdd,Nat.reduceMul,Nat.reduceSub,Nat.reduceLeDiff,Nat.reduceLT,Int.reduceEq,Int.reduceLT,Int.reduceLE,Int.reduceAdd,Int.reduceSub,Int.reduceMul,Int.reduceNeg,Int.reduceNe,reduceCtorEq,Int.reduceToNat,↓reduceIte]
  refine PCalls.use (q1) ?_; simp only [wk,if_true,if_false,forall_const,implies_true,ne_eq,eq_self,Nat.reduceEqDiff,Nat.reduceAdd,Nat.reduceMul,Nat.reduceSub,Nat.reduceLeDiff,Nat.reduceLT,Int.reduceEq,Int.reduceLT,Int.reduceLE,Int.reduceAdd,Int.reduceSub,Int.reduceMul,Int.reduceNeg,Int.reduceNe,reduceCtorEq,Int.reduceToNat,↓reduceIte]
  refine ACalls.use (q2) ?_; rintro _ _ ⟨rfl, rfl⟩; simp only [wk,if_true,if_false,forall_const,implies_true,ne_eq,eq_self,Nat.reduceEqDiff,Nat.reduceAdd,Nat.reduceMul,Nat.reduceSub,Nat.reduceLeDiff,Nat.reduceLT,Int.reduceEq,Int.reduceLT,Int.reduceLE,Int.reduceAdd,Int.reduceSub,Int.reduceMul,Int.reduceNeg,Int.reduceNe,reduceCtorEq,Int.reduceToNat,↓reduceIte]
  refine ⟨fun i' => absurd i' i, fun _ => ⟨fun n' => absurd (by omega) n, fun _ => ?_⟩⟩
  simp only [ho', hdeg, hdeg', wk,if_true,if_false,forall_const,implies_true,ne_eq,eq_self,Nat.reduceEqDiff,Nat.reduceAdd,Nat.reduceMul,Nat.reduceSub,Nat.reduceLeDiff,Nat.reduceLT,Int.reduceEq,Int.reduceLT,Int.reduceLE,Int.reduceAdd,Int.reduceSub,Int.reduceMul,Int.reduceNeg,Int.reduceNe,reduceCtorEq,Int.reduceToNat,↓reduceIte]
  refine ⟨⟨by omega, by omega, hlen⟩, _, q3, ?_⟩
  simp only [Int.toNat_natCast, Nat.sub_zero, htk, hs1, wk,if_true,if_false,forall_const,implies_true,ne_eq,eq_self,Nat.reduceEqDiff,Nat.reduceAdd,Nat.reduceMul,Nat.reduceSub,Nat.reduceLeDiff,Nat.reduceLT,Int.reduceEq,Int.reduceLT,Int.reduceLE,Int.reduceAdd,Int.reduceSub,Int.reduceMul,Int.reduceNeg,Int.reduceNe,reduceCtorEq,Int.reduceToNat,↓reduceIte]
  rw [entsC_snoc]
  refine ⟨⟨hlen, by omega, by omega⟩, inR_of (by omega) (by omega), ?_⟩
  rw [set_left _ hid]
  have hn : l.length + 1 = (l ++ [x]).length := by simp
  rw [hn]
  exact trimS rfl (by simp [free.frees, free, frees_entsC])
end Go.Proofs.Ytcbcnbefaggnhaa

/- acl's New. -/
namespace Go.Proofs.Ytcbcnbefaggnhaa
set_option linter.unusedSimpArgs false
set_option linter.unusedVariables false
open Go.RowKit Go.Lib

/-- what comes of entries laid one behind the other: an error, or none -/
def newE : List Ent → List Ent → Int
  | _, [] => 0
  | acc, x :: r => if addE acc x = 0 then newE (acc ++ [x]) r else addE acc x
theorem mid_get (h ex : Hp) (o : Option (Bool × List AV)) : (h ++ o :: ex)[h.length]? = some o := by simp
theorem mid_set (h ex : Hp) (o o' : Option (Bool × List AV)) : (h ++ o :: ex).set h.length o' = h ++ o' :: ex := by simp
theorem mid_app (h ex : Hp) (o y : Option (Bool × List AV)) : (h ++ o :: ex) ++ [y] = h ++ o :: (ex ++ [y]) := by simp
theorem trimN {h ex : Hp} {a : AV} {s : Bool} {l : List AV} {q : Prop} (hf : low (h.length + 1) a = true) (hl : free.frees l = true) (hq : q) : ∃ h2 ex', h ++ some (s, l) :: ex = h2 ++ ex' ∧ h.length ≤ h2.length ∧ low h2.length a = true ∧ (∀ (j : Nat) s l, h2[j]? = some (some (s, l)) → (∃ s', h[j]? = some (some (s', l))) ∨ low.lows h2.length l = true) ∧ q ∧ h2 = h ++ [some (s, l)] := by
  refine ⟨h ++ [some (s, l)], ex, by simp, by simp, by simpa using hf, fun j s' l' hj => ?_, hq, rfl⟩
  by_cases hj' : j < h.length
  · rw [List.getElem?_append_left hj'] at hj; exact .inl ⟨_, hj⟩
  · rw [List.getElem?_append_right (by omega)] at hj
    have hj0 : j - h.length = 0 := by
      rcases Nat.eq_zero_or_pos (j - h.length) with h0 | h0
      · exact h0
      · rw [List.getElem?_eq_none (by simp; omega)] at hj; cases hj
    rw [hj0] at hj
    simp only [List.getElem?_cons_zero, Option.some.injEq, Prod.mk.injEq] at hj
    obtain ⟨_, rfl⟩ := hj
    exact .inr (lows_free hl)
theorem newE_at {l : List Ent} {i : Nat} (hi : i < l.length) : newE (l.take i) (l.drop i) = if addE (l.take i) l[i] = 0 then newE (l.take (i + 1)) (l.drop (i + 1)) else addE (l.take i) l[i] := by
  rw [List.drop_eq_getElem_cons hi, newE, List.take_succ_eq_append_getElem hi]
/-- what New hands out -/
def NewPost (h : Hp) (l : List Ent) (a : AV) (h' : Hp) : Prop :=
  if newE [] l = 0 then ∃ f, okF f ∧ a = .tup [.ptr h.length 0, .int .i64 0] ∧ h' = h ++ [lObj f l 0] else a = .tup [.nilp, .int .i64 (newE [] l)] ∧ h = h'
set_option maxRecDepth 100000 in
set_option maxHeartbeats 4000000 in
theorem a_new {h : Hp} (l : List Ent) (hl : l.length ≤ 1000000) (hs : ∀ x ∈ l, smallE x) : ACalls Try.prog 50 [.lst .ro l.length (entsC l)] h (NewPost h l) := by
  refine ACalls.trim (acalls_of mixed J_acl_New_ok (Nat.le_of_ble_eq_true rfl) ?_); simp only [J_acl_New, wk,if_true,if_false,forall_const,implies_true,ne_eq,eq_self,Nat.reduceEqDiff,Nat.reduceAdd,Nat.reduceMul,Nat.reduceSub,Nat.reduceLeDiff,Nat.reduceLT,Int.reduceEq,Int.reduceLT,Int.reduceLE,Int.reduceAdd,Int.reduceSub,Int.reduceMul,Int.reduceNeg,Int.reduceNe,reduceCtorEq,Int.reduceToNat,↓reduceIte]
  refine W_loop (fun n fr h' => ∃ (i : Nat) (f : Fl) (ex : Hp), i ≤ l.length ∧ n = l.length - i ∧ okF f ∧ h' = h ++ lObj f (l.take i) i :: ex ∧ newE [] l = newE (l.take i) (l.drop i) ∧ fr = [(4, .ptr h.length 0), (10, .lst .ro l.length (entsC l)), (11, .int .i64 l.length), (12, .int .i64 i)]) l.length ⟨0, .clip, [], by omega, by omega, .inl rfl, rfl, rfl, rfl⟩ ?_
  rintro n fr h' ⟨i, f, ex, hi, rfl, hf, rfl, hnew, rfl⟩
  simp only [J_acl_New_j2, wk,if_true,if_false,forall_const,implies_true,ne_eq,eq_self,Nat.reduceEqDiff,Nat.reduceAdd,Nat.reduceMul,Nat.reduceSub,Nat.reduceLeDiff,Nat.reduceLT,Int.reduceEq,Int.reduceLT,Int.reduceLE,Int.reduceAdd,Int.reduceSub,Int.reduceMul,Int.reduceNeg,Int.reduceNe,reduceCtorEq,Int.reduceToNat,↓reduceIte]
  refine ⟨fun hlt => ?_, fun hge => ?_⟩
  · have hil : i < l.length := by omega
    have hd : (entsC l).drop ((i : Int).toNat * 2) = .int .i64 l[i].op :: .lst .ro l[i].who.length (l[i].who.map .str) :: (entsC l).drop ((i + 1) * 2) := by rw [show (i : Int).toNat = i by omega]; exact entsC_drop hil
    rw [newE_at hil] at hnew
    have hxs := hs _ (List.getElem_mem hil)
    refine ⟨⟨by omega, by omega⟩, ?_⟩
    simp only [hd, wk,if_true,if_false,forall_const,implies_true,ne_eq,eq_self,Nat.reduceEqDiff,Nat.reduceAdd,Nat.reduceMul,Nat.reduceSub,Nat.reduceLeDiff,Nat.reduceLT,Int.reduceEq,Int.reduceLT,Int.reduceLE,Int.reduceAdd,Int.reduceSub,Int.reduceMul,Int.reduceNeg,Int.reduceNe,reduceCtorEq,Int.reduceToNat,↓reduceIte]
    rw [mid_app]
    have htl : (l.take i).length = i := by simp; omega
    by_cases he : addE (l.take i) l[i] = 0
    · have q := a_add_ok (h := h ++ lObj f (l.take i) i :: (ex ++ [some (true, eC l[i])])) (id := h.length) l[i] hf (mid_get _ _ _) hxs (by omega) (by omega) he
      rw [if_pos he] at hnew
      rw [mid_set] at q
      simp only [vE, eC] at q
      refine ACalls.use (q) ?_; rintro _ _ ⟨rfl, rfl⟩; simp only [wk,if_true,if_false,forall_const,implies_true,ne_eq,eq_self,Nat.reduceEqDiff,Nat.reduceAdd,Nat.reduceMul,Nat.reduceSub,Nat.reduceLeDiff,Nat.reduceLT,Int.reduceEq,Int.reduceLT,Int.reduceLE,Int.reduceAdd,Int.reduceSub,Int.reduceMul,Int.reduceNeg,Int.reduceNe,reduceCtorEq,Int.reduceToNat,↓reduceIte]
      refine ⟨inR_of (by omega) (by omega), l.length - (i + 1), by omega, i + 1, .own 28, ex ++ [some (true, eC l[i])], by omega, rfl, .inr rfl, ?_, hnew, by simp⟩
      rw [List.take_succ_eq_append_getElem hil]
      simp [eC]
    · have q := a_add_no (h := h ++ lObj f (l.take i) i :: (ex ++ [some (true, eC l[i])])) (id := h.length) l[i] hf (mid_get _ _ _) hxs (by omega) he
      rw [if_neg he] at hnew
      simp only [vE, eC] at q
      refine ACalls.use (q) ?_; rintro _ _ ⟨rfl, rfl⟩; simp only [wk,if_true,if_false,forall_const,implies_true,ne_eq,eq_self,Nat.reduceEqDiff,Nat.reduceAdd,Nat.reduceMul,Nat.reduceSub,Nat.reduceLeDiff,Nat.reduceLT,Int.reduceEq,Int.reduceLT,Int.reduceLE,Int.reduceAdd,Int.reduceSub,Int.reduceMul,Int.reduceNeg,Int.reduceNe,reduceCtorEq,Int.reduceToNat,↓reduceIte]
      refine ⟨fun _ => ⟨h, _, rfl, Nat.le_refl _, by simp [low, low.lows], fun _ s _ hl => .inl ⟨s, hl⟩, ?_⟩, fun e => absurd e he⟩
      unfold NewPost
      rw [hnew, if_neg he]
      exact ⟨rfl, rfl⟩
  · rw [List.take_of_length_le (by omega), List.drop_of_length_le (by omega)] at hnew
    simp only [newE] at hnew
    rw [List.take_of_length_le (by omega)]
    simp only [J_acl_New_j1, mid_get, mid_set, wk,if_true,if_false,forall_const,implies_true,ne_eq,eq_self,Nat.reduceEqDiff,Nat.reduceAdd,Nat.reduceMul,Nat.reduceSub,Nat.reduceLeDiff,Nat.reduceLT,Int.reduceEq,Int.reduceLT,Int.reduceLE,Int.reduceAdd,Int.reduceSub,Int.reduceMul,Int.reduceNeg,Int.reduceNe,reduceCtorEq,Int.reduceToNat,↓reduceIte]
    obtain ⟨h2, ex', k1, k2, k3, k4, k5, k6⟩ := trimN (h := h) (ex := ex) (a := .tup [.ptr h.length 0, .int .i64 0]) (s := false) (l := [.lst f l.length (entsC l), .int .i64 0]) (q := True) (by simp [low, low.lows]) (by simp [free.frees, free, frees_entsC]) trivial
    refine ⟨h2, ex', k1, k2, k3, k4, ?_⟩
    unfold NewPost
    rw [if_pos hnew]
    exact ⟨f, hf, rfl, k6⟩
theorem entsC_app (a b : List Ent) : entsC (a ++ b) = entsC a ++ entsC b := by simp [entsC]
theorem entsC_take (l : List Ent) (i : Nat) (hi : i ≤ l.length) : (entsC l).take (i * 2) = entsC (l.take i) := by
  have h1 : entsC l = entsC (l.take i) ++ entsC (l.drop i) := by rw [← entsC_app, List.take_append_drop]
  have h2 : (entsC (l.take i)).length = i * 2 := by rw [entsC_len]; simp; omega
  rw [h1, ← h2, List.take_left]
theorem entsC_dropn (l : List Ent) (i : Nat) (hi : i ≤ l.length) : (entsC l).drop (i * 2) = entsC (l.drop i) := by
  have h1 : entsC l = entsC (l.take i) ++ entsC (l.drop i) := by rw [← entsC_app, List.take_append_drop]
  have h2 : (entsC (l.take i)).length = i * 2 := by rw [entsC_len]; simp; omega
  rw [h1, ← h2, List.drop_left]
/-- the entries without the i-th -/
def without (l : List Ent) (i : Nat) : List Ent := l.take i ++ l.drop (i + 1)
def remE (l : List Ent) (x : Ent) : Int := if mayEnt x = true then (if idxE x l < 0 then 10 else 0) else 2
theorem idxE_lt (x : Ent) : ∀ l : List Ent, -1 ≤ idxE x l ∧ idxE x l < l.length
  | [] => by simp [idxE]
  | y :: l => by
    have := idxE_lt x l
    simp only [idxE, List.length_cons]
    split
    · omega
    · split <;> omega
set_option maxRecDepth 100000 in
set_option maxHeartbeats 4000000 in
theorem a_rem_no {h : Hp} {id : Nat} {f : Fl} {l : List Ent} {ver : Int} (x : Ent) (hf : okF f) (ho : h[id]? = some (lObj f l ver)) (hx : smallE x) (hl : l.length ≤ 1000000) (he : remE l x ≠ 0) :
    ACalls Try.prog 45 [.ptr id 0, vE x] h (fun a h' => a = .int .i64 (remE l x) ∧ h = h') := by
  have ho' : (h ++ [some (false, eC x)])[id]? = some (lObj f l ver) := hold _ ho
  have q1 := p_emay x hx
  have q2 := a_find (h := h ++ [some (false, eC x)]) (id := id) x hf ho' (by have := hx.1; omega) hl
  simp only [vE, eC] at q1 q2 ho'
  obtain ⟨f', hdeg, hdeg'⟩ := deg_okF hf
  refine ACalls.trim (acalls_of mixed J_acl_List_Remove_ok (Nat.le_of_ble_eq_true rfl) ?_); simp only [J_acl_List_Remove, vE, eC, ho', hdeg, hdeg', wk,if_true,if_false,forall_const,implies_true,ne_eq,eq_self,Nat.reduceEqDiff,Nat.reduceAdd,Nat.reduceMul,Nat.reduceSub,Nat.reduceLeDiff,Nat.reduceLT,Int.reduceEq,Int.reduceLT,Int.reduceLE,Int.reduceAdd,Int.reduceSub,Int.reduceMul,Int.reduceNeg,Int.reduceNe,reduceCtorEq,Int.reduceToNat,↓reduceIte]
  refine PCalls.use (q1) ?_; simp only [wk,if_true,if_false,forall_const,implies_true,ne_eq,eq_self,Nat.reduceEqDiff,Nat.reduceAdd,Nat.reduceMul,Nat.reduceSub,Nat.reduceLeDiff,Nat.reduceLT,Int.reduceEq,Int.reduceLT,Int.reduceLE,Int.reduceAdd,Int.reduceSub,Int.reduceMul,Int.reduceNeg,Int.reduceNe,reduceCtorEq,Int.reduceToNat,↓reduceIte]
  refine ⟨fun m => trimB rfl (int_eq (by unfold remE; rw [if_neg (by simp [m])])), fun m => ?_⟩
  have e0 : remE l x = if idxE x l < 0 then 10 else 0 := by unfold remE; rw [if_pos m]
  refine ACalls.use (q2) ?_; rintro _ _ ⟨rfl, rfl⟩; simp only [wk,if_true,if_false,forall_const,implies_true,ne_eq,eq_self,Nat.reduceEqDiff,Nat.reduceAdd,Nat.reduceMul,Nat.reduceSub,Nat.reduceLeDiff,Nat.reduceLT,Int.reduceEq,Int.reduceLT,Int.reduceLE,Int.reduceAdd,Int.reduceSub,Int.reduceMul,Int.reduceNeg,Int.reduceNe,reduceCtorEq,Int.reduceToNat,↓reduceIte]
  refine ⟨fun i => trimB rfl (int_eq (by rw [e0, if_pos i])), fun i => ?_⟩
  exact absurd (by rw [e0, if_neg i]) he
set_option maxRecDepth 100000 in
set_option maxHeartbeats 4000000 in
theorem a_rem_ok {h : Hp} {id : Nat} {f : Fl} {l : List Ent} {ver : Int} (x : Ent) (hf : okF f) (ho : h[id]? = some (lObj f l ver)) (hx : smallE x) (hl : l.length ≤ 1000000) (hv : 0 ≤ ver ∧ ver ≤ 1000000000) (he : remE l x = 0) :
    ACalls Try.prog 45 [.ptr id 0, vE x] h (fun a h' => a = .int .i64 0 ∧ h' = h.set id (lObj (.own 28) (without l (idxE x l).toNat) (ver + 1))) := by
  have hid : id < h.length := hlt_of ho
  have ho' : (h ++ [some (false, eC x)])[id]? = some (lObj f l ver) := hold _ ho
  have hs1 : ∀ y, ((h ++ [some (false, eC x)]).set id y)[id]? = some y := fun y => hset ho' y
  have q1 := p_emay x hx
  have q2 := a_find (h := h ++ [some (false, eC x)]) (id := id) x hf ho' (by have := hx.1; omega) hl
  have hlen := entsC_len l
  have m : mayEnt x = true := by
    unfold remE at he
    split at he
    · next m => exact m
    · cases he
  have i : ¬ idxE x l < 0 := fun i => by unfold remE at he; rw [if_pos m, if_pos i] at he; cases he
  have hlt := idxE_lt x l
  obtain ⟨k, hk⟩ : ∃ k : Nat, idxE x l = k := ⟨(idxE x l).toNat, by omega⟩
  rw [m] at q1
  rw [hk] at q2 ⊢
  simp only [vE, eC] at q1 q2 ho' hs1
  obtain ⟨f', hdeg, hdeg'⟩ := deg_okF hf
  refine ACalls.trim (acalls_of mixed J_acl_List_Remove_ok (Nat.le_of_ble_eq_true rfl) ?_); simp only [J_acl_List_Remove, vE, eC, ho', hdeg, hdeg', wk,if_true,if_false,forall_const,implies_true,ne_eq,eq_self,Nat.reduceEqDiff,Nat.reduceAdd,Nat.reduceMul,Nat.reduceSub,Nat.reduceLeDiff,Nat.reduceLT,Int.reduceEq,Int.reduceLT,Int.reduceLE,Int.reduceAdd,Int.reduceSub,Int.reduceMul,Int.reduceNeg,Int.reduceNe,reduceCtorEq,Int.reduceToNat,↓reduceIte]
  refine PCalls.use (q1) ?_; simp only [wk,if_true,if_false,forall_const,implies_true,ne_eq,eq_self,Nat.reduceEqDiff,Nat.reduceAdd,Nat.reduceMul,Nat.reduceSub,Nat.reduceLeDiff,Nat.reduceLT,Int.reduceEq,Int.reduceLT,Int.reduceLE,Int.reduceAdd,Int.reduceSub,Int.reduceMul,Int.reduceNeg,Int.reduceNe,reduceCtorEq,Int.reduceToNat,↓reduceIte]
  refine ACalls.use (q2) ?_; rintro _ _ ⟨rfl, rfl⟩; simp only [wk,if_true,if_false,forall_const,implies_true,ne_eq,eq_self,Nat.reduceEqDiff,Nat.reduceAdd,Nat.reduceMul,Nat.reduceSub,Nat.reduceLeDiff,Nat.reduceLT,Int.reduceEq,Int.reduceLT,Int.reduceLE,Int.reduceAdd,Int.reduceSub,Int.reduceMul,Int.reduceNeg,Int.reduceNe,reduceCtorEq,Int.reduceToNat,↓reduceIte]
  refine ⟨fun i' => by omega, fun _ => ?_⟩
  simp only [ho', hdeg, hdeg', wk,if_true,if_false,forall_const,implies_true,ne_eq,eq_self,Nat.reduceEqDiff,Nat.reduceAdd,Nat.reduceMul,Nat.reduceSub,Nat.reduceLeDiff,Nat.reduceLT,Int.reduceEq,Int.reduceLT,Int.reduceLE,Int.reduceAdd,Int.reduceSub,Int.reduceMul,Int.reduceNeg,Int.reduceNe,reduceCtorEq,Int.reduceToNat,↓reduceIte]
  have t3 : ((k : Int) + 1).toNat = k + 1 := by omega
  have t4 : (entsC (l.drop (k + 1))).take ((l.length - (k + 1)) * 2) = entsC (l.drop (k + 1)) := List.take_of_length_le (by rw [entsC_len]; simp)
  simp only [Int.toNat_natCast, Nat.sub_zero, t3, entsC_take l k (by omega), entsC_dropn l (k + 1) (by omega), t4, hs1, wk,if_true,if_false,forall_const,implies_true,ne_eq,eq_self,Nat.reduceEqDiff,Nat.reduceAdd,Nat.reduceMul,Nat.reduceSub,Nat.reduceLeDiff,Nat.reduceLT,Int.reduceEq,Int.reduceLT,Int.reduceLE,Int.reduceAdd,Int.reduceSub,Int.reduceMul,Int.reduceNeg,Int.reduceNe,reduceCtorEq,Int.reduceToNat,↓reduceIte]
  refine ⟨⟨by omega, by omega, hlen⟩, inR_of (by omega) (by omega), ⟨by omega, by omega, by omega, hlen⟩, ⟨by rw [entsC_len]; simp; omega, by rw [entsC_len]; simp, by omega, by omega⟩, inR_of (by omega) (by omega), ?_⟩
  rw [set_left _ hid]
  have hn : k + (l.length - (k + 1)) = (without l k).length := by simp [without]; omega
  have hw : entsC (l.take k) ++ entsC (l.drop (k + 1)) = entsC (without l k) := by rw [← entsC_app]; rfl
  rw [hn, hw]
  exact trimS rfl (by simp [free.frees, free, frees_entsC])
end Go.Proofs.Ytcbcnbefaggnhaa

/- acl's All; record's entries. -/
namespace Go.Proofs.Ytcbcnbefaggnhaa
set_option linter.unusedSimpArgs false
set_option linter.unusedVariables false
open Go.RowKit Go.Lib

theorem entsC_succ {l : List Ent} {i : Nat} (hil : i < l.length) : entsC (l.take i) ++ [.int .i64 l[i].op, .lst .ro l[i].who.length (l[i].who.map .str)] = entsC (l.take (i + 1)) := by
  rw [List.take_succ_eq_append_getElem hil, entsC_app]
  simp [entsC, eC]
set_option maxRecDepth 100000 in
set_option maxHeartbeats 4000000 in
theorem a_all {h : Hp} {id : Nat} {f : Fl} {l : List Ent} {ver : Int} (hf : okF f) (ho : h[id]? = some (lObj f l ver)) (hl : l.length ≤ 1000000) (hs : ∀ x ∈ l, smallE x) :
    ACalls Try.prog 82 [.ptr id 0] h (fun a h' => a = .lst .ro l.length (entsC l) ∧ h = h') := by
  obtain ⟨f', hdeg, hdeg'⟩ := deg_okF hf
  refine ACalls.trim (acalls_of mixed J_acl_List_All_ok (Nat.le_of_ble_eq_true rfl) ?_); simp only [J_acl_List_All, ho, hdeg, hdeg', wk,if_true,if_false,forall_const,implies_true,ne_eq,eq_self,Nat.reduceEqDiff,Nat.reduceAdd,Nat.reduceMul,Nat.reduceSub,Nat.reduceLeDiff,Nat.reduceLT,Int.reduceEq,Int.reduceLT,Int.reduceLE,Int.reduceAdd,Int.reduceSub,Int.reduceMul,Int.reduceNeg,Int.reduceNe,reduceCtorEq,Int.reduceToNat,↓reduceIte]
  refine W_loop (fun n fr h' => ∃ (i : Nat) (ex : Hp), i ≤ l.length ∧ n = l.length - i ∧ h' = h ++ ex ∧ fr = [(3, .lst (.own 28) i (entsC (l.take i))), (9, .lst f' l.length (entsC l)), (10, .int .i64 l.length), (11, .int .i64 i)]) l.length ⟨0, [], by omega, by omega, by simp, rfl⟩ ?_
  rintro n fr h' ⟨i, ex, hi, rfl, rfl, rfl⟩
  simp only [J_acl_List_All_j2, wk,if_true,if_false,forall_const,implies_true,ne_eq,eq_self,Nat.reduceEqDiff,Nat.reduceAdd,Nat.reduceMul,Nat.reduceSub,Nat.reduceLeDiff,Nat.reduceLT,Int.reduceEq,Int.reduceLT,Int.reduceLE,Int.reduceAdd,Int.reduceSub,Int.reduceMul,Int.reduceNeg,Int.reduceNe,reduceCtorEq,Int.reduceToNat,↓reduceIte]
  refine ⟨fun hlt => ?_, fun hge => ?_⟩
  · have hil : i < l.length := by omega
    have hd : (entsC l).drop ((i : Int).toNat * 2) = .int .i64 l[i].op :: .lst .ro l[i].who.length (l[i].who.map .str) :: (entsC l).drop ((i + 1) * 2) := by rw [show (i : Int).toNat = i by omega]; exact entsC_drop hil
    have q := p_clone l[i] (hs _ (List.getElem_mem hil))
    simp only [vE, eC] at q
    simp only [hdeg', hd, wk,if_true,if_false,forall_const,implies_true,ne_eq,eq_self,Nat.reduceEqDiff,Nat.reduceAdd,Nat.reduceMul,Nat.reduceSub,Nat.reduceLeDiff,Nat.reduceLT,Int.reduceEq,Int.reduceLT,Int.reduceLE,Int.reduceAdd,Int.reduceSub,Int.reduceMul,Int.reduceNeg,Int.reduceNe,reduceCtorEq,Int.reduceToNat,↓reduceIte]
    refine ⟨⟨by omega, by omega⟩, ?_⟩
    refine PCalls.use (q) ?_; simp only [wk,if_true,if_false,forall_const,implies_true,ne_eq,eq_self,Nat.reduceEqDiff,Nat.reduceAdd,Nat.reduceMul,Nat.reduceSub,Nat.reduceLeDiff,Nat.reduceLT,Int.reduceEq,Int.reduceLT,Int.reduceLE,Int.reduceAdd,Int.reduceSub,Int.reduceMul,Int.reduceNeg,Int.reduceNe,reduceCtorEq,Int.reduceToNat,↓reduceIte]
    refine ⟨⟨by omega, by omega⟩, inR_of (by omega) (by omega), l.length - (i + 1), by omega, i + 1, _, by omega, rfl, List.append_assoc _ _ _, ?_⟩
    rw [entsC_succ hil]
    simp
  · have : i = l.length := by omega
    subst this
    rw [List.take_length]
    simp only [J_acl_List_All_j1, wk,if_true,if_false,forall_const,implies_true,ne_eq,eq_self,Nat.reduceEqDiff,Nat.reduceAdd,Nat.reduceMul,Nat.reduceSub,Nat.reduceLeDiff,Nat.reduceLT,Int.reduceEq,Int.reduceLT,Int.reduceLE,Int.reduceAdd,Int.reduceSub,Int.reduceMul,Int.reduceNeg,Int.reduceNe,reduceCtorEq,Int.reduceToNat,↓reduceIte]
    exact trimA (by simp [free, frees_entsC])
/-- entries that are not filled yet -/
def zE : Nat → List AV
  | 0 => []
  | n + 1 => .int .i64 0 :: .lst .clip 0 [] :: zE n
theorem zE_eq (n : Nat) : ((List.range (n * 2)).map fun i => [AV.int .i64 0, .lst .clip 0 []].getD (i % 2) .nilp) = zE n := by
  induction n with
  | zero => rfl
  | succ n ih =>
    have h1 : ∀ m k : Nat, ((List.range' k (m * 2)).map fun i => [AV.int .i64 0, .lst .clip 0 []].getD (i % 2) .nilp) = if k % 2 = 0 then zE m else ((List.range' k (m * 2)).map fun i => [AV.int .i64 0, .lst .clip 0 []].getD (i % 2) .nilp) := by
      intro m
      induction m with
      | zero => intro k; simp [zE]
      | succ m ihm =>
        intro k
        split
        · next hk =>
          rw [show (m + 1) * 2 = m * 2 + 1 + 1 by omega, List.range'_succ, List.range'_succ]
          simp only [List.map_cons]
          have h2 := ihm (k + 1 + 1)
          rw [if_pos (by omega)] at h2
          rw [h2, show k % 2 = 0 from hk, show (k + 1) % 2 = 1 by omega]
          rfl
        · rfl
    have := h1 (n + 1) 0
    rw [if_pos rfl, ← List.range_eq_range'] at this
    exact this
theorem set_two {A B : List AV} {n : Nat} (hn : A.length = n) (a b x y : AV) : ((A ++ a :: b :: B).set n x).set (n + 1) y = A ++ x :: y :: B := by
  subst hn
  rw [List.set_append_right _ _ (Nat.le_refl _), List.set_append_right _ _ (by omega)]
  simp
theorem zE_len (n : Nat) : (zE n).length = n * 2 := by
  induction n with
  | zero => rfl
  | succ n ih => simp only [zE, List.length_cons, ih]; omega
theorem degs_ents (l : List Ent) : (entsC l).map deg = entsC l := by
  induction l with
  | nil => rfl
  | cons x l ih =>
    simp only [entsC, List.flatMap_cons, eC, List.cons_append, List.nil_append, List.map_cons] at ih ⊢
    rw [ih]
    rfl
theorem splice_two (A B : List AV) (a b x y : AV) : splice (A ++ a :: b :: B) A.length [x, y] = A ++ x :: y :: B := by
  simp only [splice]
  rw [List.set_append_right _ _ (Nat.le_refl _), List.set_append_right _ _ (by omega)]
  simp
set_option maxRecDepth 100000 in
set_option maxHeartbeats 4000000 in
theorem p_entries (l : List Ent) (hl : l.length ≤ 1000000) (hs : ∀ x ∈ l, smallE x) : PCalls Try.prog 81 [.lst .ro l.length (entsC l)] (.lst .ro l.length (entsC l)) := by
  refine pcalls_fz (by simp [free.frees, free, frees_entsC]) (by simp [free, frees_entsC]) (acalls_of mixed J_record_entries_ok (Nat.le_of_ble_eq_true rfl) ?_); simp only [J_record_entries, wk,if_true,if_false,forall_const,implies_true,ne_eq,eq_self,Nat.reduceEqDiff,Nat.reduceAdd,Nat.reduceMul,Nat.reduceSub,Nat.reduceLeDiff,Nat.reduceLT,Int.reduceEq,Int.reduceLT,Int.reduceLE,Int.reduceAdd,Int.reduceSub,Int.reduceMul,Int.reduceNeg,Int.reduceNe,reduceCtorEq,Int.reduceToNat,↓reduceIte]
  refine ⟨⟨by omega, by omega, by omega⟩, ?_⟩
  refine W_loop (fun n fr h' => ∃ (i : Nat) (ex : Hp), i ≤ l.length ∧ n = l.length - i ∧ h' = some (false, entsC (l.take i) ++ zE (l.length - i)) :: ex ∧ fr = [(3, .hs 0 l.length), (9, .lst .ro l.length (entsC l)), (10, .int .i64 l.length), (11, .int .i64 i)]) l.length ⟨0, [], by omega, by omega, ?_, rfl⟩ ?_
  · rw [← zE_eq]; simp [entsC]
  rintro n fr h' ⟨i, ex, hi, rfl, rfl, rfl⟩
  simp only [J_record_entries_j2, wk,if_true,if_false,forall_const,implies_true,ne_eq,eq_self,Nat.reduceEqDiff,Nat.reduceAdd,Nat.reduceMul,Nat.reduceSub,Nat.reduceLeDiff,Nat.reduceLT,Int.reduceEq,Int.reduceLT,Int.reduceLE,Int.reduceAdd,Int.reduceSub,Int.reduceMul,Int.reduceNeg,Int.reduceNe,reduceCtorEq,Int.reduceToNat,↓reduceIte]
  refine ⟨fun hlt => ?_, fun hge => ?_⟩
  · have hil : i < l.length := by omega
    have hd : (entsC l).drop ((i : Int).toNat * 2) = .int .i64 l[i].op :: .lst .ro l[i].who.length (l[i].who.map .str) :: (entsC l).drop ((i + 1) * 2) := by rw [show (i : Int).toNat = i by omega]; exact entsC_drop hil
    have hsz := (hs _ (List.getElem_mem hil)).1
    refine ⟨⟨by omega, by omega⟩, ?_⟩
    simp only [hd, wk,if_true,if_false,forall_const,implies_true,ne_eq,eq_self,Nat.reduceEqDiff,Nat.reduceAdd,Nat.reduceMul,Nat.reduceSub,Nat.reduceLeDiff,Nat.reduceLT,Int.reduceEq,Int.reduceLT,Int.reduceLE,Int.reduceAdd,Int.reduceSub,Int.reduceMul,Int.reduceNeg,Int.reduceNe,reduceCtorEq,Int.reduceToNat,↓reduceIte]
    have hA : (entsC (l.take i)).length = i * 2 := by rw [entsC_len]; simp; omega
    have hz : zE (l.length - i) = .int .i64 0 :: .lst .clip 0 [] :: zE (l.length - (i + 1)) := by rw [show l.length - i = (l.length - (i + 1)) + 1 by omega]; rfl
    refine ⟨⟨by simp, by omega, by omega⟩, ⟨by omega, by omega⟩, by rw [List.length_append, hA, zE_len]; omega, inR_of (by omega) (by omega), l.length - (i + 1), by omega, i + 1, ex ++ [some (true, [.int .i64 l[i].op, .lst .ro l[i].who.length (l[i].who.map .str)])], by omega, rfl, ?_, by simp⟩
    rw [show (i : Int).toNat = i by omega, hz, set_two hA, ← entsC_succ hil, List.append_assoc]
    rfl
  · have : i = l.length := by omega
    subst this
    simp only [J_record_entries_j1, wk,if_true,if_false,forall_const,implies_true,ne_eq,eq_self,Nat.reduceEqDiff,Nat.reduceAdd,Nat.reduceMul,Nat.reduceSub,Nat.reduceLeDiff,Nat.reduceLT,Int.reduceEq,Int.reduceLT,Int.reduceLE,Int.reduceAdd,Int.reduceSub,Int.reduceMul,Int.reduceNeg,Int.reduceNe,reduceCtorEq,Int.reduceToNat,↓reduceIte]
    rw [fz_hs (s := false) (l := entsC l) (by rw [List.take_length, Nat.sub_self]; simp [zE]), degs_ents]
end Go.Proofs.Ytcbcnbefaggnhaa

/- Records: May, Asks. -/
namespace Go.Proofs.Ytcbcnbefaggnhaa
set_option linter.unusedSimpArgs false
set_option linter.unusedVariables false
open Go.RowKit Go.Lib

structure Obt where
  value : Int
  ents : List Ent
  version : Int
structure Rcd where
  boot : Int
  objs : List Obt
structure Rqs where
  object : Int
  op : Int
  arg : Int
  ent : Ent
def oC (o : Obt) : List AV := [.int .i64 o.value, .lst .ro o.ents.length (entsC o.ents), .int .i64 o.version]
def objsC (l : List Obt) : List AV := l.flatMap oC
def rC (r : Rcd) : List AV := [.int .i64 r.boot, .lst .ro r.objs.length (objsC r.objs)]
def vR (r : Rcd) : AV := .agg (rC r)
def qC (q : Rqs) : List AV := [.int .i64 q.object, .int .i64 q.op, .int .i64 q.arg, .int .i64 q.ent.op, .lst .ro q.ent.who.length (q.ent.who.map .str)]
def vQ (q : Rqs) : AV := .agg (qC q)
def smallO (o : Obt) : Prop := o.ents.length ≤ 1000 ∧ ∀ x ∈ o.ents, smallE x
def smallR (r : Rcd) : Prop := r.objs.length ≤ 1000 ∧ ∀ o ∈ r.objs, smallO o
theorem frees_objsC (l : List Obt) : free.frees (objsC l) = true := by
  induction l with
  | nil => rfl
  | cons x l ih => simp only [objsC, List.flatMap_cons, oC, List.cons_append, List.nil_append, free.frees, free, frees_entsC, Bool.true_and] at ih ⊢; exact ih
theorem free_vR (r : Rcd) : free (vR r) = true := by simp [vR, rC, free, free.frees, frees_objsC]
theorem free_vQ (q : Rqs) : free (vQ q) = true := by simp [vQ, qC, free, free.frees, frees_str]
theorem objsC_len (l : List Obt) : (objsC l).length = l.length * 3 := by
  induction l with
  | nil => rfl
  | cons x l ih => simp only [objsC, List.flatMap_cons, List.length_append, oC, List.length_cons, List.length_nil] at ih ⊢; omega
theorem objsC_drop : ∀ {l : List Obt} {i : Nat} (h : i < l.length), (objsC l).drop (i * 3) = .int .i64 l[i].value :: .lst .ro l[i].ents.length (entsC l[i].ents) :: .int .i64 l[i].version :: (objsC l).drop ((i + 1) * 3)
  | [], _, h => by simp at h
  | w :: l, 0, h => by simp [objsC, oC]
  | w :: l, i + 1, h => by
    have := objsC_drop (l := l) (i := i) (by simpa using h)
    simp only [objsC, List.flatMap_cons, oC, List.cons_append, List.nil_append] at this ⊢
    rw [show (i + 1) * 3 = i * 3 + 1 + 1 + 1 by omega, show (i + 1 + 1) * 3 = (i + 1) * 3 + 1 + 1 + 1 by omega]
    simp only [List.drop_succ_cons, List.getElem_cons_succ]
    exact this
/-- may a record be? -/
def mayO (o : Obt) : Bool := numOk o.value && (numOk o.version && decide (newE [] o.ents = 0))
def mayR (r : Rcd) : Bool := decide (0 ≤ r.boot ∧ r.boot ≤ 40) && (decide (r.objs.length ≤ 4) && r.objs.all mayO)
theorem mayR_no {r : Rcd} {o : Obt} (ho : o ∈ r.objs) (h : mayO o = false) : mayR r = false := by
  simp only [mayR, Bool.and_eq_false_iff]
  right; right
  rw [List.all_eq_false]
  exact ⟨o, ho, by simp [h]⟩
set_option maxRecDepth 100000 in
set_option maxHeartbeats 4000000 in
theorem p_rmay1 (r : Rcd) (h : smallR r) : PCalls Try.prog 21 [vR r] (.bool (mayR r)) := by
  refine pcalls_of (by simp [free.frees, free_vR]) rfl (acalls_of mixed J_record_May_ok (Nat.le_of_ble_eq_true rfl) ?_); simp only [J_record_May, vR, rC, wk,if_true,if_false,forall_const,implies_true,ne_eq,eq_self,Nat.reduceEqDiff,Nat.reduceAdd,Nat.reduceMul,Nat.reduceSub,Nat.reduceLeDiff,Nat.reduceLT,Int.reduceEq,Int.reduceLT,Int.reduceLE,Int.reduceAdd,Int.reduceSub,Int.reduceMul,Int.reduceNeg,Int.reduceNe,reduceCtorEq,Int.reduceToNat,↓reduceIte]
  have no : mayR r = false → AV.bool false = .bool (mayR r) := fun e => by rw [e]
  refine ⟨fun h1 => ⟨fun h2 => ⟨fun h3 => no (by simp [mayR]; omega), fun h3 => ?_⟩, fun h2 => no (by simp [mayR]; omega)⟩, fun h1 => no (by simp [mayR]; omega)⟩
  refine W_loop (fun n fr h' => ∃ i : Nat, i ≤ r.objs.length ∧ n = r.objs.length - i ∧ fr = [(22, .lst .ro r.objs.length (objsC r.objs)), (23, .int .i64 r.objs.length), (24, .int .i64 i)] ∧ ∀ o ∈ r.objs.take i, mayO o = true) r.objs.length ⟨0, by omega, by omega, rfl, by simp⟩ ?_
  rintro n fr h' ⟨i, hi, rfl, rfl, hall⟩
  simp only [J_record_May_j2, wk,if_true,if_false,forall_const,implies_true,ne_eq,eq_self,Nat.reduceEqDiff,Nat.reduceAdd,Nat.reduceMul,Nat.reduceSub,Nat.reduceLeDiff,Nat.reduceLT,Int.reduceEq,Int.reduceLT,Int.reduceLE,Int.reduceAdd,Int.reduceSub,Int.reduceMul,Int.reduceNeg,Int.reduceNe,reduceCtorEq,Int.reduceToNat,↓reduceIte]
  refine ⟨fun hlt => ?_, fun hge => ?_⟩
  · have hil : i < r.objs.length := by omega
    have hd : (objsC r.objs).drop ((i : Int).toNat * 3) = .int .i64 r.objs[i].value :: .lst .ro r.objs[i].ents.length (entsC r.objs[i].ents) :: .int .i64 r.objs[i].version :: (objsC r.objs).drop ((i + 1) * 3) := by rw [show (i : Int).toNat = i by omega]; exact objsC_drop hil
    have hmem := List.getElem_mem hil
    have hsm := h.2 _ hmem
    refine ⟨⟨by omega, by omega⟩, ?_⟩
    simp only [hd, wk,if_true,if_false,forall_const,implies_true,ne_eq,eq_self,Nat.reduceEqDiff,Nat.reduceAdd,Nat.reduceMul,Nat.reduceSub,Nat.reduceLeDiff,Nat.reduceLT,Int.reduceEq,Int.reduceLT,Int.reduceLE,Int.reduceAdd,Int.reduceSub,Int.reduceMul,Int.reduceNeg,Int.reduceNe,reduceCtorEq,Int.reduceToNat,↓reduceIte]
    refine PCalls.use (p_recnum r.objs[i].value) ?_; simp only [wk,if_true,if_false,forall_const,implies_true,ne_eq,eq_self,Nat.reduceEqDiff,Nat.reduceAdd,Nat.reduceMul,Nat.reduceSub,Nat.reduceLeDiff,Nat.reduceLT,Int.reduceEq,Int.reduceLT,Int.reduceLE,Int.reduceAdd,Int.reduceSub,Int.reduceMul,Int.reduceNeg,Int.reduceNe,reduceCtorEq,Int.reduceToNat,↓reduceIte]
    refine ⟨fun m1 => ?_, fun m1 => no (mayR_no hmem (by simp [mayO, m1]))⟩
    refine PCalls.use (p_recnum r.objs[i].version) ?_; simp only [wk,if_true,if_false,forall_const,implies_true,ne_eq,eq_self,Nat.reduceEqDiff,Nat.reduceAdd,Nat.reduceMul,Nat.reduceSub,Nat.reduceLeDiff,Nat.reduceLT,Int.reduceEq,Int.reduceLT,Int.reduceLE,Int.reduceAdd,Int.reduceSub,Int.reduceMul,Int.reduceNeg,Int.reduceNe,reduceCtorEq,Int.reduceToNat,↓reduceIte]
    refine ⟨fun m2 => no (mayR_no hmem (by simp [mayO, m2])), fun m2 => ?_⟩
    refine ACalls.use (a_new r.objs[i].ents (by have := hsm.1; omega) hsm.2) ?_
    rintro a h2 hp
    unfold NewPost at hp
    split at hp
    · next he =>
      obtain ⟨f, _, rfl, rfl⟩ := hp
      simp only [wk,if_true,if_false,forall_const,implies_true,ne_eq,eq_self,Nat.reduceEqDiff,Nat.reduceAdd,Nat.reduceMul,Nat.reduceSub,Nat.reduceLeDiff,Nat.reduceLT,Int.reduceEq,Int.reduceLT,Int.reduceLE,Int.reduceAdd,Int.reduceSub,Int.reduceMul,Int.reduceNeg,Int.reduceNe,reduceCtorEq,Int.reduceToNat,↓reduceIte]
      refine ⟨inR_of (by omega) (by omega), r.objs.length - (i + 1), by omega, i + 1, by omega, rfl, by simp, fun o ho => ?_⟩
      rw [List.take_succ_eq_append_getElem hil] at ho
      rcases List.mem_append.1 ho with ho | ho
      · exact hall o ho
      · simp at ho; subst ho; simp [mayO, m1, m2, he]
    · next he =>
      obtain ⟨rfl, rfl⟩ := hp
      simp only [wk,if_true,if_false,forall_const,implies_true,ne_eq,eq_self,Nat.reduceEqDiff,Nat.reduceAdd,Nat.reduceMul,Nat.reduceSub,Nat.reduceLeDiff,Nat.reduceLT,Int.reduceEq,Int.reduceLT,Int.reduceLE,Int.reduceAdd,Int.reduceSub,Int.reduceMul,Int.reduceNeg,Int.reduceNe,reduceCtorEq,Int.reduceToNat,↓reduceIte]
      refine ⟨fun _ => no (mayR_no hmem (by simp [mayO, he])), fun e => absurd e he⟩
  · rw [List.take_of_length_le (by omega)] at hall
    simp only [J_record_May_j1, wk,if_true,if_false,forall_const,implies_true,ne_eq,eq_self,Nat.reduceEqDiff,Nat.reduceAdd,Nat.reduceMul,Nat.reduceSub,Nat.reduceLeDiff,Nat.reduceLT,Int.reduceEq,Int.reduceLT,Int.reduceLE,Int.reduceAdd,Int.reduceSub,Int.reduceMul,Int.reduceNeg,Int.reduceNe,reduceCtorEq,Int.reduceToNat,↓reduceIte]
    congr 1
    symm
    simp only [mayR, Bool.and_eq_true, decide_eq_true_eq, List.all_eq_true]
    exact ⟨⟨by omega, by omega⟩, by omega, hall⟩
def noneE (x : Ent) : Bool := decide (x.op = 0) && decide (x.who.length = 0)
/-- may a request be? -/
def asksE (q : Rqs) : Bool :=
  if 0 ≤ q.object ∧ q.object < 4 ∧ numOk q.arg = true then
    (if q.op = 0 then decide (q.arg = 0) && noneE q.ent else if q.op = 1 then noneE q.ent else if q.op = 2 ∨ q.op = 3 then decide (q.arg = 0) && mayEnt q.ent else false)
  else false
set_option maxRecDepth 100000 in
set_option maxHeartbeats 4000000 in
theorem p_asks (q : Rqs) (h : smallE q.ent) : PCalls Try.prog 23 [vQ q] (.bool (asksE q)) := by
  refine pcalls_of (by simp [free.frees, free_vQ]) rfl (acalls_of mixed J_record_Asks_ok (Nat.le_of_ble_eq_true rfl) ?_); simp only [J_record_Asks, J_record_Asks_j1, vQ, qC, wk,if_true,if_false,forall_const,implies_true,ne_eq,eq_self,Nat.reduceEqDiff,Nat.reduceAdd,Nat.reduceMul,Nat.reduceSub,Nat.reduceLeDiff,Nat.reduceLT,Int.reduceEq,Int.reduceLT,Int.reduceLE,Int.reduceAdd,Int.reduceSub,Int.reduceMul,Int.reduceNeg,Int.reduceNe,reduceCtorEq,Int.reduceToNat,↓reduceIte]
  have no : (¬ (0 ≤ q.object ∧ q.object < 4 ∧ numOk q.arg = true)) → AV.bool false = .bool (asksE q) := fun e => by unfold asksE; rw [if_neg e]
  refine ⟨fun h1 => ⟨fun h2 => ?_, fun h2 => no (by omega)⟩, fun h1 => no (by omega)⟩
  refine PCalls.use (p_recnum q.arg) ?_; simp only [wk,if_true,if_false,forall_const,implies_true,ne_eq,eq_self,Nat.reduceEqDiff,Nat.reduceAdd,Nat.reduceMul,Nat.reduceSub,Nat.reduceLeDiff,Nat.reduceLT,Int.reduceEq,Int.reduceLT,Int.reduceLE,Int.reduceAdd,Int.reduceSub,Int.reduceMul,Int.reduceNeg,Int.reduceNe,reduceCtorEq,Int.reduceToNat,↓reduceIte]
  have q1 := p_smay q.ent.who (by have := h.1; omega) (fun w hw => by have := h.2 w hw; omega)
  refine ⟨fun hn => no (by simp [hn]), fun hn => ?_⟩
  have e0 : asksE q = (if q.op = 0 then decide (q.arg = 0) && noneE q.ent else if q.op = 1 then noneE q.ent else if q.op = 2 ∨ q.op = 3 then decide (q.arg = 0) && mayEnt q.ent else false) := by
    unfold asksE; rw [if_pos ⟨by omega, by omega, hn⟩]
  rw [e0]
  clear e0 no
  unfold noneE mayEnt
  repeat' (first | (refine PCalls.use q1 ?_; simp only [wk,if_true,if_false,forall_const,implies_true,ne_eq,eq_self,Nat.reduceEqDiff,Nat.reduceAdd,Nat.reduceMul,Nat.reduceSub,Nat.reduceLeDiff,Nat.reduceLT,Int.reduceEq,Int.reduceLT,Int.reduceLE,Int.reduceAdd,Int.reduceSub,Int.reduceMul,Int.reduceNeg,Int.reduceNe,reduceCtorEq,Int.reduceToNat,↓reduceIte]) | (refine And.intro ?_ ?_) | intro _)
  all_goals first
    | (simp_all; done)
    | (congr 1; simp_all; done)
    | (congr 1; simp_all; omega)
end Go.Proofs.Ytcbcnbefaggnhaa

/- The abstract layer: what a call does where there are no objects, it does wherever it is called; its objects come behind. -/
namespace Go.Proofs.Ytcbcnbefaggnhaa
set_option linter.unusedSimpArgs false
set_option linter.unusedVariables false
open Go.RowKit Go.Lib

mutual
def sh (n : Nat) : AV → AV
  | .ptr i o => .ptr (i + n) o
  | .hs i m => .hs (i + n) m
  | .fp l => .fp (shs n l)
  | .lst f m l => .lst f m (shs n l)
  | .agg l => .agg (shs n l)
  | .tup l => .tup (shs n l)
  | .fn f l => .fn f (shs n l)
  | a => a
def shs (n : Nat) : List AV → List AV
  | [] => []
  | a :: l => sh n a :: shs n l
end
theorem plain_sh {n : Nat} (a : AV) (h : plain a = true) : plain (sh n a) = true := by
  cases a with
  | lst f m l => cases f <;> first | (simp [plain] at h; done) | simp [sh, plain]
  | itr s p => simp [plain] at h
  | _ => simp [sh, plain]
theorem plains_sh {n : Nat} : ∀ {l : List AV}, plains l → plains (shs n l)
  | [], _ => by intro a ha; simp [shs] at ha
  | a :: l, h => by
    intro b hb
    simp only [shs, List.mem_cons] at hb
    rcases hb with rfl | hb
    · exact plain_sh a (h a (by simp))
    · exact plains_sh (fun x hx => h x (by simp [hx])) b hb
theorem shs_len {n : Nat} : ∀ l : List AV, (shs n l).length = l.length
  | [] => by simp [shs]
  | a :: l => by simp [shs, shs_len l]
theorem shs_get {n : Nat} : ∀ (l : List AV) (i : Nat), (shs n l)[i]? = (l[i]?).map (sh n)
  | [], i => by simp [shs]
  | a :: l, 0 => by simp [shs]
  | a :: l, i + 1 => by simp [shs, shs_get l i]
/-- the objects of before, and those of a call behind them -/
def Gh.join (g g1 : Gh) (n : Nat) : Gh :=
  { C := g1.C, io := fun i => if i < n then g.io i else g1.io (i - n), F := g.F,
    own := fun b => match g.own b with
      | some x => some x
      | none => match g1.own b with
        | some (.cell id i) => some (.cell (id + n) i)
        | x => x }
mutual
theorem Rep.sh {g g1 : Gh} {n : Nat} : ∀ {v : Value} {a : AV}, Rep g1 v a → Rep (g.join g1 n) v (sh n a)
  | _, _, .bool b => by simp only [Go.Proofs.Ytcbcnbefaggnhaa.sh]; exact .bool b
  | _, _, .int k m => by simp only [Go.Proofs.Ytcbcnbefaggnhaa.sh]; exact .int k m
  | _, _, .str s => by simp only [Go.Proofs.Ytcbcnbefaggnhaa.sh]; exact .str s
  | _, _, .nilp => by simp only [Go.Proofs.Ytcbcnbefaggnhaa.sh]; exact .nilp
  | _, _, .ptr id off b h => by simp only [Go.Proofs.Ytcbcnbefaggnhaa.sh]; exact .ptr _ off b (by simp only [Gh.join]; rw [if_neg (by omega), Nat.add_sub_cancel]; exact h)
  | _, _, .fp b off vs l h hp hr => by simp only [Go.Proofs.Ytcbcnbefaggnhaa.sh]; exact .fp b off vs _ h (plains_sh hp) (RepL.sh hr)
  | _, _, .lst b off m c f vs l h hp h1 h2 hr => by simp only [Go.Proofs.Ytcbcnbefaggnhaa.sh]; exact .lst b off m c f vs _ h (plains_sh hp) h1 h2 (RepL.sh hr)
  | _, _, .lst0 a c f h => by simp only [Go.Proofs.Ytcbcnbefaggnhaa.sh, shs]; exact .lst0 a c f h
  | _, _, .hs id b m c h h1 => by simp only [Go.Proofs.Ytcbcnbefaggnhaa.sh]; exact .hs _ b m c (by simp only [Gh.join]; rw [if_neg (by omega), Nat.add_sub_cancel]; exact h) h1
  | _, _, .agg vs l h hp hr => by simp only [Go.Proofs.Ytcbcnbefaggnhaa.sh]; exact .agg vs _ h (plains_sh hp) (RepL.sh hr)
  | _, _, .tup vs l hp hr => by simp only [Go.Proofs.Ytcbcnbefaggnhaa.sh]; exact .tup vs _ (plains_sh hp) (RepL.sh hr)
  | _, _, .fn f vs l hp hr => by simp only [Go.Proofs.Ytcbcnbefaggnhaa.sh]; exact .fn f vs _ (plains_sh hp) (RepL.sh hr)
  | _, _, .nilf => by simp only [Go.Proofs.Ytcbcnbefaggnhaa.sh]; exact .nilf
  | _, _, .opq v h h' => by simp only [Go.Proofs.Ytcbcnbefaggnhaa.sh]; exact .opq v h h'
  | _, _, .itr b s p => by simp only [Go.Proofs.Ytcbcnbefaggnhaa.sh]; exact .itr b s p
theorem RepL.sh {g g1 : Gh} {n : Nat} : ∀ {vs : List Value} {l : List AV}, RepL g1 vs l → RepL (g.join g1 n) vs (shs n l)
  | _, _, .nil => by simp only [shs]; exact .nil
  | _, _, .cons h hr => by simp only [shs]; exact .cons (Rep.sh h) (RepL.sh hr)
end
def shH (n : Nat) (h : Hp) : Hp := h.map fun o => o.map fun x => (x.1, shs n x.2)
theorem Sim.join {P : Program} {g g1 : Gh} {h h1 : Hp} {w w1 : World} (hs : Sim P g h w) (hev : Ev g.bare w g1 w1) (hs1 : Sim P g1 h1 w1) : Sim P (g.join g1 h.length) (h ++ shH h.length h1) w1 ∧ Ev g w (g.join g1 h.length) w1 := by
  have hFF : ∀ b, (g.F b ∨ (∃ i, g.io i = some b) ∨ (∃ x, g.own b = some x)) → g1.F b := fun b hb => (hev.F b).2 hb
  have hle : GLe g (g.join g1 h.length) := ⟨fun b o v hc => hev.le.C b o v hc, fun i b hi => by have := (hs.dom i b hi).1; simp only [Gh.join, if_pos this]; exact hi⟩
  have hfar : ∀ k b, g1.io k = some b → ¬ (g.F b ∨ (∃ i, g.io i = some b) ∨ (∃ x, g.own b = some x)) := fun k b hk hb => by
    have := (hev.Fb b hb).2.2.2 k hk
    cases this
  have hown : ∀ b, ¬ g1.F b → g.own b = none := fun b hb => by
    cases ho : g.own b with
    | none => rfl
    | some x => exact absurd (hFF b (.inr (.inr ⟨x, ho⟩))) hb
  refine ⟨⟨hs1.prot, ?_, ?_, ?_, ?_, ?_, ?_⟩, ⟨hle, fun _ => .rfl, fun b hb => ?_, hev.os, hev.tape, hev.output, hev.size⟩⟩
  · intro id s l hl
    by_cases hid : id < h.length
    · rw [List.getElem?_append_left hid] at hl
      refine (hs.obj id s l hl).keep hle (fun b hb h8 h9 => ?_) (fun b i o1 o3 o4 => ?_)
      · have hbF : g.F b ∨ (∃ i, g.io i = some b) ∨ (∃ x, g.own b = some x) := .inr (.inl ⟨id, hb⟩)
        obtain ⟨q1, q2, q3, _⟩ := hev.Fb b hbF
        refine ⟨q1, q2, h8, ?_⟩
        simp only [Gh.join, h9]
        rw [q3]
        rfl
      · obtain ⟨q1, q2, q3, q4⟩ := hev.Fb b (.inr (.inr ⟨_, o1⟩))
        refine ⟨q1, by simp only [Gh.join, o1], q2, o3, fun j hj => ?_⟩
        simp only [Gh.join] at hj
        split at hj
        · exact o4 j hj
        · have := q4 _ hj; cases this
    · rw [List.getElem?_append_right (by omega), shH, List.getElem?_map] at hl
      cases hl1 : h1[id - h.length]? with
      | none => rw [hl1] at hl; cases hl
      | some o =>
        rw [hl1] at hl
        simp only [Option.map_some, Option.some.injEq] at hl
        cases o with
        | none => cases hl
        | some x =>
          obtain ⟨s', l'⟩ := x
          simp only [Option.map_some, Option.some.injEq, Prod.mk.injEq] at hl
          obtain ⟨rfl, rfl⟩ := hl
          obtain ⟨b, arr, e, p1, p2, p3, p4, p5, p6, p7, p8, p9⟩ := hs1.obj _ s' l' hl1
          refine ⟨b, arr, e, by simp only [Gh.join, if_neg hid]; exact p1, p2, p3.sh, p4, fun i v a hv ha => ?_, p6, p7, fun hf => p8 (hFF b (.inl hf)), by simp only [Gh.join, hown b p8, p9]⟩
          rw [shs_get] at ha
          cases hla : l'[i]? with
          | none => rw [hla] at ha; cases ha
          | some a' =>
            rw [hla] at ha
            simp only [Option.map_some, Option.some.injEq] at ha
            subst ha
            have ho := p5 i v a' hv hla
            cases a' with
            | lst f m c =>
              cases f with
              | own e' =>
                simp only [sh]
                obtain ⟨sz, r1, r2, ⟨vs, r3, r4⟩ | r3⟩ := ho
                · refine ⟨sz, r1, by rw [shs_len]; exact r2, .inl ⟨vs, r3, fun b' hb' => ?_⟩⟩
                  obtain ⟨k1, k2, k3, k4⟩ := r4 b' hb'
                  refine ⟨?_, fun o ho => k2 o (by rw [shs_len] at ho; exact ho), fun hf => k3 (hFF b' (.inl hf)), fun j hj => ?_⟩
                  · simp only [Gh.join, hown b' k3, k1]
                    congr 2; omega
                  · simp only [Gh.join] at hj
                    split at hj
                    · exact k3 (hFF b' (.inr (.inl ⟨j, hj⟩)))
                    · exact k4 _ hj
                · exact ⟨sz, r1, by rw [shs_len]; exact r2, .inr r3⟩
              | _ => exact Owned.plain (by simp [sh, plain])
            | itr s p =>
              simp only [sh]
              obtain ⟨b', r1, r2, k1, k2, k3, k4⟩ := ho
              refine ⟨b', r1, r2, ?_, k2, fun hf => k3 (hFF b' (.inl hf)), fun j hj => ?_⟩
              · simp only [Gh.join, hown b' k3, k1]
                congr 2; omega
              · simp only [Gh.join] at hj
                split at hj
                · exact k3 (hFF b' (.inr (.inl ⟨j, hj⟩)))
                · exact k4 _ hj
            | _ => exact Owned.plain (by simp [sh, plain])
  · intro i j b hi hj
    simp only [Gh.join] at hi hj
    split at hi <;> split at hj
    · exact hs.inj i j b hi hj
    · exact absurd (.inr (.inl ⟨i, hi⟩)) (hfar _ b hj)
    · exact absurd (.inr (.inl ⟨j, hj⟩)) (hfar _ b hi)
    · have := hs1.inj _ _ b hi hj; omega
  · intro i b hi
    simp only [Gh.join] at hi
    split at hi
    · have := hs.dom i b hi; have := hev.size; simp; omega
    · have := hs1.dom _ b hi; simp [shH]; omega
  · intro b hb; exact Nat.lt_of_lt_of_le (hs.flt b hb) hev.size
  · intro b x hb
    simp only [Gh.join] at hb
    split at hb
    · next y hy => exact Nat.lt_of_lt_of_le (hs.olt b _ hy) hev.size
    · split at hb
      · next hy => exact hs1.olt b _ hy
      · exact hs1.olt b x hb
  · intro i hi
    by_cases hid : i < h.length
    · rw [List.getElem?_append_left hid] at hi
      simp only [Gh.join, if_pos hid]; exact hs.hole i hi
    · rw [List.getElem?_append_right (by omega), shH, List.getElem?_map] at hi
      simp only [Gh.join, if_neg hid]
      cases hl1 : h1[i - h.length]? with
      | none => rw [hl1] at hi; cases hi
      | some o =>
        cases o with
        | none => exact hs1.hole _ hl1
        | some x => rw [hl1] at hi; simp at hi
  · obtain ⟨q1, q2, q3, q4⟩ := hev.Fb b (.inl hb)
    refine ⟨q1, q2, ?_, fun i hi => ?_⟩
    · simp only [Gh.join]
      split
      · next y hy => exact hy.symm
      · next hy => rw [q3, hy]; rfl
    · simp only [Gh.join] at hi
      split at hi
      · exact hi
      · have := q4 _ hi; cases this
/-- What a call does where there are no objects, it does wherever it is called. -/
theorem ACalls.shift {P : Program} {f : FuncId} {args : List AV} {R : AV → Hp → Prop} (ha : free.frees args = true) (hc : ACalls P f args [] R) (h : Hp) : ACalls P f args h (fun a h' => ∃ a0 h0, R a0 h0 ∧ a = sh h.length a0 ∧ h' = h ++ shH h.length h0) := by
  refine ⟨hc.1, fun g w vargs hs hns hr hpl => ?_⟩
  refine (hc.2 g.bare w vargs hs.bare (fun b k h => by cases h) (RepL.free (g := g) (g' := g.bare) (fun _ _ _ h => h) hr ha) hpl).mono ?_
  rintro e w1 ⟨x, a, h1, g1, rfl, r1, r2, r3, r4, r5, r6⟩
  obtain ⟨s1, s2⟩ := hs.join r1 r2
  refine ⟨x, _, _, g.join g1 h.length, rfl, s2, s1, fun b k hk => ?_, r4.sh, plain_sh _ r5, a, h1, r6, rfl, rfl⟩
  simp only [Gh.join] at hk
  split at hk
  · next y hy => simp only [Option.some.injEq] at hk; subst hk; exact hns b k hy
  · split at hk
    · cases hk
    · exact r3 b k hk
/-- leads to object k alone -/
def only (k : Nat) : AV → Bool
  | .ptr i _ => decide (i = k)
  | .hs i _ => decide (i = k)
  | .fp l | .lst _ _ l | .agg l | .tup l | .fn _ l => onlys l
  | _ => true
where onlys : List AV → Bool
  | [] => true
  | a :: l => only k a && onlys l
mutual
/-- object k is object 0 -/
def rn : AV → AV
  | .ptr _ o => .ptr 0 o
  | .hs _ m => .hs 0 m
  | .fp l => .fp (rns l)
  | .lst f m l => .lst f m (rns l)
  | .agg l => .agg (rns l)
  | .tup l => .tup (rns l)
  | .fn f l => .fn f (rns l)
  | a => a
def rns : List AV → List AV
  | [] => []
  | a :: l => rn a :: rns l
end
theorem plain_rn (a : AV) (h : plain a = true) : plain (rn a) = true := by
  cases a with
  | lst f m l => cases f <;> first | (simp [plain] at h; done) | simp [rn, plain]
  | itr s p => simp [plain] at h
  | _ => simp [rn, plain]
theorem plains_rn : ∀ {l : List AV}, plains l → plains (rns l)
  | [], _ => by intro a ha; simp [rns] at ha
  | a :: l, h => by
    intro b hb
    simp only [rns, List.mem_cons] at hb
    rcases hb with rfl | hb
    · exact plain_rn a (h a (by simp))
    · exact plains_rn (fun x hx => h x (by simp [hx])) b hb
def Gh.one (g : Gh) (k : Nat) : Gh := { g with io := fun i => if i = 0 then g.io k else none }
mutual
theorem Rep.one {g : Gh} {k : Nat} : ∀ {v : Value} {a : AV}, Rep g v a → only k a = true → Rep (g.one k) v (rn a)
  | _, _, .bool b, _ => by simp only [rn]; exact .bool b
  | _, _, .int i m, _ => by simp only [rn]; exact .int i m
  | _, _, .str s, _ => by simp only [rn]; exact .str s
  | _, _, .nilp, _ => by simp only [rn]; exact .nilp
  | _, _, .ptr id off b h, ho => by
    have : id = k := by simpa [only] using ho
    subst this
    simp only [rn]; exact .ptr 0 off b (by simp only [Gh.one, if_true]; exact h)
  | _, _, .fp b off vs l h hp hr, ho => by simp only [rn]; exact .fp b off vs _ h (plains_rn hp) (RepL.one hr (by simpa [only] using ho))
  | _, _, .lst b off m c f vs l h hp h1 h2 hr, ho => by simp only [rn]; exact .lst b off m c f vs _ h (plains_rn hp) h1 h2 (RepL.one hr (by simpa [only] using ho))
  | _, _, .lst0 a c f h, _ => by simp only [rn, rns]; exact .lst0 a c f h
  | _, _, .hs id b m c h h1, ho => by
    have : id = k := by simpa [only] using ho
    subst this
    simp only [rn]; exact .hs 0 b m c (by simp only [Gh.one, if_true]; exact h) h1
  | _, _, .agg vs l h hp hr, ho => by simp only [rn]; exact .agg vs _ h (plains_rn hp) (RepL.one hr (by simpa [only] using ho))
  | _, _, .tup vs l hp hr, ho => by simp only [rn]; exact .tup vs _ (plains_rn hp) (RepL.one hr (by simpa [only] using ho))
  | _, _, .fn f vs l hp hr, ho => by simp only [rn]; exact .fn f vs _ (plains_rn hp) (RepL.one hr (by simpa [only] using ho))
  | _, _, .nilf, _ => by simp only [rn]; exact .nilf
  | _, _, .opq v h h', _ => by simp only [rn]; exact .opq v h h'
  | _, _, .itr b s p, _ => by simp only [rn]; exact .itr b s p
theorem RepL.one {g : Gh} {k : Nat} : ∀ {vs : List Value} {l : List AV}, RepL g vs l → only.onlys k l = true → RepL (g.one k) vs (rns l)
  | _, _, .nil, _ => by simp only [rns]; exact .nil
  | _, _, .cons h hr, ho => by
    simp only [only.onlys, Bool.and_eq_true] at ho
    simp only [rns]; exact .cons (Rep.one h ho.1) (RepL.one hr ho.2)
end
/-- Of the objects that a call makes one is handed out. -/
theorem ACalls.one {P : Program} {f : FuncId} {args : List AV} {R : AV → Hp → Prop}
    (hc : ACalls P f args [] (fun a h' => ∃ k l, h'[k]? = some (some (false, l)) ∧ only k a = true ∧ free.frees l = true ∧ plains l ∧ R (rn a) [some (false, l)])) : ACalls P f args [] R := by
  refine ⟨hc.1, fun g w vargs hs hns hr hpl => (hc.2 g w vargs hs hns hr hpl).mono ?_⟩
  rintro e w1 ⟨x, a, h', g', rfl, ev, hs', hns', hx, hpa, k, l, hk, ho, hfl, hpll, hR⟩
  have nodom : ∀ i b, g.io i ≠ some b := fun i b hi => absurd (hs.dom i b hi).1 (by simp)
  obtain ⟨b, arr, e, p1, p2, p3, p4, p5, p6, p7, p8, p9⟩ := hs'.obj k false l hk
  refine ⟨x, _, _, g'.one k, rfl, ?_, ?_, hns', Rep.one hx ho, plain_rn _ hpa, hR⟩
  · refine ⟨⟨ev.le.C, fun i b hi => absurd hi (nodom i b)⟩, ev.F, fun b' hb' => ?_, ev.os, ev.tape, ev.output, ev.size⟩
    obtain ⟨q1, q2, q3, q4⟩ := ev.Fb b' hb'
    refine ⟨q1, q2, q3, fun i hi => ?_⟩
    simp only [Gh.one] at hi
    split at hi
    · exact absurd (q4 _ hi) (nodom _ _)
    · cases hi
  · refine ⟨hs'.prot, fun id s l' hl' => ?_, fun i j b' hi hj => ?_, fun i b' hi => ?_, hs'.flt, hs'.olt, fun i hi => ?_⟩
    · cases id with
      | zero =>
        simp only [List.getElem?_cons_zero, Option.some.injEq, Prod.mk.injEq] at hl'
        obtain ⟨rfl, rfl⟩ := hl'
        refine ⟨b, arr, e, by simp only [Gh.one, if_true]; exact p1, p2, RepL.free (g := g') (g' := g'.one k) (fun _ _ _ h => h) p3 hfl, p4, fun i v a _ ha => Owned.plain (hpll a (List.mem_of_getElem? ha)), p6, p7, p8, p9⟩
      | succ id => simp at hl'
    · simp only [Gh.one] at hi hj
      split at hi
      · split at hj
        · omega
        · cases hj
      · cases hi
    · simp only [Gh.one] at hi
      split at hi
      · next h0 => subst h0; exact ⟨by simp, (hs'.dom k b' hi).2⟩
      · cases hi
    · cases i with
      | zero => simp at hi
      | succ i => simp at hi
end Go.Proofs.Ytcbcnbefaggnhaa

/- record's copied. -/
namespace Go.Proofs.Ytcbcnbefaggnhaa
set_option linter.unusedSimpArgs false
set_option linter.unusedVariables false
open Go.RowKit Go.Lib

/-- objects that are not filled yet -/
def zO : Nat → List AV
  | 0 => []
  | n + 1 => .int .i64 0 :: .lst .clip 0 [] :: .int .i64 0 :: zO n
theorem zO_eq (n : Nat) : ((List.range (n * 3)).map fun i => [AV.int .i64 0, .lst .clip 0 [], .int .i64 0].getD (i % 3) .nilp) = zO n := by
  have h1 : ∀ m k : Nat, k % 3 = 0 → ((List.range' k (m * 3)).map fun i => [AV.int .i64 0, .lst .clip 0 [], .int .i64 0].getD (i % 3) .nilp) = zO m := by
    intro m
    induction m with
    | zero => intro k _; simp [zO]
    | succ m ihm =>
      intro k hk
      rw [show (m + 1) * 3 = m * 3 + 1 + 1 + 1 by omega, List.range'_succ, List.range'_succ, List.range'_succ]
      simp only [List.map_cons]
      rw [ihm (k + 1 + 1 + 1) (by omega), hk, show (k + 1) % 3 = 1 by omega, show (k + 1 + 1) % 3 = 2 by omega]
      rfl
  have := h1 n 0 rfl
  rwa [← List.range_eq_range'] at this
theorem zO_len (n : Nat) : (zO n).length = n * 3 := by
  induction n with
  | zero => rfl
  | succ n ih => simp only [zO, List.length_cons, ih]; omega
theorem set_three {A B : List AV} {n : Nat} (hn : A.length = n) (a b c x y z : AV) : (((A ++ a :: b :: c :: B).set n x).set (n + 1) y).set (n + 1 + 1) z = A ++ x :: y :: z :: B := by
  subst hn
  rw [List.set_append_right _ _ (Nat.le_refl _), List.set_append_right _ _ (by omega), List.set_append_right _ _ (by omega), Nat.sub_self, show A.length + 1 - A.length = 1 by omega, show A.length + 1 + 1 - A.length = 2 by omega]
  rfl
theorem objsC_succ {l : List Obt} {i : Nat} (hil : i < l.length) : objsC (l.take i) ++ [.int .i64 l[i].value, .lst .ro l[i].ents.length (entsC l[i].ents), .int .i64 l[i].version] = objsC (l.take (i + 1)) := by
  rw [List.take_succ_eq_append_getElem hil]
  unfold objsC
  rw [List.flatMap_append]
  rfl
theorem plains_objsC (l : List Obt) : plains (objsC l) := by
  intro a ha
  simp only [objsC, List.mem_flatMap] at ha
  obtain ⟨o, _, ho⟩ := ha
  simp only [oC, List.mem_cons, List.not_mem_nil, or_false] at ho
  rcases ho with rfl | rfl | rfl <;> rfl
set_option maxRecDepth 100000 in
set_option maxHeartbeats 4000000 in
theorem a_copied0 (r : Rcd) (h : smallR r) : ACalls Try.prog 42 [vR r] [] (fun a h' => a = .agg [.int .i64 r.boot, .hs 0 r.objs.length] ∧ h' = [some (false, objsC r.objs)]) := by
  refine ACalls.one (acalls_of mixed J_record_copied_ok (Nat.le_of_ble_eq_true rfl) ?_); simp only [J_record_copied, vR, rC, wk,if_true,if_false,forall_const,implies_true,ne_eq,eq_self,Nat.reduceEqDiff,Nat.reduceAdd,Nat.reduceMul,Nat.reduceSub,Nat.reduceLeDiff,Nat.reduceLT,Int.reduceEq,Int.reduceLT,Int.reduceLE,Int.reduceAdd,Int.reduceSub,Int.reduceMul,Int.reduceNeg,Int.reduceNe,reduceCtorEq,Int.reduceToNat,↓reduceIte]
  have hlen := h.1
  refine ⟨⟨by omega, by omega, by omega⟩, ?_⟩
  rw [Int.toNat_natCast, zO_eq]
  refine W_loop (fun n fr h' => ∃ (i : Nat) (ex : Hp), i ≤ r.objs.length ∧ n = r.objs.length - i ∧ h' = some (false, [.int .i64 r.boot, .lst .ro r.objs.length (objsC r.objs)]) :: some (false, [.int .i64 0, .lst (.own 43) 0 []]) :: some (false, objsC (r.objs.take i) ++ zO (r.objs.length - i)) :: some (true, [.int .i64 r.boot, .hs 2 r.objs.length]) :: ex ∧ fr = [(2, .ptr 1 0), (3, .ptr 3 0), (14, .lst .ro r.objs.length (objsC r.objs)), (15, .int .i64 r.objs.length), (16, .int .i64 i)]) r.objs.length ⟨0, [], by omega, by omega, rfl, rfl⟩ ?_
  rintro n fr h' ⟨i, ex, hi, rfl, rfl, rfl⟩
  simp only [J_record_copied_j2, wk,if_true,if_false,forall_const,implies_true,ne_eq,eq_self,Nat.reduceEqDiff,Nat.reduceAdd,Nat.reduceMul,Nat.reduceSub,Nat.reduceLeDiff,Nat.reduceLT,Int.reduceEq,Int.reduceLT,Int.reduceLE,Int.reduceAdd,Int.reduceSub,Int.reduceMul,Int.reduceNeg,Int.reduceNe,reduceCtorEq,Int.reduceToNat,↓reduceIte]
  refine ⟨fun hlt => ?_, fun hge => ?_⟩
  · have hil : i < r.objs.length := by omega
    have hd : (objsC r.objs).drop ((i : Int).toNat * 3) = .int .i64 r.objs[i].value :: .lst .ro r.objs[i].ents.length (entsC r.objs[i].ents) :: .int .i64 r.objs[i].version :: (objsC r.objs).drop ((i + 1) * 3) := by rw [show (i : Int).toNat = i by omega]; exact objsC_drop hil
    have hsm := h.2 _ (List.getElem_mem hil)
    have q := p_entries r.objs[i].ents (by have := hsm.1; omega) hsm.2
    refine ⟨⟨by omega, by omega⟩, ?_⟩
    simp only [hd, wk,if_true,if_false,forall_const,implies_true,ne_eq,eq_self,Nat.reduceEqDiff,Nat.reduceAdd,Nat.reduceMul,Nat.reduceSub,Nat.reduceLeDiff,Nat.reduceLT,Int.reduceEq,Int.reduceLT,Int.reduceLE,Int.reduceAdd,Int.reduceSub,Int.reduceMul,Int.reduceNeg,Int.reduceNe,reduceCtorEq,Int.reduceToNat,↓reduceIte]
    refine PCalls.use (q) ?_; simp only [wk,if_true,if_false,forall_const,implies_true,ne_eq,eq_self,Nat.reduceEqDiff,Nat.reduceAdd,Nat.reduceMul,Nat.reduceSub,Nat.reduceLeDiff,Nat.reduceLT,Int.reduceEq,Int.reduceLT,Int.reduceLE,Int.reduceAdd,Int.reduceSub,Int.reduceMul,Int.reduceNeg,Int.reduceNe,reduceCtorEq,Int.reduceToNat,↓reduceIte]
    have hA : (objsC (r.objs.take i)).length = i * 3 := by rw [objsC_len]; simp; omega
    have hz : zO (r.objs.length - i) = .int .i64 0 :: .lst .clip 0 [] :: .int .i64 0 :: zO (r.objs.length - (i + 1)) := by rw [show r.objs.length - i = (r.objs.length - (i + 1)) + 1 by omega]; rfl
    refine ⟨⟨by omega, by omega⟩, by rw [List.length_append, hA, zO_len]; omega, inR_of (by omega) (by omega), r.objs.length - (i + 1), by omega, i + 1, ex ++ [some (false, [.int .i64 r.objs[i].value, .lst .ro r.objs[i].ents.length (entsC r.objs[i].ents), .int .i64 r.objs[i].version])], by omega, rfl, ?_, by simp⟩
    rw [show (i : Int).toNat = i by omega, hz, set_three hA, ← objsC_succ hil, List.append_assoc]
    rfl
  · have : i = r.objs.length := by omega
    subst this
    simp only [J_record_copied_j1, valL, wk,if_true,if_false,forall_const,implies_true,ne_eq,eq_self,Nat.reduceEqDiff,Nat.reduceAdd,Nat.reduceMul,Nat.reduceSub,Nat.reduceLeDiff,Nat.reduceLT,Int.reduceEq,Int.reduceLT,Int.reduceLE,Int.reduceAdd,Int.reduceSub,Int.reduceMul,Int.reduceNeg,Int.reduceNe,reduceCtorEq,Int.reduceToNat,↓reduceIte]
    refine ⟨2, objsC r.objs, ?_, by simp [only, only.onlys], frees_objsC _, plains_objsC _, by simp [rn, rns], rfl⟩
    rw [List.take_length, Nat.sub_self]
    simp [zO]
mutual
theorem sh_free {n : Nat} : ∀ {a : AV}, free a = true → sh n a = a
  | .bool _, _ => by simp only [sh]
  | .int _ _, _ => by simp only [sh]
  | .str _, _ => by simp only [sh]
  | .nilp, _ => by simp only [sh]
  | .nilf, _ => by simp only [sh]
  | .opq, _ => by simp only [sh]
  | .itr _ _, _ => by simp only [sh]
  | .ptr _ _, h => by simp [free] at h
  | .hs _ _, h => by simp [free] at h
  | .fp l, h => by simp only [sh]; rw [shs_free (by simpa [free] using h)]
  | .lst _ _ l, h => by simp only [sh]; rw [shs_free (by simpa [free] using h)]
  | .agg l, h => by simp only [sh]; rw [shs_free (by simpa [free] using h)]
  | .tup l, h => by simp only [sh]; rw [shs_free (by simpa [free] using h)]
  | .fn _ l, h => by simp only [sh]; rw [shs_free (by simpa [free] using h)]
theorem shs_free {n : Nat} : ∀ {l : List AV}, free.frees l = true → shs n l = l
  | [], _ => by simp only [shs]
  | a :: l, h => by
    simp only [free.frees, Bool.and_eq_true] at h
    simp only [shs]; rw [sh_free h.1, shs_free h.2]
end
theorem a_copied {h : Hp} (r : Rcd) (hr : smallR r) : ACalls Try.prog 42 [vR r] h (fun a h' => a = .agg [.int .i64 r.boot, .hs h.length r.objs.length] ∧ h' = h ++ [some (false, objsC r.objs)]) := by
  refine (ACalls.shift (by simp [free.frees, free_vR]) (a_copied0 r hr) h).mono ?_
  rintro a h' ⟨a0, h0, ⟨rfl, rfl⟩, rfl, rfl⟩
  refine ⟨by simp [sh, shs], ?_⟩
  simp [shH, shs_free (frees_objsC r.objs)]
end Go.Proofs.Ytcbcnbefaggnhaa

/- record's turn. -/
namespace Go.Proofs.Ytcbcnbefaggnhaa
set_option linter.unusedSimpArgs false
set_option linter.unusedVariables false
open Go.RowKit Go.Lib

theorem drop_at {A B : List AV} {n k : Nat} (hn : A.length = n) (x : List AV) : (A ++ (x ++ B)).drop (n + k) = (x ++ B).drop k := by
  subst hn
  rw [← List.drop_drop, List.drop_left]
theorem set_at {A B : List AV} {n k : Nat} (hn : A.length = n) (x : List AV) (y : AV) : (A ++ (x ++ B)).set (n + k) y = A ++ (x ++ B).set k y := by
  subst hn
  rw [List.set_append_right _ _ (by omega), show A.length + k - A.length = k by omega]
theorem frees_app : ∀ a b : List AV, free.frees (a ++ b) = (free.frees a && free.frees b)
  | [], b => by simp [free.frees]
  | x :: a, b => by simp [free.frees, frees_app a b, Bool.and_assoc]
/-- what comes of an object whose entries are changed -/
def turnE (o : Obt) (e : Int) : Int := if 4611686018427387904 ≤ o.version then 5 else e
set_option maxRecDepth 100000 in
set_option maxHeartbeats 4000000 in
theorem a_turn {h : Hp} {id off : Nat} {A B : List AV} {o : Obt} {fB : FuncId} {e : Int} {l' : List Ent} (x : Ent) (ho : h[id]? = some (some (false, A ++ (oC o ++ B)))) (hA : A.length = off) (hs : smallO o) (hs' : l'.length ≤ 1001 ∧ ∀ y ∈ l', smallE y) (hnew : newE [] o.ents = 0) (hver : 0 ≤ o.version)
    (hfA : free.frees A = true) (hfB : free.frees B = true)
    (hno : e ≠ 0 → ∀ (h' : Hp) id' f, okF f → h'[id']? = some (lObj f o.ents 0) → ACalls Try.prog fB [.ptr id' 0, vE x] h' (fun a h'' => a = .int .i64 e ∧ h' = h''))
    (hok : e = 0 → ∀ (h' : Hp) id' f, okF f → h'[id']? = some (lObj f o.ents 0) → ACalls Try.prog fB [.ptr id' 0, vE x] h' (fun a h'' => a = .int .i64 0 ∧ h'' = h'.set id' (lObj (.own 28) l' (0 + 1)))) :
    ACalls Try.prog 43 [.ptr id off, vE x, .fn fB []] h (fun a h' => a = .int .i64 (turnE o e) ∧ h' = if turnE o e = 0 then h.set id (some (false, A ++ (oC ⟨o.value, l', o.version + 1⟩ ++ B))) else h) := by
  have hid : id < h.length := hlt_of ho
  have ho' : (h ++ [some (false, eC x)])[id]? = some (some (false, A ++ (oC o ++ B))) := hold _ ho
  have d2 : (A ++ (oC o ++ B)).drop (off + 2) = .int .i64 o.version :: B := by rw [drop_at hA]; rfl
  have d1 : (A ++ (oC o ++ B)).drop (off + 1) = .lst .ro o.ents.length (entsC o.ents) :: .int .i64 o.version :: B := by rw [drop_at hA]; rfl
  refine ACalls.trim (acalls_of mixed J_record_turn_ok (Nat.le_of_ble_eq_true rfl) ?_); simp only [J_record_turn, vE]
  simp only [eC] at ho'
  simp only [eC, ho', d2, wk,if_true,if_false,forall_const,implies_true,ne_eq,eq_self,Nat.reduceEqDiff,Nat.reduceAdd,Nat.reduceMul,Nat.reduceSub,Nat.reduceLeDiff,Nat.reduceLT,Int.reduceEq,Int.reduceLT,Int.reduceLE,Int.reduceAdd,Int.reduceSub,Int.reduceMul,Int.reduceNeg,Int.reduceNe,reduceCtorEq,Int.reduceToNat,↓reduceIte]
  refine ⟨fun hv => ?_, fun hv => ?_⟩
  · have e5 : turnE o e = 5 := by unfold turnE; rw [if_pos hv]
    rw [e5]
    exact ⟨h, _, rfl, Nat.le_refl _, by simp [low], fun _ s _ hl => .inl ⟨s, hl⟩, rfl, by simp⟩
  · have e6 : turnE o e = e := by unfold turnE; rw [if_neg hv]
    rw [e6]
    simp only [ho', d1, wk,if_true,if_false,forall_const,implies_true,ne_eq,eq_self,Nat.reduceEqDiff,Nat.reduceAdd,Nat.reduceMul,Nat.reduceSub,Nat.reduceLeDiff,Nat.reduceLT,Int.reduceEq,Int.reduceLT,Int.reduceLE,Int.reduceAdd,Int.reduceSub,Int.reduceMul,Int.reduceNeg,Int.reduceNe,reduceCtorEq,Int.reduceToNat,↓reduceIte]
    refine ACalls.use (a_new o.ents (by have := hs.1; omega) hs.2) ?_
    rintro a h2 hp
    unfold NewPost at hp
    rw [if_pos hnew] at hp
    obtain ⟨f, hf, rfl, rfl⟩ := hp
    simp only [wk,if_true,if_false,forall_const,implies_true,ne_eq,eq_self,Nat.reduceEqDiff,Nat.reduceAdd,Nat.reduceMul,Nat.reduceSub,Nat.reduceLeDiff,Nat.reduceLT,Int.reduceEq,Int.reduceLT,Int.reduceLE,Int.reduceAdd,Int.reduceSub,Int.reduceMul,Int.reduceNeg,Int.reduceNe,reduceCtorEq,Int.reduceToNat,↓reduceIte]
    obtain ⟨bx, hbx⟩ : ∃ bx : List AV, bx = [.int .i64 x.op, .lst .ro x.who.length (x.who.map .str)] := ⟨_, rfl⟩
    rw [← hbx]
    have g1 : ∀ lo : Option (Bool × List AV), h ++ [some (false, bx)] ++ [lo] = h ++ [some (false, bx), lo] := fun lo => by simp
    have g2 : (h ++ [some (false, bx)]).length = h.length + 1 := by simp
    have g3 : ∀ lo, (h ++ [some (false, bx), lo])[h.length]? = some (some (false, bx)) := fun lo => by simp
    have g4 : ∀ lo, (h ++ [some (false, bx), lo])[h.length + 1]? = some lo := fun lo => by simp
    have g5 : ∀ lo lo', (h ++ [some (false, bx), lo]).set (h.length + 1) lo' = h ++ [some (false, bx), lo'] := fun lo lo' => by
      rw [List.set_append_right _ _ (by omega), show h.length + 1 - h.length = 1 by omega]; rfl
    have g6 : ∀ ex, (h ++ ex)[id]? = some (some (false, A ++ (oC o ++ B))) := fun ex => by rw [List.getElem?_append_left hid]; exact ho
    have g7 : ∀ ex y, (h ++ ex).set id y = h.set id y ++ ex := fun ex y => List.set_append_left _ _ hid
    have g8 : ∀ ex y, (h.set id y ++ ex)[id]? = some y := fun ex y => by rw [List.getElem?_append_left (by simpa using hid), List.getElem?_set_self hid]
    have g9 : ∀ ex y z, (h.set id y ++ ex).set id z = h.set id z ++ ex := fun ex y z => by rw [List.set_append_left _ _ (by simpa using hid), List.set_set]
    simp only [g1, g2, g3, wk,if_true,if_false,forall_const,implies_true,ne_eq,eq_self,Nat.reduceEqDiff,Nat.reduceAdd,Nat.reduceMul,Nat.reduceSub,Nat.reduceLeDiff,Nat.reduceLT,Int.reduceEq,Int.reduceLT,Int.reduceLE,Int.reduceAdd,Int.reduceSub,Int.reduceMul,Int.reduceNeg,Int.reduceNe,reduceCtorEq,Int.reduceToNat,↓reduceIte]
    rw [hbx]
    simp only [wk,if_true,if_false,forall_const,implies_true,ne_eq,eq_self,Nat.reduceEqDiff,Nat.reduceAdd,Nat.reduceMul,Nat.reduceSub,Nat.reduceLeDiff,Nat.reduceLT,Int.reduceEq,Int.reduceLT,Int.reduceLE,Int.reduceAdd,Int.reduceSub,Int.reduceMul,Int.reduceNeg,Int.reduceNe,reduceCtorEq,Int.reduceToNat,↓reduceIte]
    rw [← hbx]
    by_cases he : e = 0
    · have q1 := hok he (h ++ [some (false, bx), lObj f o.ents 0]) (h.length + 1) f hf (g4 _)
      rw [g5] at q1
      simp only [vE, eC, ← hbx] at q1
      refine ACalls.use (q1) ?_; rintro _ _ ⟨rfl, rfl⟩; simp only [wk,if_true,if_false,forall_const,implies_true,ne_eq,eq_self,Nat.reduceEqDiff,Nat.reduceAdd,Nat.reduceMul,Nat.reduceSub,Nat.reduceLeDiff,Nat.reduceLT,Int.reduceEq,Int.reduceLT,Int.reduceLE,Int.reduceAdd,Int.reduceSub,Int.reduceMul,Int.reduceNeg,Int.reduceNe,reduceCtorEq,Int.reduceToNat,↓reduceIte]
      have q2 := a_all (h := h ++ [some (false, bx), lObj (.own 28) l' (0 + 1)]) (id := h.length + 1) (.inr rfl) (g4 _) (by omega) hs'.2
      refine ACalls.use (q2) ?_; rintro _ _ ⟨rfl, rfl⟩; simp only [wk,if_true,if_false,forall_const,implies_true,ne_eq,eq_self,Nat.reduceEqDiff,Nat.reduceAdd,Nat.reduceMul,Nat.reduceSub,Nat.reduceLeDiff,Nat.reduceLT,Int.reduceEq,Int.reduceLT,Int.reduceLE,Int.reduceAdd,Int.reduceSub,Int.reduceMul,Int.reduceNeg,Int.reduceNe,reduceCtorEq,Int.reduceToNat,↓reduceIte]
      refine PCalls.use (p_entries l' (by omega) hs'.2) ?_; simp only [wk,if_true,if_false,forall_const,implies_true,ne_eq,eq_self,Nat.reduceEqDiff,Nat.reduceAdd,Nat.reduceMul,Nat.reduceSub,Nat.reduceLeDiff,Nat.reduceLT,Int.reduceEq,Int.reduceLT,Int.reduceLE,Int.reduceAdd,Int.reduceSub,Int.reduceMul,Int.reduceNeg,Int.reduceNe,reduceCtorEq,Int.reduceToNat,↓reduceIte]
      simp only [g6, g7, g8, g9, wk,if_true,if_false,forall_const,implies_true,ne_eq,eq_self,Nat.reduceEqDiff,Nat.reduceAdd,Nat.reduceMul,Nat.reduceSub,Nat.reduceLeDiff,Nat.reduceLT,Int.reduceEq,Int.reduceLT,Int.reduceLE,Int.reduceAdd,Int.reduceSub,Int.reduceMul,Int.reduceNeg,Int.reduceNe,reduceCtorEq,Int.reduceToNat,↓reduceIte]
      have s1 : (A ++ (oC o ++ B)).set (off + 1) (.lst .ro l'.length (entsC l')) = A ++ (oC ⟨o.value, l', o.version⟩ ++ B) := by rw [set_at hA]; rfl
      have s2 : (A ++ (oC ⟨o.value, l', o.version⟩ ++ B)).set (off + 2) (.int .i64 (o.version + 1)) = A ++ (oC ⟨o.value, l', o.version + 1⟩ ++ B) := by rw [set_at hA]; rfl
      have d3 : (A ++ (oC ⟨o.value, l', o.version⟩ ++ B)).drop (off + 2) = .int .i64 o.version :: B := by rw [drop_at hA]; rfl
      have len1 : (A ++ (oC o ++ B)).length = off + (3 + B.length) := by simp [hA, oC]; omega
      have len2 : (A ++ (oC ⟨o.value, l', o.version⟩ ++ B)).length = off + (3 + B.length) := by simp [hA, oC]; omega
      rw [s1]
      refine ⟨by omega, ?_⟩
      simp only [d3, g6, g7, g8, g9, wk,if_true,if_false,forall_const,implies_true,ne_eq,eq_self,Nat.reduceEqDiff,Nat.reduceAdd,Nat.reduceMul,Nat.reduceSub,Nat.reduceLeDiff,Nat.reduceLT,Int.reduceEq,Int.reduceLT,Int.reduceLE,Int.reduceAdd,Int.reduceSub,Int.reduceMul,Int.reduceNeg,Int.reduceNe,reduceCtorEq,Int.reduceToNat,↓reduceIte]
      refine ⟨inR_of (by omega) (by omega), by omega, ?_⟩
      rw [s2, he, if_pos rfl]
      obtain ⟨h2, ex', k1, k2, k3, k4, k5⟩ := trimS (h := h) (ex := [some (false, bx), lObj (.own 28) l' 1]) (a := .int .i64 0) (id := id) (s := false) (l := A ++ (oC ⟨o.value, l', o.version + 1⟩ ++ B)) rfl (by rw [frees_app, frees_app, hfA, hfB]; simp [oC, free.frees, free, frees_entsC])
      exact ⟨h2, ex', k1, k2, k3, k4, rfl, k5⟩
    · have q1 := hno he (h ++ [some (false, bx), lObj f o.ents 0]) (h.length + 1) f hf (g4 _)
      simp only [vE, eC, ← hbx] at q1
      refine ACalls.use (q1) ?_; rintro _ _ ⟨rfl, rfl⟩; simp only [wk,if_true,if_false,forall_const,implies_true,ne_eq,eq_self,Nat.reduceEqDiff,Nat.reduceAdd,Nat.reduceMul,Nat.reduceSub,Nat.reduceLeDiff,Nat.reduceLT,Int.reduceEq,Int.reduceLT,Int.reduceLE,Int.reduceAdd,Int.reduceSub,Int.reduceMul,Int.reduceNeg,Int.reduceNe,reduceCtorEq,Int.reduceToNat,↓reduceIte]
      refine ⟨fun _ => ⟨h, _, rfl, Nat.le_refl _, by simp [low], fun _ s _ hl => .inl ⟨s, hl⟩, by rw [if_neg he]⟩, fun e' => absurd e' he⟩
end Go.Proofs.Ytcbcnbefaggnhaa

/- record's Do. -/
namespace Go.Proofs.Ytcbcnbefaggnhaa
set_option linter.unusedSimpArgs false
set_option linter.unusedVariables false
open Go.RowKit Go.Lib

/-- what a request does to its object -/
def stepO (o : Obt) (q : Rqs) : Int × Obt :=
  if q.op = 1 then (if 4611686018427387904 - q.arg < o.value then (5, o) else (0, ⟨o.value + q.arg, o.ents, o.version⟩))
  else if q.op = 2 then (turnE o (addE o.ents q.ent), ⟨o.value, o.ents ++ [q.ent], o.version + 1⟩)
  else if q.op = 3 then (turnE o (remE o.ents q.ent), ⟨o.value, without o.ents (idxE q.ent o.ents).toNat, o.version + 1⟩)
  else (0, o)
/-- what is wrong with a request -/
def doE (r : Rcd) (q : Rqs) : Int :=
  if mayR r = true ∧ asksE q = true then (if q.object < r.objs.length then (match r.objs[q.object.toNat]? with
    | some o => (stepO o q).1
    | none => 10) else 10) else 2
theorem objsC_split {l : List Obt} {k : Nat} (hk : k < l.length) : objsC l = objsC (l.take k) ++ (oC l[k] ++ objsC (l.drop (k + 1))) := by
  have h1 : l.take k ++ l[k] :: l.drop (k + 1) = l := by rw [← List.drop_eq_getElem_cons hk, List.take_append_drop]
  have h2 : objsC (l.take k ++ l[k] :: l.drop (k + 1)) = objsC (l.take k) ++ (oC l[k] ++ objsC (l.drop (k + 1))) := by unfold objsC; rw [List.flatMap_append, List.flatMap_cons]
  rw [h1] at h2
  exact h2
theorem objsC_set {l : List Obt} {k : Nat} (hk : k < l.length) (o : Obt) : objsC (l.set k o) = objsC (l.take k) ++ (oC o ++ objsC (l.drop (k + 1))) := by
  rw [List.set_eq_take_append_cons_drop, if_pos hk]
  simp [objsC]
/-- the record behind a request -/
def doR (r : Rcd) (q : Rqs) : Rcd := match r.objs[q.object.toNat]? with
  | some o => ⟨r.boot, r.objs.set q.object.toNat (stepO o q).2⟩
  | none => r
def doV (r : Rcd) (q : Rqs) : Int := match r.objs[q.object.toNat]? with
  | some o => (stepO o q).2.value
  | none => 0
def DoPost (r : Rcd) (q : Rqs) (a : AV) (h' : Hp) : Prop :=
  if doE r q = 0 then ∃ k, h'[k]? = some (some (false, objsC (doR r q).objs)) ∧ a = .tup [.agg [.int .i64 r.boot, .hs k r.objs.length], .int .i64 (doV r q), .int .i64 0]
  else a = .tup [.agg [.int .i64 0, .lst .clip 0 []], .int .i64 0, .int .i64 (doE r q)]
set_option maxRecDepth 100000 in
set_option maxHeartbeats 8000000 in
theorem a_do (r : Rcd) (q : Rqs) (hr : smallR r) (hq : smallE q.ent) : ACalls Try.prog 18 [vR r, vQ q] [] (DoPost r q) := by
  have m1 := p_rmay1 r hr
  have m2 := p_asks q hq
  simp only [vR, rC] at m1
  simp only [vQ, qC] at m2
  have no : ∀ (e : Int) (h' : Hp), doE r q = e → e ≠ 0 → DoPost r q (.tup [.agg [.int .i64 0, .lst .clip 0 []], .int .i64 0, .int .i64 e]) h' := fun e h' h1 h2 => by
    unfold DoPost; rw [h1, if_neg h2]
  have hlen := hr.1
  refine acalls_of mixed J_record_Do_ok (Nat.le_of_ble_eq_true rfl) ?_; simp only [J_record_Do, vR, rC, vQ, qC, wk,if_true,if_false,forall_const,implies_true,ne_eq,eq_self,Nat.reduceEqDiff,Nat.reduceAdd,Nat.reduceMul,Nat.reduceSub,Nat.reduceLeDiff,Nat.reduceLT,Int.reduceEq,Int.reduceLT,Int.reduceLE,Int.reduceAdd,Int.reduceSub,Int.reduceMul,Int.reduceNeg,Int.reduceNe,reduceCtorEq,Int.reduceToNat,↓reduceIte]
  refine PCalls.use (m1) ?_; simp only [wk,if_true,if_false,forall_const,implies_true,ne_eq,eq_self,Nat.reduceEqDiff,Nat.reduceAdd,Nat.reduceMul,Nat.reduceSub,Nat.reduceLeDiff,Nat.reduceLT,Int.reduceEq,Int.reduceLT,Int.reduceLE,Int.reduceAdd,Int.reduceSub,Int.reduceMul,Int.reduceNeg,Int.reduceNe,reduceCtorEq,Int.reduceToNat,↓reduceIte]
  refine ⟨fun e1 => ?_, fun e1 => ?_⟩
  · refine PCalls.use (m2) ?_; simp only [wk,if_true,if_false,forall_const,implies_true,ne_eq,eq_self,Nat.reduceEqDiff,Nat.reduceAdd,Nat.reduceMul,Nat.reduceSub,Nat.reduceLeDiff,Nat.reduceLT,Int.reduceEq,Int.reduceLT,Int.reduceLE,Int.reduceAdd,Int.reduceSub,Int.reduceMul,Int.reduceNeg,Int.reduceNe,reduceCtorEq,Int.reduceToNat,↓reduceIte]
    refine ⟨fun e2 => ?_, fun e2 => ?_⟩
    · simp only [valL, wk,if_true,if_false,forall_const,implies_true,ne_eq,eq_self,Nat.reduceEqDiff,Nat.reduceAdd,Nat.reduceMul,Nat.reduceSub,Nat.reduceLeDiff,Nat.reduceLT,Int.reduceEq,Int.reduceLT,Int.reduceLE,Int.reduceAdd,Int.reduceSub,Int.reduceMul,Int.reduceNeg,Int.reduceNe,reduceCtorEq,Int.reduceToNat,↓reduceIte]
      exact no 2 _ (by unfold doE; rw [if_neg (by simp [e2])]) (by decide)
    · refine ⟨fun e3 => ?_, fun e3 => ?_⟩
      · simp only [valL, wk,if_true,if_false,forall_const,implies_true,ne_eq,eq_self,Nat.reduceEqDiff,Nat.reduceAdd,Nat.reduceMul,Nat.reduceSub,Nat.reduceLeDiff,Nat.reduceLT,Int.reduceEq,Int.reduceLT,Int.reduceLE,Int.reduceAdd,Int.reduceSub,Int.reduceMul,Int.reduceNeg,Int.reduceNe,reduceCtorEq,Int.reduceToNat,↓reduceIte]
        exact no 10 _ (by unfold doE; rw [if_pos ⟨e1, e2⟩, if_neg (by omega)]) (by decide)
      · have hob : 0 ≤ q.object := by
          unfold asksE at e2
          split at e2
          · next h => exact h.1
          · cases e2
        obtain ⟨k, hk⟩ : ∃ k : Nat, q.object = k := ⟨q.object.toNat, by omega⟩
        have hkl : k < r.objs.length := by omega
        have hkn : q.object.toNat = k := by omega
        have hget : r.objs[q.object.toNat]? = some r.objs[k] := by rw [hkn]; exact List.getElem?_eq_getElem hkl
        have hde : doE r q = (stepO r.objs[k] q).1 := by unfold doE; rw [if_pos ⟨e1, e2⟩, if_pos (by omega), hget]
        have hdr : (doR r q).objs = r.objs.set k (stepO r.objs[k] q).2 := by unfold doR; rw [hget, hkn]
        have hdv : doV r q = (stepO r.objs[k] q).2.value := by unfold doV; rw [hget]
        have hso := hr.2 _ (List.getElem_mem hkl)
        have hmo : mayO r.objs[k] = true := by
          simp only [mayR, Bool.and_eq_true, List.all_eq_true] at e1
          exact e1.2.2 _ (List.getElem_mem hkl)
        have q1 := a_copied (h := [some (false, [.int .i64 r.boot, .lst .ro r.objs.length (objsC r.objs)]), some (false, [.int .i64 q.object, .int .i64 q.op, .int .i64 q.arg, .int .i64 q.ent.op, .lst .ro q.ent.who.length (q.ent.who.map .str)]), some (false, [.int .i64 0, .lst (.own 43) 0 []])]) r hr
        simp only [vR, rC] at q1
        have hj : ∀ (e : Int) (os : List Obt) (fr : Fr), restr [4, 7, 8, 9] fr = [(4, .ptr 2 0), (7, .ptr 4 0), (8, .ptr 3 (k * 3)), (9, .int .i64 e)] → doE r q = e → (e = 0 → os = (doR r q).objs) →
            W Try.prog J_record_Do_j1 fr [some (false, [.int .i64 r.boot, .lst .ro r.objs.length (objsC r.objs)]), some (false, [.int .i64 q.object, .int .i64 q.op, .int .i64 q.arg, .int .i64 q.ent.op, .lst .ro q.ent.who.length (q.ent.who.map .str)]), some (false, [.int .i64 0, .lst (.own 43) 0 []]), some (false, objsC os), some (true, [.int .i64 r.boot, .hs 3 r.objs.length])] (kret [.c 4 (some 2), .t 5, .t 6] (DoPost r q)) := by
          intro e os fr hfr hde2 hos
          simp only [J_record_Do_j1, W_keep]
          rw [hfr]
          simp only [wk,if_true,if_false,forall_const,implies_true,ne_eq,eq_self,Nat.reduceEqDiff,Nat.reduceAdd,Nat.reduceMul,Nat.reduceSub,Nat.reduceLeDiff,Nat.reduceLT,Int.reduceEq,Int.reduceLT,Int.reduceLE,Int.reduceAdd,Int.reduceSub,Int.reduceMul,Int.reduceNeg,Int.reduceNe,reduceCtorEq,Int.reduceToNat,↓reduceIte]
          refine ⟨fun he => ?_, fun he => ?_⟩
          · simp only [valL, wk,if_true,if_false,forall_const,implies_true,ne_eq,eq_self,Nat.reduceEqDiff,Nat.reduceAdd,Nat.reduceMul,Nat.reduceSub,Nat.reduceLeDiff,Nat.reduceLT,Int.reduceEq,Int.reduceLT,Int.reduceLE,Int.reduceAdd,Int.reduceSub,Int.reduceMul,Int.reduceNeg,Int.reduceNe,reduceCtorEq,Int.reduceToNat,↓reduceIte]
            exact no e _ hde2 he
          · have hos' := hos he
            rw [hos', hdr]
            have hl2 : k < (r.objs.set k (stepO r.objs[k] q).2).length := by simpa using hkl
            have hd : (objsC (r.objs.set k (stepO r.objs[k] q).2)).drop (k * 3) = .int .i64 (stepO r.objs[k] q).2.value :: .lst .ro (stepO r.objs[k] q).2.ents.length (entsC (stepO r.objs[k] q).2.ents) :: .int .i64 (stepO r.objs[k] q).2.version :: (objsC (r.objs.set k (stepO r.objs[k] q).2)).drop ((k + 1) * 3) := by
              have := objsC_drop hl2
              simpa using this
            simp only [hd, valL, wk,if_true,if_false,forall_const,implies_true,ne_eq,eq_self,Nat.reduceEqDiff,Nat.reduceAdd,Nat.reduceMul,Nat.reduceSub,Nat.reduceLeDiff,Nat.reduceLT,Int.reduceEq,Int.reduceLT,Int.reduceLE,Int.reduceAdd,Int.reduceSub,Int.reduceMul,Int.reduceNeg,Int.reduceNe,reduceCtorEq,Int.reduceToNat,↓reduceIte]
            unfold DoPost
            rw [hde2, if_pos he]
            exact ⟨3, by rw [hdr]; rfl, by rw [hdv]⟩
        have hnums : numOk q.arg = true := by
          unfold asksE at e2
          split at e2
          · next h => exact h.2.2
          · cases e2
        simp only [mayO, Bool.and_eq_true, numOk, decide_eq_true_eq] at hmo
        simp only [numOk, decide_eq_true_eq] at hnums
        refine ACalls.use (q1) ?_; rintro _ _ ⟨rfl, rfl⟩; simp only [wk,if_true,if_false,forall_const,implies_true,ne_eq,eq_self,Nat.reduceEqDiff,Nat.reduceAdd,Nat.reduceMul,Nat.reduceSub,Nat.reduceLeDiff,Nat.reduceLT,Int.reduceEq,Int.reduceLT,Int.reduceLE,Int.reduceAdd,Int.reduceSub,Int.reduceMul,Int.reduceNeg,Int.reduceNe,reduceCtorEq,Int.reduceToNat,↓reduceIte]
        refine ⟨⟨by omega, by omega⟩, ?_⟩
        rw [hkn]
        have hds := objsC_split hkl
        have hA : (objsC (r.objs.take k)).length = k * 3 := by rw [objsC_len]; simp; omega
        have hd0 : (objsC r.objs).drop (k * 3) = .int .i64 r.objs[k].value :: .lst .ro r.objs[k].ents.length (entsC r.objs[k].ents) :: .int .i64 r.objs[k].version :: (objsC r.objs).drop ((k + 1) * 3) := objsC_drop hkl
        refine ⟨fun o1 => ?_, fun o1 => ⟨fun o2 => ?_, fun o2 => ⟨fun o3 => ?_, fun o3 => ?_⟩⟩⟩
        · simp only [hd0, wk,if_true,if_false,forall_const,implies_true,ne_eq,eq_self,Nat.reduceEqDiff,Nat.reduceAdd,Nat.reduceMul,Nat.reduceSub,Nat.reduceLeDiff,Nat.reduceLT,Int.reduceEq,Int.reduceLT,Int.reduceLE,Int.reduceAdd,Int.reduceSub,Int.reduceMul,Int.reduceNeg,Int.reduceNe,reduceCtorEq,Int.reduceToNat,↓reduceIte]
          refine ⟨inR_of (by omega) (by omega), fun hb => hj 5 r.objs _ rfl (by rw [hde]; simp [stepO, o1, hb]) (fun h => absurd h (by decide)), fun hb => ⟨inR_of (by omega) (by omega), by rw [objsC_len]; omega, ?_⟩⟩
          have hset : (objsC r.objs).set (k * 3) (.int .i64 (r.objs[k].value + q.arg)) = objsC (r.objs.set k ⟨r.objs[k].value + q.arg, r.objs[k].ents, r.objs[k].version⟩) := by
            rw [hds, objsC_set hkl, show k * 3 = k * 3 + 0 by omega, set_at hA]; rfl
          rw [hset]
          exact hj 0 _ _ rfl (by rw [hde]; simp [stepO, o1, hb]) (fun _ => by rw [hdr]; simp [stepO, o1, hb])
        · have qt := a_turn (h := [some (false, [.int .i64 r.boot, .lst .ro r.objs.length (objsC r.objs)]), some (false, [.int .i64 q.object, .int .i64 q.op, .int .i64 q.arg, .int .i64 q.ent.op, .lst .ro q.ent.who.length (q.ent.who.map .str)]), some (false, [.int .i64 0, .lst (.own 43) 0 []]), some (false, objsC r.objs), some (true, [.int .i64 r.boot, .hs 3 r.objs.length])]) (id := 3) (off := k * 3) (A := objsC (r.objs.take k)) (B := objsC (r.objs.drop (k + 1))) (o := r.objs[k]) (fB := 44) (e := addE r.objs[k].ents q.ent) (l' := r.objs[k].ents ++ [q.ent]) q.ent (by rw [← hds]; rfl) hA hso ⟨by have := hso.1; simp; omega, fun y hy => by rcases List.mem_append.1 hy with h | h; exact hso.2 y h; simp at h; subst h; exact hq⟩ hmo.2.2 (by omega) (frees_objsC _) (frees_objsC _)
            (fun he h' id' f hf ho => a_add_no q.ent hf ho hq (by have := hso.1; omega) he) (fun he h' id' f hf ho => a_add_ok q.ent hf ho hq (by have := hso.1; omega) (by omega) he)
          simp only [vE, eC, List.set_cons_succ, List.set_cons_zero] at qt
          refine ACalls.use (qt) ?_; rintro _ _ ⟨rfl, rfl⟩; simp only [wk,if_true,if_false,forall_const,implies_true,ne_eq,eq_self,Nat.reduceEqDiff,Nat.reduceAdd,Nat.reduceMul,Nat.reduceSub,Nat.reduceLeDiff,Nat.reduceLT,Int.reduceEq,Int.reduceLT,Int.reduceLE,Int.reduceAdd,Int.reduceSub,Int.reduceMul,Int.reduceNeg,Int.reduceNe,reduceCtorEq,Int.reduceToNat,↓reduceIte]
          split
          · next he =>
            rw [← objsC_set hkl]
            exact hj _ _ _ rfl (by rw [hde]; simp [stepO, o2]) (fun _ => by rw [hdr]; simp [stepO, o2])
          · next he => exact hj _ r.objs _ rfl (by rw [hde]; simp [stepO, o2]) (fun h => absurd h he)
        · have qt := a_turn (h := [some (false, [.int .i64 r.boot, .lst .ro r.objs.length (objsC r.objs)]), some (false, [.int .i64 q.object, .int .i64 q.op, .int .i64 q.arg, .int .i64 q.ent.op, .lst .ro q.ent.who.length (q.ent.who.map .str)]), some (false, [.int .i64 0, .lst (.own 43) 0 []]), some (false, objsC r.objs), some (true, [.int .i64 r.boot, .hs 3 r.objs.length])]) (id := 3) (off := k * 3) (A := objsC (r.objs.take k)) (B := objsC (r.objs.drop (k + 1))) (o := r.objs[k]) (fB := 45) (e := remE r.objs[k].ents q.ent) (l' := without r.objs[k].ents (idxE q.ent r.objs[k].ents).toNat) q.ent (by rw [← hds]; rfl) hA hso ⟨by have := hso.1; simp [without]; omega, fun y hy => by rcases List.mem_append.1 hy with h | h; exact hso.2 y (List.mem_of_mem_take h); exact hso.2 y (List.mem_of_mem_drop h)⟩ hmo.2.2 (by omega) (frees_objsC _) (frees_objsC _)
            (fun he h' id' f hf ho => a_rem_no q.ent hf ho hq (by have := hso.1; omega) he) (fun he h' id' f hf ho => a_rem_ok q.ent hf ho hq (by have := hso.1; omega) (by omega) he)
          simp only [vE, eC, List.set_cons_succ, List.set_cons_zero] at qt
          refine ACalls.use (qt) ?_; rintro _ _ ⟨rfl, rfl⟩; simp only [wk,if_true,if_false,forall_const,implies_true,ne_eq,eq_self,Nat.reduceEqDiff,Nat.reduceAdd,Nat.reduceMul,Nat.reduceSub,Nat.reduceLeDiff,Nat.reduceLT,Int.reduceEq,Int.reduceLT,Int.reduceLE,Int.reduceAdd,Int.reduceSub,Int.reduceMul,Int.reduceNeg,Int.reduceNe,reduceCtorEq,Int.reduceToNat,↓reduceIte]
          split
          · next he =>
            rw [← objsC_set hkl]
            exact hj _ _ _ rfl (by rw [hde]; simp [stepO, o2, o3]) (fun _ => by rw [hdr]; simp [stepO, o2, o3])
          · next he => exact hj _ r.objs _ rfl (by rw [hde]; simp [stepO, o2, o3]) (fun h => absurd h he)
        · exact hj 0 r.objs _ rfl (by rw [hde]; simp [stepO, o1, o2, o3]) (fun _ => by rw [hdr]; simp [stepO, o1, o2, o3])
  · simp only [valL, wk,if_true,if_false,forall_const,implies_true,ne_eq,eq_self,Nat.reduceEqDiff,Nat.reduceAdd,Nat.reduceMul,Nat.reduceSub,Nat.reduceLeDiff,Nat.reduceLT,Int.reduceEq,Int.reduceLT,Int.reduceLE,Int.reduceAdd,Int.reduceSub,Int.reduceMul,Int.reduceNeg,Int.reduceNe,reduceCtorEq,Int.reduceToNat,↓reduceIte]
    exact no 2 _ (by unfold doE; rw [if_neg (by simp [e1])]) (by decide)
end Go.Proofs.Ytcbcnbefaggnhaa

/- record's Do as a call that leaves all objects alone; Need. -/
namespace Go.Proofs.Ytcbcnbefaggnhaa
set_option linter.unusedSimpArgs false
set_option linter.unusedVariables false
open Go.RowKit Go.Lib

theorem degs_objs (l : List Obt) : (objsC l).map deg = objsC l := by
  induction l with
  | nil => rfl
  | cons x l ih =>
    simp only [objsC, List.flatMap_cons, oC, List.cons_append, List.nil_append, List.map_cons] at ih ⊢
    rw [ih]
    rfl
def zeroR : Rcd := ⟨0, []⟩
theorem doR_len (r : Rcd) (q : Rqs) : (doR r q).objs.length = r.objs.length := by
  unfold doR
  split <;> simp
theorem doR_boot (r : Rcd) (q : Rqs) : (doR r q).boot = r.boot := by
  unfold doR
  split <;> rfl
theorem p_do_ok (r : Rcd) (q : Rqs) (hr : smallR r) (hq : smallE q.ent) (he : doE r q = 0) : PCalls Try.prog 18 [vR r, vQ q] (.tup [vR (doR r q), .int .i64 (doV r q), .int .i64 0]) := by
  refine pcalls_fz (by simp [free.frees, free_vR, free_vQ]) (by simp [free, free.frees, free_vR]) ((a_do r q hr hq).mono ?_)
  intro a h' hp
  unfold DoPost at hp
  rw [if_pos he] at hp
  obtain ⟨k, hk, rfl⟩ := hp
  simp only [fz_tup, fz_agg, fzs_cons, fzs_nil, fz_int, fz_hs hk, degs_objs, vR, rC, doR_len, doR_boot]
theorem p_do_no (r : Rcd) (q : Rqs) (hr : smallR r) (hq : smallE q.ent) (he : doE r q ≠ 0) : PCalls Try.prog 18 [vR r, vQ q] (.tup [vR zeroR, .int .i64 0, .int .i64 (doE r q)]) := by
  refine pcalls_of (by simp [free.frees, free_vR, free_vQ]) (by simp [free, free.frees, free_vR]) (ACalls.deep ((a_do r q hr hq).mono ?_))
  intro a h' hp
  unfold DoPost at hp
  rw [if_neg he] at hp
  subst hp
  simp only [rdpw]
  rfl
/-- what is done, with the objects at hand -/
theorem a_do_ok {h : Hp} (r : Rcd) (q : Rqs) (hr : smallR r) (hq : smallE q.ent) (he : doE r q = 0) : ACalls Try.prog 18 [vR r, vQ q] h (fun a h' => a = .tup [.agg [.int .i64 r.boot, .hs h.length r.objs.length], .int .i64 (doV r q), .int .i64 0] ∧ h' = h ++ [some (false, objsC (doR r q).objs)]) := by
  have h0 : ACalls Try.prog 18 [vR r, vQ q] [] (fun a h' => a = .tup [.agg [.int .i64 r.boot, .hs 0 r.objs.length], .int .i64 (doV r q), .int .i64 0] ∧ h' = [some (false, objsC (doR r q).objs)]) := by
    refine ACalls.one ((a_do r q hr hq).mono ?_)
    intro a h' hp
    unfold DoPost at hp
    rw [if_pos he] at hp
    obtain ⟨k, hk, rfl⟩ := hp
    exact ⟨k, _, hk, by simp [only, only.onlys], frees_objsC _, plains_objsC _, by simp [rn, rns], rfl⟩
  refine (ACalls.shift (by simp [free.frees, free_vR, free_vQ]) h0 h).mono ?_
  rintro a h' ⟨a0, h1, ⟨rfl, rfl⟩, rfl, rfl⟩
  exact ⟨by simp [sh, shs], by simp [shH, shs_free (frees_objsC _)]⟩
theorem p_need (q : Rqs) : PCalls Try.prog 25 [vQ q] (.int .i64 q.op) := by
  refine pcalls_of (by simp [free.frees, free_vQ]) rfl (acalls_of mixed J_record_Need_ok (Nat.le_of_ble_eq_true rfl) ?_); simp only [J_record_Need, vQ, qC, wk,if_true,if_false,forall_const,implies_true,ne_eq,eq_self,Nat.reduceEqDiff,Nat.reduceAdd,Nat.reduceMul,Nat.reduceSub,Nat.reduceLeDiff,Nat.reduceLT,Int.reduceEq,Int.reduceLT,Int.reduceLE,Int.reduceAdd,Int.reduceSub,Int.reduceMul,Int.reduceNeg,Int.reduceNe,reduceCtorEq,Int.reduceToNat,↓reduceIte]
/-- are records the same? -/
def sameO (a b : Obt) : Bool := decide (a.value = b.value) && (decide (a.version = b.version) && (decide (a.ents.length = b.ents.length) && (a.ents.zip b.ents).all fun p => sameEnt p.1 p.2))
def sameR (a b : Rcd) : Bool := decide (a.boot = b.boot) && (decide (a.objs.length = b.objs.length) && (a.objs.zip b.objs).all fun p => sameO p.1 p.2)
end Go.Proofs.Ytcbcnbefaggnhaa

/- record's Same. -/
namespace Go.Proofs.Ytcbcnbefaggnhaa
set_option linter.unusedSimpArgs false
set_option linter.unusedVariables false
open Go.RowKit Go.Lib

theorem sameO_no {a b : Obt} {k : Nat} (h1 : k < a.ents.length) (h2 : k < b.ents.length) (h : sameEnt a.ents[k] b.ents[k] = false) : sameO a b = false := by
  simp only [sameO, Bool.and_eq_false_iff]
  right; right; right
  rw [List.all_eq_false]
  refine ⟨(a.ents[k], b.ents[k]), ?_, by simp [h]⟩
  rw [List.mem_iff_getElem]
  exact ⟨k, by simp; omega, by simp⟩
theorem sameR_no {a b : Rcd} {k : Nat} (h1 : k < a.objs.length) (h2 : k < b.objs.length) (h : sameO a.objs[k] b.objs[k] = false) : sameR a b = false := by
  simp only [sameR, Bool.and_eq_false_iff]
  right; right
  rw [List.all_eq_false]
  refine ⟨(a.objs[k], b.objs[k]), ?_, by simp [h]⟩
  rw [List.mem_iff_getElem]
  exact ⟨k, by simp; omega, by simp⟩
theorem all_zip {α : Type} {l m : List α} {p : α → α → Bool} (hl : l.length = m.length) (h : ∀ (k : Nat) (h1 : k < l.length) (h2 : k < m.length), p l[k] m[k] = true) : (l.zip m).all (fun x => p x.1 x.2) = true := by
  rw [List.all_eq_true]
  intro x hx
  obtain ⟨k, hk, rfl⟩ := List.mem_iff_getElem.1 hx
  simp only [List.length_zip] at hk
  simp only [List.getElem_zip]
  exact h k (by omega) (by omega)
theorem two0 (ex : Hp) (x y : Option (Bool × List AV)) : (ex ++ [x] ++ [y])[ex.length]? = some x := by simp
theorem two1 (ex : Hp) (x y : Option (Bool × List AV)) : (ex ++ [x] ++ [y])[ex.length + 1]? = some y := by simp
theorem two2 (ex : Hp) (x : Option (Bool × List AV)) : (ex ++ [x]).length = ex.length + 1 := by simp
set_option maxRecDepth 100000 in
set_option maxHeartbeats 8000000 in
theorem p_rsame (a b : Rcd) (ha : smallR a) (hb : smallR b) : PCalls Try.prog 30 [vR a, vR b] (.bool (sameR a b)) := by
  refine pcalls_of (by simp [free.frees, free_vR]) rfl (acalls_of mixed J_record_Same_ok (Nat.le_of_ble_eq_true rfl) ?_); simp only [J_record_Same, vR, rC, wk,if_true,if_false,forall_const,implies_true,ne_eq,eq_self,Nat.reduceEqDiff,Nat.reduceAdd,Nat.reduceMul,Nat.reduceSub,Nat.reduceLeDiff,Nat.reduceLT,Int.reduceEq,Int.reduceLT,Int.reduceLE,Int.reduceAdd,Int.reduceSub,Int.reduceMul,Int.reduceNeg,Int.reduceNe,reduceCtorEq,Int.reduceToNat,↓reduceIte]
  have no : sameR a b = false → AV.bool false = .bool (sameR a b) := fun e => by rw [e]
  refine ⟨fun e1 => ⟨fun e2 => no (by have : ¬ a.objs.length = b.objs.length := by omega
                                      simp [sameR, this]), fun e2 => ?_⟩, fun e1 => no (by simp [sameR, e1])⟩
  have hn : a.objs.length = b.objs.length := by omega
  have hla := ha.1
  refine W_loop (fun n fr h' => ∃ (i : Nat) (ex : Hp), i ≤ a.objs.length ∧ n = a.objs.length - i ∧ h' = some (false, [.int .i64 a.boot, .lst .ro a.objs.length (objsC a.objs)]) :: some (false, [.int .i64 b.boot, .lst .ro b.objs.length (objsC b.objs)]) :: ex ∧ fr = [(3, .ptr 1 0), (25, .lst .ro a.objs.length (objsC a.objs)), (26, .int .i64 a.objs.length), (27, .int .i64 i)] ∧ ∀ (k : Nat) (h1 : k < a.objs.length) (h2 : k < b.objs.length), k < i → sameO a.objs[k] b.objs[k] = true) a.objs.length ⟨0, [], by omega, by omega, rfl, rfl, fun k _ _ h => by omega⟩ ?_
  rintro n fr h' ⟨i, ex, hi, rfl, rfl, rfl, hall⟩
  simp only [J_record_Same_j4, wk,if_true,if_false,forall_const,implies_true,ne_eq,eq_self,Nat.reduceEqDiff,Nat.reduceAdd,Nat.reduceMul,Nat.reduceSub,Nat.reduceLeDiff,Nat.reduceLT,Int.reduceEq,Int.reduceLT,Int.reduceLE,Int.reduceAdd,Int.reduceSub,Int.reduceMul,Int.reduceNeg,Int.reduceNe,reduceCtorEq,Int.reduceToNat,↓reduceIte]
  refine ⟨fun hlt => ?_, fun hge => ?_⟩
  · have hil : i < a.objs.length := by omega
    have hil2 : i < b.objs.length := by omega
    have hd : (objsC a.objs).drop ((i : Int).toNat * 3) = .int .i64 a.objs[i].value :: .lst .ro a.objs[i].ents.length (entsC a.objs[i].ents) :: .int .i64 a.objs[i].version :: (objsC a.objs).drop ((i + 1) * 3) := by rw [show (i : Int).toNat = i by omega]; exact objsC_drop hil
    have hd2 : (objsC b.objs).drop ((i : Int).toNat * 3) = .int .i64 b.objs[i].value :: .lst .ro b.objs[i].ents.length (entsC b.objs[i].ents) :: .int .i64 b.objs[i].version :: (objsC b.objs).drop ((i + 1) * 3) := by rw [show (i : Int).toNat = i by omega]; exact objsC_drop hil2
    have hin : ((0 ≤ (i : Int)) ∧ (i : Int) < (a.objs.length : Int)) = True := by simp; omega
    have hin2 : ((0 ≤ (i : Int)) ∧ (i : Int) < (b.objs.length : Int)) = True := by simp; omega
    simp only [hin, hin2, hd, hd2, true_and, wk,if_true,if_false,forall_const,implies_true,ne_eq,eq_self,Nat.reduceEqDiff,Nat.reduceAdd,Nat.reduceMul,Nat.reduceSub,Nat.reduceLeDiff,Nat.reduceLT,Int.reduceEq,Int.reduceLT,Int.reduceLE,Int.reduceAdd,Int.reduceSub,Int.reduceMul,Int.reduceNeg,Int.reduceNe,reduceCtorEq,Int.reduceToNat,↓reduceIte]
    simp only [two0, two1, two2, wk,if_true,if_false,forall_const,implies_true,ne_eq,eq_self,Nat.reduceEqDiff,Nat.reduceAdd,Nat.reduceMul,Nat.reduceSub,Nat.reduceLeDiff,Nat.reduceLT,Int.reduceEq,Int.reduceLT,Int.reduceLE,Int.reduceAdd,Int.reduceSub,Int.reduceMul,Int.reduceNeg,Int.reduceNe,reduceCtorEq,Int.reduceToNat,↓reduceIte]
    have nox : sameO a.objs[i] b.objs[i] = false → AV.bool false = .bool (sameR a b) := fun e => no (sameR_no hil hil2 e)
    refine ⟨fun v1 => ⟨fun v2 => ⟨fun v3 => nox (by have : ¬ a.objs[i].ents.length = b.objs[i].ents.length := by omega
                                                    simp [sameO, this]), fun v3 => ?_⟩, fun v2 => nox (by simp [sameO, v2])⟩, fun v1 => nox (by simp [sameO, v1])⟩
    have hne : a.objs[i].ents.length = b.objs[i].ents.length := by omega
    have hso := ha.2 _ (List.getElem_mem hil)
    have hsl := hso.1
    obtain ⟨H, hH⟩ : ∃ H : Hp, H = some (false, [.int .i64 a.boot, .lst .ro a.objs.length (objsC a.objs)]) :: some (false, [.int .i64 b.boot, .lst .ro b.objs.length (objsC b.objs)]) :: (ex ++ [some (true, [.int .i64 a.objs[i].value, .lst .ro a.objs[i].ents.length (entsC a.objs[i].ents), .int .i64 a.objs[i].version])] ++ [some (true, [.int .i64 b.objs[i].value, .lst .ro b.objs[i].ents.length (entsC b.objs[i].ents), .int .i64 b.objs[i].version])]) := ⟨_, rfl⟩
    rw [← hH]
    have g7 : ∀ ey, (H ++ ey)[ex.length + 1 + 1 + 1]? = some (some (true, [.int .i64 b.objs[i].value, .lst .ro b.objs[i].ents.length (entsC b.objs[i].ents), .int .i64 b.objs[i].version])) := fun ey => by rw [hH]; simp
    refine W_loop (fun n fr h' => ∃ (j : Nat) (ey : Hp), j ≤ a.objs[i].ents.length ∧ n = a.objs[i].ents.length - j ∧ h' = H ++ ey ∧ fr = [(3, .ptr 1 0), (7, .ptr (ex.length + 1 + 1 + 1) 0), (25, .lst .ro a.objs.length (objsC a.objs)), (26, .int .i64 a.objs.length), (27, .int .i64 i), (59, .lst .ro a.objs[i].ents.length (entsC a.objs[i].ents)), (60, .int .i64 a.objs[i].ents.length), (61, .int .i64 j)] ∧ ∀ (k : Nat) (h1 : k < a.objs[i].ents.length) (h2 : k < b.objs[i].ents.length), k < j → sameEnt a.objs[i].ents[k] b.objs[i].ents[k] = true) a.objs[i].ents.length ⟨0, [], by omega, by omega, by simp, rfl, fun k _ _ h => by omega⟩ ?_
    rintro n fr h' ⟨j, ey, hj, rfl, rfl, rfl, hall2⟩
    simp only [J_record_Same_j3, wk,if_true,if_false,forall_const,implies_true,ne_eq,eq_self,Nat.reduceEqDiff,Nat.reduceAdd,Nat.reduceMul,Nat.reduceSub,Nat.reduceLeDiff,Nat.reduceLT,Int.reduceEq,Int.reduceLT,Int.reduceLE,Int.reduceAdd,Int.reduceSub,Int.reduceMul,Int.reduceNeg,Int.reduceNe,reduceCtorEq,Int.reduceToNat,↓reduceIte]
    refine ⟨fun hlt2 => ?_, fun hge2 => ?_⟩
    · have hjl : j < a.objs[i].ents.length := by omega
      have hjl2 : j < b.objs[i].ents.length := by omega
      have hf : (entsC a.objs[i].ents).drop ((j : Int).toNat * 2) = .int .i64 a.objs[i].ents[j].op :: .lst .ro a.objs[i].ents[j].who.length (a.objs[i].ents[j].who.map .str) :: (entsC a.objs[i].ents).drop ((j + 1) * 2) := by rw [show (j : Int).toNat = j by omega]; exact entsC_drop hjl
      have hf2 : (entsC b.objs[i].ents).drop ((j : Int).toNat * 2) = .int .i64 b.objs[i].ents[j].op :: .lst .ro b.objs[i].ents[j].who.length (b.objs[i].ents[j].who.map .str) :: (entsC b.objs[i].ents).drop ((j + 1) * 2) := by rw [show (j : Int).toNat = j by omega]; exact entsC_drop hjl2
      have hjn : ((0 ≤ (j : Int)) ∧ (j : Int) < (a.objs[i].ents.length : Int)) = True := by simp; omega
      have hjn2 : ((0 ≤ (j : Int)) ∧ (j : Int) < (b.objs[i].ents.length : Int)) = True := by simp; omega
      have hw := (hso.2 _ (List.getElem_mem hjl)).1
      have qs := p_esame a.objs[i].ents[j] b.objs[i].ents[j] (by omega)
      simp only [vE, eC] at qs
      simp only [hjn, hjn2, hf, hf2, true_and, wk,if_true,if_false,forall_const,implies_true,ne_eq,eq_self,Nat.reduceEqDiff,Nat.reduceAdd,Nat.reduceMul,Nat.reduceSub,Nat.reduceLeDiff,Nat.reduceLT,Int.reduceEq,Int.reduceLT,Int.reduceLE,Int.reduceAdd,Int.reduceSub,Int.reduceMul,Int.reduceNeg,Int.reduceNe,reduceCtorEq,Int.reduceToNat,↓reduceIte]
      simp only [List.append_assoc, g7, hjn2, hf2, true_and, wk,if_true,if_false,forall_const,implies_true,ne_eq,eq_self,Nat.reduceEqDiff,Nat.reduceAdd,Nat.reduceMul,Nat.reduceSub,Nat.reduceLeDiff,Nat.reduceLT,Int.reduceEq,Int.reduceLT,Int.reduceLE,Int.reduceAdd,Int.reduceSub,Int.reduceMul,Int.reduceNeg,Int.reduceNe,reduceCtorEq,Int.reduceToNat,↓reduceIte]
      refine ⟨_, qs, ?_⟩
      simp only [wk,if_true,if_false,forall_const,implies_true,ne_eq,eq_self,Nat.reduceEqDiff,Nat.reduceAdd,Nat.reduceMul,Nat.reduceSub,Nat.reduceLeDiff,Nat.reduceLT,Int.reduceEq,Int.reduceLT,Int.reduceLE,Int.reduceAdd,Int.reduceSub,Int.reduceMul,Int.reduceNeg,Int.reduceNe,reduceCtorEq,Int.reduceToNat,↓reduceIte]
      refine ⟨fun e => nox (sameO_no hjl hjl2 e), fun e => ⟨inR_of (by omega) (by omega), a.objs[i].ents.length - (j + 1), by omega, j + 1, _, by omega, rfl, rfl, by simp, fun k h1 h2 hk => ?_⟩⟩
      by_cases hkj : k < j
      · exact hall2 k h1 h2 hkj
      · obtain rfl : k = j := by omega
        exact e
    · have hyes : sameO a.objs[i] b.objs[i] = true := by
        simp only [sameO, Bool.and_eq_true, decide_eq_true_eq]
        exact ⟨v1, v2, hne, all_zip hne (fun k h1 h2 => hall2 k h1 h2 (by omega))⟩
      simp only [J_record_Same_j2, wk,if_true,if_false,forall_const,implies_true,ne_eq,eq_self,Nat.reduceEqDiff,Nat.reduceAdd,Nat.reduceMul,Nat.reduceSub,Nat.reduceLeDiff,Nat.reduceLT,Int.reduceEq,Int.reduceLT,Int.reduceLE,Int.reduceAdd,Int.reduceSub,Int.reduceMul,Int.reduceNeg,Int.reduceNe,reduceCtorEq,Int.reduceToNat,↓reduceIte]
      refine ⟨inR_of (by omega) (by omega), a.objs.length - (i + 1), by omega, i + 1, ex ++ [some (true, [.int .i64 a.objs[i].value, .lst .ro a.objs[i].ents.length (entsC a.objs[i].ents), .int .i64 a.objs[i].version])] ++ [some (true, [.int .i64 b.objs[i].value, .lst .ro b.objs[i].ents.length (entsC b.objs[i].ents), .int .i64 b.objs[i].version])] ++ ey, by omega, rfl, by rw [hH]; rfl, by simp, fun k h1 h2 hk => ?_⟩
      by_cases hki : k < i
      · exact hall k h1 h2 hki
      · obtain rfl : k = i := by omega
        exact hyes
  · simp only [J_record_Same_j1, wk,if_true,if_false,forall_const,implies_true,ne_eq,eq_self,Nat.reduceEqDiff,Nat.reduceAdd,Nat.reduceMul,Nat.reduceSub,Nat.reduceLeDiff,Nat.reduceLT,Int.reduceEq,Int.reduceLT,Int.reduceLE,Int.reduceAdd,Int.reduceSub,Int.reduceMul,Int.reduceNeg,Int.reduceNe,reduceCtorEq,Int.reduceToNat,↓reduceIte]
    congr 1
    symm
    simp only [sameR, Bool.and_eq_true, decide_eq_true_eq]
    exact ⟨e1, hn, all_zip hn (fun k h1 h2 => hall k h1 h2 (by omega))⟩
end Go.Proofs.Ytcbcnbefaggnhaa

/- The plain law of reading: what is read was written so. -/
namespace Go.Proofs.Ytcbcnbefaggnhaa
set_option linter.unusedSimpArgs false
set_option linter.unusedVariables false
open Go.RowKit Go.Lib

/-- what was read up to a place -/
def upTo (S : ByteArray) (p : Nat) : List UInt8 := S.data.toList.take p
theorem upTo_add (S : ByteArray) (p m : Nat) : upTo S (p + m) = upTo S p ++ (S.data.toList.drop p).take m := by
  unfold upTo; rw [List.take_add]
theorem upTo_size (S : ByteArray) : upTo S S.size = S.data.toList := by unfold upTo; rw [List.take_of_length_le (by simp)]
theorem upTo_len {S : ByteArray} {p : Nat} (h : p ≤ S.size) : (upTo S p).length = p := by unfold upTo; rw [List.length_take]; simp; omega
theorem ext_list (S : ByteArray) (p m : Nat) : (S.extract p (p + m)).data.toList = (S.data.toList.drop p).take m := by
  simp [List.extract_eq_take_drop]
theorem upTo_num {S : ByteArray} {most : Int} {p n q : Nat} (h : rNum S most p = some (n, q)) : upTo S q = upTo S p ++ num n := by
  unfold rNum at h
  split at h
  · next n' m hr =>
    split at h
    · simp only [Option.some.injEq, Prod.mk.injEq] at h
      obtain ⟨rfl, rfl⟩ := h
      rw [upTo_add, rdNum_back hr]
    · cases h
  · cases h
theorem upTo_take {S w : ByteArray} {n p q : Nat} (h : rTake S n p = some (w, q)) : upTo S q = upTo S p ++ w.data.toList ∧ w.size = n := by
  obtain ⟨rfl, h2, rfl⟩ := rTake_le h
  rw [upTo_add, ext_list]
  exact ⟨rfl, by simp; omega⟩
theorem upTo_text {S w : ByteArray} {most : Int} {p q : Nat} (h : rText S most p = some (w, q)) : upTo S q = upTo S p ++ (num w.size ++ w.data.toList) := by
  unfold rText at h
  split at h
  · next n q1 hr =>
    obtain ⟨h1, h2⟩ := upTo_take h
    rw [h1, upTo_num hr, h2, List.append_assoc]
  · cases h
theorem upTo_word {S w : ByteArray} {p q : Nat} (h : rWord S p = some (w, q)) : upTo S q = upTo S p ++ wordBytes w := by
  obtain ⟨h1, h2, h3, h4, h5⟩ := rWord_le h
  have hlt : p < S.data.toList.length := by simp; omega
  have hw : w.size = 2 * byteAt S p := by rw [h4]; simp; omega
  have hb := byteAt_lt S p
  have e : byteAt S p = S.data.toList[p].toNat := by
    unfold byteAt
    rw [List.getElem?_eq_getElem hlt]; rfl
  rw [show q = p + (1 + 2 * byteAt S p) by omega, upTo_add, List.drop_eq_getElem_cons hlt, Nat.add_comm 1, List.take_succ_cons, wordBytes]
  congr 2
  · rw [hw, show 2 * byteAt S p / 2 = byteAt S p by omega, e]; simp
  · rw [h4, show q = p + 1 + 2 * byteAt S p by omega, ext_list]
theorem upTo_words {S : ByteArray} {p : Nat} : ∀ {k : Nat} {l : List ByteArray} {q : Nat}, rWords S p k = some (l, q) → upTo S q = upTo S p ++ l.flatMap wordBytes
  | 0, l, q, h => by
    simp only [rWords, Option.some.injEq, Prod.mk.injEq] at h
    obtain ⟨rfl, rfl⟩ := h
    simp
  | k + 1, l, q, h => by
    simp only [rWords] at h
    split at h
    · next l' q' hr =>
      split at h
      · next w q2 hr2 =>
        simp only [Option.some.injEq, Prod.mk.injEq] at h
        obtain ⟨rfl, rfl⟩ := h
        rw [upTo_word hr2, upTo_words hr]
        simp
      · cases h
    · cases h
theorem upTo_set {S : ByteArray} {l : List ByteArray} {p q : Nat} (h : rSet S p = some (l, q)) : upTo S q = upTo S p ++ setBytes l ∧ setMay l = true ∧ p < q ∧ q ≤ S.size := by
  unfold rSet at h
  split at h
  · cases h
  · next hlt =>
    split at h
    · next l' q' hr =>
      split at h
      · next hm =>
        simp only [Option.some.injEq, Prod.mk.injEq] at h
        obtain ⟨rfl, rfl⟩ := h
        have hl := rWords_le (by omega) hr
        have hp : p < S.data.toList.length := by simp; omega
        refine ⟨?_, hm, by omega, hl.2.2.1⟩
        have e : byteAt S p = S.data.toList[p].toNat := by
          unfold byteAt
          rw [List.getElem?_eq_getElem hp]; rfl
        rw [upTo_words hr, upTo_add, List.drop_eq_getElem_cons hp, setBytes, hl.1, e]
        simp
      · cases h
    · cases h
theorem rText_le {S w : ByteArray} {most : Int} {p q : Nat} (h : rText S most p = some (w, q)) (hp : p ≤ S.size) : p < q ∧ q ≤ S.size ∧ w.size ≤ S.size := by
  unfold rText at h
  split at h
  · next n q1 hr =>
    have h1 := rNum_le hr hp
    obtain ⟨h2, h3, h4⟩ := rTake_le h
    exact ⟨by omega, h3, by rw [h4]; simp; omega⟩
  · cases h
end Go.Proofs.Ytcbcnbefaggnhaa

/- The plain law of writing: what is written is read. -/
namespace Go.Proofs.Ytcbcnbefaggnhaa
set_option linter.unusedSimpArgs false
set_option linter.unusedVariables false
open Go.RowKit Go.Lib

theorem snocRec {α : Type} {p : List α → Prop} (nil : p []) (append_singleton : ∀ (l : List α) (x : α), p l → p (l ++ [x])) (l : List α) : p l := by
  rw [← List.reverse_reverse l]
  induction l.reverse with
  | nil => exact nil
  | cons x r ih => rw [List.reverse_cons]; exact append_singleton _ _ ih
theorem rNum_at {S : ByteArray} {most : Int} {p n : Nat} {r : List UInt8} (h : S.data.toList.drop p = num n ++ r) (hn : n ≤ 4611686018427387904) (hm : (n : Int) ≤ most) : rNum S most p = some (n, p + (num n).length) := by
  unfold rNum
  rw [h, rdNum_num r hn]
  simp only
  rw [if_pos hm]
theorem drop_more {S : ByteArray} {p : Nat} {a r : List UInt8} (h : S.data.toList.drop p = a ++ r) : S.data.toList.drop (p + a.length) = r := by
  rw [← List.drop_drop, h, List.drop_left]
theorem drop_len {S : ByteArray} {p : Nat} {a r : List UInt8} (h : S.data.toList.drop p = a ++ r) : p + a.length ≤ S.size ∨ a = [] := by
  have := congrArg List.length h
  simp only [List.length_drop, List.length_append, ba_len] at this
  by_cases ha : a = []
  · exact .inr ha
  · have : 0 < a.length := List.length_pos_iff.2 ha
    exact .inl (by omega)
theorem rTake_at {S w : ByteArray} {p : Nat} {r : List UInt8} (h : S.data.toList.drop p = w.data.toList ++ r) (hp : p ≤ S.size) : rTake S w.size p = some (w, p + w.size) := by
  have hl := congrArg List.length h
  simp only [List.length_drop, List.length_append, ba_len] at hl
  unfold rTake
  rw [if_neg (by omega)]
  congr 2
  apply WideShapes.bytes_inj
  rw [ext_list, h, ← ba_len w, List.take_left]
theorem rText_at {S w : ByteArray} {p : Nat} {r : List UInt8} (h : S.data.toList.drop p = (num w.size ++ w.data.toList) ++ r) (hp : p ≤ S.size) (hw : w.size ≤ 4611686018427387904) : rText S w.size p = some (w, p + (num w.size ++ w.data.toList).length) := by
  unfold rText
  rw [List.append_assoc] at h
  rw [rNum_at h hw (by omega)]
  have h1 := drop_more h
  have hq : p + (num w.size).length ≤ S.size := by
    rcases drop_len h with h2 | h2
    · exact h2
    · rw [h2]; exact hp
  simp only
  rw [rTake_at h1 hq, List.length_append, ba_len, Nat.add_assoc]
theorem rWord_at {S w : ByteArray} {p : Nat} {r : List UInt8} (h : S.data.toList.drop p = wordBytes w ++ r) (hw : wordMay w = true) : rWord S p = some (w, p + (wordBytes w).length) := by
  have hs := wordMay_size hw
  have hl := congrArg List.length h
  have hwl : (wordBytes w).length = 1 + w.size := by rw [wordBytes, List.length_cons, ba_len]; omega
  simp only [List.length_drop, List.length_append, ba_len, hwl] at hl
  have hp : p < S.data.toList.length := by rw [ba_len]; omega
  have hb : byteAt S p = w.size / 2 := by
    unfold byteAt
    rw [← List.head?_drop, h]
    simp [wordBytes]; omega
  have h1 : S.data.toList.drop (p + 1) = w.data.toList ++ r := by
    rw [← List.drop_drop, h, wordBytes]; rfl
  unfold rWord
  rw [if_neg (by omega), hb, show 2 * (w.size / 2) = w.size by omega, if_neg (by omega)]
  have e : S.extract (p + 1) (p + 1 + w.size) = w := by
    apply WideShapes.bytes_inj
    rw [ext_list, h1, ← ba_len w, List.take_left]
  rw [e, hw, if_pos rfl, hwl]
  congr 2; omega
theorem rWords_at {S : ByteArray} : ∀ (l : List ByteArray) {p : Nat} {r : List UInt8}, S.data.toList.drop p = l.flatMap wordBytes ++ r → (∀ w ∈ l, wordMay w = true) → rWords S p l.length = some (l, p + (l.flatMap wordBytes).length) := by
  intro l
  induction l using snocRec with
  | nil => intro p r _ _; rfl
  | append_singleton l w ih =>
    intro p r h hw
    rw [List.flatMap_append, List.append_assoc] at h
    have h1 := drop_more h
    rw [List.length_append]
    simp only [List.length_cons, List.length_nil, Nat.zero_add, rWords]
    rw [ih h (fun x hx => hw x (by simp [hx]))]
    simp only [List.flatMap_cons, List.flatMap_nil, List.append_nil] at h1
    simp only
    rw [rWord_at h1 (hw w (by simp))]
    simp [Nat.add_assoc]
theorem rSet_at {S : ByteArray} {l : List ByteArray} {p : Nat} {r : List UInt8} (h : S.data.toList.drop p = setBytes l ++ r) (hm : setMay l = true) : rSet S p = some (l, p + (setBytes l).length) := by
  have hs := setMay_words hm
  have hl := congrArg List.length h
  have hwl : (setBytes l).length = 1 + (l.flatMap wordBytes).length := by rw [setBytes, List.length_cons]; omega
  simp only [List.length_drop, List.length_append, ba_len, hwl] at hl
  have hb : byteAt S p = l.length := by
    unfold byteAt
    rw [← List.head?_drop, h]
    simp [setBytes]; omega
  have h1 : S.data.toList.drop (p + 1) = l.flatMap wordBytes ++ r := by
    rw [← List.drop_drop, h, setBytes]; rfl
  unfold rSet
  rw [if_neg (by omega), hb, rWords_at l h1 hs.2]
  simp only
  rw [hm, if_pos rfl, hwl]
  congr 2; omega

theorem wri_none (s : Bool × List UInt8) : wri true [] s = s := by
  obtain ⟨b, l⟩ := s
  cases b <;> simp [wri]
end Go.Proofs.Ytcbcnbefaggnhaa

/- What the reference's sets do: words in order, each once. -/
namespace Go.Proofs.Ytcbcnbefaggnhaa
set_option linter.unusedSimpArgs false
set_option linter.unusedVariables false
open Go.RowKit Go.Lib

theorem rising_get {r : List ByteArray} (hr : rising r = true) : ∀ {i j : Nat} (hi : i < j) (hj : j < r.length), wless (r[i]'(by omega)) r[j] = true := by
  induction r with
  | nil => intro i j _ hj; simp at hj
  | cons x r ih =>
    obtain ⟨h1, h2⟩ := rising_cons.1 hr
    intro i j hi hj
    cases j with
    | zero => omega
    | succ j =>
      cases i with
      | zero => exact h1 _ (List.getElem_mem _)
      | succ i => exact ih h2 (by omega) (by simpa using hj)
/-- comes a word behind those that were taken? -/
def aft (r : List ByteArray) (k : Nat) (x : ByteArray) : Prop := k = 0 ∨ ∃ h : k - 1 < r.length, wless r[k - 1] x = true
theorem aft_iff {r : List ByteArray} (hr : rising r = true) {k j : Nat} (hk : k ≤ r.length) (hj : j < r.length) : aft r k r[j] ↔ k ≤ j := by
  unfold aft
  constructor
  · rintro (h | ⟨h, hw⟩)
    · omega
    · rcases Nat.lt_or_ge j k with hlt | hge
      · by_cases e : j = k - 1
        · subst e; rw [wless_irrefl] at hw; cases hw
        · have := rising_get hr (i := j) (j := k - 1) (by omega) (by omega)
          rw [wless_asymm this] at hw; cases hw
      · exact hge
  · intro h
    by_cases h0 : k = 0
    · exact .inl h0
    · exact .inr ⟨by omega, rising_get hr (by omega) hj⟩
structure RInv (l : List ByteArray) (k i : Nat) (best : ByteArray) (found : Bool) : Prop where
  no : found = false → ∀ x ∈ l.take i, ¬ aft (nrm l) k x
  mem : found = true → best ∈ l ∧ aft (nrm l) k best
  least : found = true → ∀ x ∈ l.take i, aft (nrm l) k x → wless x best = false
theorem RInv.zero (l : List ByteArray) (k : Nat) : RInv l k 0 ⟨#[]⟩ false := ⟨fun _ x hx => by simp at hx, fun h => (nomatch h), fun h => (nomatch h)⟩
theorem RInv.take {l : List ByteArray} {k i : Nat} {best : ByteArray} {found : Bool} (h : RInv l k i best found) (hi : i < l.length) (ha : aft (nrm l) k l[i]) (hb : found = true → wless l[i] best = true) : RInv l k (i + 1) l[i] true := by
  refine ⟨fun h => (nomatch h), fun _ => ⟨List.getElem_mem hi, ha⟩, fun _ x hx hax => ?_⟩
  rcases (by rw [List.take_succ_eq_append_getElem hi, List.mem_append] at hx; simpa using hx : x ∈ l.take i ∨ x = l[i]) with hx | rfl
  · cases found with
    | false => exact absurd hax (h.no rfl x hx)
    | true =>
      cases hw : wless x l[i] with
      | false => rfl
      | true =>
        have := wless_trans hw (hb rfl)
        rw [h.least rfl x hx hax] at this; cases this
  · exact wless_irrefl _
theorem RInv.skip {l : List ByteArray} {k i : Nat} {best : ByteArray} {found : Bool} (h : RInv l k i best found) (hi : i < l.length) (hs : ¬ aft (nrm l) k l[i] ∨ (found = true ∧ wless l[i] best = false)) : RInv l k (i + 1) best found := by
  have key : ∀ x, x ∈ l.take (i + 1) → x ∈ l.take i ∨ x = l[i] := fun x hx => by rw [List.take_succ_eq_append_getElem hi, List.mem_append] at hx; simpa using hx
  refine ⟨fun hf x hx => ?_, h.mem, fun hf x hx hax => ?_⟩
  · rcases key x hx with hx | rfl
    · exact h.no hf x hx
    · rcases hs with hs | ⟨hs, _⟩
      · exact hs
      · rw [hf] at hs; cases hs
  · rcases key x hx with hx | rfl
    · exact h.least hf x hx hax
    · rcases hs with hs | ⟨_, hs⟩
      · exact absurd hax hs
      · exact hs
theorem RInv.stop {l : List ByteArray} {k : Nat} {best : ByteArray} (h : RInv l k l.length best false) (hk : k ≤ (nrm l).length) : k = (nrm l).length := by
  rcases Nat.lt_or_ge k (nrm l).length with hlt | hge
  · have hm : (nrm l)[k] ∈ l := mem_nrm.1 (List.getElem_mem hlt)
    exact absurd ((aft_iff (rising_nrm l) hk hlt).2 (Nat.le_refl _)) (h.no rfl _ (by rw [List.take_length]; exact hm))
  · omega
theorem RInv.next {l : List ByteArray} {k : Nat} {best : ByteArray} (h : RInv l k l.length best true) (hk : k ≤ (nrm l).length) : ∃ hlt : k < (nrm l).length, best = (nrm l)[k] := by
  obtain ⟨hm, ha⟩ := h.mem rfl
  obtain ⟨j, hj, e⟩ := List.mem_iff_getElem.1 (mem_nrm.2 hm)
  subst e
  have hkj := (aft_iff (rising_nrm l) hk hj).1 ha
  refine ⟨by omega, ?_⟩
  by_cases e : j = k
  · subst e; rfl
  · have hlt : k < (nrm l).length := by omega
    have h1 := h.least rfl (nrm l)[k] (by rw [List.take_length]; exact mem_nrm.1 (List.getElem_mem hlt)) ((aft_iff (rising_nrm l) hk hlt).2 (Nat.le_refl _))
    rw [rising_get (rising_nrm l) (by omega) hj] at h1; cases h1
theorem nrm_len : ∀ l : List ByteArray, (nrm l).length ≤ l.length := by
  have h : ∀ (x : ByteArray) (l : List ByteArray), (ins x l).length ≤ l.length + 1 := by
    intro x l
    induction l with
    | nil => simp [ins]
    | cons y l ih => simp only [ins]; split; simp; split <;> simp only [List.length_cons] <;> omega
  intro l
  induction l with
  | nil => simp [nrm]
  | cons x l ih => simp only [nrm, List.length_cons]; have := h x (nrm l); omega
end Go.Proofs.Ytcbcnbefaggnhaa

/- What the reference's sets do: Of, And, Quote, As, For, and what is asked. -/
namespace Go.Proofs.Ytcbcnbefaggnhaa
set_option linter.unusedSimpArgs false
set_option linter.unusedVariables false
open Go.RowKit Go.Lib

/-- a set and what is wrong, as told -/
def vSet (r : List ByteArray × Int) : AV := .tup [.lst .ro r.1.length (r.1.map .str), .int .i64 r.2]
theorem free_vSet (r : List ByteArray × Int) : free (vSet r) = true := by simp [vSet, free, free.frees, frees_str]
def boundE (l : List ByteArray) : List ByteArray × Int := if 1 ≤ l.length ∧ l.length ≤ 16 then (l, 0) else ([], 3)
theorem ofE_may {l : List ByteArray} (h : ∀ x ∈ l, wordMay x = true) : ofE l = boundE (nrm l) := by
  unfold ofE
  rw [if_neg (by rw [List.all_eq_true.2 h]; simp)]; rfl
/-- a word's atoms, as numbers -/
def atomNs (s : ByteArray) : List Nat := (List.range (s.size / 2)).map (atomAt s)
theorem atomsL_eq (s : ByteArray) : atomsL s (s.size / 2) = u16s (atomNs s) := by simp [atomsL, atomNs, u16s]
theorem atomNs_len (s : ByteArray) : (atomNs s).length = s.size / 2 := by simp [atomNs]
theorem atomNs_lt (s : ByteArray) : ∀ a ∈ atomNs s, a < 65536 := by
  intro a ha
  obtain ⟨i, _, rfl⟩ := List.mem_map.1 ha
  exact atomAt_lt s i
theorem atomBytes_app (a b : List Nat) : atomBytes (a ++ b) = atomBytes a ++ atomBytes b := by simp [atomBytes]
theorem atomBytes_atoms {s : ByteArray} (h : s.size % 2 = 0) : atomBytes (atomNs s) = s.data.toList := by
  have key : ∀ k, 2 * k ≤ s.size → atomBytes ((List.range k).map (atomAt s)) = s.data.toList.take (2 * k) := by
    intro k
    induction k with
    | zero => intro _; rfl
    | succ k ih =>
      intro hk
      rw [List.range_succ, List.map_append, atomBytes_app, ih (by omega)]
      have h1 : 2 * k < s.data.toList.length := by simp; omega
      have h2 : 2 * k + 1 < s.data.toList.length := by simp; omega
      rw [show 2 * (k + 1) = 2 * k + 1 + 1 by omega, List.take_succ_eq_append_getElem h2, List.take_succ_eq_append_getElem h1, List.append_assoc]
      congr 1
      have ha : atomAt s k = s[2 * k].toNat * 256 + s[2 * k + 1].toNat := by unfold atomAt; rw [dif_pos (by omega)]
      have b1 := s[2 * k].toNat_lt
      have b2 := s[2 * k + 1].toNat_lt
      simp only [List.map_cons, List.map_nil, atomBytes, List.flatMap_cons, List.flatMap_nil, List.append_nil, ha]
      have e1 : (s[2 * k].toNat * 256 + s[2 * k + 1].toNat) / 256 = s[2 * k].toNat := by omega
      have e2 : (s[2 * k].toNat * 256 + s[2 * k + 1].toNat) % 256 = s[2 * k + 1].toNat := by omega
      rw [e1, e2]
      simp
      exact ⟨rfl, rfl⟩
  have := key (s.size / 2) (by omega)
  unfold atomNs
  rw [this, List.take_of_length_le (by simp; omega)]
/-- words one behind the other -/
def catN (l : List ByteArray) : List Nat := l.flatMap atomNs
def catE (l : List ByteArray) : ByteArray × Int := if 8 < (catN l).length then (⟨#[]⟩, 4) else (⟨(l.flatMap fun s => s.data.toList).toArray⟩, 0)
theorem catN_bytes {l : List ByteArray} (h : ∀ x ∈ l, x.size % 2 = 0) : atomBytes (catN l) = l.flatMap fun s => s.data.toList := by
  induction l with
  | nil => rfl
  | cons x l ih => simp only [catN, List.flatMap_cons] at ih ⊢; rw [atomBytes_app, atomBytes_atoms (h x (by simp)), ih (fun y hy => h y (by simp [hy]))]
end Go.Proofs.Ytcbcnbefaggnhaa

/- What the reference's sets do: Quote, As, For. -/
namespace Go.Proofs.Ytcbcnbefaggnhaa
set_option linter.unusedSimpArgs false
set_option linter.unusedVariables false
open Go.RowKit Go.Lib

theorem wordMay_even {s : ByteArray} (h : wordMay s = true) : s.size % 2 = 0 ∧ s.size ≤ 16 := by have := wordMay_size h; omega
theorem catE_two {x y : ByteArray} (hx : wordMay x = true) (hy : wordMay y = true) : catE [x, y] = if 8 < (x ++ y).size / 2 then (⟨#[]⟩, 4) else (x ++ y, 0) := by
  have h1 := wordMay_even hx
  have h2 := wordMay_even hy
  have e : (catN [x, y]).length = (x ++ y).size / 2 := by
    simp only [catN, List.flatMap_cons, List.flatMap_nil, List.append_nil, List.length_append, atomNs_len, ByteArray.size_append]; omega
  have e2 : (⟨([x, y].flatMap fun s => s.data.toList).toArray⟩ : ByteArray) = x ++ y := by
    apply ByteArray.ext; apply Array.ext'; simp
  unfold catE
  rw [e, e2]
/-- the pairs up to a place -/
def prodTo (a b : List ByteArray) (i k : Nat) : List ByteArray := prodW (a.take i) b ++ (match a[i]? with | some x => (b.take k).map fun y => x ++ y | none => [])
theorem prodTo_zero (a b : List ByteArray) (i : Nat) : prodTo a b i 0 = prodW (a.take i) b := by unfold prodTo; cases a[i]? <;> simp
theorem prodTo_succ {a b : List ByteArray} {i k : Nat} (hi : i < a.length) (hk : k < b.length) : prodTo a b i (k + 1) = prodTo a b i k ++ [a[i] ++ b[k]] := by
  unfold prodTo
  rw [List.getElem?_eq_getElem hi]
  simp only
  rw [List.take_succ_eq_append_getElem hk, List.map_append, List.append_assoc]; rfl
theorem prodTo_next {a b : List ByteArray} {i : Nat} (hi : i < a.length) : prodTo a b i b.length = prodW (a.take (i + 1)) b := by
  unfold prodTo prodW
  rw [List.getElem?_eq_getElem hi, List.take_succ_eq_append_getElem hi, List.flatMap_append, List.take_length]
  simp
theorem prodTo_len {a b : List ByteArray} {i k : Nat} (ha : a.length ≤ 16) (hb : b.length ≤ 16) : (prodTo a b i k).length ≤ 272 := by
  have h1 : ∀ l : List ByteArray, (prodW l b).length = l.length * b.length := by
    intro l
    induction l with
    | nil => simp [prodW]
    | cons x l ih => simp only [prodW, List.flatMap_cons, List.length_append, List.length_map, List.length_cons] at ih ⊢; rw [ih, Nat.add_mul]; omega
  unfold prodTo
  rw [List.length_append, h1]
  have h2 : (a.take i).length * b.length ≤ 16 * 16 := Nat.mul_le_mul (by rw [List.length_take]; omega) hb
  have h3 : (match a[i]? with | some x => (b.take k).map fun y => x ++ y | none => []).length ≤ 16 := by
    cases a[i]? with
    | none => simp
    | some x => simp only [List.length_map, List.length_take]; omega
  omega
theorem mem_prodW {a b : List ByteArray} {w : ByteArray} : w ∈ prodW a b ↔ ∃ x ∈ a, ∃ y ∈ b, w = x ++ y := by
  unfold prodW
  simp only [List.mem_flatMap, List.mem_map]
  constructor
  · rintro ⟨x, hx, y, hy, rfl⟩; exact ⟨x, hx, y, hy, rfl⟩
  · rintro ⟨x, hx, y, hy, rfl⟩; exact ⟨x, hx, y, hy, rfl⟩
theorem atomAt_app_left {x y : ByteArray} {i : Nat} (h : 2 * i + 1 < x.size) : atomAt (x ++ y) i = atomAt x i := by
  unfold atomAt
  rw [dif_pos (by rw [ByteArray.size_append]; omega), dif_pos h, ByteArray.getElem_append_left (by omega), ByteArray.getElem_append_left h]
theorem atomAt_app_right {x y : ByteArray} {i : Nat} (hx : x.size % 2 = 0) (h : x.size ≤ 2 * i) (h2 : 2 * i + 1 < (x ++ y).size) : atomAt (x ++ y) i = atomAt y (i - x.size / 2) := by
  rw [ByteArray.size_append] at h2
  unfold atomAt
  rw [dif_pos (by rw [ByteArray.size_append]; omega), dif_pos (by omega), ByteArray.getElem_append_right (by omega), ByteArray.getElem_append_right (by omega)]
  have e1 : 2 * (i - x.size / 2) = 2 * i - x.size := by omega
  have e2 : 2 * i + 1 - x.size = 2 * i - x.size + 1 := by omega
  simp only [e1, e2]
theorem wordMay_app {x y : ByteArray} (hx : wordMay x = true) (hy : wordMay y = true) (h8 : (x ++ y).size / 2 ≤ 8) : wordMay (x ++ y) = true := by
  have h1 := wordMay_size hx
  have h2 := wordMay_size hy
  simp only [wordMay, decide_eq_true_eq] at hx hy ⊢
  rw [ByteArray.size_append] at h8 ⊢
  refine ⟨by omega, by omega, by omega, fun i hi => ?_⟩
  by_cases h : 2 * i < x.size
  · rw [atomAt_app_left (by omega)]; exact hx.2.2.2 i (by omega)
  · rw [atomAt_app_right (by omega) (by omega) (by rw [ByteArray.size_append]; omega)]; exact hy.2.2.2 _ (by omega)
theorem quoteE_big {a b : List ByteArray} (ha : setMay a = true) (hb : setMay b = true) {x y : ByteArray} (hx : x ∈ a) (hy : y ∈ b) (h : 8 < (x ++ y).size / 2) : quoteE a b = ([], 4) := by
  unfold quoteE
  rw [if_neg (by simp [ha, hb]), if_pos]
  rw [List.any_eq_true]
  exact ⟨x ++ y, mem_prodW.2 ⟨x, hx, y, hy, rfl⟩, by simpa using h⟩
theorem quoteE_fit {a b : List ByteArray} (ha : setMay a = true) (hb : setMay b = true) (h : ∀ w ∈ prodW a b, w.size / 2 ≤ 8) : quoteE a b = boundE (nrm (prodW a b)) := by
  unfold quoteE
  rw [if_neg (by simp [ha, hb]), if_neg]
  · refine ofE_may fun w hw => ?_
    have h8 := h w hw
    obtain ⟨x, hx, y, hy, rfl⟩ := mem_prodW.1 hw
    exact wordMay_app ((setMay_words ha).2 x hx) ((setMay_words hb).2 y hy) h8
  · rw [List.any_eq_true]
    rintro ⟨w, hw, h1⟩
    have := h w hw
    simp only [decide_eq_true_eq] at h1
    omega
theorem atomBytes_one (r : Nat) : (⟨(atomBytes [r]).toArray⟩ : ByteArray) = atomW r := by
  apply ByteArray.ext; apply Array.ext'; simp [atomBytes, atomW]
theorem ofE_good {l r : List ByteArray} (h : ofE l = (r, 0)) : setMay r = true := by
  unfold ofE at h
  split at h
  · cases h
  · next hall =>
    split at h
    · next hlen =>
      simp only [Prod.mk.injEq, and_true] at h
      subst h
      refine setMay_mk hlen.1 hlen.2 (fun x hx => ?_) (rising_nrm l)
      have : l.all wordMay = true := by simpa using hall
      exact List.all_eq_true.1 this x (mem_nrm.1 hx)
    · cases h
theorem ofE_zero {l : List ByteArray} (h : (ofE l).2 ≠ 0) : (ofE l).1 = [] := by
  unfold ofE at h ⊢
  split
  · rfl
  · next h1 =>
    split
    · next h2 => rw [if_neg h1, if_pos h2] at h; exact absurd rfl h
    · rfl
theorem andE_zero {a b : List ByteArray} (h : (andE a b).2 ≠ 0) : (andE a b).1 = [] := by
  unfold andE at h ⊢
  split
  · rfl
  · next h1 => rw [if_neg h1] at h; exact ofE_zero h
theorem quoteE_zero {a b : List ByteArray} (h : (quoteE a b).2 ≠ 0) : (quoteE a b).1 = [] := by
  unfold quoteE at h ⊢
  split
  · rfl
  · next h1 =>
    split
    · rfl
    · next h2 => rw [if_neg h1, if_neg h2] at h; exact ofE_zero h
theorem quoteE_good {a b : List ByteArray} (h : (quoteE a b).2 = 0) : setMay (quoteE a b).1 = true := by
  have e : quoteE a b = ((quoteE a b).1, 0) := by rw [← h]
  unfold quoteE at e
  split at e
  · simp at e
  · split at e
    · simp at e
    · next h1 h2 => rw [show quoteE a b = ofE (prodW a b) by unfold quoteE; rw [if_neg h1, if_neg h2]]; exact ofE_good e
theorem setMay_small {l : List ByteArray} (h : setMay l = true) : l.length ≤ 16 ∧ ∀ x ∈ l, x.size ≤ 16 := ⟨(setMay_words h).1.2, fun x hx => by have := wordMay_size ((setMay_words h).2 x hx); omega⟩
end Go.Proofs.Ytcbcnbefaggnhaa

/- record's Encode. -/
namespace Go.Proofs.Ytcbcnbefaggnhaa
set_option linter.unusedSimpArgs false
set_option linter.unusedVariables false
open Go.RowKit Go.Lib

def entB (x : Ent) : List UInt8 := num x.op.toNat ++ setBytes x.who
def objB (o : Obt) : List UInt8 := num o.value.toNat ++ (num o.version.toNat ++ (num o.ents.length ++ o.ents.flatMap entB))
def recB (r : Rcd) : List UInt8 := num r.boot.toNat ++ (num r.objs.length ++ r.objs.flatMap objB)
theorem addE_ok {l : List Ent} {x : Ent} (h : addE l x = 0) : mayEnt x = true ∧ idxE x l < 0 ∧ l.length < 12 := by
  unfold addE at h
  split at h
  · next m =>
    split at h
    · simp at h
    · next i =>
      split at h
      · simp at h
      · next n => exact ⟨m, by omega, by omega⟩
  · simp at h
theorem newE_ok : ∀ {l acc : List Ent}, newE acc l = 0 → acc.length ≤ 12 → (∀ x ∈ l, mayEnt x = true) ∧ acc.length + l.length ≤ 12
  | [], acc, _, h => ⟨by simp, by simpa using h⟩
  | x :: l, acc, h, hl => by
    simp only [newE] at h
    split at h
    · next he =>
      obtain ⟨m, _, hn⟩ := addE_ok he
      obtain ⟨h1, h2⟩ := newE_ok h (by simp; omega)
      refine ⟨fun y hy => ?_, by simp at h2 ⊢; omega⟩
      rcases List.mem_cons.1 hy with rfl | hy
      · exact m
      · exact h1 y hy
    · next he => exact absurd h he
theorem mayEnt_ok {x : Ent} (h : mayEnt x = true) : 0 ≤ x.op ∧ x.op < 8 ∧ setMay x.who = true := by
  simp only [mayEnt, Bool.and_eq_true, decide_eq_true_eq] at h
  exact h
theorem flat_len {α : Type} {f : α → List UInt8} {c : Nat} : ∀ (l : List α), (∀ x ∈ l, (f x).length ≤ c) → (l.flatMap f).length ≤ c * l.length
  | [], _ => by simp
  | x :: l, h => by
    have h1 := h x (by simp)
    have h2 := flat_len l (fun y hy => h y (by simp [hy]))
    simp only [List.flatMap_cons, List.length_append, List.length_cons, Nat.mul_succ]
    omega
theorem entB_len {x : Ent} (h : mayEnt x = true) : (entB x).length ≤ 309 := by
  obtain ⟨h1, h2, h3⟩ := mayEnt_ok h
  obtain ⟨w16, ws⟩ := setMay_small h3
  have l1 : (num x.op.toNat).length ≤ 9 := (num_len9 (by omega)).2
  have l2 : (x.who.flatMap wordBytes).length ≤ 17 * x.who.length := flat_len _ (fun y hy => by have := ws y hy; simp [wordBytes]; omega)
  simp only [entB, setBytes, List.length_append, List.length_cons]
  omega
theorem onum_ok {h : Hp} {id : Nat} {bs : List UInt8} (z : Int) (ho : h[id]? = some (oObj (false, bs))) (hl : bs.length ≤ 1000000000) (hz : 0 ≤ z ∧ z ≤ 4611686018427387904) :
    ACalls Try.prog 54 [.ptr id 0, .int .i64 z] h (fun a h' => a = .tup [] ∧ h' = h.set id (oObj (false, bs ++ num z.toNat))) := by
  have := a_onum (s := (false, bs)) z ho (by simp only; omega)
  have hk : okNum z = true := by simp [okNum, hz]
  rw [hk, wri_yes] at this
  exact this
theorem oset_ok {h : Hp} {id : Nat} {bs : List UInt8} (l : List ByteArray) (ho : h[id]? = some (oObj (false, bs))) (hl : bs.length ≤ 1000000) (hm : setMay l = true) :
    ACalls Try.prog 55 [.ptr id 0, .lst .ro l.length (l.map .str)] h (fun a h' => a = .tup [] ∧ h' = h.set id (oObj (false, bs ++ setBytes l))) := by
  obtain ⟨w16, ws⟩ := setMay_small hm
  have := a_oset (s := (false, bs)) l ho (by simp only; omega) (by omega) (fun x hx => by have := ws x hx; omega)
  rw [hm, wri_yes] at this
  exact this
def encR (r : Rcd) : AV := if mayR r = true then .tup [.str ⟨(recB r).toArray⟩, .int .i64 0] else .tup [.str ⟨#[]⟩, .int .i64 2]
theorem free_encR (r : Rcd) : free (encR r) = true := by unfold encR; split <;> rfl
theorem objB_len {o : Obt} (h : mayO o = true) : (objB o).length ≤ 4000 := by
  simp only [mayO, Bool.and_eq_true, numOk, decide_eq_true_eq] at h
  obtain ⟨h1, h2, h3⟩ := h
  obtain ⟨m1, m2⟩ := newE_ok h3 (by simp)
  have l1 : (num o.value.toNat).length ≤ 9 := (num_len9 (by omega)).2
  have l2 : (num o.version.toNat).length ≤ 9 := (num_len9 (by omega)).2
  have l3 : (num o.ents.length).length ≤ 9 := (num_len9 (by simp at m2; omega)).2
  have l4 := flat_len (f := entB) (c := 309) o.ents (fun x hx => entB_len (m1 x hx))
  simp only [objB, List.length_append]
  simp at m2
  omega
set_option maxRecDepth 100000 in
set_option maxHeartbeats 8000000 in
theorem p_renc (r : Rcd) (hr : smallR r) : PCalls Try.prog 26 [vR r] (encR r) := by
  have m1 := p_rmay1 r hr
  simp only [vR, rC] at m1
  refine pcalls_of (by simp [free.frees, free_vR]) (free_encR r) (acalls_of mixed J_record_Encode_ok (Nat.le_of_ble_eq_true rfl) ?_); simp only [J_record_Encode, vR, rC, wk,if_true,if_false,forall_const,implies_true,ne_eq,eq_self,Nat.reduceEqDiff,Nat.reduceAdd,Nat.reduceMul,Nat.reduceSub,Nat.reduceLeDiff,Nat.reduceLT,Int.reduceEq,Int.reduceLT,Int.reduceLE,Int.reduceAdd,Int.reduceSub,Int.reduceMul,Int.reduceNeg,Int.reduceNe,reduceCtorEq,Int.reduceToNat,↓reduceIte]
  refine PCalls.use (m1) ?_; simp only [wk,if_true,if_false,forall_const,implies_true,ne_eq,eq_self,Nat.reduceEqDiff,Nat.reduceAdd,Nat.reduceMul,Nat.reduceSub,Nat.reduceLeDiff,Nat.reduceLT,Int.reduceEq,Int.reduceLT,Int.reduceLE,Int.reduceAdd,Int.reduceSub,Int.reduceMul,Int.reduceNeg,Int.reduceNe,reduceCtorEq,Int.reduceToNat,↓reduceIte]
  refine ⟨fun e1 => by unfold encR; rw [if_neg (by simp [e1])], fun e1 => ?_⟩
  have e1' := e1
  simp only [mayR, Bool.and_eq_true, decide_eq_true_eq, List.all_eq_true] at e1'
  obtain ⟨hboot, h4, hmo⟩ := e1'
  have lb : (num r.boot.toNat).length ≤ 9 := (num_len9 (by omega)).2
  have ln : (num r.objs.length).length ≤ 9 := (num_len9 (by omega)).2
  refine ACalls.use (onum_ok (bs := []) r.boot rfl (by simp) (by omega)) ?_; rintro _ _ ⟨rfl, rfl⟩; simp only [wk,if_true,if_false,forall_const,implies_true,ne_eq,eq_self,Nat.reduceEqDiff,Nat.reduceAdd,Nat.reduceMul,Nat.reduceSub,Nat.reduceLeDiff,Nat.reduceLT,Int.reduceEq,Int.reduceLT,Int.reduceLE,Int.reduceAdd,Int.reduceSub,Int.reduceMul,Int.reduceNeg,Int.reduceNe,reduceCtorEq,Int.reduceToNat,↓reduceIte]
  refine ACalls.use (onum_ok (bs := num r.boot.toNat) r.objs.length rfl (by omega) (by omega)) ?_; rintro _ _ ⟨rfl, rfl⟩; simp only [wk,if_true,if_false,forall_const,implies_true,ne_eq,eq_self,Nat.reduceEqDiff,Nat.reduceAdd,Nat.reduceMul,Nat.reduceSub,Nat.reduceLeDiff,Nat.reduceLT,Int.reduceEq,Int.reduceLT,Int.reduceLE,Int.reduceAdd,Int.reduceSub,Int.reduceMul,Int.reduceNeg,Int.reduceNe,reduceCtorEq,Int.reduceToNat,↓reduceIte]
  simp only [Int.toNat_natCast]
  obtain ⟨hd0, hhd⟩ : ∃ b : List UInt8, b = num r.boot.toNat ++ num r.objs.length := ⟨_, rfl⟩
  have lh : hd0.length ≤ 18 := by rw [hhd]; simp; omega
  rw [← hhd]
  have hpre : ∀ i, ((r.objs.take i).flatMap objB).length ≤ 16000 := fun i => by
    have := flat_len (f := objB) (c := 4000) (r.objs.take i) (fun x hx => objB_len (hmo x (List.mem_of_mem_take hx)))
    have h2 : (r.objs.take i).length ≤ 4 := by simp; omega
    omega
  refine W_loop (fun n fr h' => ∃ (i : Nat) (ex : Hp), i ≤ r.objs.length ∧ n = r.objs.length - i ∧ h' = some (false, [.int .i64 r.boot, .lst .ro r.objs.length (objsC r.objs)]) :: oObj (false, hd0 ++ (r.objs.take i).flatMap objB) :: ex ∧ fr = [(4, .ptr 1 0), (20, .lst .ro r.objs.length (objsC r.objs)), (21, .int .i64 r.objs.length), (22, .int .i64 i)]) r.objs.length ⟨0, [], by omega, by omega, by simp, rfl⟩ ?_
  rintro n fr h' ⟨i, ex, hi, rfl, rfl, rfl⟩
  simp only [J_record_Encode_j4, wk,if_true,if_false,forall_const,implies_true,ne_eq,eq_self,Nat.reduceEqDiff,Nat.reduceAdd,Nat.reduceMul,Nat.reduceSub,Nat.reduceLeDiff,Nat.reduceLT,Int.reduceEq,Int.reduceLT,Int.reduceLE,Int.reduceAdd,Int.reduceSub,Int.reduceMul,Int.reduceNeg,Int.reduceNe,reduceCtorEq,Int.reduceToNat,↓reduceIte]
  refine ⟨fun hlt => ?_, fun hge => ?_⟩
  · have hil : i < r.objs.length := by omega
    have hd : (objsC r.objs).drop ((i : Int).toNat * 3) = .int .i64 r.objs[i].value :: .lst .ro r.objs[i].ents.length (entsC r.objs[i].ents) :: .int .i64 r.objs[i].version :: (objsC r.objs).drop ((i + 1) * 3) := by rw [show (i : Int).toNat = i by omega]; exact objsC_drop hil
    have hmi := hmo _ (List.getElem_mem hil)
    have hmi' := hmi
    simp only [mayO, Bool.and_eq_true, numOk, decide_eq_true_eq] at hmi'
    obtain ⟨n1, n2, n3⟩ := hmi'
    obtain ⟨me, ml⟩ := newE_ok n3 (by simp)
    simp only [List.length_nil, Nat.zero_add] at ml
    have lp := hpre i
    have l1 : (num r.objs[i].value.toNat).length ≤ 9 := (num_len9 (by omega)).2
    have l2 : (num r.objs[i].version.toNat).length ≤ 9 := (num_len9 (by omega)).2
    have l3 : (num r.objs[i].ents.length).length ≤ 9 := (num_len9 (by omega)).2
    obtain ⟨B0, hB0⟩ : ∃ b : List UInt8, b = hd0 ++ (r.objs.take i).flatMap objB := ⟨_, rfl⟩
    have lB0 : B0.length ≤ 16018 := by rw [hB0, List.length_append]; omega
    rw [← hB0]
    refine ⟨⟨by omega, by omega⟩, ?_⟩
    simp only [hd, wk,if_true,if_false,forall_const,implies_true,ne_eq,eq_self,Nat.reduceEqDiff,Nat.reduceAdd,Nat.reduceMul,Nat.reduceSub,Nat.reduceLeDiff,Nat.reduceLT,Int.reduceEq,Int.reduceLT,Int.reduceLE,Int.reduceAdd,Int.reduceSub,Int.reduceMul,Int.reduceNeg,Int.reduceNe,reduceCtorEq,Int.reduceToNat,↓reduceIte]
    refine ACalls.use (onum_ok (bs := B0) r.objs[i].value rfl (by omega) n1) ?_; rintro _ _ ⟨rfl, rfl⟩; simp only [wk,if_true,if_false,forall_const,implies_true,ne_eq,eq_self,Nat.reduceEqDiff,Nat.reduceAdd,Nat.reduceMul,Nat.reduceSub,Nat.reduceLeDiff,Nat.reduceLT,Int.reduceEq,Int.reduceLT,Int.reduceLE,Int.reduceAdd,Int.reduceSub,Int.reduceMul,Int.reduceNeg,Int.reduceNe,reduceCtorEq,Int.reduceToNat,↓reduceIte]
    refine ACalls.use (onum_ok (bs := B0 ++ num r.objs[i].value.toNat) r.objs[i].version rfl (by simp; omega) n2) ?_; rintro _ _ ⟨rfl, rfl⟩; simp only [wk,if_true,if_false,forall_const,implies_true,ne_eq,eq_self,Nat.reduceEqDiff,Nat.reduceAdd,Nat.reduceMul,Nat.reduceSub,Nat.reduceLeDiff,Nat.reduceLT,Int.reduceEq,Int.reduceLT,Int.reduceLE,Int.reduceAdd,Int.reduceSub,Int.reduceMul,Int.reduceNeg,Int.reduceNe,reduceCtorEq,Int.reduceToNat,↓reduceIte]
    refine ACalls.use (onum_ok (bs := B0 ++ num r.objs[i].value.toNat ++ num r.objs[i].version.toNat) r.objs[i].ents.length rfl (by simp; omega) (by omega)) ?_; rintro _ _ ⟨rfl, rfl⟩; simp only [wk,if_true,if_false,forall_const,implies_true,ne_eq,eq_self,Nat.reduceEqDiff,Nat.reduceAdd,Nat.reduceMul,Nat.reduceSub,Nat.reduceLeDiff,Nat.reduceLT,Int.reduceEq,Int.reduceLT,Int.reduceLE,Int.reduceAdd,Int.reduceSub,Int.reduceMul,Int.reduceNeg,Int.reduceNe,reduceCtorEq,Int.reduceToNat,↓reduceIte]
    simp only [Int.toNat_natCast]
    obtain ⟨B1, hB1⟩ : ∃ b : List UInt8, b = B0 ++ num r.objs[i].value.toNat ++ num r.objs[i].version.toNat ++ num r.objs[i].ents.length := ⟨_, rfl⟩
    have lB1 : B1.length ≤ 16045 := by rw [hB1]; simp only [List.length_append]; omega
    rw [← hB1]
    have hpre2 : ∀ j, ((r.objs[i].ents.take j).flatMap entB).length ≤ 4000 := fun j => by
      have := flat_len (f := entB) (c := 309) (r.objs[i].ents.take j) (fun x hx => entB_len (me x (List.mem_of_mem_take hx)))
      have h2 : (r.objs[i].ents.take j).length ≤ 12 := by simp; omega
      omega
    refine W_loop (fun n fr h' => ∃ (j : Nat) (ey : Hp), j ≤ r.objs[i].ents.length ∧ n = r.objs[i].ents.length - j ∧ h' = some (false, [.int .i64 r.boot, .lst .ro r.objs.length (objsC r.objs)]) :: oObj (false, B1 ++ (r.objs[i].ents.take j).flatMap entB) :: ey ∧ fr = [(4, .ptr 1 0), (20, .lst .ro r.objs.length (objsC r.objs)), (21, .int .i64 r.objs.length), (22, .int .i64 i), (37, .lst .ro r.objs[i].ents.length (entsC r.objs[i].ents)), (38, .int .i64 r.objs[i].ents.length), (39, .int .i64 j)]) r.objs[i].ents.length ⟨0, ex ++ [some (true, [.int .i64 r.objs[i].value, .lst .ro r.objs[i].ents.length (entsC r.objs[i].ents), .int .i64 r.objs[i].version])], by omega, by omega, by simp, rfl⟩ ?_
    rintro n fr h' ⟨j, ey, hj, rfl, rfl, rfl⟩
    simp only [J_record_Encode_j3, wk,if_true,if_false,forall_const,implies_true,ne_eq,eq_self,Nat.reduceEqDiff,Nat.reduceAdd,Nat.reduceMul,Nat.reduceSub,Nat.reduceLeDiff,Nat.reduceLT,Int.reduceEq,Int.reduceLT,Int.reduceLE,Int.reduceAdd,Int.reduceSub,Int.reduceMul,Int.reduceNeg,Int.reduceNe,reduceCtorEq,Int.reduceToNat,↓reduceIte]
    refine ⟨fun hlt2 => ?_, fun hge2 => ?_⟩
    · have hjl : j < r.objs[i].ents.length := by omega
      have hf : (entsC r.objs[i].ents).drop ((j : Int).toNat * 2) = .int .i64 r.objs[i].ents[j].op :: .lst .ro r.objs[i].ents[j].who.length (r.objs[i].ents[j].who.map .str) :: (entsC r.objs[i].ents).drop ((j + 1) * 2) := by rw [show (j : Int).toNat = j by omega]; exact entsC_drop hjl
      obtain ⟨p1, p2, p3⟩ := mayEnt_ok (me _ (List.getElem_mem hjl))
      have lq := hpre2 j
      have l4 : (num r.objs[i].ents[j].op.toNat).length ≤ 9 := (num_len9 (by omega)).2
      obtain ⟨B2, hB2⟩ : ∃ b : List UInt8, b = B1 ++ (r.objs[i].ents.take j).flatMap entB := ⟨_, rfl⟩
      have lB2 : B2.length ≤ 20045 := by rw [hB2, List.length_append]; omega
      rw [← hB2]
      refine ⟨⟨by omega, by omega⟩, ?_⟩
      simp only [hf, wk,if_true,if_false,forall_const,implies_true,ne_eq,eq_self,Nat.reduceEqDiff,Nat.reduceAdd,Nat.reduceMul,Nat.reduceSub,Nat.reduceLeDiff,Nat.reduceLT,Int.reduceEq,Int.reduceLT,Int.reduceLE,Int.reduceAdd,Int.reduceSub,Int.reduceMul,Int.reduceNeg,Int.reduceNe,reduceCtorEq,Int.reduceToNat,↓reduceIte]
      refine ACalls.use (onum_ok (bs := B2) r.objs[i].ents[j].op rfl (by omega) (by omega)) ?_; rintro _ _ ⟨rfl, rfl⟩; simp only [wk,if_true,if_false,forall_const,implies_true,ne_eq,eq_self,Nat.reduceEqDiff,Nat.reduceAdd,Nat.reduceMul,Nat.reduceSub,Nat.reduceLeDiff,Nat.reduceLT,Int.reduceEq,Int.reduceLT,Int.reduceLE,Int.reduceAdd,Int.reduceSub,Int.reduceMul,Int.reduceNeg,Int.reduceNe,reduceCtorEq,Int.reduceToNat,↓reduceIte]
      refine ACalls.use (oset_ok (bs := B2 ++ num r.objs[i].ents[j].op.toNat) r.objs[i].ents[j].who rfl (by simp; omega) p3) ?_; rintro _ _ ⟨rfl, rfl⟩; simp only [wk,if_true,if_false,forall_const,implies_true,ne_eq,eq_self,Nat.reduceEqDiff,Nat.reduceAdd,Nat.reduceMul,Nat.reduceSub,Nat.reduceLeDiff,Nat.reduceLT,Int.reduceEq,Int.reduceLT,Int.reduceLE,Int.reduceAdd,Int.reduceSub,Int.reduceMul,Int.reduceNeg,Int.reduceNe,reduceCtorEq,Int.reduceToNat,↓reduceIte]
      refine ⟨inR_of (by omega) (by omega), r.objs[i].ents.length - (j + 1), by omega, j + 1, ey ++ [some (true, [.int .i64 r.objs[i].ents[j].op, .lst .ro r.objs[i].ents[j].who.length (r.objs[i].ents[j].who.map .str)])], by omega, rfl, ?_, by simp⟩
      rw [List.take_succ_eq_append_getElem hjl, List.flatMap_append, hB2]
      simp [entB, List.append_assoc]
    · have : j = r.objs[i].ents.length := by omega
      subst this
      simp only [J_record_Encode_j2, wk,if_true,if_false,forall_const,implies_true,ne_eq,eq_self,Nat.reduceEqDiff,Nat.reduceAdd,Nat.reduceMul,Nat.reduceSub,Nat.reduceLeDiff,Nat.reduceLT,Int.reduceEq,Int.reduceLT,Int.reduceLE,Int.reduceAdd,Int.reduceSub,Int.reduceMul,Int.reduceNeg,Int.reduceNe,reduceCtorEq,Int.reduceToNat,↓reduceIte]
      refine ⟨inR_of (by omega) (by omega), r.objs.length - (i + 1), by omega, i + 1, ey, by omega, rfl, ?_, by simp⟩
      rw [List.take_succ_eq_append_getElem hil, List.flatMap_append, hB1, hB0, List.take_length]
      simp [objB, List.append_assoc]
  · have : i = r.objs.length := by omega
    subst this
    simp only [J_record_Encode_j1, wk,if_true,if_false,forall_const,implies_true,ne_eq,eq_self,Nat.reduceEqDiff,Nat.reduceAdd,Nat.reduceMul,Nat.reduceSub,Nat.reduceLeDiff,Nat.reduceLT,Int.reduceEq,Int.reduceLT,Int.reduceLE,Int.reduceAdd,Int.reduceSub,Int.reduceMul,Int.reduceNeg,Int.reduceNe,reduceCtorEq,Int.reduceToNat,↓reduceIte]
    refine ACalls.use (a_odone (s := (false, hd0 ++ (r.objs.take r.objs.length).flatMap objB)) rfl) ?_; rintro _ _ ⟨rfl, rfl⟩; simp only [wk,if_true,if_false,forall_const,implies_true,ne_eq,eq_self,Nat.reduceEqDiff,Nat.reduceAdd,Nat.reduceMul,Nat.reduceSub,Nat.reduceLeDiff,Nat.reduceLT,Int.reduceEq,Int.reduceLT,Int.reduceLE,Int.reduceAdd,Int.reduceSub,Int.reduceMul,Int.reduceNeg,Int.reduceNe,reduceCtorEq,Int.reduceToNat,↓reduceIte]
    simp only [told, eI, wk,if_true,if_false,forall_const,implies_true,ne_eq,eq_self,Nat.reduceEqDiff,Nat.reduceAdd,Nat.reduceMul,Nat.reduceSub,Nat.reduceLeDiff,Nat.reduceLT,Int.reduceEq,Int.reduceLT,Int.reduceLE,Int.reduceAdd,Int.reduceSub,Int.reduceMul,Int.reduceNeg,Int.reduceNe,reduceCtorEq,Int.reduceToNat,↓reduceIte]
    unfold encR
    rw [if_pos e1, List.take_length, hhd]
    simp [recB, List.append_assoc]
end Go.Proofs.Ytcbcnbefaggnhaa

/- What is read of bytes, told for all states of a reader alike. -/
namespace Go.Proofs.Ytcbcnbefaggnhaa
set_option linter.unusedSimpArgs false
set_option linter.unusedVariables false
open Go.RowKit Go.Lib

def nI : Option (Nat × Nat) → Nat
  | some (n, _) => n
  | none => 0
def nS : Option (ByteArray × Nat) → ByteArray
  | some (s, _) => s
  | none => ⟨#[]⟩
def nL : Option (List ByteArray × Nat) → List ByteArray
  | some (l, _) => l
  | none => []
theorem vI_n (r : Option (Nat × Nat)) : vI r = .int .i64 (nI r) := by cases r <;> rfl
theorem vS_n (r : Option (ByteArray × Nat)) : vS r = .str (nS r) := by cases r <;> rfl
/-- what is read where nothing was wrong yet -/
def rN (S : ByteArray) (m : Int) (s : Bool × Nat) : Option (Nat × Nat) := if s.1 = true then none else rNum S m s.2
def rW (S : ByteArray) (s : Bool × Nat) : Option (ByteArray × Nat) := if s.1 = true then none else rWord S s.2
def rL (S : ByteArray) (s : Bool × Nat) : Option (List ByteArray × Nat) := if s.1 = true then none else rSet S s.2
theorem rN_eq (S : ByteArray) (m : Int) (s : Bool × Nat) : (if s.1 = true then none else rNum S m s.2) = rN S m s := rfl
theorem rW_eq (S : ByteArray) (s : Bool × Nat) : (if s.1 = true then none else rWord S s.2) = rW S s := rfl
theorem rL_eq (S : ByteArray) (s : Bool × Nat) : (if s.1 = true then none else rSet S s.2) = rL S s := rfl
theorem rN_le {S : ByteArray} {m : Int} {s : Bool × Nat} {q : Nat} (hs : s.2 ≤ S.size) (hq : q ≤ S.size) : (stO (rN S m s) q).2 ≤ S.size := by
  unfold rN
  split
  · exact hq
  · cases h : rNum S m s.2 with
    | none => exact hq
    | some x => obtain ⟨n, p⟩ := x; exact (rNum_le h hs).2.1
theorem rW_le {S : ByteArray} {s : Bool × Nat} {q : Nat} (hq : q ≤ S.size) : (stO (rW S s) q).2 ≤ S.size := by
  unfold rW
  split
  · exact hq
  · cases h : rWord S s.2 with
    | none => exact hq
    | some x => obtain ⟨n, p⟩ := x; exact (rWord_le h).2.1
theorem rL_le {S : ByteArray} {s : Bool × Nat} {q : Nat} (hq : q ≤ S.size) : (stO (rL S s) q).2 ≤ S.size := by
  unfold rL
  split
  · exact hq
  · cases h : rSet S s.2 with
    | none => exact hq
    | some x => obtain ⟨n, p⟩ := x; exact (upTo_set h).2.2.2
theorem nI_le {S : ByteArray} {m : Int} {s : Bool × Nat} (hs : s.2 ≤ S.size) : nI (rN S m s) ≤ 4611686018427387904 ∧ (0 ≤ m → (nI (rN S m s) : Int) ≤ m) := by
  unfold rN
  split
  · exact ⟨by simp [nI], fun h => by simpa [nI] using h⟩
  · cases h : rNum S m s.2 with
    | none => exact ⟨by simp [nI], fun h => by simpa [nI] using h⟩
    | some x => obtain ⟨n, p⟩ := x; obtain ⟨_, _, h3, h4⟩ := rNum_le h hs; exact ⟨h3, fun _ => h4⟩
theorem rW_small {S : ByteArray} {s : Bool × Nat} : (nS (rW S s)).size ≤ 16 := by
  unfold rW
  split
  · exact Nat.zero_le _
  · cases h : rWord S s.2 with
    | none => exact Nat.zero_le _
    | some x => obtain ⟨n, p⟩ := x; have := wordMay_size (rWord_le h).2.2.1; show n.size ≤ 16; omega
theorem rL_small {S : ByteArray} {s : Bool × Nat} : (nL (rL S s)).length ≤ 16 ∧ ∀ x ∈ nL (rL S s), x.size ≤ 16 := by
  unfold rL
  split
  · simp [nL]
  · cases h : rSet S s.2 with
    | none => simp [nL]
    | some x => obtain ⟨n, p⟩ := x; exact setMay_small (upTo_set h).2.1
def fL (r : Option (List ByteArray × Nat)) : Fl := match r with
  | some _ => .ro
  | none => .clip
theorem vL_n (r : Option (List ByteArray × Nat)) : vL r = .lst (fL r) (nL r).length ((nL r).map .str) := by cases r <;> rfl
theorem deg_fL (r : Option (List ByteArray × Nat)) (n : Nat) (l : List AV) : deg (.lst (fL r) n l) = .lst (fL r) n l := by cases r <;> rfl
theorem a_num' {h : Hp} {id : Nat} {S : ByteArray} {s : Bool × Nat} (most : Int) (ho : h[id]? = some (iObj S s)) (hs : S.size ≤ 1000000) (hp : s.2 ≤ S.size) {r : Option (Nat × Nat)} (e : r = rN S most s) {s' : Bool × Nat} (d : s' = stO r s.2) :
    ACalls Try.prog 60 [.ptr id 0, .int .i64 most] h (fun a h' => a = .int .i64 (nI r) ∧ h' = h.set id (iObj S s')) := by
  have := a_inum most ho (by omega) hp
  rw [rN_eq, ← e, vI_n, ← d] at this
  exact this
theorem a_word' {h : Hp} {id : Nat} {S : ByteArray} {s : Bool × Nat} (ho : h[id]? = some (iObj S s)) (hs : S.size ≤ 1000000) (hp : s.2 ≤ S.size) {r : Option (ByteArray × Nat)} (e : r = rW S s) :
    ∃ q, q ≤ S.size ∧ ACalls Try.prog 97 [.ptr id 0] h (fun a h' => a = .str (nS r) ∧ h' = h.set id (iObj S (stO r q))) := by
  obtain ⟨q, hq, hc⟩ := a_iword ho (by omega) hp
  rw [rW_eq, ← e, vS_n] at hc
  exact ⟨q, hq, hc⟩
theorem a_set' {h : Hp} {id : Nat} {S : ByteArray} {s : Bool × Nat} (ho : h[id]? = some (iObj S s)) (hs : S.size ≤ 1000000) (hp : s.2 ≤ S.size) {r : Option (List ByteArray × Nat)} (e : r = rL S s) :
    ACalls Try.prog 61 [.ptr id 0] h (fun a h' => a = .lst (fL r) (nL r).length ((nL r).map .str) ∧ ∃ q, q ≤ S.size ∧ h' = h.set id (iObj S (stO r q))) := by
  have := a_iset ho (by omega) hp
  rw [rL_eq, ← e, vL_n] at this
  exact this
theorem int_ne {a : Int} (h : ¬ a = 0) : decide (¬ a = 0) = true := by simp [h]
end Go.Proofs.Ytcbcnbefaggnhaa

/- pack's In.Word and In.Set, with the place told for all heaps alike. -/
namespace Go.Proofs.Ytcbcnbefaggnhaa
set_option linter.unusedSimpArgs false
set_option linter.unusedVariables false
open Go.RowKit Go.Lib

/-- the place behind a word, also where none stands -/
def qWord (S : ByteArray) (s : Bool × Nat) : Nat := match (if s.1 = true then none else rCount S 8 s.2) with
  | none => qCount S s.1 s.2
  | some (n, q) => (match rTake S (2 * n) q with
    | none => q
    | some (_, q2) => q2)
theorem qWord_le {S : ByteArray} {s : Bool × Nat} (hp : s.2 ≤ S.size) : qWord S s ≤ S.size := by
  unfold qWord
  split
  · exact qCount_le hp
  · next n q hr =>
    have hle : q ≤ S.size := by
      split at hr
      · cases hr
      · exact (rCount_le hr).2.1
    split
    · exact hle
    · next w q2 h2 => exact (rTake_le h2).2.1
set_option maxHeartbeats 1000000 in
theorem a_iwordq {h : Hp} {id : Nat} {S : ByteArray} {s : Bool × Nat} (ho : h[id]? = some (iObj S s)) (hs : S.size ≤ 1000000000000) (hp : s.2 ≤ S.size) :
    ACalls Try.prog 97 [.ptr id 0] h (fun a h' => a = vS (if s.1 then none else rWord S s.2) ∧ h' = h.set id (iObj S (stO (if s.1 then none else rWord S s.2) (qWord S s)))) := by
  obtain ⟨bad, p⟩ := s
  simp only at hp ⊢
  have hq1 := qCount_le (S := S) (bad := bad) hp
  obtain ⟨q0, hq0⟩ : ∃ q, q = qWord S (bad, p) := ⟨_, rfl⟩
  rw [← hq0]
  refine acalls_of mixed F_pack_In_Word_ok (Nat.le_of_ble_eq_true rfl) ?_; simp only [F_pack_In_Word, wk,if_true,if_false,forall_const,implies_true,ne_eq,eq_self,Nat.reduceEqDiff,Nat.reduceAdd,Nat.reduceMul,Nat.reduceSub,Nat.reduceLeDiff,Nat.reduceLT,Int.reduceEq,Int.reduceLT,Int.reduceLE,Int.reduceAdd,Int.reduceSub,Int.reduceMul,Int.reduceNeg,Int.reduceNe,reduceCtorEq,Int.reduceToNat,↓reduceIte]
  unfold qWord at hq0
  cases hr : (if bad = true then none else rCount S 8 p) with
  | none =>
    have hrw : (if bad = true then none else rWord S p) = none := by
      cases bad with
      | true => rfl
      | false =>
        simp only [Bool.false_eq_true, if_false] at hr ⊢
        rw [rWord_eq, hr]
    simp only [hr] at hq0
    subst hq0
    rw [hrw]
    have hc := a_count (s := (bad, p)) 8 ho hs hp
    simp only [hr, vI, stO] at hc
    refine ACalls.use (hc) ?_; rintro _ _ ⟨rfl, rfl⟩; simp only [wk,if_true,if_false,forall_const,implies_true,ne_eq,eq_self,Nat.reduceEqDiff,Nat.reduceAdd,Nat.reduceMul,Nat.reduceSub,Nat.reduceLeDiff,Nat.reduceLT,Int.reduceEq,Int.reduceLT,Int.reduceLE,Int.reduceAdd,Int.reduceSub,Int.reduceMul,Int.reduceNeg,Int.reduceNe,reduceCtorEq,Int.reduceToNat,↓reduceIte, hset ho]
    refine ⟨inR_of (by omega) (by omega), ?_⟩
    refine ACalls.use (a_take' (s := (true, qCount S bad p)) 0 (hset ho _) hs hq1 (by omega)) ?_; rintro _ _ ⟨rfl, rfl⟩; simp only [wk,if_true,if_false,forall_const,implies_true,ne_eq,eq_self,Nat.reduceEqDiff,Nat.reduceAdd,Nat.reduceMul,Nat.reduceSub,Nat.reduceLeDiff,Nat.reduceLT,Int.reduceEq,Int.reduceLT,Int.reduceLE,Int.reduceAdd,Int.reduceSub,Int.reduceMul,Int.reduceNeg,Int.reduceNe,reduceCtorEq,Int.reduceToNat,↓reduceIte, hset ho, stO, vS, iObj]
    refine PCalls.use (p_wmay ⟨#[]⟩ (by decide)) ?_; simp only [wk,if_true,if_false,forall_const,implies_true,ne_eq,eq_self,Nat.reduceEqDiff,Nat.reduceAdd,Nat.reduceMul,Nat.reduceSub,Nat.reduceLeDiff,Nat.reduceLT,Int.reduceEq,Int.reduceLT,Int.reduceLE,Int.reduceAdd,Int.reduceSub,Int.reduceMul,Int.reduceNeg,Int.reduceNe,reduceCtorEq,Int.reduceToNat,↓reduceIte]
    rw [wordMay_empty]
    simp only [wk,if_true,if_false,forall_const,implies_true,ne_eq,eq_self,Nat.reduceEqDiff,Nat.reduceAdd,Nat.reduceMul,Nat.reduceSub,Nat.reduceLeDiff,Nat.reduceLT,Int.reduceEq,Int.reduceLT,Int.reduceLE,Int.reduceAdd,Int.reduceSub,Int.reduceMul,Int.reduceNeg,Int.reduceNe,reduceCtorEq,Int.reduceToNat,↓reduceIte]
    refine ACalls.use (a_fail (hset ho _)) ?_; rintro _ _ ⟨rfl, rfl⟩; simp only [wk,if_true,if_false,forall_const,implies_true,ne_eq,eq_self,Nat.reduceEqDiff,Nat.reduceAdd,Nat.reduceMul,Nat.reduceSub,Nat.reduceLeDiff,Nat.reduceLT,Int.reduceEq,Int.reduceLT,Int.reduceLE,Int.reduceAdd,Int.reduceSub,Int.reduceMul,Int.reduceNeg,Int.reduceNe,reduceCtorEq,Int.reduceToNat,↓reduceIte, hset ho]
    (try first | exact ⟨rfl, rfl⟩ | rfl | trivial)
  | some x =>
    obtain ⟨n, q⟩ := x
    have hb : bad = false := by cases bad with
      | true => simp at hr
      | false => rfl
    subst hb
    simp only [hr] at hq0
    simp only [Bool.false_eq_true, if_false] at hr ⊢
    have hle := rCount_le hr
    cases hr2 : rTake S (2 * n) q with
    | none =>
      have hrw : rWord S p = none := by rw [rWord_eq, hr]; simp only [hr2]
      simp only [hr2] at hq0
      subst hq0
      rw [hrw]
      have hc := a_count (s := (false, p)) 8 ho hs hp
      simp only [Bool.false_eq_true, if_false, hr, vI, stO] at hc
      refine ACalls.use (hc) ?_; rintro _ _ ⟨rfl, rfl⟩; simp only [wk,if_true,if_false,forall_const,implies_true,ne_eq,eq_self,Nat.reduceEqDiff,Nat.reduceAdd,Nat.reduceMul,Nat.reduceSub,Nat.reduceLeDiff,Nat.reduceLT,Int.reduceEq,Int.reduceLT,Int.reduceLE,Int.reduceAdd,Int.reduceSub,Int.reduceMul,Int.reduceNeg,Int.reduceNe,reduceCtorEq,Int.reduceToNat,↓reduceIte, hset ho]
      refine ⟨inR_of (by omega) (by omega), ?_⟩
      have ht := a_take' (s := (false, q0)) (2 * n) (hset ho (iObj S (false, q0))) hs hle.2.1 (by omega)
      simp only [Bool.false_eq_true, if_false, hr2, vS, stO] at ht
      rw [show ((2 : Int) * (n : Int)) = ((2 * n : Nat) : Int) by omega]
      refine ACalls.use (ht) ?_; rintro _ _ ⟨rfl, rfl⟩; simp only [wk,if_true,if_false,forall_const,implies_true,ne_eq,eq_self,Nat.reduceEqDiff,Nat.reduceAdd,Nat.reduceMul,Nat.reduceSub,Nat.reduceLeDiff,Nat.reduceLT,Int.reduceEq,Int.reduceLT,Int.reduceLE,Int.reduceAdd,Int.reduceSub,Int.reduceMul,Int.reduceNeg,Int.reduceNe,reduceCtorEq,Int.reduceToNat,↓reduceIte, hset ho]
      refine PCalls.use (p_wmay ⟨#[]⟩ (by decide)) ?_; simp only [wk,if_true,if_false,forall_const,implies_true,ne_eq,eq_self,Nat.reduceEqDiff,Nat.reduceAdd,Nat.reduceMul,Nat.reduceSub,Nat.reduceLeDiff,Nat.reduceLT,Int.reduceEq,Int.reduceLT,Int.reduceLE,Int.reduceAdd,Int.reduceSub,Int.reduceMul,Int.reduceNeg,Int.reduceNe,reduceCtorEq,Int.reduceToNat,↓reduceIte]
      rw [wordMay_empty]
      simp only [wk,if_true,if_false,forall_const,implies_true,ne_eq,eq_self,Nat.reduceEqDiff,Nat.reduceAdd,Nat.reduceMul,Nat.reduceSub,Nat.reduceLeDiff,Nat.reduceLT,Int.reduceEq,Int.reduceLT,Int.reduceLE,Int.reduceAdd,Int.reduceSub,Int.reduceMul,Int.reduceNeg,Int.reduceNe,reduceCtorEq,Int.reduceToNat,↓reduceIte]
      refine ACalls.use (a_fail (bad := true) (hset ho _)) ?_; rintro _ _ ⟨rfl, rfl⟩; simp only [wk,if_true,if_false,forall_const,implies_true,ne_eq,eq_self,Nat.reduceEqDiff,Nat.reduceAdd,Nat.reduceMul,Nat.reduceSub,Nat.reduceLeDiff,Nat.reduceLT,Int.reduceEq,Int.reduceLT,Int.reduceLE,Int.reduceAdd,Int.reduceSub,Int.reduceMul,Int.reduceNeg,Int.reduceNe,reduceCtorEq,Int.reduceToNat,↓reduceIte, hset ho]
      (try first | exact ⟨rfl, rfl⟩ | rfl | trivial)
    | some y =>
      obtain ⟨w, q2⟩ := y
      have hle2 := rTake_le hr2
      simp only [hr2] at hq0
      subst hq0
      have hrw : rWord S p = if wordMay w then some (w, q0) else none := by rw [rWord_eq, hr]; simp only [hr2]
      rw [hrw]
      have hc := a_count (s := (false, p)) 8 ho hs hp
      simp only [Bool.false_eq_true, if_false, hr, vI, stO] at hc
      refine ACalls.use (hc) ?_; rintro _ _ ⟨rfl, rfl⟩; simp only [wk,if_true,if_false,forall_const,implies_true,ne_eq,eq_self,Nat.reduceEqDiff,Nat.reduceAdd,Nat.reduceMul,Nat.reduceSub,Nat.reduceLeDiff,Nat.reduceLT,Int.reduceEq,Int.reduceLT,Int.reduceLE,Int.reduceAdd,Int.reduceSub,Int.reduceMul,Int.reduceNeg,Int.reduceNe,reduceCtorEq,Int.reduceToNat,↓reduceIte, hset ho]
      refine ⟨inR_of (by omega) (by omega), ?_⟩
      have ht := a_take' (s := (false, q)) (2 * n) (hset ho (iObj S (false, q))) hs hle.2.1 (by omega)
      simp only [Bool.false_eq_true, if_false, hr2, vS, stO] at ht
      rw [show ((2 : Int) * (n : Int)) = ((2 * n : Nat) : Int) by omega]
      refine ACalls.use (ht) ?_; rintro _ _ ⟨rfl, rfl⟩; simp only [wk,if_true,if_false,forall_const,implies_true,ne_eq,eq_self,Nat.reduceEqDiff,Nat.reduceAdd,Nat.reduceMul,Nat.reduceSub,Nat.reduceLeDiff,Nat.reduceLT,Int.reduceEq,Int.reduceLT,Int.reduceLE,Int.reduceAdd,Int.reduceSub,Int.reduceMul,Int.reduceNeg,Int.reduceNe,reduceCtorEq,Int.reduceToNat,↓reduceIte, hset ho]
      refine PCalls.use (p_wmay w (by rw [hle2.2.2]; simp; omega)) ?_; simp only [wk,if_true,if_false,forall_const,implies_true,ne_eq,eq_self,Nat.reduceEqDiff,Nat.reduceAdd,Nat.reduceMul,Nat.reduceSub,Nat.reduceLeDiff,Nat.reduceLT,Int.reduceEq,Int.reduceLT,Int.reduceLE,Int.reduceAdd,Int.reduceSub,Int.reduceMul,Int.reduceNeg,Int.reduceNe,reduceCtorEq,Int.reduceToNat,↓reduceIte]
      refine ⟨fun hw => ?_, fun hw => ?_⟩
      · refine ACalls.use (a_fail (bad := false) (hset ho _)) ?_; rintro _ _ ⟨rfl, rfl⟩; simp only [wk,if_true,if_false,forall_const,implies_true,ne_eq,eq_self,Nat.reduceEqDiff,Nat.reduceAdd,Nat.reduceMul,Nat.reduceSub,Nat.reduceLeDiff,Nat.reduceLT,Int.reduceEq,Int.reduceLT,Int.reduceLE,Int.reduceAdd,Int.reduceSub,Int.reduceMul,Int.reduceNeg,Int.reduceNe,reduceCtorEq,Int.reduceToNat,↓reduceIte, hset ho]
        rw [hw]; (try first | exact ⟨rfl, rfl⟩ | rfl | trivial)
      · rw [hw]; (try first | exact ⟨rfl, rfl⟩ | rfl | trivial)
/-- the place behind some words -/
def qWords (S : ByteArray) (p : Nat) : Nat → Nat
  | 0 => p
  | k + 1 => qWord S (stO (rWords S p k) (qWords S p k))
theorem rWords_st {S : ByteArray} {q q' i : Nat} (hq : q ≤ S.size) (hq' : q' ≤ S.size) : (stO (rWords S q i) q').2 ≤ S.size := by
  cases hw : rWords S q i with
  | none => exact hq'
  | some x => exact (rWords_le hq hw).2.2.1
theorem qWords_le {S : ByteArray} {p : Nat} (hp : p ≤ S.size) : ∀ k, qWords S p k ≤ S.size
  | 0 => hp
  | k + 1 => qWord_le (rWords_st hp (qWords_le hp k))
def qSet (S : ByteArray) (s : Bool × Nat) : Nat := match (if s.1 = true then none else rCount S 16 s.2) with
  | none => qCount S s.1 s.2
  | some (n, q) => (match rWords S q n with
    | none => qWords S q n
    | some (_, q2) => q2)
theorem qSet_le {S : ByteArray} {s : Bool × Nat} (hp : s.2 ≤ S.size) : qSet S s ≤ S.size := by
  unfold qSet
  split
  · exact qCount_le hp
  · next n q hr =>
    have hle : q ≤ S.size := by
      split at hr
      · cases hr
      · exact (rCount_le hr).2.1
    split
    · exact qWords_le hle _
    · next w q2 h2 => exact (rWords_le hle h2).2.2.1
set_option maxRecDepth 100000 in
set_option maxHeartbeats 2000000 in
theorem a_isetq {h : Hp} {id : Nat} {S : ByteArray} {s : Bool × Nat} (ho : h[id]? = some (iObj S s)) (hs : S.size ≤ 1000000000000) (hp : s.2 ≤ S.size) :
    ACalls Try.prog 61 [.ptr id 0] h (fun a h' => a = vL (if s.1 then none else rSet S s.2) ∧ h' = h.set id (iObj S (stO (if s.1 then none else rSet S s.2) (qSet S s)))) := by
  obtain ⟨bad, p⟩ := s
  simp only at hp ⊢
  have hq1 := qCount_le (S := S) (bad := bad) hp
  obtain ⟨q0, hq0⟩ : ∃ q, q = qSet S (bad, p) := ⟨_, rfl⟩
  rw [← hq0]
  refine acalls_of mixed F_pack_In_Set_ok (Nat.le_of_ble_eq_true rfl) ?_; simp only [F_pack_In_Set, wk,if_true,if_false,forall_const,implies_true,ne_eq,eq_self,Nat.reduceEqDiff,Nat.reduceAdd,Nat.reduceMul,Nat.reduceSub,Nat.reduceLeDiff,Nat.reduceLT,Int.reduceEq,Int.reduceLT,Int.reduceLE,Int.reduceAdd,Int.reduceSub,Int.reduceMul,Int.reduceNeg,Int.reduceNe,reduceCtorEq,Int.reduceToNat,↓reduceIte]
  unfold qSet at hq0
  have hc := a_count (s := (bad, p)) 16 ho hs hp
  cases hr : (if bad = true then none else rCount S 16 p) with
  | none =>
    have hrw : (if bad = true then none else rSet S p) = none := by
      cases bad with
      | true => rfl
      | false =>
        simp only [Bool.false_eq_true, if_false] at hr ⊢
        rw [rSet_eq S p hp, hr]
    simp only [hr] at hq0
    subst hq0
    rw [hrw]
    simp only [hr, vI, stO] at hc
    refine ACalls.use (hc) ?_; rintro _ _ ⟨rfl, rfl⟩; simp only [wk,if_true,if_false,forall_const,implies_true,ne_eq,eq_self,Nat.reduceEqDiff,Nat.reduceAdd,Nat.reduceMul,Nat.reduceSub,Nat.reduceLeDiff,Nat.reduceLT,Int.reduceEq,Int.reduceLT,Int.reduceLE,Int.reduceAdd,Int.reduceSub,Int.reduceMul,Int.reduceNeg,Int.reduceNe,reduceCtorEq,Int.reduceToNat,↓reduceIte, hset ho]
    (repeat (refine And.intro (by first | omega | exact inR_of (by omega) (by omega) | exact ⟨by omega, by omega⟩ | exact ⟨by omega, by omega, by omega⟩ | rfl) ?_))
    refine W_loop (fun k fr h' => k = 0 ∧ fr = [(0, .ptr id 0), (4, .lst (.own 44) 0 []), (9, .int .i64 0), (10, .int .i64 0)] ∧ h' = h.set id (iObj S (true, qCount S bad p))) 0 ⟨rfl, rfl, rfl⟩ ?_
    rintro k fr h' ⟨rfl, rfl, rfl⟩
    simp only [wk,if_true,if_false,forall_const,implies_true,ne_eq,eq_self,Nat.reduceEqDiff,Nat.reduceAdd,Nat.reduceMul,Nat.reduceSub,Nat.reduceLeDiff,Nat.reduceLT,Int.reduceEq,Int.reduceLT,Int.reduceLE,Int.reduceAdd,Int.reduceSub,Int.reduceMul,Int.reduceNeg,Int.reduceNe,reduceCtorEq,Int.reduceToNat,↓reduceIte]
    refine ACalls.use (a_well (bad := true) (hset ho _)) ?_; rintro _ _ ⟨rfl, rfl⟩; simp only [wk,if_true,if_false,forall_const,implies_true,ne_eq,eq_self,Nat.reduceEqDiff,Nat.reduceAdd,Nat.reduceMul,Nat.reduceSub,Nat.reduceLeDiff,Nat.reduceLT,Int.reduceEq,Int.reduceLT,Int.reduceLE,Int.reduceAdd,Int.reduceSub,Int.reduceMul,Int.reduceNeg,Int.reduceNe,reduceCtorEq,Int.reduceToNat,↓reduceIte, hset ho]
    refine ACalls.use (a_fail (bad := true) (hset ho _)) ?_; rintro _ _ ⟨rfl, rfl⟩; simp only [wk,if_true,if_false,forall_const,implies_true,ne_eq,eq_self,Nat.reduceEqDiff,Nat.reduceAdd,Nat.reduceMul,Nat.reduceSub,Nat.reduceLeDiff,Nat.reduceLT,Int.reduceEq,Int.reduceLT,Int.reduceLE,Int.reduceAdd,Int.reduceSub,Int.reduceMul,Int.reduceNeg,Int.reduceNe,reduceCtorEq,Int.reduceToNat,↓reduceIte, hset ho]
    exact ⟨rfl, rfl⟩
  | some x =>
    obtain ⟨n, q⟩ := x
    have hb : bad = false := by cases bad with
      | true => simp at hr
      | false => rfl
    subst hb
    simp only [hr] at hq0
    simp only [Bool.false_eq_true, if_false] at hr hc ⊢
    have hle := rCount_le hr
    have hrw := rSet_eq S p hp
    rw [hr] at hrw
    simp only at hrw
    rw [hrw]
    simp only [hr, vI, stO] at hc
    refine ACalls.use (hc) ?_; rintro _ _ ⟨rfl, rfl⟩; simp only [wk,if_true,if_false,forall_const,implies_true,ne_eq,eq_self,Nat.reduceEqDiff,Nat.reduceAdd,Nat.reduceMul,Nat.reduceSub,Nat.reduceLeDiff,Nat.reduceLT,Int.reduceEq,Int.reduceLT,Int.reduceLE,Int.reduceAdd,Int.reduceSub,Int.reduceMul,Int.reduceNeg,Int.reduceNe,reduceCtorEq,Int.reduceToNat,↓reduceIte, hset ho]
    refine ⟨⟨by omega, by omega, by omega⟩, ?_⟩
    refine W_loop (fun k fr h' => ∃ (i : Nat) (ws : List ByteArray), i ≤ n ∧ k = n - i ∧ ws.length = i ∧ fr = [(0, .ptr id 0), (4, .lst (.own 44) i (ws.map .str)), (9, .int .i64 n), (10, .int .i64 i)] ∧ h' = h.set id (iObj S (stO (rWords S q i) (qWords S q i))) ∧ ∀ l q'', rWords S q i = some (l, q'') → ws = l) n ⟨0, [], by omega, by omega, rfl, rfl, rfl, fun l q'' h => by simp only [rWords, Option.some.injEq, Prod.mk.injEq] at h; exact h.1⟩ ?_
    rintro k fr h' ⟨i, ws, hi, rfl, hwl, rfl, rfl, hws⟩
    have hst := rWords_st (i := i) hle.2.1 (qWords_le hle.2.1 i)
    simp only [wk,if_true,if_false,forall_const,implies_true,ne_eq,eq_self,Nat.reduceEqDiff,Nat.reduceAdd,Nat.reduceMul,Nat.reduceSub,Nat.reduceLeDiff,Nat.reduceLT,Int.reduceEq,Int.reduceLT,Int.reduceLE,Int.reduceAdd,Int.reduceSub,Int.reduceMul,Int.reduceNeg,Int.reduceNe,reduceCtorEq,Int.reduceToNat,↓reduceIte]
    refine ⟨fun hlt => ?_, fun hge => ?_⟩
    · have hword := a_iwordq (s := stO (rWords S q i) (qWords S q i)) (hset ho (iObj S (stO (rWords S q i) (qWords S q i)))) hs hst
      have hstep : stO (if (stO (rWords S q i) (qWords S q i)).1 = true then none else rWord S (stO (rWords S q i) (qWords S q i)).2) (qWord S (stO (rWords S q i) (qWords S q i))) = stO (rWords S q (i + 1)) (qWords S q (i + 1)) := by
        rw [qWords]
        cases hw : rWords S q i with
        | none => simp only [rWords, hw, stO, if_true]
        | some x =>
          obtain ⟨l, q3⟩ := x
          simp only [rWords, hw, stO, Bool.false_eq_true, if_false]
          cases rWord S q3 <;> rfl
      obtain ⟨w, hwv, hwx⟩ := vS_str (if (stO (rWords S q i) (qWords S q i)).1 = true then none else rWord S (stO (rWords S q i) (qWords S q i)).2)
      have hval : ∀ l q'', rWords S q (i + 1) = some (l, q'') → ws ++ [w] = l := by
        intro l q'' he
        cases hw : rWords S q i with
        | none => simp only [rWords, hw] at he; cases he
        | some x =>
          obtain ⟨l', q3⟩ := x
          simp only [rWords, hw] at he
          simp only [hw, stO, Bool.false_eq_true, if_false] at hwx
          cases hw2 : rWord S q3 with
          | none => rw [hw2] at he; cases he
          | some y =>
            obtain ⟨w', q4⟩ := y
            rw [hw2] at he
            simp only [Option.some.injEq, Prod.mk.injEq] at he
            rw [hws l' q3 hw, ← hwx w' q4 hw2, he.1]
      rw [hwv, hstep] at hword
      refine ACalls.use (hword) ?_; rintro _ _ ⟨rfl, rfl⟩; simp only [wk,if_true,if_false,forall_const,implies_true,ne_eq,eq_self,Nat.reduceEqDiff,Nat.reduceAdd,Nat.reduceMul,Nat.reduceSub,Nat.reduceLeDiff,Nat.reduceLT,Int.reduceEq,Int.reduceLT,Int.reduceLE,Int.reduceAdd,Int.reduceSub,Int.reduceMul,Int.reduceNeg,Int.reduceNe,reduceCtorEq,Int.reduceToNat,↓reduceIte]
      (repeat (refine And.intro (by first | omega | exact inR_of (by omega) (by omega) | exact ⟨by omega, by omega⟩ | exact ⟨by omega, by omega, by omega⟩ | rfl) ?_))
      exact ⟨n - (i + 1), by omega, i + 1, ws ++ [w], by omega, rfl, by simp [hwl], by simp, rfl, hval⟩
    · have hin : i = n := by omega
      subst hin
      cases hw : rWords S q i with
      | none =>
        simp only [hw] at hq0
        subst hq0
        simp only [stO, wk,if_true,if_false,forall_const,implies_true,ne_eq,eq_self,Nat.reduceEqDiff,Nat.reduceAdd,Nat.reduceMul,Nat.reduceSub,Nat.reduceLeDiff,Nat.reduceLT,Int.reduceEq,Int.reduceLT,Int.reduceLE,Int.reduceAdd,Int.reduceSub,Int.reduceMul,Int.reduceNeg,Int.reduceNe,reduceCtorEq,Int.reduceToNat,↓reduceIte]
        refine ACalls.use (a_well (bad := true) (hset ho _)) ?_; rintro _ _ ⟨rfl, rfl⟩; simp only [wk,if_true,if_false,forall_const,implies_true,ne_eq,eq_self,Nat.reduceEqDiff,Nat.reduceAdd,Nat.reduceMul,Nat.reduceSub,Nat.reduceLeDiff,Nat.reduceLT,Int.reduceEq,Int.reduceLT,Int.reduceLE,Int.reduceAdd,Int.reduceSub,Int.reduceMul,Int.reduceNeg,Int.reduceNe,reduceCtorEq,Int.reduceToNat,↓reduceIte, hset ho]
        refine ACalls.use (a_fail (bad := true) (hset ho _)) ?_; rintro _ _ ⟨rfl, rfl⟩; simp only [wk,if_true,if_false,forall_const,implies_true,ne_eq,eq_self,Nat.reduceEqDiff,Nat.reduceAdd,Nat.reduceMul,Nat.reduceSub,Nat.reduceLeDiff,Nat.reduceLT,Int.reduceEq,Int.reduceLT,Int.reduceLE,Int.reduceAdd,Int.reduceSub,Int.reduceMul,Int.reduceNeg,Int.reduceNe,reduceCtorEq,Int.reduceToNat,↓reduceIte, hset ho]
        (try first | exact ⟨rfl, rfl⟩ | rfl | trivial)
      | some x =>
        obtain ⟨l, q3⟩ := x
        simp only [hw] at hq0
        subst hq0
        have hl := hws l q0 hw
        subst hl
        have hwl' := rWords_le hle.2.1 hw
        simp only [stO, wk,if_true,if_false,forall_const,implies_true,ne_eq,eq_self,Nat.reduceEqDiff,Nat.reduceAdd,Nat.reduceMul,Nat.reduceSub,Nat.reduceLeDiff,Nat.reduceLT,Int.reduceEq,Int.reduceLT,Int.reduceLE,Int.reduceAdd,Int.reduceSub,Int.reduceMul,Int.reduceNeg,Int.reduceNe,reduceCtorEq,Int.reduceToNat,↓reduceIte]
        refine ACalls.use (a_well (bad := false) (hset ho _)) ?_; rintro _ _ ⟨rfl, rfl⟩; simp only [wk,if_true,if_false,forall_const,implies_true,ne_eq,eq_self,Nat.reduceEqDiff,Nat.reduceAdd,Nat.reduceMul,Nat.reduceSub,Nat.reduceLeDiff,Nat.reduceLT,Int.reduceEq,Int.reduceLT,Int.reduceLE,Int.reduceAdd,Int.reduceSub,Int.reduceMul,Int.reduceNeg,Int.reduceNe,reduceCtorEq,Int.reduceToNat,↓reduceIte, hset ho]
        rw [← hwl]
        refine PCalls.use (p_smay ws (by omega) (fun x hx => by have := wordMay_size (hwl'.2.2.2 x hx); omega)) ?_; simp only [wk,if_true,if_false,forall_const,implies_true,ne_eq,eq_self,Nat.reduceEqDiff,Nat.reduceAdd,Nat.reduceMul,Nat.reduceSub,Nat.reduceLeDiff,Nat.reduceLT,Int.reduceEq,Int.reduceLT,Int.reduceLE,Int.reduceAdd,Int.reduceSub,Int.reduceMul,Int.reduceNeg,Int.reduceNe,reduceCtorEq,Int.reduceToNat,↓reduceIte]
        refine ⟨fun hm => ?_, fun hm => ?_⟩
        · refine ACalls.use (a_fail (bad := false) (hset ho _)) ?_; rintro _ _ ⟨rfl, rfl⟩; simp only [wk,if_true,if_false,forall_const,implies_true,ne_eq,eq_self,Nat.reduceEqDiff,Nat.reduceAdd,Nat.reduceMul,Nat.reduceSub,Nat.reduceLeDiff,Nat.reduceLT,Int.reduceEq,Int.reduceLT,Int.reduceLE,Int.reduceAdd,Int.reduceSub,Int.reduceMul,Int.reduceNeg,Int.reduceNe,reduceCtorEq,Int.reduceToNat,↓reduceIte, hset ho]
          rw [hm]; exact ⟨rfl, rfl⟩
        · rw [hm]; (try first | exact ⟨rfl, rfl⟩ | rfl | trivial)
theorem a_setq {h : Hp} {id : Nat} {S : ByteArray} {s : Bool × Nat} (ho : h[id]? = some (iObj S s)) (hs : S.size ≤ 1000000) (hp : s.2 ≤ S.size) {r : Option (List ByteArray × Nat)} (e : r = rL S s) {s' : Bool × Nat} (d : s' = stO r (qSet S s)) :
    ACalls Try.prog 61 [.ptr id 0] h (fun a h' => a = .lst (fL r) (nL r).length ((nL r).map .str) ∧ h' = h.set id (iObj S s')) := by
  have := a_isetq ho (by omega) hp
  rw [rL_eq, ← e, vL_n, ← d] at this
  exact this
end Go.Proofs.Ytcbcnbefaggnhaa

/- record's Decode. -/
namespace Go.Proofs.Ytcbcnbefaggnhaa
set_option linter.unusedSimpArgs false
set_option linter.unusedVariables false
open Go.RowKit Go.Lib

def rMany {α : Type} (f : Nat → Option (α × Nat)) (p : Nat) : Nat → Option (List α × Nat)
  | 0 => some ([], p)
  | k + 1 => match rMany f p k with
    | some (l, q) => (match f q with
      | some (x, q') => some (l ++ [x], q')
      | none => none)
    | none => none
def rEnt (S : ByteArray) (p : Nat) : Option (Ent × Nat) := match rNum S 7 p with
  | none => none
  | some (n, q) => match rSet S q with
    | none => none
    | some (l, q') => some (⟨n, l⟩, q')
def rObt (S : ByteArray) (p : Nat) : Option (Obt × Nat) := match rNum S 4611686018427387904 p with
  | none => none
  | some (v, q1) => match rNum S 4611686018427387904 q1 with
    | none => none
    | some (w, q2) => match rNum S 12 q2 with
      | none => none
      | some (m, q3) => match rMany (rEnt S) q3 m with
        | none => none
        | some (l, q4) => some (⟨v, l, w⟩, q4)
def rRec (S : ByteArray) : Option (Rcd × Nat) := match rNum S 40 0 with
  | none => none
  | some (b, q1) => match rNum S 4 q1 with
    | none => none
    | some (n, q2) => match rMany (rObt S) q2 n with
      | none => none
      | some (l, q3) => some (⟨b, l⟩, q3)
def decR (S : ByteArray) : Option Rcd := match rRec S with
  | none => none
  | some (r, q) => if q < S.size then none else if mayR r = true then some r else none
def decRV (r : Option Rcd) : AV :=
  match r with
  | some c => .tup [vR c, .int .i64 0]
  | none => .tup [vR zeroR, .int .i64 2]
theorem free_decRV (r : Option Rcd) : free (decRV r) = true := by cases r <;> simp [decRV, free, free.frees, free_vR]
/-- what a loop of readings has read -/
def Sees {α : Type} (r : Option (List α × Nat)) (C : List α → List AV) (s : Bool × Nat) (cs : List AV) : Prop := match r with
  | some (l, q) => s = (false, q) ∧ cs = C l
  | none => s.1 = true
def rM {α : Type} (f : Nat → Option (α × Nat)) (s : Bool × Nat) (k : Nat) : Option (List α × Nat) := if s.1 = true then none else rMany f s.2 k
theorem sees0 {α : Type} {f : Nat → Option (α × Nat)} {C : List α → List AV} (s : Bool × Nat) (hC : C [] = []) : Sees (rM f s 0) C s [] := by
  obtain ⟨b, p⟩ := s
  cases b with
  | true => rfl
  | false => exact ⟨rfl, hC.symm⟩
theorem seesStep {α : Type} {f : Nat → Option (α × Nat)} {C : List α → List AV} {s0 s s' : Bool × Nat} {k : Nat} {cs ds : List AV} (h : Sees (rM f s0 k) C s cs)
    (hb : s.1 = true → s'.1 = true) (hg : s.1 = false → match f s.2 with
      | some (x, q) => s' = (false, q) ∧ ∀ l, C (l ++ [x]) = C l ++ ds
      | none => s'.1 = true) : Sees (rM f s0 (k + 1)) C s' (cs ++ ds) := by
  unfold Sees at h ⊢
  unfold rM at h ⊢
  obtain ⟨b0, p0⟩ := s0
  cases b0 with
  | true => exact hb h
  | false =>
    simp only [Bool.false_eq_true, if_false, rMany] at h ⊢
    cases hr : rMany f p0 k with
    | none => rw [hr] at h; exact hb h
    | some x =>
      obtain ⟨l, q⟩ := x
      rw [hr] at h
      obtain ⟨rfl, rfl⟩ := h
      have := hg rfl
      simp only at this ⊢
      cases hf : f q with
      | none => rw [hf] at this; exact this
      | some y =>
        obtain ⟨x, q'⟩ := y
        rw [hf] at this
        exact ⟨this.1, (this.2 l).symm⟩
theorem rN_bad {S : ByteArray} {m : Int} {s : Bool × Nat} (h : s.1 = true) : rN S m s = none := by unfold rN; rw [if_pos h]
theorem rL_bad {S : ByteArray} {s : Bool × Nat} (h : s.1 = true) : rL S s = none := by unfold rL; rw [if_pos h]
theorem rN_good {S : ByteArray} {m : Int} {s : Bool × Nat} (h : s.1 = false) : rN S m s = rNum S m s.2 := by unfold rN; rw [if_neg (by simp [h])]
theorem rL_good {S : ByteArray} {s : Bool × Nat} (h : s.1 = false) : rL S s = rSet S s.2 := by unfold rL; rw [if_neg (by simp [h])]
theorem entsC_sn (l : List Ent) (x : Ent) : entsC (l ++ [x]) = entsC l ++ [.int .i64 x.op, .lst .ro x.who.length (x.who.map .str)] := by
  simp [entsC, List.flatMap_append, eC]
theorem entStep {S : ByteArray} {s0 s s1 s2 : Bool × Nat} {k : Nat} {cs : List AV} {r1 : Option (Nat × Nat)} {r2 : Option (List ByteArray × Nat)} {q1 q2 : Nat} (h : Sees (rM (rEnt S) s0 k) entsC s cs)
    (e1 : r1 = rN S 7 s) (d1 : s1 = stO r1 q1) (e2 : r2 = rL S s1) (d2 : s2 = stO r2 q2) : Sees (rM (rEnt S) s0 (k + 1)) entsC s2 (cs ++ [.int .i64 (nI r1), .lst (fL r2) (nL r2).length ((nL r2).map .str)]) := by
  refine seesStep h (fun hb => ?_) (fun hg => ?_)
  · rw [rN_bad hb] at e1; subst e1 d1; rw [rL_bad rfl] at e2; subst e2 d2; rfl
  · rw [rN_good hg] at e1
    subst e1
    unfold rEnt
    cases hr : rNum S 7 s.2 with
    | none => rw [hr] at d1; subst d1; rw [rL_bad rfl] at e2; subst e2 d2; rfl
    | some x =>
      obtain ⟨n, q⟩ := x
      rw [hr] at d1
      subst d1
      rw [rL_good rfl] at e2
      subst e2
      simp only [stO] at d2 ⊢
      cases hr2 : rSet S q with
      | none => rw [hr2] at d2; subst d2; rfl
      | some y =>
        obtain ⟨l, q'⟩ := y
        rw [hr2] at d2
        subst d2
        exact ⟨rfl, fun l' => entsC_sn l' _⟩
theorem objsC_sn (l : List Obt) (x : Obt) : objsC (l ++ [x]) = objsC l ++ [.int .i64 x.value, .lst .ro x.ents.length (entsC x.ents), .int .i64 x.version] := by
  simp [objsC, List.flatMap_append, oC]
theorem rMany_len {α : Type} {f : Nat → Option (α × Nat)} {p : Nat} : ∀ {k : Nat} {l : List α} {q : Nat}, rMany f p k = some (l, q) → l.length = k ∧ ∀ x ∈ l, ∃ a b, f a = some (x, b)
  | 0, l, q, h => by
    simp only [rMany, Option.some.injEq, Prod.mk.injEq] at h
    obtain ⟨rfl, rfl⟩ := h
    simp
  | k + 1, l, q, h => by
    simp only [rMany] at h
    split at h
    · next l' q' h1 =>
      obtain ⟨i1, i2⟩ := rMany_len h1
      split at h
      · next x q2 h2 =>
        simp only [Option.some.injEq, Prod.mk.injEq] at h
        obtain ⟨rfl, rfl⟩ := h
        refine ⟨by simp [i1], fun y hy => ?_⟩
        rcases List.mem_append.1 hy with hy | hy
        · exact i2 y hy
        · simp at hy; subst hy; exact ⟨_, _, h2⟩
      · cases h
    · cases h
theorem objStep {S : ByteArray} {s0 s s3 s4 s5 s6 : Bool × Nat} {k : Nat} {cs ds : List AV} {r3 r4 r5 : Option (Nat × Nat)} {q3 q4 q5 : Nat} (h : Sees (rM (rObt S) s0 k) objsC s cs)
    (e3 : r3 = rN S 4611686018427387904 s) (d3 : s3 = stO r3 q3) (e4 : r4 = rN S 4611686018427387904 s3) (d4 : s4 = stO r4 q4) (e5 : r5 = rN S 12 s4) (d5 : s5 = stO r5 q5) (hd : Sees (rM (rEnt S) s5 (nI r5)) entsC s6 ds) :
    Sees (rM (rObt S) s0 (k + 1)) objsC s6 (cs ++ [.int .i64 (nI r3), .lst .ro (nI r5) ds, .int .i64 (nI r4)]) := by
  have bad : s5.1 = true → s6.1 = true := fun hb => by
    unfold Sees rM at hd
    rw [if_pos hb] at hd
    exact hd
  refine seesStep h (fun hb => ?_) (fun hg => ?_)
  · rw [rN_bad hb] at e3; subst e3 d3; rw [rN_bad rfl] at e4; subst e4 d4; rw [rN_bad rfl] at e5; subst e5 d5; exact bad rfl
  · rw [rN_good hg] at e3
    subst e3
    unfold rObt
    cases h3 : rNum S 4611686018427387904 s.2 with
    | none => rw [h3] at d3; subst d3; rw [rN_bad rfl] at e4; subst e4 d4; rw [rN_bad rfl] at e5; subst e5 d5; exact bad rfl
    | some x3 =>
      obtain ⟨n3, p3⟩ := x3
      rw [h3] at d3
      subst d3
      rw [rN_good rfl] at e4
      subst e4
      simp only [stO] at d4 ⊢
      cases h4 : rNum S 4611686018427387904 p3 with
      | none => rw [h4] at d4; subst d4; rw [rN_bad rfl] at e5; subst e5 d5; exact bad rfl
      | some x4 =>
        obtain ⟨n4, p4⟩ := x4
        rw [h4] at d4
        subst d4
        rw [rN_good rfl] at e5
        subst e5
        simp only [stO] at d5 ⊢
        cases h5 : rNum S 12 p4 with
        | none => rw [h5] at d5; subst d5; exact bad rfl
        | some x5 =>
          obtain ⟨n5, p5⟩ := x5
          rw [h5] at d5 hd
          subst d5
          simp only [rM, Bool.false_eq_true, if_false, stO, nI] at hd ⊢
          cases h6 : rMany (rEnt S) p5 n5 with
          | none => rw [h6] at hd; exact hd
          | some x6 =>
            obtain ⟨l6, p6⟩ := x6
            rw [h6] at hd
            obtain ⟨rfl, rfl⟩ := hd
            refine ⟨rfl, fun l => ?_⟩
            rw [objsC_sn, (rMany_len h6).1]
theorem rdps_objs : ∀ l : List Obt, rdps (objsC l) = objsC l
  | [] => rdps_nil
  | x :: l => by
    have := rdps_objs l
    simp only [objsC, List.flatMap_cons, oC, List.cons_append, List.nil_append, rdpw, rdps_ents] at this ⊢
    rw [this]
theorem rEnt_small {S : ByteArray} {p q : Nat} {x : Ent} (h : rEnt S p = some (x, q)) : smallE x := by
  unfold rEnt at h
  split at h
  · cases h
  · next n q1 h1 =>
    split at h
    · cases h
    · next l q2 h2 =>
      simp only [Option.some.injEq, Prod.mk.injEq] at h
      obtain ⟨rfl, rfl⟩ := h
      obtain ⟨a, b⟩ := setMay_small (upTo_set h2).2.1
      exact ⟨by show l.length ≤ 1000; omega, fun w hw => by have := b w hw; omega⟩
theorem rNum_mo {S : ByteArray} {p q n : Nat} {m : Int} (h : rNum S m p = some (n, q)) : (n : Int) ≤ m := by
  unfold rNum at h
  split at h
  · split at h
    · simp only [Option.some.injEq, Prod.mk.injEq] at h
      omega
    · cases h
  · cases h
theorem rObt_small {S : ByteArray} {p q : Nat} {x : Obt} (h : rObt S p = some (x, q)) : smallO x := by
  unfold rObt at h
  split at h
  · cases h
  · next v q1 h1 =>
    split at h
    · cases h
    · next w q2 h2 =>
      split at h
      · cases h
      · next m q3 h3 =>
        split at h
        · cases h
        · next l q4 h4 =>
          simp only [Option.some.injEq, Prod.mk.injEq] at h
          obtain ⟨rfl, rfl⟩ := h
          obtain ⟨a, b⟩ := rMany_len h4
          have hm := rNum_mo h3
          exact ⟨by show l.length ≤ 1000; omega, fun y hy => by obtain ⟨_, _, e⟩ := b y hy; exact rEnt_small e⟩
theorem recEnd {S : ByteArray} {r1 r2 : Option (Nat × Nat)} {s1 s2 s : Bool × Nat} {cs : List AV} {q1 q2 : Nat} (e1 : r1 = rN S 40 (false, 0)) (d1 : s1 = stO r1 q1) (e2 : r2 = rN S 4 s1) (d2 : s2 = stO r2 q2) (hsee : Sees (rM (rObt S) s2 (nI r2)) objsC s cs) :
    (s.1 = true → decR S = none) ∧ (s.1 = false → ∃ l, cs = objsC l ∧ l.length = nI r2 ∧ smallR ⟨nI r1, l⟩ ∧ decR S = if s.2 < S.size then none else if mayR ⟨nI r1, l⟩ = true then some ⟨nI r1, l⟩ else none) := by
  unfold decR rRec
  rw [rN_good rfl] at e1
  subst e1
  simp only
  cases h1 : rNum S 40 0 with
  | none =>
    rw [h1] at d1; subst d1; rw [rN_bad rfl] at e2; subst e2 d2
    refine ⟨fun _ => rfl, fun h => ?_⟩
    unfold Sees rM at hsee
    simp only [stO, if_true] at hsee
    rw [h] at hsee; cases hsee
  | some x1 =>
    obtain ⟨b, p1⟩ := x1
    rw [h1] at d1
    subst d1
    rw [rN_good rfl] at e2
    subst e2
    simp only [stO] at d2 hsee ⊢
    cases h2 : rNum S 4 p1 with
    | none =>
      rw [h2] at d2 hsee; subst d2
      refine ⟨fun _ => rfl, fun h => ?_⟩
      unfold Sees rM at hsee
      simp only [stO, if_true] at hsee
      rw [h] at hsee; cases hsee
    | some x2 =>
      obtain ⟨n, p2⟩ := x2
      rw [h2] at d2 hsee
      subst d2
      simp only [Sees, rM, Bool.false_eq_true, if_false, stO, nI] at hsee ⊢
      cases h3 : rMany (rObt S) p2 n with
      | none =>
        rw [h3] at hsee
        simp only at hsee
        exact ⟨fun _ => rfl, fun h => by rw [h] at hsee; cases hsee⟩
      | some x3 =>
        obtain ⟨l, q⟩ := x3
        rw [h3] at hsee
        obtain ⟨rfl, rfl⟩ := hsee
        obtain ⟨a, c⟩ := rMany_len h3
        have hn := rNum_mo h2
        exact ⟨fun h => (nomatch h), fun _ => ⟨l, rfl, a, ⟨by show l.length ≤ 1000; omega, fun o ho => by obtain ⟨_, _, e⟩ := c o ho; exact rObt_small e⟩, rfl⟩⟩
set_option maxRecDepth 100000 in
set_option maxHeartbeats 4000000 in
theorem p_rdec (S : ByteArray) (hs : S.size ≤ 1000000) : PCalls Try.prog 28 [.str S] (decRV (decR S)) := by
  refine pcalls_of rfl (free_decRV _) (ACalls.deep (acalls_of mixed J_record_Decode_ok (Nat.le_of_ble_eq_true rfl) ?_)); simp only [J_record_Decode, wk,if_true,if_false,forall_const,implies_true,ne_eq,eq_self,Nat.reduceEqDiff,Nat.reduceAdd,Nat.reduceMul,Nat.reduceSub,Nat.reduceLeDiff,Nat.reduceLT,Int.reduceEq,Int.reduceLT,Int.reduceLE,Int.reduceAdd,Int.reduceSub,Int.reduceMul,Int.reduceNeg,Int.reduceNe,reduceCtorEq,Int.reduceToNat,↓reduceIte]
  refine ACalls.use (a_from S) ?_; rintro _ _ ⟨rfl, rfl⟩; simp only [wk,if_true,if_false,forall_const,implies_true,ne_eq,eq_self,Nat.reduceEqDiff,Nat.reduceAdd,Nat.reduceMul,Nat.reduceSub,Nat.reduceLeDiff,Nat.reduceLT,Int.reduceEq,Int.reduceLT,Int.reduceLE,Int.reduceAdd,Int.reduceSub,Int.reduceMul,Int.reduceNeg,Int.reduceNe,reduceCtorEq,Int.reduceToNat,↓reduceIte]
  obtain ⟨r1, e1⟩ : ∃ r, r = rN S 40 (false, 0) := ⟨_, rfl⟩
  obtain ⟨s1, d1⟩ : ∃ s, s = stO r1 0 := ⟨_, rfl⟩
  have b1 : s1.2 ≤ S.size := by rw [d1, e1]; exact rN_le (Nat.zero_le _) (Nat.zero_le _)
  refine ACalls.use (a_num' (S := S) (s := (false, 0)) 40 rfl hs (Nat.zero_le _) e1 d1) ?_; rintro _ _ ⟨rfl, rfl⟩; simp only [wk,if_true,if_false,forall_const,implies_true,ne_eq,eq_self,Nat.reduceEqDiff,Nat.reduceAdd,Nat.reduceMul,Nat.reduceSub,Nat.reduceLeDiff,Nat.reduceLT,Int.reduceEq,Int.reduceLT,Int.reduceLE,Int.reduceAdd,Int.reduceSub,Int.reduceMul,Int.reduceNeg,Int.reduceNe,reduceCtorEq,Int.reduceToNat,↓reduceIte]
  obtain ⟨r2, e2⟩ : ∃ r, r = rN S 4 s1 := ⟨_, rfl⟩
  obtain ⟨s2, d2⟩ : ∃ s, s = stO r2 s1.2 := ⟨_, rfl⟩
  have b2 : s2.2 ≤ S.size := by rw [d2, e2]; exact rN_le b1 b1
  have n2 : nI r2 ≤ 4 := by have := (nI_le (S := S) (m := 4) b1).2 (by omega); rw [← e2] at this; omega
  refine ACalls.use (a_num' (S := S) (s := s1) 4 rfl hs b1 e2 d2) ?_; rintro _ _ ⟨rfl, rfl⟩; simp only [wk,if_true,if_false,forall_const,implies_true,ne_eq,eq_self,Nat.reduceEqDiff,Nat.reduceAdd,Nat.reduceMul,Nat.reduceSub,Nat.reduceLeDiff,Nat.reduceLT,Int.reduceEq,Int.reduceLT,Int.reduceLE,Int.reduceAdd,Int.reduceSub,Int.reduceMul,Int.reduceNeg,Int.reduceNe,reduceCtorEq,Int.reduceToNat,↓reduceIte]
  refine W_loop (fun n fr h' => ∃ (i : Nat) (s : Bool × Nat) (cs : List AV) (ex : Hp), i ≤ nI r2 ∧ n = nI r2 - i ∧ s.2 ≤ S.size ∧ cs.length = i * 3 ∧ Sees (rM (rObt S) s2 i) objsC s cs ∧ h' = some (false, [.int .i64 0, .lst (.own 43) 0 []]) :: iObj S s :: some (false, [.int .i64 (nI r1), .lst (.own 43) i cs]) :: ex ∧ fr = [(2, .ptr 0 0), (4, .ptr 1 0), (5, .ptr 2 0), (13, .int .i64 (nI r2)), (14, .int .i64 i)]) (nI r2) ⟨0, s2, [], [], by omega, by omega, b2, rfl, sees0 _ rfl, rfl, rfl⟩ ?_
  rintro n fr h' ⟨i, s, cs, ex, hi, rfl, hb, hcl, hsee, rfl, rfl⟩
  simp only [J_record_Decode_j5, wk,if_true,if_false,forall_const,implies_true,ne_eq,eq_self,Nat.reduceEqDiff,Nat.reduceAdd,Nat.reduceMul,Nat.reduceSub,Nat.reduceLeDiff,Nat.reduceLT,Int.reduceEq,Int.reduceLT,Int.reduceLE,Int.reduceAdd,Int.reduceSub,Int.reduceMul,Int.reduceNeg,Int.reduceNe,reduceCtorEq,Int.reduceToNat,↓reduceIte]
  refine ⟨fun hlt => ?_, fun hge => ?_⟩
  · obtain ⟨r3, e3⟩ : ∃ r, r = rN S 4611686018427387904 s := ⟨_, rfl⟩
    obtain ⟨s3, d3⟩ : ∃ t, t = stO r3 s.2 := ⟨_, rfl⟩
    have b3 : s3.2 ≤ S.size := by rw [d3, e3]; exact rN_le hb hb
    refine ACalls.use (a_num' (S := S) (s := s) 4611686018427387904 rfl hs hb e3 d3) ?_; rintro _ _ ⟨rfl, rfl⟩; simp only [wk,if_true,if_false,forall_const,implies_true,ne_eq,eq_self,Nat.reduceEqDiff,Nat.reduceAdd,Nat.reduceMul,Nat.reduceSub,Nat.reduceLeDiff,Nat.reduceLT,Int.reduceEq,Int.reduceLT,Int.reduceLE,Int.reduceAdd,Int.reduceSub,Int.reduceMul,Int.reduceNeg,Int.reduceNe,reduceCtorEq,Int.reduceToNat,↓reduceIte]
    obtain ⟨r4, e4⟩ : ∃ r, r = rN S 4611686018427387904 s3 := ⟨_, rfl⟩
    obtain ⟨s4, d4⟩ : ∃ t, t = stO r4 s3.2 := ⟨_, rfl⟩
    have b4 : s4.2 ≤ S.size := by rw [d4, e4]; exact rN_le b3 b3
    refine ACalls.use (a_num' (S := S) (s := s3) 4611686018427387904 rfl hs b3 e4 d4) ?_; rintro _ _ ⟨rfl, rfl⟩; simp only [wk,if_true,if_false,forall_const,implies_true,ne_eq,eq_self,Nat.reduceEqDiff,Nat.reduceAdd,Nat.reduceMul,Nat.reduceSub,Nat.reduceLeDiff,Nat.reduceLT,Int.reduceEq,Int.reduceLT,Int.reduceLE,Int.reduceAdd,Int.reduceSub,Int.reduceMul,Int.reduceNeg,Int.reduceNe,reduceCtorEq,Int.reduceToNat,↓reduceIte]
    obtain ⟨r5, e5⟩ : ∃ r, r = rN S 12 s4 := ⟨_, rfl⟩
    obtain ⟨s5, d5⟩ : ∃ t, t = stO r5 s4.2 := ⟨_, rfl⟩
    have b5 : s5.2 ≤ S.size := by rw [d5, e5]; exact rN_le b4 b4
    have n5 : nI r5 ≤ 12 := by have := (nI_le (S := S) (m := 12) b4).2 (by omega); rw [← e5] at this; omega
    refine ACalls.use (a_num' (S := S) (s := s4) 12 rfl hs b4 e5 d5) ?_; rintro _ _ ⟨rfl, rfl⟩; simp only [wk,if_true,if_false,forall_const,implies_true,ne_eq,eq_self,Nat.reduceEqDiff,Nat.reduceAdd,Nat.reduceMul,Nat.reduceSub,Nat.reduceLeDiff,Nat.reduceLT,Int.reduceEq,Int.reduceLT,Int.reduceLE,Int.reduceAdd,Int.reduceSub,Int.reduceMul,Int.reduceNeg,Int.reduceNe,reduceCtorEq,Int.reduceToNat,↓reduceIte]
    refine W_loop (fun n fr h' => ∃ (j : Nat) (t : Bool × Nat) (ds : List AV), j ≤ nI r5 ∧ n = nI r5 - j ∧ t.2 ≤ S.size ∧ ds.length = j * 2 ∧ Sees (rM (rEnt S) s5 j) entsC t ds ∧ h' = some (false, [.int .i64 0, .lst (.own 43) 0 []]) :: iObj S t :: some (false, [.int .i64 (nI r1), .lst (.own 43) i cs]) :: (ex ++ [some (false, [.int .i64 (nI r3), .lst (.own 28) j ds, .int .i64 (nI r4)])]) ∧ fr = [(2, .ptr 0 0), (4, .ptr 1 0), (5, .ptr 2 0), (6, .ptr (ex.length + 1 + 1 + 1) 0), (13, .int .i64 (nI r2)), (14, .int .i64 i), (22, .int .i64 (nI r5)), (23, .int .i64 j)]) (nI r5) ⟨0, s5, [], by omega, by omega, b5, rfl, sees0 _ rfl, rfl, rfl⟩ ?_
    rintro n fr h' ⟨j, t, ds, hj, rfl, ht, hdl, hsee2, rfl, rfl⟩
    simp only [J_record_Decode_j4, wk,if_true,if_false,forall_const,implies_true,ne_eq,eq_self,Nat.reduceEqDiff,Nat.reduceAdd,Nat.reduceMul,Nat.reduceSub,Nat.reduceLeDiff,Nat.reduceLT,Int.reduceEq,Int.reduceLT,Int.reduceLE,Int.reduceAdd,Int.reduceSub,Int.reduceMul,Int.reduceNeg,Int.reduceNe,reduceCtorEq,Int.reduceToNat,↓reduceIte]
    refine ⟨fun hlt2 => ?_, fun hge2 => ?_⟩
    · obtain ⟨r6, e6⟩ : ∃ r, r = rN S 7 t := ⟨_, rfl⟩
      obtain ⟨s6, d6⟩ : ∃ u, u = stO r6 t.2 := ⟨_, rfl⟩
      have b6 : s6.2 ≤ S.size := by rw [d6, e6]; exact rN_le ht ht
      obtain ⟨r7, e7⟩ : ∃ r, r = rL S s6 := ⟨_, rfl⟩
      obtain ⟨s7, d7⟩ : ∃ u, u = stO r7 (qSet S s6) := ⟨_, rfl⟩
      have b7 : s7.2 ≤ S.size := by rw [d7, e7]; exact rL_le (qSet_le b6)
      refine ⟨_, _, _, rfl, fun h0 hh => a_num' (S := S) (s := t) 7 hh hs ht e6 d6, _, _, _, rfl, fun h0 hh => a_setq (S := S) (s := s6) hh hs b6 e7 d7, ?_⟩
      simp only [deg_fL, wk,if_true,if_false,forall_const,implies_true,ne_eq,eq_self,Nat.reduceEqDiff,Nat.reduceAdd,Nat.reduceMul,Nat.reduceSub,Nat.reduceLeDiff,Nat.reduceLT,Int.reduceEq,Int.reduceLT,Int.reduceLE,Int.reduceAdd,Int.reduceSub,Int.reduceMul,Int.reduceNeg,Int.reduceNe,reduceCtorEq,Int.reduceToNat,↓reduceIte]
      refine ⟨⟨by omega, by omega⟩, inR_of (by omega) (by omega), nI r5 - (j + 1), by omega, j + 1, s7, _, by omega, rfl, b7, by simp [hdl]; omega, entStep hsee2 e6 d6 e7 d7, rfl, by simp⟩
    · simp only [J_record_Decode_j3, wk,if_true,if_false,forall_const,implies_true,ne_eq,eq_self,Nat.reduceEqDiff,Nat.reduceAdd,Nat.reduceMul,Nat.reduceSub,Nat.reduceLeDiff,Nat.reduceLT,Int.reduceEq,Int.reduceLT,Int.reduceLE,Int.reduceAdd,Int.reduceSub,Int.reduceMul,Int.reduceNeg,Int.reduceNe,reduceCtorEq,Int.reduceToNat,↓reduceIte]
      have hjn : j = nI r5 := by omega
      subst hjn
      refine ⟨⟨by omega, by omega⟩, ?_⟩
      simp only [J_record_Decode_j2, wk,if_true,if_false,forall_const,implies_true,ne_eq,eq_self,Nat.reduceEqDiff,Nat.reduceAdd,Nat.reduceMul,Nat.reduceSub,Nat.reduceLeDiff,Nat.reduceLT,Int.reduceEq,Int.reduceLT,Int.reduceLE,Int.reduceAdd,Int.reduceSub,Int.reduceMul,Int.reduceNeg,Int.reduceNe,reduceCtorEq,Int.reduceToNat,↓reduceIte]
      refine ⟨inR_of (by omega) (by omega), nI r2 - (i + 1), by omega, i + 1, t, _, _, by omega, rfl, ht, by simp [hcl]; omega, objStep hsee e3 d3 e4 d4 e5 d5 hsee2, rfl, by simp⟩
  · have hin : i = nI r2 := by omega
    subst hin
    simp only [J_record_Decode_j1, wk,if_true,if_false,forall_const,implies_true,ne_eq,eq_self,Nat.reduceEqDiff,Nat.reduceAdd,Nat.reduceMul,Nat.reduceSub,Nat.reduceLeDiff,Nat.reduceLT,Int.reduceEq,Int.reduceLT,Int.reduceLE,Int.reduceAdd,Int.reduceSub,Int.reduceMul,Int.reduceNeg,Int.reduceNe,reduceCtorEq,Int.reduceToNat,↓reduceIte]
    refine ACalls.use (a_idone (S := S) (s := s) rfl (by omega) hb) ?_; rintro _ _ ⟨rfl, rfl⟩; simp only [wk,if_true,if_false,forall_const,implies_true,ne_eq,eq_self,Nat.reduceEqDiff,Nat.reduceAdd,Nat.reduceMul,Nat.reduceSub,Nat.reduceLeDiff,Nat.reduceLT,Int.reduceEq,Int.reduceLT,Int.reduceLE,Int.reduceAdd,Int.reduceSub,Int.reduceMul,Int.reduceNeg,Int.reduceNe,reduceCtorEq,Int.reduceToNat,↓reduceIte]
    obtain ⟨k1, k2⟩ := recEnd e1 d1 e2 d2 hsee
    cases hbad : s.1 with
    | true =>
      rw [k1 hbad]
      simp only [Bool.true_or, eI, decRV, vR, rC, zeroR, rdpw, valL, wk,if_true,if_false,forall_const,implies_true,ne_eq,eq_self,Nat.reduceEqDiff,Nat.reduceAdd,Nat.reduceMul,Nat.reduceSub,Nat.reduceLeDiff,Nat.reduceLT,Int.reduceEq,Int.reduceLT,Int.reduceLE,Int.reduceAdd,Int.reduceSub,Int.reduceMul,Int.reduceNeg,Int.reduceNe,reduceCtorEq,Int.reduceToNat,↓reduceIte]
      simp [objsC]
    | false =>
      obtain ⟨l, rfl, hll, hsm, k3⟩ := k2 hbad
      rw [k3]
      by_cases hend : s.2 < S.size
      · simp only [hend, Bool.false_or, decide_true, if_true, eI, decRV, vR, rC, zeroR, rdpw, valL, wk,if_true,if_false,forall_const,implies_true,ne_eq,eq_self,Nat.reduceEqDiff,Nat.reduceAdd,Nat.reduceMul,Nat.reduceSub,Nat.reduceLeDiff,Nat.reduceLT,Int.reduceEq,Int.reduceLT,Int.reduceLE,Int.reduceAdd,Int.reduceSub,Int.reduceMul,Int.reduceNeg,Int.reduceNe,reduceCtorEq,Int.reduceToNat,↓reduceIte]
        simp [objsC]
      · simp only [hend, Bool.false_or, decide_false, if_false, eI, wk,if_true,if_false,forall_const,implies_true,ne_eq,eq_self,Nat.reduceEqDiff,Nat.reduceAdd,Nat.reduceMul,Nat.reduceSub,Nat.reduceLeDiff,Nat.reduceLT,Int.reduceEq,Int.reduceLT,Int.reduceLE,Int.reduceAdd,Int.reduceSub,Int.reduceMul,Int.reduceNeg,Int.reduceNe,reduceCtorEq,Int.reduceToNat,↓reduceIte]
        have hck := p_rmay1 _ hsm
        simp only [vR, rC, hll] at hck
        refine PCalls.use (hck) ?_; simp only [wk,if_true,if_false,forall_const,implies_true,ne_eq,eq_self,Nat.reduceEqDiff,Nat.reduceAdd,Nat.reduceMul,Nat.reduceSub,Nat.reduceLeDiff,Nat.reduceLT,Int.reduceEq,Int.reduceLT,Int.reduceLE,Int.reduceAdd,Int.reduceSub,Int.reduceMul,Int.reduceNeg,Int.reduceNe,reduceCtorEq,Int.reduceToNat,↓reduceIte]
        refine ⟨fun h0 => ?_, fun h0 => ?_⟩
        · simp only [h0, Bool.false_eq_true, if_false, decRV, vR, rC, zeroR, rdpw, valL, wk,if_true,if_false,forall_const,implies_true,ne_eq,eq_self,Nat.reduceEqDiff,Nat.reduceAdd,Nat.reduceMul,Nat.reduceSub,Nat.reduceLeDiff,Nat.reduceLT,Int.reduceEq,Int.reduceLT,Int.reduceLE,Int.reduceAdd,Int.reduceSub,Int.reduceMul,Int.reduceNeg,Int.reduceNe,reduceCtorEq,Int.reduceToNat,↓reduceIte]
          simp [objsC]
        · simp only [h0, if_true, decRV, vR, rC, rdpw, rdps_objs, hll, valL, wk,if_true,if_false,forall_const,implies_true,ne_eq,eq_self,Nat.reduceEqDiff,Nat.reduceAdd,Nat.reduceMul,Nat.reduceSub,Nat.reduceLeDiff,Nat.reduceLT,Int.reduceEq,Int.reduceLT,Int.reduceLE,Int.reduceAdd,Int.reduceSub,Int.reduceMul,Int.reduceNeg,Int.reduceNe,reduceCtorEq,Int.reduceToNat,↓reduceIte]
end Go.Proofs.Ytcbcnbefaggnhaa

/- The reference's lists of entries: Add, Remove, New. -/
namespace Go.Proofs.Ytcbcnbefaggnhaa
set_option linter.unusedSimpArgs false
set_option linter.unusedVariables false
open Go.RowKit Go.Lib

theorem sameEnt_comm (a b : Ent) : sameEnt a b = sameEnt b a := by
  unfold sameEnt
  congr 1
  exact propext ⟨fun h => ⟨h.1.symm, h.2.symm⟩, fun h => ⟨h.1.symm, h.2.symm⟩⟩
theorem deg_fl (f : Fl) : ∃ f', (∀ n m, deg (.lst f n m) = .lst f' n m) ∧ ∀ n m, deg (.lst f' n m) = .lst f' n m := by
  cases f with
  | ro => exact ⟨.ro, fun _ _ => rfl, fun _ _ => rfl⟩
  | clip => exact ⟨.clip, fun _ _ => rfl, fun _ _ => rfl⟩
  | own e => exact ⟨.ro, fun _ _ => rfl, fun _ _ => rfl⟩
theorem trimC {h ex Y : Hp} {a : AV} {q : Prop} (hf : free a = true) (hq : q) (hY : Y = h) : ∃ h2 ex', h ++ ex = h2 ++ ex' ∧ h.length ≤ h2.length ∧ low h2.length a = true ∧ (∀ (j : Nat) s l, h2[j]? = some (some (s, l)) → (∃ s', h[j]? = some (some (s', l))) ∨ low.lows h2.length l = true) ∧ q ∧ h2 = Y :=
  ⟨h, ex, rfl, Nat.le_refl _, low_free hf, fun _ s _ hl => .inl ⟨s, hl⟩, hq, hY.symm⟩
theorem trimD {h ex Y : Hp} {a : AV} {id : Nat} {s : Bool} {l : List AV} {q : Prop} (hf : free a = true) (hl : free.frees l = true) (hq : q) (hY : Y = h.set id (some (s, l))) : ∃ h2 ex', h.set id (some (s, l)) ++ ex = h2 ++ ex' ∧ h.length ≤ h2.length ∧ low h2.length a = true ∧ (∀ (j : Nat) s l, h2[j]? = some (some (s, l)) → (∃ s', h[j]? = some (some (s', l))) ∨ low.lows h2.length l = true) ∧ q ∧ h2 = Y := by
  obtain ⟨h2, ex', h1, k2, h3, h4, h5⟩ := trimS (h := h) (ex := ex) (a := a) (id := id) (s := s) (l := l) hf hl
  exact ⟨h2, ex', h1, k2, h3, h4, hq, h5.trans hY.symm⟩
/-- what comes of Add to a list -/
def addO (f : Fl) (l : List Ent) (ver : Int) (x : Ent) : Option (Bool × List AV) := if addE l x = 0 then lObj (.own 28) (l ++ [x]) (ver + 1) else lObj f l ver
set_option maxRecDepth 100000 in
set_option maxHeartbeats 4000000 in
theorem a_radd {h : Hp} {id : Nat} {f : Fl} {l : List Ent} {ver : Int} (x : Ent) (ho : h[id]? = some (lObj f l ver)) (hx : smallE x) (hl : l.length ≤ 1000000) (hls : ∀ y ∈ l, smallE y) (hv : 0 ≤ ver ∧ ver ≤ 1000000000) :
    ACalls Try.prog 47 [.ptr id 0, vE x] h (fun a h' => a = .int .i64 (addE l x) ∧ h' = h.set id (addO f l ver x)) := by
  have hid : id < h.length := hlt_of ho
  have ho' : (h ++ [some (false, eC x)])[id]? = some (lObj f l ver) := hold _ ho
  have hs1 : ∀ y, ((h ++ [some (false, eC x)]).set id y)[id]? = some y := fun y => hset ho' y
  have q1 := p_remay x hx
  simp only [vE, eC] at q1 ho' hs1
  obtain ⟨f', hdeg, hdeg'⟩ := deg_fl f
  have hself : h.set id (lObj f l ver) = h := hself ho
  have hlen := entsC_len l
  refine ACalls.trim (acalls_of mixed J_ref16_List_Add_ok (Nat.le_of_ble_eq_true rfl) ?_); simp only [J_ref16_List_Add, vE, eC, ho', hdeg, hdeg', wk,if_true,if_false,forall_const,implies_true,ne_eq,eq_self,Nat.reduceEqDiff,Nat.reduceAdd,Nat.reduceMul,Nat.reduceSub,Nat.reduceLeDiff,Nat.reduceLT,Int.reduceEq,Int.reduceLT,Int.reduceLE,Int.reduceAdd,Int.reduceSub,Int.reduceMul,Int.reduceNeg,Int.reduceNe,reduceCtorEq,Int.reduceToNat,↓reduceIte]
  refine PCalls.use (q1) ?_; simp only [wk,if_true,if_false,forall_const,implies_true,ne_eq,eq_self,Nat.reduceEqDiff,Nat.reduceAdd,Nat.reduceMul,Nat.reduceSub,Nat.reduceLeDiff,Nat.reduceLT,Int.reduceEq,Int.reduceLT,Int.reduceLE,Int.reduceAdd,Int.reduceSub,Int.reduceMul,Int.reduceNeg,Int.reduceNe,reduceCtorEq,Int.reduceToNat,↓reduceIte]
  refine ⟨fun m => ?_, fun m => ?_⟩
  · have e0 : addE l x = 2 := by unfold addE; rw [if_neg (by simp [m])]
    unfold addO
    rw [e0, if_neg (by decide), hself]
    exact trimC rfl rfl rfl
  refine W_loop (fun n fr h' => ∃ i : Nat, i ≤ l.length ∧ n = l.length - i ∧ h' = h ++ [some (false, [.int .i64 x.op, .lst .ro x.who.length (x.who.map .str)])] ∧ fr = [(0, .ptr id 0), (3, .ptr h.length 0), (5, .int .i64 i)] ∧ ∀ y ∈ l.take i, sameEnt x y = false) l.length ⟨0, by omega, by omega, rfl, rfl, by simp⟩ ?_
  rintro n fr h' ⟨i, hi, rfl, rfl, rfl, hall⟩
  simp only [J_ref16_List_Add_j2, ho', hdeg, hdeg', wk,if_true,if_false,forall_const,implies_true,ne_eq,eq_self,Nat.reduceEqDiff,Nat.reduceAdd,Nat.reduceMul,Nat.reduceSub,Nat.reduceLeDiff,Nat.reduceLT,Int.reduceEq,Int.reduceLT,Int.reduceLE,Int.reduceAdd,Int.reduceSub,Int.reduceMul,Int.reduceNeg,Int.reduceNe,reduceCtorEq,Int.reduceToNat,↓reduceIte]
  refine ⟨fun hlt => ?_, fun hge => ?_⟩
  · have hil : i < l.length := by omega
    have hd : (entsC l).drop ((i : Int).toNat * 2) = .int .i64 l[i].op :: .lst .ro l[i].who.length (l[i].who.map .str) :: (entsC l).drop ((i + 1) * 2) := by rw [show (i : Int).toNat = i by omega]; exact entsC_drop hil
    have q := p_resame l[i] x (by have := (hls _ (List.getElem_mem hil)).1; omega)
    simp only [vE, eC] at q
    simp only [hd, hdeg', wk,if_true,if_false,forall_const,implies_true,ne_eq,eq_self,Nat.reduceEqDiff,Nat.reduceAdd,Nat.reduceMul,Nat.reduceSub,Nat.reduceLeDiff,Nat.reduceLT,Int.reduceEq,Int.reduceLT,Int.reduceLE,Int.reduceAdd,Int.reduceSub,Int.reduceMul,Int.reduceNeg,Int.reduceNe,reduceCtorEq,Int.reduceToNat,↓reduceIte]
    refine ⟨⟨by omega, by omega⟩, _, q, ?_⟩
    simp only [wk,if_true,if_false,forall_const,implies_true,ne_eq,eq_self,Nat.reduceEqDiff,Nat.reduceAdd,Nat.reduceMul,Nat.reduceSub,Nat.reduceLeDiff,Nat.reduceLT,Int.reduceEq,Int.reduceLT,Int.reduceLE,Int.reduceAdd,Int.reduceSub,Int.reduceMul,Int.reduceNeg,Int.reduceNe,reduceCtorEq,Int.reduceToNat,↓reduceIte]
    refine ⟨fun e => ?_, fun e => ⟨inR_of (by omega) (by omega), l.length - (i + 1), by omega, i + 1, by omega, rfl, by simp, fun y hy => ?_⟩⟩
    · have hidx := idxE_at hil hall (by rw [sameEnt_comm]; exact e)
      have e0 : addE l x = 11 := by unfold addE; rw [if_pos m, if_pos (by omega)]
      unfold addO
      rw [e0, if_neg (by decide), hself]
      exact trimC rfl rfl rfl
    · rw [List.take_succ_eq_append_getElem hil] at hy
      rcases List.mem_append.1 hy with hy | hy
      · exact hall y hy
      · simp at hy; subst hy; rw [sameEnt_comm]; exact e
  · rw [List.take_of_length_le (by omega)] at hall
    have hidx := idxE_none hall
    simp only [J_ref16_List_Add_j1, ho', hdeg, hdeg', wk,if_true,if_false,forall_const,implies_true,ne_eq,eq_self,Nat.reduceEqDiff,Nat.reduceAdd,Nat.reduceMul,Nat.reduceSub,Nat.reduceLeDiff,Nat.reduceLT,Int.reduceEq,Int.reduceLT,Int.reduceLE,Int.reduceAdd,Int.reduceSub,Int.reduceMul,Int.reduceNeg,Int.reduceNe,reduceCtorEq,Int.reduceToNat,↓reduceIte]
    refine ⟨fun n => ?_, fun n => ?_⟩
    · have e0 : addE l x = 3 := by unfold addE; rw [if_pos m, if_neg (by omega), if_pos (by omega)]
      unfold addO
      rw [e0, if_neg (by decide), hself]
      exact trimC rfl rfl rfl
    · have e0 : addE l x = 0 := by unfold addE; rw [if_pos m, if_neg (by omega), if_neg (by omega)]
      unfold addO
      rw [e0, if_pos rfl]
      have hg : ∀ y, (h ++ [y])[id]? = some (lObj f l ver) := fun y => hold _ ho
      have hg2 : ∀ y z, ((h ++ [y]).set id z)[id]? = some z := fun y z => hset (hg y) z
      have hg3 : ∀ y z, ((h ++ [y]).set id z)[h.length]? = some y := fun y z => by rw [List.getElem?_set_ne (by omega)]; simp
      have e1 : (entsC (l ++ [x])) = entsC l ++ [.int .i64 x.op, .lst .ro x.who.length (x.who.map .str)] := entsC_sn l x
      have hw := hx.1
      simp only [hg, hg2, hg3, hdeg, hdeg', wk,if_true,if_false,forall_const,implies_true,ne_eq,eq_self,Nat.reduceEqDiff,Nat.reduceAdd,Nat.reduceMul,Nat.reduceSub,Nat.reduceLeDiff,Nat.reduceLT,Int.reduceEq,Int.reduceLT,Int.reduceLE,Int.reduceAdd,Int.reduceSub,Int.reduceMul,Int.reduceNeg,Int.reduceNe,reduceCtorEq,Int.reduceToNat,↓reduceIte]
      refine ⟨⟨by simp, by omega, by omega⟩, ⟨by omega, by omega, by omega⟩, ⟨by omega, by omega⟩, inR_of (by omega) (by omega), ?_⟩
      rw [set_left _ hid]
      rw [← e1, show l.length + 1 = (l ++ [x]).length by simp]
      refine trimS ?_ ?_
      · rfl
      · simp [free.frees, free, frees_entsC]
/-- the entries that are others than x -/
def restE (l : List Ent) (x : Ent) : List Ent := l.filter fun y => !sameEnt y x
theorem restE_snoc {l : List Ent} {i : Nat} (x : Ent) (hi : i < l.length) : restE (l.take (i + 1)) x = restE (l.take i) x ++ if sameEnt l[i] x = true then [] else [l[i]] := by
  unfold restE
  rw [List.take_succ_eq_append_getElem hi, List.filter_append]
  cases h : sameEnt l[i] x <;> simp [h]
theorem restE_len (l : List Ent) (x : Ent) : (restE l x).length ≤ l.length := List.length_filter_le _ _
theorem restE_all {x : Ent} : ∀ {l : List Ent}, idxE x l < 0 → (restE l x).length = l.length
  | [], _ => rfl
  | y :: l, h => by
    simp only [idxE] at h
    split at h
    · omega
    · next hs =>
      have := idxE_lt x l
      split at h
      · next hn =>
        have ih := restE_all hn
        unfold restE at ih ⊢
        rw [List.filter_cons_of_pos (by rw [sameEnt_comm]; simp [hs]), List.length_cons, ih, List.length_cons]
      · omega
theorem restE_less {x : Ent} : ∀ {l : List Ent}, ¬ idxE x l < 0 → (restE l x).length < l.length
  | [], h => by simp [idxE] at h
  | y :: l, h => by
    simp only [idxE] at h
    have hle := restE_len l x
    unfold restE at hle ⊢
    split at h
    · next hs =>
      rw [List.filter_cons_of_neg (by rw [sameEnt_comm]; simp [hs]), List.length_cons]
      omega
    · next hs =>
      split at h
      · omega
      · next hn =>
        have ih := restE_less hn
        unfold restE at ih
        rw [List.filter_cons_of_pos (by rw [sameEnt_comm]; simp [hs]), List.length_cons, List.length_cons]
        omega
/-- what comes of Remove to a list -/
def remO (f : Fl) (l : List Ent) (ver : Int) (x : Ent) : Option (Bool × List AV) := if remE l x = 0 then lObj .ro (restE l x) (ver + 1) else lObj f l ver
set_option maxRecDepth 100000 in
set_option maxHeartbeats 4000000 in
theorem a_rrem {h : Hp} {id : Nat} {f : Fl} {l : List Ent} {ver : Int} (x : Ent) (ho : h[id]? = some (lObj f l ver)) (hx : smallE x) (hl : l.length ≤ 1000000) (hls : ∀ y ∈ l, smallE y) (hv : 0 ≤ ver ∧ ver ≤ 1000000000) :
    ACalls Try.prog 48 [.ptr id 0, vE x] h (fun a h' => a = .int .i64 (remE l x) ∧ h' = h.set id (remO f l ver x)) := by
  have hid : id < h.length := hlt_of ho
  have hg : ∀ y, (h ++ [y])[id]? = some (lObj f l ver) := fun y => hold _ ho
  have hg2 : ∀ y z, ((h ++ [y]).set id z)[id]? = some z := fun y z => hset (hg y) z
  have q1 := p_remay x hx
  simp only [vE, eC] at q1
  obtain ⟨f', hdeg, hdeg'⟩ := deg_fl f
  have hself : h.set id (lObj f l ver) = h := hself ho
  have hlen := entsC_len l
  refine ACalls.trim (acalls_of mixed J_ref16_List_Remove_ok (Nat.le_of_ble_eq_true rfl) ?_); simp only [J_ref16_List_Remove, vE, eC, hg, hdeg, hdeg', wk,if_true,if_false,forall_const,implies_true,ne_eq,eq_self,Nat.reduceEqDiff,Nat.reduceAdd,Nat.reduceMul,Nat.reduceSub,Nat.reduceLeDiff,Nat.reduceLT,Int.reduceEq,Int.reduceLT,Int.reduceLE,Int.reduceAdd,Int.reduceSub,Int.reduceMul,Int.reduceNeg,Int.reduceNe,reduceCtorEq,Int.reduceToNat,↓reduceIte]
  refine PCalls.use (q1) ?_; simp only [wk,if_true,if_false,forall_const,implies_true,ne_eq,eq_self,Nat.reduceEqDiff,Nat.reduceAdd,Nat.reduceMul,Nat.reduceSub,Nat.reduceLeDiff,Nat.reduceLT,Int.reduceEq,Int.reduceLT,Int.reduceLE,Int.reduceAdd,Int.reduceSub,Int.reduceMul,Int.reduceNeg,Int.reduceNe,reduceCtorEq,Int.reduceToNat,↓reduceIte]
  refine ⟨fun m => ?_, fun m => ?_⟩
  · have e0 : remE l x = 2 := by unfold remE; rw [if_neg (by simp [m])]
    unfold remO
    rw [e0, if_neg (by decide), hself]
    exact trimC rfl rfl rfl
  refine W_loop (fun n fr h' => ∃ i : Nat, i ≤ l.length ∧ n = l.length - i ∧ h' = h ++ [some (false, [.int .i64 x.op, .lst .ro x.who.length (x.who.map .str)])] ∧ fr = [(0, .ptr id 0), (3, .ptr h.length 0), (5, .lst (.own 28) (restE (l.take i) x).length (entsC (restE (l.take i) x))), (6, .int .i64 i)]) l.length ⟨0, by omega, by omega, rfl, rfl⟩ ?_
  rintro n fr h' ⟨i, hi, rfl, rfl, rfl⟩
  simp only [J_ref16_List_Remove_j3, hg, hdeg, hdeg', wk,if_true,if_false,forall_const,implies_true,ne_eq,eq_self,Nat.reduceEqDiff,Nat.reduceAdd,Nat.reduceMul,Nat.reduceSub,Nat.reduceLeDiff,Nat.reduceLT,Int.reduceEq,Int.reduceLT,Int.reduceLE,Int.reduceAdd,Int.reduceSub,Int.reduceMul,Int.reduceNeg,Int.reduceNe,reduceCtorEq,Int.reduceToNat,↓reduceIte]
  refine ⟨fun hlt => ?_, fun hge => ?_⟩
  · have hil : i < l.length := by omega
    have hd : (entsC l).drop ((i : Int).toNat * 2) = .int .i64 l[i].op :: .lst .ro l[i].who.length (l[i].who.map .str) :: (entsC l).drop ((i + 1) * 2) := by rw [show (i : Int).toNat = i by omega]; exact entsC_drop hil
    have q := p_resame l[i] x (by have := (hls _ (List.getElem_mem hil)).1; omega)
    simp only [vE, eC] at q
    simp only [hd, hdeg', wk,if_true,if_false,forall_const,implies_true,ne_eq,eq_self,Nat.reduceEqDiff,Nat.reduceAdd,Nat.reduceMul,Nat.reduceSub,Nat.reduceLeDiff,Nat.reduceLT,Int.reduceEq,Int.reduceLT,Int.reduceLE,Int.reduceAdd,Int.reduceSub,Int.reduceMul,Int.reduceNeg,Int.reduceNe,reduceCtorEq,Int.reduceToNat,↓reduceIte]
    refine ⟨⟨by omega, by omega⟩, _, q, ?_⟩
    simp only [wk,if_true,if_false,forall_const,implies_true,ne_eq,eq_self,Nat.reduceEqDiff,Nat.reduceAdd,Nat.reduceMul,Nat.reduceSub,Nat.reduceLeDiff,Nat.reduceLT,Int.reduceEq,Int.reduceLT,Int.reduceLE,Int.reduceAdd,Int.reduceSub,Int.reduceMul,Int.reduceNeg,Int.reduceNe,reduceCtorEq,Int.reduceToNat,↓reduceIte]
    have hrl := restE_len (l.take i) x
    have hsn := restE_snoc x hil
    simp only [List.length_take] at hrl
    refine ⟨fun e => ⟨⟨by omega, by omega⟩, ⟨by omega, by omega⟩, ?_⟩, fun e => ?_⟩
    · simp only [J_ref16_List_Remove_j2, wk,if_true,if_false,forall_const,implies_true,ne_eq,eq_self,Nat.reduceEqDiff,Nat.reduceAdd,Nat.reduceMul,Nat.reduceSub,Nat.reduceLeDiff,Nat.reduceLT,Int.reduceEq,Int.reduceLT,Int.reduceLE,Int.reduceAdd,Int.reduceSub,Int.reduceMul,Int.reduceNeg,Int.reduceNe,reduceCtorEq,Int.reduceToNat,↓reduceIte]
      rw [if_neg (by simp [e])] at hsn
      refine ⟨inR_of (by omega) (by omega), l.length - (i + 1), by omega, i + 1, by omega, rfl, ?_⟩
      rw [hsn, entsC_sn]
      simp
    · simp only [J_ref16_List_Remove_j2, wk,if_true,if_false,forall_const,implies_true,ne_eq,eq_self,Nat.reduceEqDiff,Nat.reduceAdd,Nat.reduceMul,Nat.reduceSub,Nat.reduceLeDiff,Nat.reduceLT,Int.reduceEq,Int.reduceLT,Int.reduceLE,Int.reduceAdd,Int.reduceSub,Int.reduceMul,Int.reduceNeg,Int.reduceNe,reduceCtorEq,Int.reduceToNat,↓reduceIte]
      rw [if_pos e] at hsn
      refine ⟨inR_of (by omega) (by omega), l.length - (i + 1), by omega, i + 1, by omega, rfl, ?_⟩
      rw [hsn]
      simp
  · rw [List.take_of_length_le (by omega)]
    simp only [J_ref16_List_Remove_j1, hg, hdeg, hdeg', wk,if_true,if_false,forall_const,implies_true,ne_eq,eq_self,Nat.reduceEqDiff,Nat.reduceAdd,Nat.reduceMul,Nat.reduceSub,Nat.reduceLeDiff,Nat.reduceLT,Int.reduceEq,Int.reduceLT,Int.reduceLE,Int.reduceAdd,Int.reduceSub,Int.reduceMul,Int.reduceNeg,Int.reduceNe,reduceCtorEq,Int.reduceToNat,↓reduceIte]
    refine ⟨fun n => ?_, fun n => ?_⟩
    · have hn : idxE x l < 0 := by
        by_cases hc : idxE x l < 0
        · exact hc
        · have := restE_less hc; omega
      have e0 : remE l x = 10 := by unfold remE; rw [if_pos m, if_pos hn]
      unfold remO
      rw [e0, if_neg (by decide), hself]
      exact trimC rfl rfl rfl
    · have hn : ¬ idxE x l < 0 := fun hc => n (by rw [restE_all hc])
      have e0 : remE l x = 0 := by unfold remE; rw [if_pos m, if_neg hn]
      unfold remO
      rw [e0, if_pos rfl]
      simp only [hg2, wk,if_true,if_false,forall_const,implies_true,ne_eq,eq_self,Nat.reduceEqDiff,Nat.reduceAdd,Nat.reduceMul,Nat.reduceSub,Nat.reduceLeDiff,Nat.reduceLT,Int.reduceEq,Int.reduceLT,Int.reduceLE,Int.reduceAdd,Int.reduceSub,Int.reduceMul,Int.reduceNeg,Int.reduceNe,reduceCtorEq,Int.reduceToNat,↓reduceIte]
      refine ⟨inR_of (by omega) (by omega), ?_⟩
      rw [set_left _ hid]
      refine trimS ?_ ?_
      · rfl
      · simp [free.frees, free, frees_entsC]
end Go.Proofs.Ytcbcnbefaggnhaa

/- The reference's New; May and Asks of records. -/
namespace Go.Proofs.Ytcbcnbefaggnhaa
set_option linter.unusedSimpArgs false
set_option linter.unusedVariables false
open Go.RowKit Go.Lib

def NewPostR (h : Hp) (l : List Ent) (a : AV) (h' : Hp) : Prop :=
  if newE [] l = 0 then ∃ f, a = .tup [.ptr h.length 0, .int .i64 0] ∧ h' = h ++ [lObj f l 0] else a = .tup [.nilp, .int .i64 (newE [] l)] ∧ h = h'
theorem snoc_set (h : Hp) (x y : Option (Bool × List AV)) : (h ++ [x]).set h.length y = h ++ [y] := by simp
set_option maxRecDepth 100000 in
set_option maxHeartbeats 4000000 in
theorem a_rnew {h : Hp} (l : List Ent) (hl : l.length ≤ 1000000) (hs : ∀ x ∈ l, smallE x) : ACalls Try.prog 46 [.lst .ro l.length (entsC l)] h (NewPostR h l) := by
  refine ACalls.trim (acalls_of mixed J_ref16_New_ok (Nat.le_of_ble_eq_true rfl) ?_); simp only [J_ref16_New, wk,if_true,if_false,forall_const,implies_true,ne_eq,eq_self,Nat.reduceEqDiff,Nat.reduceAdd,Nat.reduceMul,Nat.reduceSub,Nat.reduceLeDiff,Nat.reduceLT,Int.reduceEq,Int.reduceLT,Int.reduceLE,Int.reduceAdd,Int.reduceSub,Int.reduceMul,Int.reduceNeg,Int.reduceNe,reduceCtorEq,Int.reduceToNat,↓reduceIte]
  refine W_loop (fun n fr h' => ∃ (i : Nat) (f : Fl), i ≤ l.length ∧ n = l.length - i ∧ h' = h ++ [lObj f (l.take i) i] ∧ newE [] l = newE (l.take i) (l.drop i) ∧ fr = [(0, .lst .ro l.length (entsC l)), (4, .ptr h.length 0), (5, .int .i64 i)]) l.length ⟨0, .clip, by omega, by omega, rfl, rfl, rfl⟩ ?_
  rintro n fr h' ⟨i, f, hi, rfl, rfl, hnew, rfl⟩
  simp only [J_ref16_New_j2, wk,if_true,if_false,forall_const,implies_true,ne_eq,eq_self,Nat.reduceEqDiff,Nat.reduceAdd,Nat.reduceMul,Nat.reduceSub,Nat.reduceLeDiff,Nat.reduceLT,Int.reduceEq,Int.reduceLT,Int.reduceLE,Int.reduceAdd,Int.reduceSub,Int.reduceMul,Int.reduceNeg,Int.reduceNe,reduceCtorEq,Int.reduceToNat,↓reduceIte]
  refine ⟨fun hlt => ?_, fun hge => ?_⟩
  · have hil : i < l.length := by omega
    have hd : (entsC l).drop ((i : Int).toNat * 2) = .int .i64 l[i].op :: .lst .ro l[i].who.length (l[i].who.map .str) :: (entsC l).drop ((i + 1) * 2) := by rw [show (i : Int).toNat = i by omega]; exact entsC_drop hil
    rw [newE_at hil] at hnew
    have hxs := hs _ (List.getElem_mem hil)
    refine ⟨⟨by omega, by omega⟩, ?_⟩
    simp only [hd, wk,if_true,if_false,forall_const,implies_true,ne_eq,eq_self,Nat.reduceEqDiff,Nat.reduceAdd,Nat.reduceMul,Nat.reduceSub,Nat.reduceLeDiff,Nat.reduceLT,Int.reduceEq,Int.reduceLT,Int.reduceLE,Int.reduceAdd,Int.reduceSub,Int.reduceMul,Int.reduceNeg,Int.reduceNe,reduceCtorEq,Int.reduceToNat,↓reduceIte]
    have q := a_radd (h := h ++ [lObj f (l.take i) i]) (id := h.length) (f := f) (l := l.take i) (ver := i) l[i] (by simp) hxs (by simp; omega) (fun y hy => hs y (List.mem_of_mem_take hy)) (by omega)
    rw [snoc_set] at q
    simp only [vE, eC] at q
    refine ACalls.use (q) ?_; rintro _ _ ⟨rfl, rfl⟩; simp only [wk,if_true,if_false,forall_const,implies_true,ne_eq,eq_self,Nat.reduceEqDiff,Nat.reduceAdd,Nat.reduceMul,Nat.reduceSub,Nat.reduceLeDiff,Nat.reduceLT,Int.reduceEq,Int.reduceLT,Int.reduceLE,Int.reduceAdd,Int.reduceSub,Int.reduceMul,Int.reduceNeg,Int.reduceNe,reduceCtorEq,Int.reduceToNat,↓reduceIte]
    refine ⟨fun he => ?_, fun he => ?_⟩
    · rw [if_neg he] at hnew
      refine ⟨h, _, rfl, Nat.le_refl _, by simp [low, low.lows], fun _ s _ hl => .inl ⟨s, hl⟩, ?_⟩
      unfold NewPostR
      rw [hnew, if_neg he]
      exact ⟨rfl, rfl⟩
    · rw [if_pos he] at hnew
      refine ⟨inR_of (by omega) (by omega), l.length - (i + 1), by omega, i + 1, .own 28, by omega, rfl, ?_, hnew, by simp⟩
      unfold addO
      rw [if_pos he, List.take_succ_eq_append_getElem hil]
      simp
  · rw [List.take_of_length_le (by omega), List.drop_of_length_le (by omega)] at hnew
    simp only [newE] at hnew
    rw [List.take_of_length_le (by omega)]
    simp only [J_ref16_New_j1, wk,if_true,if_false,forall_const,implies_true,ne_eq,eq_self,Nat.reduceEqDiff,Nat.reduceAdd,Nat.reduceMul,Nat.reduceSub,Nat.reduceLeDiff,Nat.reduceLT,Int.reduceEq,Int.reduceLT,Int.reduceLE,Int.reduceAdd,Int.reduceSub,Int.reduceMul,Int.reduceNeg,Int.reduceNe,reduceCtorEq,Int.reduceToNat,↓reduceIte]
    obtain ⟨h2, ex', k1, k2, k3, k4, k5, k6⟩ := trimN (h := h) (ex := []) (a := .tup [.ptr h.length 0, .int .i64 0]) (s := false) (l := [.lst f l.length (entsC l), .int .i64 0]) (q := True) (by simp [low, low.lows]) (by simp [free.frees, free, frees_entsC]) trivial
    refine ⟨h2, ex', k1, k2, k3, k4, ?_⟩
    unfold NewPostR
    rw [if_pos hnew]
    exact ⟨f, rfl, k6⟩
set_option maxRecDepth 100000 in
set_option maxHeartbeats 4000000 in
theorem p_rrmay (r : Rcd) (h : smallR r) : PCalls Try.prog 22 [vR r] (.bool (mayR r)) := by
  refine pcalls_of (by simp [free.frees, free_vR]) rfl (acalls_of mixed J_ref21_May_ok (Nat.le_of_ble_eq_true rfl) ?_); simp only [J_ref21_May, vR, rC, wk,if_true,if_false,forall_const,implies_true,ne_eq,eq_self,Nat.reduceEqDiff,Nat.reduceAdd,Nat.reduceMul,Nat.reduceSub,Nat.reduceLeDiff,Nat.reduceLT,Int.reduceEq,Int.reduceLT,Int.reduceLE,Int.reduceAdd,Int.reduceSub,Int.reduceMul,Int.reduceNeg,Int.reduceNe,reduceCtorEq,Int.reduceToNat,↓reduceIte]
  have no : mayR r = false → AV.bool false = .bool (mayR r) := fun e => by rw [e]
  have hlr := h.1
  refine ⟨fun h1 => ⟨fun h2 => ⟨fun h3 => no (by simp [mayR]; omega), fun h3 => ?_⟩, fun h2 => no (by simp [mayR]; omega)⟩, fun h1 => no (by simp [mayR]; omega)⟩
  refine W_loop (fun n fr h' => ∃ (i : Nat) (ex : Hp), i ≤ r.objs.length ∧ n = r.objs.length - i ∧ h' = some (false, [.int .i64 r.boot, .lst .ro r.objs.length (objsC r.objs)]) :: ex ∧ fr = [(1, .ptr 0 0), (3, .int .i64 i)] ∧ ∀ o ∈ r.objs.take i, mayO o = true) r.objs.length ⟨0, [], by omega, by omega, rfl, rfl, by simp⟩ ?_
  rintro n fr h' ⟨i, ex, hi, rfl, rfl, rfl, hall⟩
  simp only [J_ref21_May_j2, wk,if_true,if_false,forall_const,implies_true,ne_eq,eq_self,Nat.reduceEqDiff,Nat.reduceAdd,Nat.reduceMul,Nat.reduceSub,Nat.reduceLeDiff,Nat.reduceLT,Int.reduceEq,Int.reduceLT,Int.reduceLE,Int.reduceAdd,Int.reduceSub,Int.reduceMul,Int.reduceNeg,Int.reduceNe,reduceCtorEq,Int.reduceToNat,↓reduceIte]
  refine ⟨fun hlt => ?_, fun hge => ?_⟩
  · have hil : i < r.objs.length := by omega
    have hd : (objsC r.objs).drop ((i : Int).toNat * 3) = .int .i64 r.objs[i].value :: .lst .ro r.objs[i].ents.length (entsC r.objs[i].ents) :: .int .i64 r.objs[i].version :: (objsC r.objs).drop ((i + 1) * 3) := by rw [show (i : Int).toNat = i by omega]; exact objsC_drop hil
    have hmem := List.getElem_mem hil
    have hsm := h.2 _ hmem
    refine ⟨⟨by omega, by omega⟩, ?_⟩
    simp only [hd, wk,if_true,if_false,forall_const,implies_true,ne_eq,eq_self,Nat.reduceEqDiff,Nat.reduceAdd,Nat.reduceMul,Nat.reduceSub,Nat.reduceLeDiff,Nat.reduceLT,Int.reduceEq,Int.reduceLT,Int.reduceLE,Int.reduceAdd,Int.reduceSub,Int.reduceMul,Int.reduceNeg,Int.reduceNe,reduceCtorEq,Int.reduceToNat,↓reduceIte]
    refine ACalls.use (a_rnew r.objs[i].ents (by have := hsm.1; omega) hsm.2) ?_
    have step : ∀ o ∈ r.objs.take (i + 1), mayO r.objs[i] = true → mayO o = true := fun o ho hm => by
      rw [List.take_succ_eq_append_getElem hil] at ho
      rcases List.mem_append.1 ho with ho | ho
      · exact hall o ho
      · simp at ho; subst ho; exact hm
    rintro a h2 hp
    unfold NewPostR at hp
    split at hp
    · next he =>
      obtain ⟨f, rfl, rfl⟩ := hp
      simp only [two0, wk,if_true,if_false,forall_const,implies_true,ne_eq,eq_self,Nat.reduceEqDiff,Nat.reduceAdd,Nat.reduceMul,Nat.reduceSub,Nat.reduceLeDiff,Nat.reduceLT,Int.reduceEq,Int.reduceLT,Int.reduceLE,Int.reduceAdd,Int.reduceSub,Int.reduceMul,Int.reduceNeg,Int.reduceNe,reduceCtorEq,Int.reduceToNat,↓reduceIte]
      refine PCalls.use (p_rrecnum r.objs[i].value) ?_; simp only [wk,if_true,if_false,forall_const,implies_true,ne_eq,eq_self,Nat.reduceEqDiff,Nat.reduceAdd,Nat.reduceMul,Nat.reduceSub,Nat.reduceLeDiff,Nat.reduceLT,Int.reduceEq,Int.reduceLT,Int.reduceLE,Int.reduceAdd,Int.reduceSub,Int.reduceMul,Int.reduceNeg,Int.reduceNe,reduceCtorEq,Int.reduceToNat,↓reduceIte]
      refine ⟨fun m1 => ?_, fun m1 => no (mayR_no hmem (by simp [mayO, m1]))⟩
      simp only [two0, wk,if_true,if_false,forall_const,implies_true,ne_eq,eq_self,Nat.reduceEqDiff,Nat.reduceAdd,Nat.reduceMul,Nat.reduceSub,Nat.reduceLeDiff,Nat.reduceLT,Int.reduceEq,Int.reduceLT,Int.reduceLE,Int.reduceAdd,Int.reduceSub,Int.reduceMul,Int.reduceNeg,Int.reduceNe,reduceCtorEq,Int.reduceToNat,↓reduceIte]
      refine PCalls.use (p_rrecnum r.objs[i].version) ?_; simp only [wk,if_true,if_false,forall_const,implies_true,ne_eq,eq_self,Nat.reduceEqDiff,Nat.reduceAdd,Nat.reduceMul,Nat.reduceSub,Nat.reduceLeDiff,Nat.reduceLT,Int.reduceEq,Int.reduceLT,Int.reduceLE,Int.reduceAdd,Int.reduceSub,Int.reduceMul,Int.reduceNeg,Int.reduceNe,reduceCtorEq,Int.reduceToNat,↓reduceIte]
      refine ⟨fun m2 => ⟨inR_of (by omega) (by omega), r.objs.length - (i + 1), by omega, i + 1, _, by omega, rfl, rfl, by simp, fun o ho => step o ho (by simp [mayO, m1, m2, he])⟩, fun m2 => no (mayR_no hmem (by simp [mayO, m2]))⟩
    · next he =>
      obtain ⟨rfl, rfl⟩ := hp
      simp only [wk,if_true,if_false,forall_const,implies_true,ne_eq,eq_self,Nat.reduceEqDiff,Nat.reduceAdd,Nat.reduceMul,Nat.reduceSub,Nat.reduceLeDiff,Nat.reduceLT,Int.reduceEq,Int.reduceLT,Int.reduceLE,Int.reduceAdd,Int.reduceSub,Int.reduceMul,Int.reduceNeg,Int.reduceNe,reduceCtorEq,Int.reduceToNat,↓reduceIte]
      refine PCalls.use (p_rrecnum r.objs[i].value) ?_; simp only [wk,if_true,if_false,forall_const,implies_true,ne_eq,eq_self,Nat.reduceEqDiff,Nat.reduceAdd,Nat.reduceMul,Nat.reduceSub,Nat.reduceLeDiff,Nat.reduceLT,Int.reduceEq,Int.reduceLT,Int.reduceLE,Int.reduceAdd,Int.reduceSub,Int.reduceMul,Int.reduceNeg,Int.reduceNe,reduceCtorEq,Int.reduceToNat,↓reduceIte]
      refine ⟨fun m1 => ?_, fun m1 => no (mayR_no hmem (by simp [mayO, m1]))⟩
      refine PCalls.use (p_rrecnum r.objs[i].version) ?_; simp only [wk,if_true,if_false,forall_const,implies_true,ne_eq,eq_self,Nat.reduceEqDiff,Nat.reduceAdd,Nat.reduceMul,Nat.reduceSub,Nat.reduceLeDiff,Nat.reduceLT,Int.reduceEq,Int.reduceLT,Int.reduceLE,Int.reduceAdd,Int.reduceSub,Int.reduceMul,Int.reduceNeg,Int.reduceNe,reduceCtorEq,Int.reduceToNat,↓reduceIte]
      refine ⟨fun m2 => ⟨fun _ => no (mayR_no hmem (by simp [mayO, he])), fun e => absurd e he⟩, fun m2 => no (mayR_no hmem (by simp [mayO, m2]))⟩
  · rw [List.take_of_length_le (by omega)] at hall
    simp only [J_ref21_May_j1, wk,if_true,if_false,forall_const,implies_true,ne_eq,eq_self,Nat.reduceEqDiff,Nat.reduceAdd,Nat.reduceMul,Nat.reduceSub,Nat.reduceLeDiff,Nat.reduceLT,Int.reduceEq,Int.reduceLT,Int.reduceLE,Int.reduceAdd,Int.reduceSub,Int.reduceMul,Int.reduceNeg,Int.reduceNe,reduceCtorEq,Int.reduceToNat,↓reduceIte]
    congr 1
    symm
    simp only [mayR, Bool.and_eq_true, decide_eq_true_eq, List.all_eq_true]
    exact ⟨⟨by omega, by omega⟩, by omega, hall⟩
set_option maxRecDepth 100000 in
set_option maxHeartbeats 4000000 in
theorem p_rasks (q : Rqs) (h : smallE q.ent) : PCalls Try.prog 24 [vQ q] (.bool (asksE q)) := by
  refine pcalls_of (by simp [free.frees, free_vQ]) rfl (acalls_of mixed J_ref21_Asks_ok (Nat.le_of_ble_eq_true rfl) ?_); simp only [J_ref21_Asks, vQ, qC, wk,if_true,if_false,forall_const,implies_true,ne_eq,eq_self,Nat.reduceEqDiff,Nat.reduceAdd,Nat.reduceMul,Nat.reduceSub,Nat.reduceLeDiff,Nat.reduceLT,Int.reduceEq,Int.reduceLT,Int.reduceLE,Int.reduceAdd,Int.reduceSub,Int.reduceMul,Int.reduceNeg,Int.reduceNe,reduceCtorEq,Int.reduceToNat,↓reduceIte]
  have q0 := p_rrecnum q.arg
  have q1 := p_rsmay q.ent.who (by have := h.1; omega) (fun w hw => by have := h.2 w hw; omega)
  unfold asksE noneE mayEnt
  repeat' (first | (refine PCalls.use q0 ?_; simp only [wk,if_true,if_false,forall_const,implies_true,ne_eq,eq_self,Nat.reduceEqDiff,Nat.reduceAdd,Nat.reduceMul,Nat.reduceSub,Nat.reduceLeDiff,Nat.reduceLT,Int.reduceEq,Int.reduceLT,Int.reduceLE,Int.reduceAdd,Int.reduceSub,Int.reduceMul,Int.reduceNeg,Int.reduceNe,reduceCtorEq,Int.reduceToNat,↓reduceIte]) | (refine PCalls.use q1 ?_; simp only [wk,if_true,if_false,forall_const,implies_true,ne_eq,eq_self,Nat.reduceEqDiff,Nat.reduceAdd,Nat.reduceMul,Nat.reduceSub,Nat.reduceLeDiff,Nat.reduceLT,Int.reduceEq,Int.reduceLT,Int.reduceLE,Int.reduceAdd,Int.reduceSub,Int.reduceMul,Int.reduceNeg,Int.reduceNe,reduceCtorEq,Int.reduceToNat,↓reduceIte]) | (refine And.intro ?_ ?_) | intro _)
  all_goals first
    | (simp_all; done)
    | (congr 1; simp_all; done)
    | (congr 1; simp_all; omega)
    | (congr 1; symm; split <;> (repeat' split) <;> simp_all <;> omega)
end Go.Proofs.Ytcbcnbefaggnhaa

/- The functions' abstract code, written by a program (acode.py), and that it is theirs. -/
namespace Go.Proofs.Ytcbcnbefaggnhaa
open Go.RowKit

/- behind: Q -/
def J_ref07_In_Num_j1 : ACode :=
  .keep [0] (.seq (.ops [⟨some 68, none, .mv (.t 0), none⟩,
      ⟨some 69, none, .nilck (.t 68), none⟩,
      ⟨some 70, none, .fld 2 (.t 69), none⟩,
      ⟨none, none, .store 1 (.t 70) (.c (.bool true)), none⟩])
        (.keep [] (.seq (.ops [⟨some 4, none, .mv (.c (.int .i64 0)), none⟩])
         (.ret))))

/- behind: Q = kloop [0, 1, 5, 6, 7] I n (kblock 0 (kseq P (J_ref07_In_Num_j1) Q)) -/
def J_ref07_In_Num_j2 : ACode :=
  .seq (.seq (.ops [⟨some 13, none, .mv (.t 7), none⟩,
      ⟨some 14, none, .bin .lss (.t 13) (.c (.int .i64 9)), none⟩])
            (.keep [0, 1, 5, 6, 7, 14] (.cond (.t 14)
             (.skip)
             (.exit 0))))
           (.keep [0, 1, 5, 6, 7] (.seq (.block 1 (.seq (.seq (.draw [0, 1, 5, 6, 7, 26] [⟨some 17, none, .mv (.t 0), none⟩,
      ⟨some 18, none, .nilck (.t 17), none⟩,
      ⟨some 19, none, .fld 1 (.t 18), none⟩,
      ⟨some 20, none, .load none (.t 19), none⟩,
      ⟨some 21, none, .mv (.t 0), none⟩,
      ⟨some 22, none, .nilck (.t 21), none⟩,
      ⟨some 23, none, .fld 0 (.t 22), none⟩,
      ⟨some 24, none, .load none (.t 23), none⟩,
      ⟨some 25, none, .lens (.t 24), none⟩,
      ⟨some 26, none, .bin .geq (.t 20) (.t 25), none⟩])
               (.keep [0, 1, 5, 6, 7, 26] (.cond (.t 26)
                (.exit 0)
                (.skip))))
              (.keep [0, 1, 5, 6, 7] (.seq (.draw [0, 1, 5, 6, 7, 8] [⟨some 27, none, .mv (.t 0), none⟩,
      ⟨some 28, none, .nilck (.t 27), none⟩,
      ⟨some 29, none, .fld 0 (.t 28), none⟩,
      ⟨some 30, none, .load none (.t 29), none⟩,
      ⟨some 31, none, .mv (.t 0), none⟩,
      ⟨some 32, none, .nilck (.t 31), none⟩,
      ⟨some 33, none, .fld 1 (.t 32), none⟩,
      ⟨some 34, none, .load none (.t 33), none⟩,
      ⟨some 35, none, .idxs (.t 30) (.t 34), none⟩,
      ⟨some 36, none, .conv .i64 (.t 35), none⟩,
      ⟨some 8, none, .mv (.t 36), none⟩])
               (.keep [0, 1, 5, 6, 7, 8] (.seq (.ops [⟨some 37, none, .mv (.t 0), none⟩,
      ⟨some 38, none, .nilck (.t 37), none⟩,
      ⟨some 39, none, .fld 1 (.t 38), none⟩,
      ⟨some 40, none, .load none (.t 39), none⟩,
      ⟨some 41, none, .bin .add (.t 40) (.c (.int .i64 1)), none⟩,
      ⟨some 42, none, .nilck (.t 37), none⟩,
      ⟨some 43, none, .fld 1 (.t 42), none⟩,
      ⟨none, none, .store 1 (.t 43) (.t 41), none⟩])
                (.keep [0, 1, 5, 6, 7, 8] (.seq (.seq (.ops [⟨some 44, none, .mv (.t 7), none⟩,
      ⟨some 45, none, .bin .gtr (.t 44) (.c (.int .i64 0)), none⟩,
      ⟨some 46, none, .mv (.t 45), none⟩,
      ⟨some 47, (some (46, true)), .mv (.t 8), none⟩,
      ⟨some 48, (some (46, true)), .bin .eql (.t 47) (.c (.int .i64 0)), none⟩,
      ⟨some 49, none, .pick (.t 46) (.t 48) (.c (.bool false)), none⟩])
                  (.keep [0, 1, 5, 6, 7, 8, 49] (.cond (.t 49)
                   (.exit 0)
                   (.skip))))
                 (.keep [0, 1, 5, 6, 7, 8] (.seq (.ops [⟨some 50, none, .mv (.t 5), none⟩,
      ⟨some 51, none, .mv (.t 8), none⟩,
      ⟨some 52, none, .bin .rem (.t 51) (.c (.int .i64 128)), none⟩,
      ⟨some 53, none, .mv (.t 6), none⟩,
      ⟨some 54, none, .ex (.binw .mul) [(.t 52), (.t 53)], none⟩,
      ⟨some 55, none, .bin .add (.t 50) (.t 54), none⟩,
      ⟨some 5, none, .mv (.t 55), none⟩])
                  (.keep [0, 1, 5, 6, 7, 8] (.seq (.seq (.ops [⟨some 56, none, .mv (.t 8), none⟩,
      ⟨some 57, none, .bin .lss (.t 56) (.c (.int .i64 128)), none⟩])
                    (.keep [0, 1, 5, 6, 7, 57] (.cond (.t 57)
                     (.seq (.seq (.ops [⟨some 58, none, .mv (.t 5), none⟩,
      ⟨some 59, none, .mv (.t 1), none⟩,
      ⟨some 60, none, .bin .gtr (.t 58) (.t 59), none⟩,
      ⟨some 61, none, .mv (.t 60), none⟩,
      ⟨some 62, (some (61, false)), .mv (.t 5), none⟩,
      ⟨some 63, (some (61, false)), .bin .gtr (.t 62) (.c (.int .i64 4611686018427387904)), none⟩,
      ⟨some 64, none, .pick (.t 61) (.c (.bool true)) (.t 63), none⟩])
                       (.keep [0, 5, 64] (.cond (.t 64)
                        (.exit 0)
                        (.skip))))
                      (.keep [5] (.seq (.ops [⟨some 65, none, .mv (.t 5), none⟩,
      ⟨some 4, none, .mv (.t 65), none⟩])
                       (.ret))))
                     (.skip))))
                   (.keep [0, 1, 5, 6, 7] (.ops [⟨some 66, none, .mv (.t 6), none⟩,
      ⟨some 67, none, .ex (.binw .mul) [(.t 66), (.c (.int .i64 128))], none⟩,
      ⟨some 6, none, .mv (.t 67), none⟩]))))))))))))))
            (.keep [0, 1, 5, 6, 7] (.ops [⟨some 15, none, .mv (.t 7), none⟩,
      ⟨some 16, none, .bin .add (.t 15) (.c (.int .i64 1)), none⟩,
      ⟨some 7, none, .mv (.t 16), none⟩]))))

/-- (*attorney/attorneyref07.In).Num -/
def J_ref07_In_Num : AFn :=
  ⟨71, [.t 4], .seq (.ops [⟨some 4, none, .mv (.c (.int .i64 0)), none⟩])
   (.keep [0, 1] (.seq (.seq (.ops [⟨some 9, none, .mv (.t 0), none⟩,
      ⟨some 10, none, .nilck (.t 9), none⟩,
      ⟨some 11, none, .fld 2 (.t 10), none⟩,
      ⟨some 12, none, .load none (.t 11), none⟩])
     (.keep [0, 1, 12] (.cond (.t 12)
      (.seq (.ops [⟨some 4, none, .mv (.c (.int .i64 0)), none⟩])
       (.ret))
      (.skip))))
    (.keep [0, 1] (.seq (.ops [⟨some 5, none, .mv (.c (.int .i64 0)), none⟩])
     (.keep [0, 1, 5] (.seq (.ops [⟨some 6, none, .mv (.c (.int .i64 1)), none⟩])
      (.keep [0, 1, 5, 6] (.seq (.seq (.ops [⟨some 7, none, .mv (.c (.int .i64 0)), none⟩])
        (.keep [0, 1, 5, 6, 7] (.block 0 (.loop [0, 1, 5, 6, 7] (J_ref07_In_Num_j2)))))
       (J_ref07_In_Num_j1)))))))))⟩
theorem J_ref07_In_Num_ok : chkFn Try.prog 63 J_ref07_In_Num = true := by kernel_rfl

/- behind: Q -/
def J_ref07_In_Set_j1 : ACode :=
  .keep [0, 4] (.seq (.seq (.ops [⟨some 60, none, .mv (.t 0), none⟩,
      ⟨some 61, none, .nilck (.t 60), none⟩,
      ⟨some 62, none, .fld 2 (.t 61), none⟩,
      ⟨some 63, none, .load none (.t 62), none⟩,
      ⟨some 64, none, .mv (.t 63), none⟩,
      ⟨some 65, (some (64, false)), .mv (.t 4), none⟩,
      ⟨some 66, (some (64, false)), .call (.f 53) [(.t 65)], none⟩,
      ⟨some 67, (some (64, false)), .not (.t 66), none⟩,
      ⟨some 68, none, .pick (.t 64) (.c (.bool true)) (.t 67), none⟩])
          (.keep [0, 4, 68] (.cond (.t 68)
           (.seq (.ops [⟨some 69, none, .mv (.t 0), none⟩,
      ⟨some 70, none, .nilck (.t 69), none⟩,
      ⟨some 71, none, .fld 2 (.t 70), none⟩,
      ⟨none, none, .store 1 (.t 71) (.c (.bool true)), none⟩])
            (.keep [] (.seq (.ops [⟨some 2, none, .mv (.c (.lst .clip 0 [])), none⟩])
             (.ret))))
           (.skip))))
         (.keep [4] (.seq (.ops [⟨some 72, none, .mv (.t 4), none⟩,
      ⟨some 2, none, .mv (.t 72), none⟩])
          (.ret))))

/- behind: Q = kloop [0, 3, 4, 5] I n (kblock 0 (kseq P (J_ref07_In_Set_j1) Q)) -/
def J_ref07_In_Set_j2 : ACode :=
  .seq (.seq (.ops [⟨some 43, none, .mv (.t 5), none⟩,
      ⟨some 44, none, .mv (.t 3), none⟩,
      ⟨some 45, none, .bin .lss (.t 43) (.t 44), none⟩,
      ⟨some 46, none, .mv (.t 45), none⟩,
      ⟨some 47, (some (46, true)), .mv (.t 0), none⟩,
      ⟨some 48, (some (46, true)), .nilck (.t 47), none⟩,
      ⟨some 49, (some (46, true)), .fld 2 (.t 48), none⟩,
      ⟨some 50, (some (46, true)), .load none (.t 49), none⟩,
      ⟨some 51, (some (46, true)), .not (.t 50), none⟩,
      ⟨some 52, none, .pick (.t 46) (.t 51) (.c (.bool false)), none⟩])
             (.keep [0, 3, 4, 5, 52] (.cond (.t 52)
              (.skip)
              (.exit 0))))
            (.keep [0, 3, 4, 5] (.seq (.block 1 (.ops [⟨some 55, none, .mvo 4, none⟩,
      ⟨some 56, none, .mv (.t 0), none⟩,
      ⟨some 57, none, .call (.f 99) [(.t 56)], none⟩,
      ⟨some 58, none, .bsl 44 1 1 [(.str ⟨#[]⟩)] [(0, 1, (.t 57))], none⟩,
      ⟨some 59, none, .appo 44 1 16 55 (.t 58), none⟩,
      ⟨some 4, none, .mvo 59, none⟩]))
             (.keep [0, 3, 4, 5] (.ops [⟨some 53, none, .mv (.t 5), none⟩,
      ⟨some 54, none, .bin .add (.t 53) (.c (.int .i64 1)), none⟩,
      ⟨some 5, none, .mv (.t 54), none⟩]))))

/-- (*attorney/attorneyref07.In).Set -/
def J_ref07_In_Set : AFn :=
  ⟨73, [.t 2], .seq (.ops [⟨some 2, none, .mv (.c (.lst .clip 0 [])), none⟩])
   (.keep [0] (.seq (.seq (.draw [0, 21] [⟨some 6, none, .mv (.t 0), none⟩,
      ⟨some 7, none, .nilck (.t 6), none⟩,
      ⟨some 8, none, .fld 2 (.t 7), none⟩,
      ⟨some 9, none, .load none (.t 8), none⟩,
      ⟨some 10, none, .mv (.t 9), none⟩,
      ⟨some 11, (some (10, false)), .mv (.t 0), none⟩,
      ⟨some 12, (some (10, false)), .nilck (.t 11), none⟩,
      ⟨some 13, (some (10, false)), .fld 1 (.t 12), none⟩,
      ⟨some 14, (some (10, false)), .load none (.t 13), none⟩,
      ⟨some 15, (some (10, false)), .mv (.t 0), none⟩,
      ⟨some 16, (some (10, false)), .nilck (.t 15), none⟩,
      ⟨some 17, (some (10, false)), .fld 0 (.t 16), none⟩,
      ⟨some 18, (some (10, false)), .load none (.t 17), none⟩,
      ⟨some 19, (some (10, false)), .lens (.t 18), none⟩,
      ⟨some 20, (some (10, false)), .bin .geq (.t 14) (.t 19), none⟩,
      ⟨some 21, none, .pick (.t 10) (.c (.bool true)) (.t 20), none⟩])
     (.keep [0, 21] (.cond (.t 21)
      (.seq (.ops [⟨some 22, none, .mv (.t 0), none⟩,
      ⟨some 23, none, .nilck (.t 22), none⟩,
      ⟨some 24, none, .fld 2 (.t 23), none⟩,
      ⟨none, none, .store 1 (.t 24) (.c (.bool true)), none⟩])
       (.keep [] (.seq (.ops [⟨some 2, none, .mv (.c (.lst .clip 0 [])), none⟩])
        (.ret))))
      (.skip))))
    (.keep [0] (.seq (.draw [0, 3] [⟨some 25, none, .mv (.t 0), none⟩,
      ⟨some 26, none, .nilck (.t 25), none⟩,
      ⟨some 27, none, .fld 0 (.t 26), none⟩,
      ⟨some 28, none, .load none (.t 27), none⟩,
      ⟨some 29, none, .mv (.t 0), none⟩,
      ⟨some 30, none, .nilck (.t 29), none⟩,
      ⟨some 31, none, .fld 1 (.t 30), none⟩,
      ⟨some 32, none, .load none (.t 31), none⟩,
      ⟨some 33, none, .idxs (.t 28) (.t 32), none⟩,
      ⟨some 34, none, .conv .i64 (.t 33), none⟩,
      ⟨some 3, none, .mv (.t 34), none⟩])
     (.keep [0, 3] (.seq (.ops [⟨some 35, none, .mv (.t 0), none⟩,
      ⟨some 36, none, .nilck (.t 35), none⟩,
      ⟨some 37, none, .fld 1 (.t 36), none⟩,
      ⟨some 38, none, .load none (.t 37), none⟩,
      ⟨some 39, none, .bin .add (.t 38) (.c (.int .i64 1)), none⟩,
      ⟨some 40, none, .nilck (.t 35), none⟩,
      ⟨some 41, none, .fld 1 (.t 40), none⟩,
      ⟨none, none, .store 1 (.t 41) (.t 39), none⟩])
      (.keep [0, 3] (.seq (.ops [⟨some 42, none, .bsl 44 1 0 [] [], none⟩,
      ⟨some 4, none, .mvo 42, none⟩])
       (.keep [0, 3, 4] (.seq (.seq (.ops [⟨some 5, none, .mv (.c (.int .i64 0)), none⟩])
         (.keep [0, 3, 4, 5] (.block 0 (.loop [0, 3, 4, 5] (J_ref07_In_Set_j2)))))
        (J_ref07_In_Set_j1)))))))))))⟩
theorem J_ref07_In_Set_ok : chkFn Try.prog 64 J_ref07_In_Set = true := by kernel_rfl

/-- (*attorney/attorneyref07.In).Done -/
def J_ref07_In_Done : AFn :=
  ⟨22, [.t 2], .seq (.ops [⟨some 2, none, .mv (.c (.int .i64 0)), none⟩])
   (.keep [0] (.seq (.seq (.draw [0, 18] [⟨some 3, none, .mv (.t 0), none⟩,
      ⟨some 4, none, .nilck (.t 3), none⟩,
      ⟨some 5, none, .fld 2 (.t 4), none⟩,
      ⟨some 6, none, .load none (.t 5), none⟩,
      ⟨some 7, none, .mv (.t 6), none⟩,
      ⟨some 8, (some (7, false)), .mv (.t 0), none⟩,
      ⟨some 9, (some (7, false)), .nilck (.t 8), none⟩,
      ⟨some 10, (some (7, false)), .fld 1 (.t 9), none⟩,
      ⟨some 11, (some (7, false)), .load none (.t 10), none⟩,
      ⟨some 12, (some (7, false)), .mv (.t 0), none⟩,
      ⟨some 13, (some (7, false)), .nilck (.t 12), none⟩,
      ⟨some 14, (some (7, false)), .fld 0 (.t 13), none⟩,
      ⟨some 15, (some (7, false)), .load none (.t 14), none⟩,
      ⟨some 16, (some (7, false)), .lens (.t 15), none⟩,
      ⟨some 17, (some (7, false)), .bin .lss (.t 11) (.t 16), none⟩,
      ⟨some 18, none, .pick (.t 7) (.c (.bool true)) (.t 17), none⟩])
     (.keep [0, 18] (.cond (.t 18)
      (.seq (.ops [⟨some 19, none, .mv (.t 0), none⟩,
      ⟨some 20, none, .nilck (.t 19), none⟩,
      ⟨some 21, none, .fld 2 (.t 20), none⟩,
      ⟨none, none, .store 1 (.t 21) (.c (.bool true)), none⟩])
       (.keep [] (.seq (.ops [⟨some 2, none, .mv (.c (.int .i64 2)), none⟩])
        (.ret))))
      (.skip))))
    (.keep [] (.seq (.ops [⟨some 2, none, .mv (.c (.int .i64 0)), none⟩])
     (.ret)))))⟩
theorem J_ref07_In_Done_ok : chkFn Try.prog 65 J_ref07_In_Done = true := by kernel_rfl

/-- (*attorney/attorneyref07.In).Word -/
def J_ref07_In_Word : AFn :=
  ⟨99, [.t 2], .seq (.ops [⟨some 2, none, .mv (.c (.str ⟨#[]⟩)), none⟩])
   (.keep [0] (.seq (.seq (.draw [0, 20] [⟨some 5, none, .mv (.t 0), none⟩,
      ⟨some 6, none, .nilck (.t 5), none⟩,
      ⟨some 7, none, .fld 2 (.t 6), none⟩,
      ⟨some 8, none, .load none (.t 7), none⟩,
      ⟨some 9, none, .mv (.t 8), none⟩,
      ⟨some 10, (some (9, false)), .mv (.t 0), none⟩,
      ⟨some 11, (some (9, false)), .nilck (.t 10), none⟩,
      ⟨some 12, (some (9, false)), .fld 1 (.t 11), none⟩,
      ⟨some 13, (some (9, false)), .load none (.t 12), none⟩,
      ⟨some 14, (some (9, false)), .mv (.t 0), none⟩,
      ⟨some 15, (some (9, false)), .nilck (.t 14), none⟩,
      ⟨some 16, (some (9, false)), .fld 0 (.t 15), none⟩,
      ⟨some 17, (some (9, false)), .load none (.t 16), none⟩,
      ⟨some 18, (some (9, false)), .lens (.t 17), none⟩,
      ⟨some 19, (some (9, false)), .bin .geq (.t 13) (.t 18), none⟩,
      ⟨some 20, none, .pick (.t 9) (.c (.bool true)) (.t 19), none⟩])
     (.keep [0, 20] (.cond (.t 20)
      (.seq (.ops [⟨some 21, none, .mv (.t 0), none⟩,
      ⟨some 22, none, .nilck (.t 21), none⟩,
      ⟨some 23, none, .fld 2 (.t 22), none⟩,
      ⟨none, none, .store 1 (.t 23) (.c (.bool true)), none⟩])
       (.keep [] (.seq (.ops [⟨some 2, none, .mv (.c (.str ⟨#[]⟩)), none⟩])
        (.ret))))
      (.skip))))
    (.keep [0] (.seq (.draw [0, 3] [⟨some 24, none, .mv (.t 0), none⟩,
      ⟨some 25, none, .nilck (.t 24), none⟩,
      ⟨some 26, none, .fld 0 (.t 25), none⟩,
      ⟨some 27, none, .load none (.t 26), none⟩,
      ⟨some 28, none, .mv (.t 0), none⟩,
      ⟨some 29, none, .nilck (.t 28), none⟩,
      ⟨some 30, none, .fld 1 (.t 29), none⟩,
      ⟨some 31, none, .load none (.t 30), none⟩,
      ⟨some 32, none, .idxs (.t 27) (.t 31), none⟩,
      ⟨some 33, none, .conv .i64 (.t 32), none⟩,
      ⟨some 34, none, .bin .mul (.c (.int .i64 2)) (.t 33), none⟩,
      ⟨some 3, none, .mv (.t 34), none⟩])
     (.keep [0, 3] (.seq (.seq (.draw [0, 3, 68] [⟨some 35, none, .mv (.t 0), none⟩,
      ⟨some 36, none, .nilck (.t 35), none⟩,
      ⟨some 37, none, .fld 1 (.t 36), none⟩,
      ⟨some 38, none, .load none (.t 37), none⟩,
      ⟨some 39, none, .bin .add (.t 38) (.c (.int .i64 1)), none⟩,
      ⟨some 40, none, .mv (.t 3), none⟩,
      ⟨some 41, none, .bin .add (.t 39) (.t 40), none⟩,
      ⟨some 42, none, .mv (.t 0), none⟩,
      ⟨some 43, none, .nilck (.t 42), none⟩,
      ⟨some 44, none, .fld 0 (.t 43), none⟩,
      ⟨some 45, none, .load none (.t 44), none⟩,
      ⟨some 46, none, .lens (.t 45), none⟩,
      ⟨some 47, none, .bin .gtr (.t 41) (.t 46), none⟩,
      ⟨some 48, none, .mv (.t 47), none⟩,
      ⟨some 49, (some (48, false)), .mv (.t 0), none⟩,
      ⟨some 50, (some (48, false)), .nilck (.t 49), none⟩,
      ⟨some 51, (some (48, false)), .fld 0 (.t 50), none⟩,
      ⟨some 52, (some (48, false)), .load none (.t 51), none⟩,
      ⟨some 53, (some (48, false)), .mv (.t 0), none⟩,
      ⟨some 54, (some (48, false)), .nilck (.t 53), none⟩,
      ⟨some 55, (some (48, false)), .fld 1 (.t 54), none⟩,
      ⟨some 56, (some (48, false)), .load none (.t 55), none⟩,
      ⟨some 57, (some (48, false)), .bin .add (.t 56) (.c (.int .i64 1)), none⟩,
      ⟨some 58, (some (48, false)), .mv (.t 0), none⟩,
      ⟨some 59, (some (48, false)), .nilck (.t 58), none⟩,
      ⟨some 60, (some (48, false)), .fld 1 (.t 59), none⟩,
      ⟨some 61, (some (48, false)), .load none (.t 60), none⟩,
      ⟨some 62, (some (48, false)), .bin .add (.t 61) (.c (.int .i64 1)), none⟩,
      ⟨some 63, (some (48, false)), .mv (.t 3), none⟩,
      ⟨some 64, (some (48, false)), .bin .add (.t 62) (.t 63), none⟩,
      ⟨some 65, (some (48, false)), .slcs (.t 52) (some (.t 57)) (some (.t 64)), none⟩,
      ⟨some 66, (some (48, false)), .call (.f 89) [(.t 65)], none⟩,
      ⟨some 67, (some (48, false)), .not (.t 66), none⟩,
      ⟨some 68, none, .pick (.t 48) (.c (.bool true)) (.t 67), none⟩])
       (.keep [0, 3, 68] (.cond (.t 68)
        (.seq (.ops [⟨some 69, none, .mv (.t 0), none⟩,
      ⟨some 70, none, .nilck (.t 69), none⟩,
      ⟨some 71, none, .fld 2 (.t 70), none⟩,
      ⟨none, none, .store 1 (.t 71) (.c (.bool true)), none⟩])
         (.keep [] (.seq (.ops [⟨some 2, none, .mv (.c (.str ⟨#[]⟩)), none⟩])
          (.ret))))
        (.skip))))
      (.keep [0, 3] (.seq (.draw [0, 3, 4] [⟨some 72, none, .mv (.t 0), none⟩,
      ⟨some 73, none, .nilck (.t 72), none⟩,
      ⟨some 74, none, .fld 0 (.t 73), none⟩,
      ⟨some 75, none, .load none (.t 74), none⟩,
      ⟨some 76, none, .mv (.t 0), none⟩,
      ⟨some 77, none, .nilck (.t 76), none⟩,
      ⟨some 78, none, .fld 1 (.t 77), none⟩,
      ⟨some 79, none, .load none (.t 78), none⟩,
      ⟨some 80, none, .bin .add (.t 79) (.c (.int .i64 1)), none⟩,
      ⟨some 81, none, .mv (.t 0), none⟩,
      ⟨some 82, none, .nilck (.t 81), none⟩,
      ⟨some 83, none, .fld 1 (.t 82), none⟩,
      ⟨some 84, none, .load none (.t 83), none⟩,
      ⟨some 85, none, .bin .add (.t 84) (.c (.int .i64 1)), none⟩,
      ⟨some 86, none, .mv (.t 3), none⟩,
      ⟨some 87, none, .bin .add (.t 85) (.t 86), none⟩,
      ⟨some 88, none, .slcs (.t 75) (some (.t 80)) (some (.t 87)), none⟩,
      ⟨some 4, none, .mv (.t 88), none⟩])
       (.keep [0, 3, 4] (.seq (.ops [⟨some 89, none, .mv (.t 0), none⟩,
      ⟨some 90, none, .nilck (.t 89), none⟩,
      ⟨some 91, none, .fld 1 (.t 90), none⟩,
      ⟨some 92, none, .load none (.t 91), none⟩,
      ⟨some 93, none, .mv (.t 3), none⟩,
      ⟨some 94, none, .bin .add (.c (.int .i64 1)) (.t 93), none⟩,
      ⟨some 95, none, .bin .add (.t 92) (.t 94), none⟩,
      ⟨some 96, none, .nilck (.t 89), none⟩,
      ⟨some 97, none, .fld 1 (.t 96), none⟩,
      ⟨none, none, .store 1 (.t 97) (.t 95), none⟩])
        (.keep [4] (.seq (.ops [⟨some 98, none, .mv (.t 4), none⟩,
      ⟨some 2, none, .mv (.t 98), none⟩])
         (.ret)))))))))))))⟩
theorem J_ref07_In_Word_ok : chkFn Try.prog 99 J_ref07_In_Word = true := by kernel_rfl

end Go.Proofs.Ytcbcnbefaggnhaa
