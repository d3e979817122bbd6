/- Texts of one proof, laid together: Rb Rc Rd Re Rf Ax Rg Rh FnE Dd De Df Ri Dg An Rj Rk Pb Pc Sr Ss St Rl In Rm Rn Rp Rq FnR Pr Inr Rs Dh Al Da Db Rt Ru Rv Rw Rx Ry. -/
import Derived.Test.YtpiofcjkekpboaaMA10
import Derived.Test.YtpiofcjkekpboaaProg
import Derived.Test.YtpiofcjkekpboaaMA9
import Derived.Test.YtpiofcjkekpboaaMA7
set_option maxRecDepth 100000
set_option maxHeartbeats 16000000

set_option linter.unusedSimpArgs false
set_option linter.unusedVariables false
/- acl's lists over the abstract code. -/
namespace Go.Proofs.Ytpiofcjkekpboaa
open Go.RowKit Go.Lib

theorem trimA {h ex : Hp} {a : AV} (hf : free a = true) : ∃ h2 ex', h ++ ex = h2 ++ ex' ∧ h.length ≤ h2.length ∧ low h2.length a = true ∧ (∀ (j : Nat) s l, h2[j]? = some (some (s, l)) → (∃ s', h[j]? = some (some (s', l))) ∨ low.lows h2.length l = true) ∧ h = h2 :=
 ⟨h, ex, rfl, Nat.le_refl _, low_free hf, fun _ s _ hl => .inl ⟨s, hl⟩, rfl⟩
theorem trimS {h ex : Hp} {a : AV} {id : Nat} {s : Bool} {l : List AV} (hf : free a = true) (hl : free.frees l = true) : ∃ h2 ex', h.set id (some (s, l)) ++ ex = h2 ++ ex' ∧ h.length ≤ h2.length ∧ low h2.length a = true ∧ (∀ (j : Nat) s l, h2[j]? = some (some (s, l)) → (∃ s', h[j]? = some (some (s', l))) ∨ low.lows h2.length l = true) ∧ h2 = h.set id (some (s, l)) := by
 refine ⟨_, ex, rfl, by simp, low_free hf, fun j s' l' hj => ?_, rfl⟩
 rw [List.getElem?_set] at hj
 split at hj
 ·split at hj
  ·simp only [Option.some.injEq, Prod.mk.injEq] at hj
   obtain ⟨_, rfl⟩ := hj
   exact .inr (lows_free hl)
  ·cases hj
 ·exact .inl ⟨_, hj⟩
theorem a_find1 {h : Hp} {b : Nat} {s : Bool} (x y : Ent) (ho : h[b]? = some (some (s, eC x))) (hx : x.who.length ≤ 9223372036854775807) :
  ACalls Try.prog 114 [vE y, .ptr b 0] h (fun a h' => a = .bool (sameEnt x y) ∧ h = h') := by
 have ho' : (h ++ [some (false, eC y)])[b]? = some (some (s, eC x)) := hold _ ho
 have q := p_esame x y hx
 simp only [vE, eC] at q ho'
 refine ACalls.trim (acalls_of mixed J_acl_List_find_1_ok (Nat.le_of_ble_eq_true rfl) ?_); simp only [J_acl_List_find_1, vE, eC, ho', wk,Nat.reduceEqDiff,Nat.reduceAdd,Nat.reduceLeDiff,↓reduceIte]
 refine PCalls.use (q) ?_; simp only [wk,↓reduceIte]
 exact trimA rfl
def idxE (x : Ent) : List Ent → Int
 | [] => -1
 | y :: l => if sameEnt x y then 0 else if idxE x l < 0 then -1 else idxE x l + 1
def entsC (l : List Ent) : List AV := l.flatMap eC
theorem entsC_len (l : List Ent) : (entsC l).length = l.length * 2 := by
 induction l with
 | nil => rfl
 | cons x l ih => simp only [entsC, List.flatMap_cons, List.length_append, eC, List.length_cons, List.length_nil] at ih ⊢; omega
theorem entsC_drop : ∀ {l : List Ent} {i : Nat} (h : i < l.length), (entsC l).drop (i * 2) = .int .i64 l[i].op :: .lst .ro l[i].who.length (l[i].who.map .str) :: (entsC l).drop ((i + 1) * 2)
 | [], _, h => by simp at h
 | w :: l, 0, h => by simp [entsC, eC]
 | w :: l, i + 1, h => by
  have := entsC_drop (l := l) (i := i) (by simpa using h)
  simp only [entsC, List.flatMap_cons, eC, List.cons_append, List.nil_append] at this ⊢
  rw [show (i + 1) * 2 = i * 2 + 1 + 1 by omega, show (i + 1 + 1) * 2 = (i + 1) * 2 + 1 + 1 by omega]
  simp only [List.drop_succ_cons, List.getElem_cons_succ]
  exact this
theorem frees_entsC (l : List Ent) : free.frees (entsC l) = true := by
 induction l with
 | nil => rfl
 | cons x l ih => simp only [entsC, List.flatMap_cons, eC, List.cons_append, List.nil_append, free.frees, free, frees_str, Bool.true_and] at ih ⊢; exact ih
theorem idxE_none {x : Ent} : ∀ {l : List Ent}, (∀ y ∈ l, sameEnt x y = false) → idxE x l = -1
 | [], _ => rfl
 | y :: l, h => by
  have h1 := h y (by simp)
  have h2 := idxE_none (x := x) (l := l) (fun z hz => h z (by simp [hz]))
  simp [idxE, h1, h2]
theorem idxE_at {x : Ent} : ∀ {l : List Ent} {i : Nat} (h : i < l.length), (∀ y ∈ l.take i, sameEnt x y = false) → sameEnt x l[i] = true → idxE x l = i
 | [], _, h, _, _ => by simp at h
 | y :: l, 0, h, _, h2 => by
  simp only [List.getElem_cons_zero] at h2
  simp [idxE, h2]
 | y :: l, i + 1, h, h1, h2 => by
  have h3 := h1 y (by simp)
  have h4 := idxE_at (x := x) (l := l) (i := i) (by simpa using h) (fun z hz => h1 z (by simp [hz])) (by simpa using h2)
  simp only [idxE, h3, h4, Bool.false_eq_true, if_false]
  rw [if_neg (by omega)]
  omega
theorem a_idxf {h : Hp} {b : Nat} {s : Bool} (x : Ent) (l : List Ent) (ho : h[b]? = some (some (s, eC x))) (hx : x.who.length ≤ 9223372036854775807) (hl : l.length ≤ 1000000) :
  ACalls Try.prog 113 [.lst .ro l.length (entsC l), .fn 114 [.ptr b 0]] h (fun a h' => a = .int .i64 (idxE x l) ∧ h = h') := by
 refine acalls_of mixed J_slices_IndexFunc_api_Entry_api_Entry_ok (Nat.le_of_ble_eq_true rfl) ?_; simp only [J_slices_IndexFunc_api_Entry_api_Entry, wk,Nat.reduceEqDiff,Nat.reduceAdd,reduceCtorEq,↓reduceIte]
 refine W_loop (fun n fr h' => ∃ i : Nat, i ≤ l.length ∧ n = l.length - i ∧ h' = h ∧ fr = [(0, .lst .ro l.length (entsC l)), (1, .fn 114 [.ptr b 0]), (7, .int .i64 l.length), (8, .int .i64 i)] ∧ ∀ y ∈ l.take i, sameEnt x y = false) l.length ⟨0, by omega, by omega, rfl, rfl, by simp⟩ ?_
 rintro n fr h' ⟨i, hi, rfl, rfl, rfl, hall⟩
 simp only [J_slices_IndexFunc_api_Entry_api_Entry_j2, wk,Nat.reduceEqDiff,reduceCtorEq,↓reduceIte]
 refine ⟨fun hlt => ?_, fun hge => ?_⟩
 ·have hil : i < l.length := by omega
  have hd : (entsC l).drop ((i : Int).toNat * 2) = .int .i64 l[i].op :: .lst .ro l[i].who.length (l[i].who.map .str) :: (entsC l).drop ((i + 1) * 2) := by rw [show (i : Int).toNat = i by omega]; exact entsC_drop hil
  refine ⟨⟨by omega, by omega⟩, ?_⟩
  simp only [hd, wk,Nat.reduceLeDiff]
  have q := a_find1 x l[i] ho hx
  simp only [vE, eC] at q
  refine ACalls.use (q) ?_; rintro _ _ ⟨rfl, rfl⟩; simp only [wk,Nat.reduceEqDiff,reduceCtorEq,↓reduceIte]
  refine ⟨fun e => int_eq (idxE_at hil hall e).symm, fun e => ⟨inR_of (by omega) (by omega), l.length - (i + 1), by omega, i + 1, by omega, rfl, by simp, fun y hy => ?_⟩⟩
  rw [List.take_succ_eq_append_getElem hil] at hy
  rcases List.mem_append.1 hy with hy | hy
  ·exact hall y hy
  ·simp at hy; subst hy; exact e
 ·rw [List.take_of_length_le (by omega)] at hall
  simp only [J_slices_IndexFunc_api_Entry_api_Entry_j1, wk,Int.reduceNeg,↓reduceIte]
  rw [idxE_none hall]
theorem rdp_fn (f : FuncId) (l : List AV) : rdp (.fn f l) = .fn f (rdps l) := by simp only [rdp]
theorem rdps_ents : ∀ l : List Ent, rdps (entsC l) = entsC l
 | [] => rdps_nil
 | x :: l => by
  have := rdps_ents l
  simp only [entsC, List.flatMap_cons, eC, List.cons_append, List.nil_append, rdpw] at this ⊢
  rw [this]
abbrev lObj (f : Fl) (l : List Ent) (ver : Int) : Option (Bool × List AV) := some (false, [.lst f l.length (entsC l), .int .i64 ver])
def okF (f : Fl) : Prop := f = .clip ∨ f = .own 58
theorem a_find {h : Hp} {id : Nat} {f : Fl} {l : List Ent} {ver : Int} (x : Ent) (hf : okF f) (ho : h[id]? = some (lObj f l ver)) (hx : x.who.length ≤ 9223372036854775807) (hl : l.length ≤ 1000000) :
  ACalls Try.prog 95 [.ptr id 0, vE x] h (fun a h' => a = .int .i64 (idxE x l) ∧ h = h') := by
 have ho' : (h ++ [some (false, eC x)])[id]? = some (lObj f l ver) := hold _ ho
 have q := a_idxf (h := h ++ [some (false, eC x)]) (b := h.length) (s := false) x l (by simp) hx hl
 simp only [eC] at q ho'
 refine ACalls.trim (acalls_of mixed J_acl_List_find_ok (Nat.le_of_ble_eq_true rfl) ?_); simp only [J_acl_List_find, vE, eC, ho', wk,Nat.reduceEqDiff,Nat.reduceAdd,reduceCtorEq,↓reduceIte]
 rcases hf with rfl | rfl
 ·simp only [deg_clip]
  refine ACalls.use (ACalls.argd (args := [.lst .clip l.length (entsC l), .fn 114 [.ptr h.length 0]]) (by simp only [rdpw, rdps_ents, rdp_fn]; exact q)) ?_
  rintro _ _ ⟨rfl, rfl⟩
  simp only [wk,↓reduceIte]
  exact trimA rfl
 ·simp only [deg_own, wk]
  refine ACalls.use (q) ?_; rintro _ _ ⟨rfl, rfl⟩; simp only [wk,↓reduceIte]
  exact trimA rfl
def addE (l : List Ent) (x : Ent) : Int := if mayEnt x = true then (if 0 ≤ idxE x l then 11 else if 12 ≤ l.length then 3 else 0) else 2
theorem set_left {h : Hp} {id : Nat} {x : Option (Bool × List AV)} (b : Option (Bool × List AV)) (hi : id < h.length) : (h ++ [b]).set id x = h.set id x ++ [b] := List.set_append_left _ _ hi
theorem entsC_snoc (l : List Ent) (x : Ent) : entsC l ++ [.int .i64 x.op, .lst .ro x.who.length (x.who.map .str)] = entsC (l ++ [x]) := by simp [entsC, eC]
theorem trimB {h ex : Hp} {a : AV} {q : Prop} (hf : free a = true) (hq : q) : ∃ h2 ex', h ++ ex = h2 ++ ex' ∧ h.length ≤ h2.length ∧ low h2.length a = true ∧ (∀ (j : Nat) s l, h2[j]? = some (some (s, l)) → (∃ s', h[j]? = some (some (s', l))) ∨ low.lows h2.length l = true) ∧ q ∧ h = h2 :=
 ⟨h, ex, rfl, Nat.le_refl _, low_free hf, fun _ s _ hl => .inl ⟨s, hl⟩, hq, rfl⟩
theorem deg_okF {f : Fl} (hf : okF f) : ∃ f', (∀ n m, deg (.lst f n m) = .lst f' n m) ∧ ∀ n m, deg (.lst f' n m) = .lst f' n m := by
 rcases hf with rfl | rfl
 ·exact ⟨.clip, fun _ _ => rfl, fun _ _ => rfl⟩
 ·exact ⟨.ro, fun _ _ => rfl, fun _ _ => rfl⟩
theorem a_add_no {h : Hp} {id : Nat} {f : Fl} {l : List Ent} {ver : Int} (x : Ent) (hf : okF f) (ho : h[id]? = some (lObj f l ver)) (hx : smallE x) (hl : l.length ≤ 1000000) (he : addE l x ≠ 0) :
  ACalls Try.prog 53 [.ptr id 0, vE x] h (fun a h' => a = .int .i64 (addE l x) ∧ h = h') := by
 have ho' : (h ++ [some (false, eC x)])[id]? = some (lObj f l ver) := hold _ ho
 have q1 := p_emay x hx
 have q2 := a_find (h := h ++ [some (false, eC x)]) (id := id) x hf ho' (by have := hx.1; omega) hl
 simp only [vE, eC] at q1 q2 ho'
 obtain ⟨f', hdeg, hdeg'⟩ := deg_okF hf
 refine ACalls.trim (acalls_of mixed J_acl_List_Add_ok (Nat.le_of_ble_eq_true rfl) ?_); simp only [J_acl_List_Add, vE, eC, ho', hdeg, hdeg', wk,Nat.reduceEqDiff,Nat.reduceAdd,Nat.reduceLeDiff,reduceCtorEq,↓reduceIte]
 refine PCalls.use (q1) ?_; simp only [wk,Nat.reduceEqDiff,Nat.reduceAdd,Nat.reduceLeDiff,reduceCtorEq,↓reduceIte]
 refine ⟨fun m => trimB rfl (int_eq (by unfold addE; rw [if_neg (by simp [m])])), fun m => ?_⟩
 have e0 : addE l x = if 0 ≤ idxE x l then 11 else if 12 ≤ l.length then 3 else 0 := by unfold addE; rw [if_pos m]
 refine ACalls.use (q2) ?_; rintro _ _ ⟨rfl, rfl⟩; simp only [wk,Nat.reduceEqDiff,reduceCtorEq,↓reduceIte]
 refine ⟨fun i => trimB rfl (int_eq (by rw [e0, if_pos i])), fun i => ⟨fun n => trimB rfl (int_eq (by rw [e0, if_neg i, if_pos (by omega)])), fun n => ?_⟩⟩
 exact absurd (by rw [e0, if_neg i, if_neg (by omega)]) he
theorem a_add_ok {h : Hp} {id : Nat} {f : Fl} {l : List Ent} {ver : Int} (x : Ent) (hf : okF f) (ho : h[id]? = some (lObj f l ver)) (hx : smallE x) (hl : l.length ≤ 1000000) (hv : 0 ≤ ver ∧ ver ≤ 1000000000) (he : addE l x = 0) :
  ACalls Try.prog 53 [.ptr id 0, vE x] h (fun a h' => a = .int .i64 0 ∧ h' = h.set id (lObj (.own 58) (l ++ [x]) (ver + 1))) := by
 have hid : id < h.length := hlt_of ho
 have ho' : (h ++ [some (false, eC x)])[id]? = some (lObj f l ver) := hold _ ho
 have hs1 : ∀ y, ((h ++ [some (false, eC x)]).set id y)[id]? = some y := fun y => hset ho' y
 have q1 := p_emay x hx
 have q2 := a_find (h := h ++ [some (false, eC x)]) (id := id) x hf ho' (by have := hx.1; omega) hl
 have q3 := p_clone x hx
 have hlen := entsC_len l
 have m : mayEnt x = true := by
  unfold addE at he
  split at he
  ·next m => exact m
  ·cases he
 have i : ¬ 0 ≤ idxE x l := fun i => by unfold addE at he; rw [if_pos m, if_pos i] at he; cases he
 have n : ¬ 12 ≤ l.length := fun n => by unfold addE at he; rw [if_pos m, if_neg i, if_pos n] at he; cases he
 have htk : (entsC l).take (l.length * 2) = entsC l := by rw [← hlen, List.take_length]
 rw [m] at q1
 simp only [vE, eC] at q1 q2 q3 ho' hs1
 obtain ⟨f', hdeg, hdeg'⟩ := deg_okF hf
 refine ACalls.trim (acalls_of mixed J_acl_List_Add_ok (Nat.le_of_ble_eq_true rfl) ?_); simp only [J_acl_List_Add, vE, eC, ho', hdeg, hdeg', wk,Nat.reduceEqDiff,Nat.reduceAdd,Nat.reduceLeDiff,reduceCtorEq,↓reduceIte]
 refine PCalls.use (q1) ?_; simp only [wk,Nat.reduceEqDiff,Nat.reduceAdd,Nat.reduceLeDiff,reduceCtorEq,↓reduceIte]
 refine ACalls.use (q2) ?_; rintro _ _ ⟨rfl, rfl⟩; simp only [wk,Nat.reduceEqDiff,reduceCtorEq,↓reduceIte]
 refine ⟨fun i' => absurd i' i, fun _ => ⟨fun n' => absurd (by omega) n, fun _ => ?_⟩⟩
 simp only [ho', hdeg, hdeg', wk,Nat.reduceEqDiff,Nat.reduceAdd,Nat.reduceMul,Nat.reduceLeDiff,Nat.reduceLT,Int.reduceLE,reduceCtorEq,↓reduceIte]
 refine ⟨⟨by omega, by omega, hlen⟩, _, q3, ?_⟩
 simp only [Int.toNat_natCast, Nat.sub_zero, htk, hs1, wk,Nat.reduceEqDiff,Nat.reduceAdd,Nat.reduceLeDiff,↓reduceIte]
 rw [entsC_snoc]
 refine ⟨⟨hlen, by omega, by omega⟩, inR_of (by omega) (by omega), ?_⟩
 rw [set_left _ hid]
 have hn : l.length + 1 = (l ++ [x]).length := by simp
 rw [hn]
 exact trimS rfl (by simp [free.frees, free, frees_entsC])
def newE : List Ent → List Ent → Int
 | _, [] => 0
 | acc, x :: r => if addE acc x = 0 then newE (acc ++ [x]) r else addE acc x
theorem mid_get (h ex : Hp) (o : Option (Bool × List AV)) : (h ++ o :: ex)[h.length]? = some o := by simp
theorem mid_set (h ex : Hp) (o o' : Option (Bool × List AV)) : (h ++ o :: ex).set h.length o' = h ++ o' :: ex := by simp
theorem mid_app (h ex : Hp) (o y : Option (Bool × List AV)) : (h ++ o :: ex) ++ [y] = h ++ o :: (ex ++ [y]) := by simp
theorem trimN {h ex : Hp} {a : AV} {s : Bool} {l : List AV} {q : Prop} (hf : low (h.length + 1) a = true) (hl : free.frees l = true) (hq : q) : ∃ h2 ex', h ++ some (s, l) :: ex = h2 ++ ex' ∧ h.length ≤ h2.length ∧ low h2.length a = true ∧ (∀ (j : Nat) s l, h2[j]? = some (some (s, l)) → (∃ s', h[j]? = some (some (s', l))) ∨ low.lows h2.length l = true) ∧ q ∧ h2 = h ++ [some (s, l)] := by
 refine ⟨h ++ [some (s, l)], ex, by simp, by simp, by simpa using hf, fun j s' l' hj => ?_, hq, rfl⟩
 by_cases hj' : j < h.length
 ·rw [List.getElem?_append_left hj'] at hj; exact .inl ⟨_, hj⟩
 ·rw [List.getElem?_append_right (by omega)] at hj
  have hj0 : j - h.length = 0 := by
   rcases Nat.eq_zero_or_pos (j - h.length) with h0 | h0
   ·exact h0
   ·rw [List.getElem?_eq_none (by simp; omega)] at hj; cases hj
  rw [hj0] at hj
  simp only [List.getElem?_cons_zero, Option.some.injEq, Prod.mk.injEq] at hj
  obtain ⟨_, rfl⟩ := hj
  exact .inr (lows_free hl)
theorem newE_at {l : List Ent} {i : Nat} (hi : i < l.length) : newE (l.take i) (l.drop i) = if addE (l.take i) l[i] = 0 then newE (l.take (i + 1)) (l.drop (i + 1)) else addE (l.take i) l[i] := by
 rw [List.drop_eq_getElem_cons hi, newE, List.take_succ_eq_append_getElem hi]
def NewPost (h : Hp) (l : List Ent) (a : AV) (h' : Hp) : Prop :=
 if newE [] l = 0 then ∃ f, okF f ∧ a = .tup [.ptr h.length 0, .int .i64 0] ∧ h' = h ++ [lObj f l 0] else a = .tup [.nilp, .int .i64 (newE [] l)] ∧ h = h'
theorem a_new {h : Hp} (l : List Ent) (hl : l.length ≤ 1000000) (hs : ∀ x ∈ l, smallE x) : ACalls Try.prog 60 [.lst .ro l.length (entsC l)] h (NewPost h l) := by
 refine ACalls.trim (acalls_of mixed J_acl_New_ok (Nat.le_of_ble_eq_true rfl) ?_); simp only [J_acl_New, wk,Nat.reduceEqDiff,reduceCtorEq,↓reduceIte]
 refine W_loop (fun n fr h' => ∃ (i : Nat) (f : Fl) (ex : Hp), i ≤ l.length ∧ n = l.length - i ∧ okF f ∧ h' = h ++ lObj f (l.take i) i :: ex ∧ newE [] l = newE (l.take i) (l.drop i) ∧ fr = [(4, .ptr h.length 0), (10, .lst .ro l.length (entsC l)), (11, .int .i64 l.length), (12, .int .i64 i)]) l.length ⟨0, .clip, [], by omega, by omega, .inl rfl, rfl, rfl, rfl⟩ ?_
 rintro n fr h' ⟨i, f, ex, hi, rfl, hf, rfl, hnew, rfl⟩
 simp only [J_acl_New_j2, wk,Nat.reduceEqDiff,Nat.reduceAdd,Nat.reduceLeDiff,↓reduceIte]
 refine ⟨fun hlt => ?_, fun hge => ?_⟩
 ·have hil : i < l.length := by omega
  have hd : (entsC l).drop ((i : Int).toNat * 2) = .int .i64 l[i].op :: .lst .ro l[i].who.length (l[i].who.map .str) :: (entsC l).drop ((i + 1) * 2) := by rw [show (i : Int).toNat = i by omega]; exact entsC_drop hil
  rw [newE_at hil] at hnew
  have hxs := hs _ (List.getElem_mem hil)
  refine ⟨⟨by omega, by omega⟩, ?_⟩
  simp only [hd, wk,Nat.reduceAdd,Nat.reduceLeDiff]
  rw [mid_app]
  have htl : (l.take i).length = i := by simp; omega
  by_cases he : addE (l.take i) l[i] = 0
  ·have q := a_add_ok (h := h ++ lObj f (l.take i) i :: (ex ++ [some (true, eC l[i])])) (id := h.length) l[i] hf (mid_get _ _ _) hxs (by omega) (by omega) he
   rw [if_pos he] at hnew
   rw [mid_set] at q
   simp only [vE, eC] at q
   refine ACalls.use (q) ?_; rintro _ _ ⟨rfl, rfl⟩; simp only [wk,ne_eq,eq_self,Nat.reduceEqDiff,↓reduceIte]
   refine ⟨inR_of (by omega) (by omega), l.length - (i + 1), by omega, i + 1, .own 58, ex ++ [some (true, eC l[i])], by omega, rfl, .inr rfl, ?_, hnew, by simp⟩
   rw [List.take_succ_eq_append_getElem hil]
   simp [eC]
  ·have q := a_add_no (h := h ++ lObj f (l.take i) i :: (ex ++ [some (true, eC l[i])])) (id := h.length) l[i] hf (mid_get _ _ _) hxs (by omega) he
   rw [if_neg he] at hnew
   simp only [vE, eC] at q
   refine ACalls.use (q) ?_; rintro _ _ ⟨rfl, rfl⟩; simp only [wk,ne_eq,eq_self,Nat.reduceEqDiff,↓reduceIte]
   refine ⟨fun _ => ⟨h, _, rfl, Nat.le_refl _, by simp [low, low.lows], fun _ s _ hl => .inl ⟨s, hl⟩, ?_⟩, fun e => absurd e he⟩
   unfold NewPost
   rw [hnew, if_neg he]
   exact ⟨rfl, rfl⟩
 ·rw [List.take_of_length_le (by omega), List.drop_of_length_le (by omega)] at hnew
  simp only [newE] at hnew
  rw [List.take_of_length_le (by omega)]
  simp only [J_acl_New_j1, mid_get, mid_set, wk,Nat.reduceEqDiff,Nat.reduceAdd,Nat.reduceLeDiff,↓reduceIte]
  obtain ⟨h2, ex', k1, k2, k3, k4, k5, k6⟩ := trimN (h := h) (ex := ex) (a := .tup [.ptr h.length 0, .int .i64 0]) (s := false) (l := [.lst f l.length (entsC l), .int .i64 0]) (q := True) (by simp [low, low.lows]) (by simp [free.frees, free, frees_entsC]) trivial
  refine ⟨h2, ex', k1, k2, k3, k4, ?_⟩
  unfold NewPost
  rw [if_pos hnew]
  exact ⟨f, hf, rfl, k6⟩
theorem entsC_app (a b : List Ent) : entsC (a ++ b) = entsC a ++ entsC b := by simp [entsC]
theorem entsC_take (l : List Ent) (i : Nat) (hi : i ≤ l.length) : (entsC l).take (i * 2) = entsC (l.take i) := by
 have h1 : entsC l = entsC (l.take i) ++ entsC (l.drop i) := by rw [← entsC_app, List.take_append_drop]
 have h2 : (entsC (l.take i)).length = i * 2 := by rw [entsC_len]; simp; omega
 rw [h1, ← h2, List.take_left]
theorem entsC_dropn (l : List Ent) (i : Nat) (hi : i ≤ l.length) : (entsC l).drop (i * 2) = entsC (l.drop i) := by
 have h1 : entsC l = entsC (l.take i) ++ entsC (l.drop i) := by rw [← entsC_app, List.take_append_drop]
 have h2 : (entsC (l.take i)).length = i * 2 := by rw [entsC_len]; simp; omega
 rw [h1, ← h2, List.drop_left]
def without (l : List Ent) (i : Nat) : List Ent := l.take i ++ l.drop (i + 1)
def remE (l : List Ent) (x : Ent) : Int := if mayEnt x = true then (if idxE x l < 0 then 10 else 0) else 2
theorem idxE_lt (x : Ent) : ∀ l : List Ent, -1 ≤ idxE x l ∧ idxE x l < l.length
 | [] => by simp [idxE]
 | y :: l => by
  have := idxE_lt x l
  simp only [idxE, List.length_cons]
  split
  ·omega
  ·split <;> omega
theorem a_rem_no {h : Hp} {id : Nat} {f : Fl} {l : List Ent} {ver : Int} (x : Ent) (hf : okF f) (ho : h[id]? = some (lObj f l ver)) (hx : smallE x) (hl : l.length ≤ 1000000) (he : remE l x ≠ 0) :
  ACalls Try.prog 54 [.ptr id 0, vE x] h (fun a h' => a = .int .i64 (remE l x) ∧ h = h') := by
 have ho' : (h ++ [some (false, eC x)])[id]? = some (lObj f l ver) := hold _ ho
 have q1 := p_emay x hx
 have q2 := a_find (h := h ++ [some (false, eC x)]) (id := id) x hf ho' (by have := hx.1; omega) hl
 simp only [vE, eC] at q1 q2 ho'
 obtain ⟨f', hdeg, hdeg'⟩ := deg_okF hf
 refine ACalls.trim (acalls_of mixed J_acl_List_Remove_ok (Nat.le_of_ble_eq_true rfl) ?_); simp only [J_acl_List_Remove, vE, eC, wk,Nat.reduceAdd,Nat.reduceLeDiff,reduceCtorEq,↓reduceIte]
 refine PCalls.use (q1) ?_; simp only [wk,Nat.reduceEqDiff,Nat.reduceAdd,Nat.reduceLeDiff,reduceCtorEq,↓reduceIte]
 refine ⟨fun m => trimB rfl (int_eq (by unfold remE; rw [if_neg (by simp [m])])), fun m => ?_⟩
 have e0 : remE l x = if idxE x l < 0 then 10 else 0 := by unfold remE; rw [if_pos m]
 refine ACalls.use (q2) ?_; rintro _ _ ⟨rfl, rfl⟩; simp only [wk,Nat.reduceEqDiff,reduceCtorEq,↓reduceIte]
 refine ⟨fun i => trimB rfl (int_eq (by rw [e0, if_pos i])), fun i => ?_⟩
 exact absurd (by rw [e0, if_neg i]) he
theorem a_rem_ok {h : Hp} {id : Nat} {f : Fl} {l : List Ent} {ver : Int} (x : Ent) (hf : okF f) (ho : h[id]? = some (lObj f l ver)) (hx : smallE x) (hl : l.length ≤ 1000000) (hv : 0 ≤ ver ∧ ver ≤ 1000000000) (he : remE l x = 0) :
  ACalls Try.prog 54 [.ptr id 0, vE x] h (fun a h' => a = .int .i64 0 ∧ h' = h.set id (lObj (.own 58) (without l (idxE x l).toNat) (ver + 1))) := by
 have hid : id < h.length := hlt_of ho
 have ho' : (h ++ [some (false, eC x)])[id]? = some (lObj f l ver) := hold _ ho
 have hs1 : ∀ y, ((h ++ [some (false, eC x)]).set id y)[id]? = some y := fun y => hset ho' y
 have q1 := p_emay x hx
 have q2 := a_find (h := h ++ [some (false, eC x)]) (id := id) x hf ho' (by have := hx.1; omega) hl
 have hlen := entsC_len l
 have m : mayEnt x = true := by
  unfold remE at he
  split at he
  ·next m => exact m
  ·cases he
 have i : ¬ idxE x l < 0 := fun i => by unfold remE at he; rw [if_pos m, if_pos i] at he; cases he
 have hlt := idxE_lt x l
 obtain ⟨k, hk⟩ : ∃ k : Nat, idxE x l = k := ⟨(idxE x l).toNat, by omega⟩
 rw [m] at q1
 rw [hk] at q2 ⊢
 simp only [vE, eC] at q1 q2 ho' hs1
 obtain ⟨f', hdeg, hdeg'⟩ := deg_okF hf
 refine ACalls.trim (acalls_of mixed J_acl_List_Remove_ok (Nat.le_of_ble_eq_true rfl) ?_); simp only [J_acl_List_Remove, vE, eC, wk,Nat.reduceAdd,Nat.reduceLeDiff,reduceCtorEq,↓reduceIte]
 refine PCalls.use (q1) ?_; simp only [wk,Nat.reduceEqDiff,Nat.reduceAdd,Nat.reduceLeDiff,reduceCtorEq,↓reduceIte]
 refine ACalls.use (q2) ?_; rintro _ _ ⟨rfl, rfl⟩; simp only [wk,Nat.reduceEqDiff,reduceCtorEq,↓reduceIte]
 refine ⟨fun i' => by omega, fun _ => ?_⟩
 simp only [ho', hdeg, hdeg', wk,Nat.reduceEqDiff,Nat.reduceAdd,Nat.reduceLT,Int.reduceLE,reduceCtorEq,↓reduceIte]
 have t3 : ((k : Int) + 1).toNat = k + 1 := by omega
 have t4 : (entsC (l.drop (k + 1))).take ((l.length - (k + 1)) * 2) = entsC (l.drop (k + 1)) := List.take_of_length_le (by rw [entsC_len]; simp)
 simp only [Int.toNat_natCast, Nat.sub_zero, t3, entsC_take l k (by omega), entsC_dropn l (k + 1) (by omega), t4, hs1, wk,Nat.reduceEqDiff,Nat.reduceAdd,Nat.reduceLeDiff,↓reduceIte]
 refine ⟨⟨by omega, by omega, hlen⟩, inR_of (by omega) (by omega), ⟨by omega, by omega, by omega, hlen⟩, ⟨by rw [entsC_len]; simp; omega, by rw [entsC_len]; simp, by omega, by omega⟩, inR_of (by omega) (by omega), ?_⟩
 rw [set_left _ hid]
 have hn : k + (l.length - (k + 1)) = (without l k).length := by simp [without]; omega
 have hw : entsC (l.take k) ++ entsC (l.drop (k + 1)) = entsC (without l k) := by rw [← entsC_app]; rfl
 rw [hn, hw]
 exact trimS rfl (by simp [free.frees, free, frees_entsC])
theorem entsC_succ {l : List Ent} {i : Nat} (hil : i < l.length) : entsC (l.take i) ++ [.int .i64 l[i].op, .lst .ro l[i].who.length (l[i].who.map .str)] = entsC (l.take (i + 1)) := by
 rw [List.take_succ_eq_append_getElem hil, entsC_app]
 simp [entsC, eC]
theorem a_all {h : Hp} {id : Nat} {f : Fl} {l : List Ent} {ver : Int} (hf : okF f) (ho : h[id]? = some (lObj f l ver)) (hl : l.length ≤ 1000000) (hs : ∀ x ∈ l, smallE x) :
  ACalls Try.prog 93 [.ptr id 0] h (fun a h' => a = .lst .ro l.length (entsC l) ∧ h = h') := by
 obtain ⟨f', hdeg, hdeg'⟩ := deg_okF hf
 refine ACalls.trim (acalls_of mixed J_acl_List_All_ok (Nat.le_of_ble_eq_true rfl) ?_); simp only [J_acl_List_All, ho, hdeg, hdeg', wk,Nat.reduceEqDiff,reduceCtorEq,↓reduceIte]
 refine W_loop (fun n fr h' => ∃ (i : Nat) (ex : Hp), i ≤ l.length ∧ n = l.length - i ∧ h' = h ++ ex ∧ fr = [(3, .lst (.own 58) i (entsC (l.take i))), (9, .lst f' l.length (entsC l)), (10, .int .i64 l.length), (11, .int .i64 i)]) l.length ⟨0, [], by omega, by omega, by simp, rfl⟩ ?_
 rintro n fr h' ⟨i, ex, hi, rfl, rfl, rfl⟩
 simp only [J_acl_List_All_j2, wk,Nat.reduceEqDiff,Nat.reduceAdd,Nat.reduceLeDiff,↓reduceIte]
 refine ⟨fun hlt => ?_, fun hge => ?_⟩
 ·have hil : i < l.length := by omega
  have hd : (entsC l).drop ((i : Int).toNat * 2) = .int .i64 l[i].op :: .lst .ro l[i].who.length (l[i].who.map .str) :: (entsC l).drop ((i + 1) * 2) := by rw [show (i : Int).toNat = i by omega]; exact entsC_drop hil
  have q := p_clone l[i] (hs _ (List.getElem_mem hil))
  simp only [vE, eC] at q
  simp only [hdeg', hd, wk,Nat.reduceAdd,Nat.reduceLeDiff]
  refine ⟨⟨by omega, by omega⟩, ?_⟩
  refine PCalls.use (q) ?_; simp only [wk,Nat.reduceEqDiff,Nat.reduceAdd,Nat.reduceMul,Nat.reduceLeDiff,↓reduceIte]
  refine ⟨⟨by omega, by omega⟩, inR_of (by omega) (by omega), l.length - (i + 1), by omega, i + 1, _, by omega, rfl, List.append_assoc _ _ _, ?_⟩
  rw [entsC_succ hil]
  simp
 ·have : i = l.length := by omega
  subst this
  rw [List.take_length]
  simp only [J_acl_List_All_j1, wk,↓reduceIte]
  exact trimA (by simp [free, frees_entsC])
def zE : Nat → List AV
 | 0 => []
 | n + 1 => .int .i64 0 :: .lst .clip 0 [] :: zE n
theorem zE_eq (n : Nat) : ((List.range (n * 2)).map fun i => [AV.int .i64 0, .lst .clip 0 []].getD (i % 2) .nilp) = zE n := by
 induction n with
 | zero => rfl
 | succ n ih =>
  have h1 : ∀ m k : Nat, ((List.range' k (m * 2)).map fun i => [AV.int .i64 0, .lst .clip 0 []].getD (i % 2) .nilp) = if k % 2 = 0 then zE m else ((List.range' k (m * 2)).map fun i => [AV.int .i64 0, .lst .clip 0 []].getD (i % 2) .nilp) := by
   intro m
   induction m with
   | zero => intro k; simp [zE]
   | succ m ihm =>
    intro k
    split
    ·next hk =>
     rw [show (m + 1) * 2 = m * 2 + 1 + 1 by omega, List.range'_succ, List.range'_succ]
     simp only [List.map_cons]
     have h2 := ihm (k + 1 + 1)
     rw [if_pos (by omega)] at h2
     rw [h2, show k % 2 = 0 from hk, show (k + 1) % 2 = 1 by omega]
     rfl
    ·rfl
  have := h1 (n + 1) 0
  rw [if_pos rfl, ← List.range_eq_range'] at this
  exact this
theorem set_two {A B : List AV} {n : Nat} (hn : A.length = n) (a b x y : AV) : ((A ++ a :: b :: B).set n x).set (n + 1) y = A ++ x :: y :: B := by
 subst hn
 rw [List.set_append_right _ _ (Nat.le_refl _), List.set_append_right _ _ (by omega)]
 simp
theorem zE_len (n : Nat) : (zE n).length = n * 2 := by
 induction n with
 | zero => rfl
 | succ n ih => simp only [zE, List.length_cons, ih]; omega
theorem degs_ents (l : List Ent) : (entsC l).map deg = entsC l := by
 induction l with
 | nil => rfl
 | cons x l ih =>
  simp only [entsC, List.flatMap_cons, eC, List.cons_append, List.nil_append, List.map_cons] at ih ⊢
  rw [ih]
  rfl
theorem splice_two (A B : List AV) (a b x y : AV) : splice (A ++ a :: b :: B) A.length [x, y] = A ++ x :: y :: B := by
 simp only [splice]
 rw [List.set_append_right _ _ (Nat.le_refl _), List.set_append_right _ _ (by omega)]
 simp
theorem p_entries (l : List Ent) (hl : l.length ≤ 1000000) (hs : ∀ x ∈ l, smallE x) : PCalls Try.prog 92 [.lst .ro l.length (entsC l)] (.lst .ro l.length (entsC l)) := by
 refine pcalls_fz (by simp [free.frees, free, frees_entsC]) (by simp [free, frees_entsC]) (acalls_of mixed J_record_entries_ok (Nat.le_of_ble_eq_true rfl) ?_); simp only [J_record_entries, wk,Nat.reduceEqDiff,reduceCtorEq,↓reduceIte]
 refine ⟨⟨by omega, by omega, by omega⟩, ?_⟩
 refine W_loop (fun n fr h' => ∃ (i : Nat) (ex : Hp), i ≤ l.length ∧ n = l.length - i ∧ h' = some (false, entsC (l.take i) ++ zE (l.length - i)) :: ex ∧ fr = [(3, .hs 0 l.length), (9, .lst .ro l.length (entsC l)), (10, .int .i64 l.length), (11, .int .i64 i)]) l.length ⟨0, [], by omega, by omega, ?_, rfl⟩ ?_
 ·rw [← zE_eq]; simp [entsC]
 rintro n fr h' ⟨i, ex, hi, rfl, rfl, rfl⟩
 simp only [J_record_entries_j2, wk,Nat.reduceEqDiff,Nat.reduceAdd,Nat.reduceLeDiff,↓reduceIte]
 refine ⟨fun hlt => ?_, fun hge => ?_⟩
 ·have hil : i < l.length := by omega
  have hd : (entsC l).drop ((i : Int).toNat * 2) = .int .i64 l[i].op :: .lst .ro l[i].who.length (l[i].who.map .str) :: (entsC l).drop ((i + 1) * 2) := by rw [show (i : Int).toNat = i by omega]; exact entsC_drop hil
  have hsz := (hs _ (List.getElem_mem hil)).1
  refine ⟨⟨by omega, by omega⟩, ?_⟩
  simp only [hd, wk,Nat.reduceEqDiff,Nat.reduceAdd,Nat.reduceLeDiff,↓reduceIte]
  have hA : (entsC (l.take i)).length = i * 2 := by rw [entsC_len]; simp; omega
  have hz : zE (l.length - i) = .int .i64 0 :: .lst .clip 0 [] :: zE (l.length - (i + 1)) := by rw [show l.length - i = (l.length - (i + 1)) + 1 by omega]; rfl
  refine ⟨⟨by simp, by omega, by omega⟩, ⟨by omega, by omega⟩, by rw [List.length_append, hA, zE_len]; omega, inR_of (by omega) (by omega), l.length - (i + 1), by omega, i + 1, ex ++ [some (true, [.int .i64 l[i].op, .lst .ro l[i].who.length (l[i].who.map .str)])], by omega, rfl, ?_, by simp⟩
  rw [show (i : Int).toNat = i by omega, hz, set_two hA, ← entsC_succ hil, List.append_assoc]
  rfl
 ·have : i = l.length := by omega
  subst this
  simp only [J_record_entries_j1, wk,↓reduceIte]
  rw [fz_hs (s := false) (l := entsC l) (by rw [List.take_length, Nat.sub_self]; simp [zE]), degs_ents]
structure Obt where
  value : Int
  ents : List Ent
  version : Int
structure Rcd where
  boot : Int
  objs : List Obt
structure Rqs where
  object : Int
  op : Int
  arg : Int
  ent : Ent
def oC (o : Obt) : List AV := [.int .i64 o.value, .lst .ro o.ents.length (entsC o.ents), .int .i64 o.version]
def objsC (l : List Obt) : List AV := l.flatMap oC
def rC (r : Rcd) : List AV := [.int .i64 r.boot, .lst .ro r.objs.length (objsC r.objs)]
def vR (r : Rcd) : AV := .agg (rC r)
def qC (q : Rqs) : List AV := [.int .i64 q.object, .int .i64 q.op, .int .i64 q.arg, .int .i64 q.ent.op, .lst .ro q.ent.who.length (q.ent.who.map .str)]
def vQ (q : Rqs) : AV := .agg (qC q)
def smallO (o : Obt) : Prop := o.ents.length ≤ 1000 ∧ ∀ x ∈ o.ents, smallE x
def smallR (r : Rcd) : Prop := r.objs.length ≤ 1000 ∧ ∀ o ∈ r.objs, smallO o
theorem frees_objsC (l : List Obt) : free.frees (objsC l) = true := by
 induction l with
 | nil => rfl
 | cons x l ih => simp only [objsC, List.flatMap_cons, oC, List.cons_append, List.nil_append, free.frees, free, frees_entsC, Bool.true_and] at ih ⊢; exact ih
theorem free_vR (r : Rcd) : free (vR r) = true := by simp [vR, rC, free, free.frees, frees_objsC]
theorem free_vQ (q : Rqs) : free (vQ q) = true := by simp [vQ, qC, free, free.frees, frees_str]
theorem objsC_len (l : List Obt) : (objsC l).length = l.length * 3 := by
 induction l with
 | nil => rfl
 | cons x l ih => simp only [objsC, List.flatMap_cons, List.length_append, oC, List.length_cons, List.length_nil] at ih ⊢; omega
theorem objsC_drop : ∀ {l : List Obt} {i : Nat} (h : i < l.length), (objsC l).drop (i * 3) = .int .i64 l[i].value :: .lst .ro l[i].ents.length (entsC l[i].ents) :: .int .i64 l[i].version :: (objsC l).drop ((i + 1) * 3)
 | [], _, h => by simp at h
 | w :: l, 0, h => by simp [objsC, oC]
 | w :: l, i + 1, h => by
  have := objsC_drop (l := l) (i := i) (by simpa using h)
  simp only [objsC, List.flatMap_cons, oC, List.cons_append, List.nil_append] at this ⊢
  rw [show (i + 1) * 3 = i * 3 + 1 + 1 + 1 by omega, show (i + 1 + 1) * 3 = (i + 1) * 3 + 1 + 1 + 1 by omega]
  simp only [List.drop_succ_cons, List.getElem_cons_succ]
  exact this
def mayO (o : Obt) : Bool := numOk o.value && (numOk o.version && decide (newE [] o.ents = 0))
def mayR (r : Rcd) : Bool := decide (0 ≤ r.boot ∧ r.boot ≤ 40) && (decide (r.objs.length ≤ 4) && r.objs.all mayO)
theorem mayR_no {r : Rcd} {o : Obt} (ho : o ∈ r.objs) (h : mayO o = false) : mayR r = false := by
 simp only [mayR, Bool.and_eq_false_iff]
 right; right
 rw [List.all_eq_false]
 exact ⟨o, ho, by simp [h]⟩
theorem p_rmay1 (r : Rcd) (h : smallR r) : PCalls Try.prog 20 [vR r] (.bool (mayR r)) := by
 refine pcalls_of (by simp [free.frees, free_vR]) rfl (acalls_of mixed J_record_May_ok (Nat.le_of_ble_eq_true rfl) ?_); simp only [J_record_May, vR, rC, wk,Nat.reduceEqDiff,↓reduceIte]
 have no : mayR r = false → AV.bool false = .bool (mayR r) := fun e => by rw [e]
 refine ⟨fun h1 => ⟨fun h2 => ⟨fun h3 => no (by simp [mayR]; omega), fun h3 => ?_⟩, fun h2 => no (by simp [mayR]; omega)⟩, fun h1 => no (by simp [mayR]; omega)⟩
 refine W_loop (fun n fr h' => ∃ i : Nat, i ≤ r.objs.length ∧ n = r.objs.length - i ∧ fr = [(22, .lst .ro r.objs.length (objsC r.objs)), (23, .int .i64 r.objs.length), (24, .int .i64 i)] ∧ ∀ o ∈ r.objs.take i, mayO o = true) r.objs.length ⟨0, by omega, by omega, rfl, by simp⟩ ?_
 rintro n fr h' ⟨i, hi, rfl, rfl, hall⟩
 simp only [J_record_May_j2, wk,Nat.reduceEqDiff,Nat.reduceAdd,Nat.reduceLeDiff,↓reduceIte]
 refine ⟨fun hlt => ?_, fun hge => ?_⟩
 ·have hil : i < r.objs.length := by omega
  have hd : (objsC r.objs).drop ((i : Int).toNat * 3) = .int .i64 r.objs[i].value :: .lst .ro r.objs[i].ents.length (entsC r.objs[i].ents) :: .int .i64 r.objs[i].version :: (objsC r.objs).drop ((i + 1) * 3) := by rw [show (i : Int).toNat = i by omega]; exact objsC_drop hil
  have hmem := List.getElem_mem hil
  have hsm := h.2 _ hmem
  refine ⟨⟨by omega, by omega⟩, ?_⟩
  simp only [hd, wk,Nat.reduceAdd,Nat.reduceLeDiff,↓reduceIte]
  refine PCalls.use (p_recnum r.objs[i].value) ?_; simp only [wk,Nat.reduceEqDiff,↓reduceIte]
  refine ⟨fun m1 => ?_, fun m1 => no (mayR_no hmem (by simp [mayO, m1]))⟩
  refine PCalls.use (p_recnum r.objs[i].version) ?_; simp only [wk,Nat.reduceEqDiff,↓reduceIte]
  refine ⟨fun m2 => no (mayR_no hmem (by simp [mayO, m2])), fun m2 => ?_⟩
  refine ACalls.use (a_new r.objs[i].ents (by have := hsm.1; omega) hsm.2) ?_
  rintro a h2 hp
  unfold NewPost at hp
  split at hp
  ·next he =>
   obtain ⟨f, _, rfl, rfl⟩ := hp
   simp only [wk,ne_eq,eq_self,Nat.reduceEqDiff,↓reduceIte]
   refine ⟨inR_of (by omega) (by omega), r.objs.length - (i + 1), by omega, i + 1, by omega, rfl, by simp, fun o ho => ?_⟩
   rw [List.take_succ_eq_append_getElem hil] at ho
   rcases List.mem_append.1 ho with ho | ho
   ·exact hall o ho
   ·simp at ho; subst ho; simp [mayO, m1, m2, he]
  ·next he =>
   obtain ⟨rfl, rfl⟩ := hp
   simp only [wk,ne_eq,eq_self,Nat.reduceEqDiff,↓reduceIte]
   refine ⟨fun _ => no (mayR_no hmem (by simp [mayO, he])), fun e => absurd e he⟩
 ·rw [List.take_of_length_le (by omega)] at hall
  simp only [J_record_May_j1, wk,↓reduceIte]
  congr 1
  symm
  simp only [mayR, Bool.and_eq_true, decide_eq_true_eq, List.all_eq_true]
  exact ⟨⟨by omega, by omega⟩, by omega, hall⟩
def noneE (x : Ent) : Bool := decide (x.op = 0) && decide (x.who.length = 0)
def asksE (q : Rqs) : Bool :=
 if 0 ≤ q.object ∧ q.object < 4 ∧ numOk q.arg = true then
  (if q.op = 0 then decide (q.arg = 0) && noneE q.ent else if q.op = 1 then noneE q.ent else if q.op = 2 ∨ q.op = 3 then decide (q.arg = 0) && mayEnt q.ent else false)
 else false
theorem p_asks (q : Rqs) (h : smallE q.ent) : PCalls Try.prog 22 [vQ q] (.bool (asksE q)) := by
 refine pcalls_of (by simp [free.frees, free_vQ]) rfl (acalls_of mixed J_record_Asks_ok (Nat.le_of_ble_eq_true rfl) ?_); simp only [J_record_Asks, J_record_Asks_j1, vQ, qC, wk,Nat.reduceEqDiff,↓reduceIte]
 have no : (¬ (0 ≤ q.object ∧ q.object < 4 ∧ numOk q.arg = true)) → AV.bool false = .bool (asksE q) := fun e => by unfold asksE; rw [if_neg e]
 refine ⟨fun h1 => ⟨fun h2 => ?_, fun h2 => no (by omega)⟩, fun h1 => no (by omega)⟩
 refine PCalls.use (p_recnum q.arg) ?_; simp only [wk,Nat.reduceEqDiff,Nat.reduceAdd,↓reduceIte]
 have q1 := p_smay q.ent.who (by have := h.1; omega) (fun w hw => by have := h.2 w hw; omega)
 refine ⟨fun hn => no (by simp [hn]), fun hn => ?_⟩
 have e0 : asksE q = (if q.op = 0 then decide (q.arg = 0) && noneE q.ent else if q.op = 1 then noneE q.ent else if q.op = 2 ∨ q.op = 3 then decide (q.arg = 0) && mayEnt q.ent else false) := by
  unfold asksE; rw [if_pos ⟨by omega, by omega, hn⟩]
 rw [e0]
 clear e0 no
 unfold noneE mayEnt
 repeat' (first | (refine PCalls.use q1 ?_; simp only [wk,Nat.reduceEqDiff,↓reduceIte]) | (refine And.intro ?_ ?_) | intro _)
 all_goals first
  | (simp_all; done)
  | (congr 1; simp_all; done)
  | (congr 1; simp_all; omega)
mutual
def sh (n : Nat) : AV → AV
  | .ptr i o => .ptr (i + n) o
  | .hs i m => .hs (i + n) m
  | .hsc i m c => .hsc (i + n) m c
  | .fp l => .fp (shs n l)
  | .lst f m l => .lst f m (shs n l)
  | .agg l => .agg (shs n l)
  | .tup l => .tup (shs n l)
  | .fn f l => .fn f (shs n l)
  | .fnb f l => .fnb f (shs n l)
  | a => a
def shs (n : Nat) : List AV → List AV
  | [] => []
  | a :: l => sh n a :: shs n l
end
theorem plain_sh {n : Nat} (a : AV) (h : plain a = true) : plain (sh n a) = true := by
 cases a with
 | lst f m l => cases f <;> first | (simp [plain] at h; done) | simp [sh, plain]
 | itr s p => simp [plain] at h
 | omp b ks vs => simp [plain] at h
 | stk e o l => simp [plain] at h
 | _ => simp [sh, plain]
theorem plains_sh {n : Nat} : ∀ {l : List AV}, plains l → plains (shs n l)
 | [], _ => by intro a ha; simp [shs] at ha
 | a :: l, h => by
  intro b hb
  simp only [shs, List.mem_cons] at hb
  rcases hb with rfl | hb
  ·exact plain_sh a (h a (by simp))
  ·exact plains_sh (fun x hx => h x (by simp [hx])) b hb
theorem shs_len {n : Nat} : ∀ l : List AV, (shs n l).length = l.length
 | [] => by simp [shs]
 | a :: l => by simp [shs, shs_len l]
theorem shs_get {n : Nat} : ∀ (l : List AV) (i : Nat), (shs n l)[i]? = (l[i]?).map (sh n)
 | [], i => by simp [shs]
 | a :: l, 0 => by simp [shs]
 | a :: l, i + 1 => by simp [shs, shs_get l i]
def Gh.join (g g1 : Gh) (n : Nat) : Gh :=
  { C := g1.C, X := g1.X, io := fun i => if i < n then g.io i else g1.io (i - n), F := g.F,
    own := fun b => match g.own b with
      | some x => some x
      | none => match g1.own b with
        | some (.cell id i) => some (.cell (id + n) i)
        | x => x }
mutual
theorem Rep.sh {g g1 : Gh} {n : Nat} : ∀ {v : Value} {a : AV}, Rep g1 v a → Rep (g.join g1 n) v (sh n a)
  | _, _, .bool b => by simp only [Go.Proofs.Ytpiofcjkekpboaa.sh]; exact .bool b
  | _, _, .int k m => by simp only [Go.Proofs.Ytpiofcjkekpboaa.sh]; exact .int k m
  | _, _, .str s => by simp only [Go.Proofs.Ytpiofcjkekpboaa.sh]; exact .str s
  | _, _, .nilp => by simp only [Go.Proofs.Ytpiofcjkekpboaa.sh]; exact .nilp
  | _, _, .ptr id off b h => by simp only [Go.Proofs.Ytpiofcjkekpboaa.sh]; exact .ptr _ off b (by simp only [Gh.join]; rw [if_neg (by omega), Nat.add_sub_cancel]; exact h)
  | _, _, .fp b off vs l h hp hr => by simp only [Go.Proofs.Ytpiofcjkekpboaa.sh]; exact .fp b off vs _ h (plains_sh hp) (RepL.sh hr)
  | _, _, .lst b off m c f vs l h hp h1 h2 hr => by simp only [Go.Proofs.Ytpiofcjkekpboaa.sh]; exact .lst b off m c f vs _ h (plains_sh hp) h1 h2 (RepL.sh hr)
  | _, _, .lst0 a c f h => by simp only [Go.Proofs.Ytpiofcjkekpboaa.sh, shs]; exact .lst0 a c f h
  | _, _, .hs id b m c h h1 => by simp only [Go.Proofs.Ytpiofcjkekpboaa.sh]; exact .hs _ b m c (by simp only [Gh.join]; rw [if_neg (by omega), Nat.add_sub_cancel]; exact h) h1
  | _, _, .hsc id b m c h h1 => by simp only [Go.Proofs.Ytpiofcjkekpboaa.sh]; exact .hsc _ b m c (by simp only [Gh.join]; rw [if_neg (by omega), Nat.add_sub_cancel]; exact h) h1
  | _, _, .agg vs l h hp hr => by simp only [Go.Proofs.Ytpiofcjkekpboaa.sh]; exact .agg vs _ h (plains_sh hp) (RepL.sh hr)
  | _, _, .tup vs l hp hr => by simp only [Go.Proofs.Ytpiofcjkekpboaa.sh]; exact .tup vs _ (plains_sh hp) (RepL.sh hr)
  | _, _, .fn f vs l hp hr => by simp only [Go.Proofs.Ytpiofcjkekpboaa.sh]; exact .fn f vs _ (plains_sh hp) (RepL.sh hr)
  | _, _, .fnb f vs l hp hr => by simp only [Go.Proofs.Ytpiofcjkekpboaa.sh]; exact .fnb f vs _ (plains_sh hp) (RepL.sh hr)
  | _, _, .nilf => by simp only [Go.Proofs.Ytpiofcjkekpboaa.sh]; exact .nilf
  | _, _, .opq v h h' => by simp only [Go.Proofs.Ytpiofcjkekpboaa.sh]; exact .opq v h h'
  | _, _, .itr b s p => by simp only [Go.Proofs.Ytpiofcjkekpboaa.sh]; exact .itr b s p
  | _, _, .omp b ks vs => by simp only [Go.Proofs.Ytpiofcjkekpboaa.sh]; exact .omp b ks vs
  | _, _, .mp b => by simp only [Go.Proofs.Ytpiofcjkekpboaa.sh]; exact .mp b
  | _, _, .fmp b obj ks vs h1 h2 => by simp only [Go.Proofs.Ytpiofcjkekpboaa.sh]; exact .fmp b obj ks vs h1 h2
  | _, _, .stk a c e o l h1 h2 h3 => by simp only [Go.Proofs.Ytpiofcjkekpboaa.sh]; exact .stk a c e o l h1 h2 h3
  | _, _, .raw a m c h1 h2 => by simp only [Go.Proofs.Ytpiofcjkekpboaa.sh]; exact .raw a m c h1 h2
  | _, _, .rawp b i m c => by simp only [Go.Proofs.Ytpiofcjkekpboaa.sh]; exact .rawp b i m c
  | _, _, .frn v Q S W0 h1 h2 h3 h4 => by simp only [Go.Proofs.Ytpiofcjkekpboaa.sh]; exact .frn v Q S W0 h1 h2 h3 h4
theorem RepL.sh {g g1 : Gh} {n : Nat} : ∀ {vs : List Value} {l : List AV}, RepL g1 vs l → RepL (g.join g1 n) vs (shs n l)
  | _, _, .nil => by simp only [shs]; exact .nil
  | _, _, .cons h hr => by simp only [shs]; exact .cons (Rep.sh h) (RepL.sh hr)
end
def shH (n : Nat) (h : Hp) : Hp := h.map fun o => o.map fun x => (x.1, shs n x.2)
theorem Sim.join {P : Program} {g g1 : Gh} {h h1 : Hp} {w w1 : World} (hs : Sim P g h w) (hev : Ev g.bare w g1 w1) (hs1 : Sim P g1 h1 w1) : Sim P (g.join g1 h.length) (h ++ shH h.length h1) w1 ∧ Ev g w (g.join g1 h.length) w1 := by
 have hFF : ∀ b, (g.F b ∨ (∃ i, g.io i = some b) ∨ (∃ x, g.own b = some x)) → g1.F b := fun b hb => (hev.F b).2 hb
 have hle : GLe g (g.join g1 h.length) := ⟨fun b o v hc => hev.le.C b o v hc, fun i b hi => by have := (hs.dom i b hi).1; simp only [Gh.join, if_pos this]; exact hi, fun b o hx => hev.le.X b o hx⟩
 have hfar : ∀ k b, g1.io k = some b → ¬ (g.F b ∨ (∃ i, g.io i = some b) ∨ (∃ x, g.own b = some x)) := fun k b hk hb => by
  have := (hev.Fb b hb).2.2.2 k hk
  cases this
 have hown : ∀ b, ¬ g1.F b → g.own b = none := fun b hb => by
  cases ho : g.own b with
  | none => rfl
  | some x => exact absurd (hFF b (.inr (.inr ⟨x, ho⟩))) hb
 have hfro : ∀ b o, (g.join g1 h.length).X b = some o → w1.heap[b]? = some o ∧ (g.join g1 h.length).own b = none ∧ ∀ i, (g.join g1 h.length).io i ≠ some b := fun b o hx => by
  obtain ⟨q1, q2, q3⟩ := hs1.fro b o hx
  have hbk : (∃ i, g.io i = some b) ∨ (∃ x, g.own b = some x) → g.X b = some o := fun hh => by
   have := hev.Fx b (.inr hh)
   rw [show g.bare.X b = g.X b from rfl] at this
   rw [← this]; exact hx
  refine ⟨q1, ?_, fun i hi => ?_⟩
  ·cases ho : g.own b with
   | none => simp only [Gh.join, ho, q2]
   | some x => exact absurd (hs.fro b o (hbk (.inr ⟨x, ho⟩))).2.1 (by rw [ho]; simp)
  ·simp only [Gh.join] at hi
   split at hi
   ·exact (hs.fro b o (hbk (.inl ⟨i, hi⟩))).2.2 i hi
   ·exact q3 _ hi
 refine ⟨⟨hs1.prot, ?_, ?_, ?_, ?_, ?_, ?_, hfro⟩, ⟨hle, fun _ => .rfl, fun b hb => ?_, hev.os, hev.tape, hev.output, hev.size, fun b hb => hev.Fx b (.inl hb)⟩⟩
 ·intro id s l hl
  by_cases hid : id < h.length
  ·rw [List.getElem?_append_left hid] at hl
   refine (hs.obj id s l hl).keep hle (fun b hb h8 h9 => ?_) (fun b i o1 o3 o4 => ?_)
   ·have hbF : g.F b ∨ (∃ i, g.io i = some b) ∨ (∃ x, g.own b = some x) := .inr (.inl ⟨id, hb⟩)
    obtain ⟨q1, q2, q3, _⟩ := hev.Fb b hbF
    refine ⟨q1, q2, h8, ?_⟩
    simp only [Gh.join, h9]
    rw [q3]
    rfl
   ·obtain ⟨q1, q2, q3, q4⟩ := hev.Fb b (.inr (.inr ⟨_, o1⟩))
    refine ⟨q1, by simp only [Gh.join, o1], q2, o3, fun j hj => ?_⟩
    simp only [Gh.join] at hj
    split at hj
    ·exact o4 j hj
    ·have := q4 _ hj; cases this
  ·rw [List.getElem?_append_right (by omega), shH, List.getElem?_map] at hl
   cases hl1 : h1[id - h.length]? with
   | none => rw [hl1] at hl; cases hl
   | some o =>
    rw [hl1] at hl
    simp only [Option.map_some, Option.some.injEq] at hl
    cases o with
    | none => cases hl
    | some x =>
     obtain ⟨s', l'⟩ := x
     simp only [Option.map_some, Option.some.injEq, Prod.mk.injEq] at hl
     obtain ⟨rfl, rfl⟩ := hl
     obtain ⟨b, arr, e, p1, ⟨rest, p2⟩, p3, p4, p5, p6, p7, p8, p9⟩ := hs1.obj _ s' l' hl1
     refine ⟨b, arr, e, by simp only [Gh.join, if_neg hid]; exact p1, ⟨rest, p2⟩, p3.sh, p4, fun i v a hv ha => ?_, p6, p7, fun hf => p8 (hFF b (.inl hf)), by simp only [Gh.join, hown b p8, p9]⟩
     rw [shs_get] at ha
     cases hla : l'[i]? with
     | none => rw [hla] at ha; cases ha
     | some a' =>
      rw [hla] at ha
      simp only [Option.map_some, Option.some.injEq] at ha
      subst ha
      have ho := p5 i v a' hv hla
      cases a' with
      | lst f m c =>
       cases f with
       | own e' =>
        simp only [sh]
        obtain ⟨sz, r1, r2, ⟨vs, r3, r4⟩ | r3⟩ := ho
        ·refine ⟨sz, r1, by rw [shs_len]; exact r2, .inl ⟨vs, r3, fun b' hb' => ?_⟩⟩
         obtain ⟨k1, k2, k3, k4⟩ := r4 b' hb'
         refine ⟨?_, fun o ho => k2 o (by rw [shs_len] at ho; exact ho), fun hf => k3 (hFF b' (.inl hf)), fun j hj => ?_⟩
         ·simp only [Gh.join, hown b' k3, k1]
          congr 2; omega
         ·simp only [Gh.join] at hj
          split at hj
          ·exact k3 (hFF b' (.inr (.inl ⟨j, hj⟩)))
          ·exact k4 _ hj
        ·exact ⟨sz, r1, by rw [shs_len]; exact r2, .inr r3⟩
       | _ => exact Owned.plain (by simp [sh, plain])
      | itr s p =>
       simp only [sh]
       obtain ⟨b', r1, r2, k1, k2, k3, k4⟩ := ho
       refine ⟨b', r1, r2, ?_, k2, fun hf => k3 (hFF b' (.inl hf)), fun j hj => ?_⟩
       ·simp only [Gh.join, hown b' k3, k1]
        congr 2; omega
       ·simp only [Gh.join] at hj
        split at hj
        ·exact k3 (hFF b' (.inr (.inl ⟨j, hj⟩)))
        ·exact k4 _ hj
      | omp b ks vs =>
       simp only [sh]
       obtain ⟨b', r1, r2, k1, k2, k3, k4⟩ := ho
       refine ⟨b', r1, r2, ?_, k2, fun hf => k3 (hFF b' (.inl hf)), fun j hj => ?_⟩
       ·simp only [Gh.join, hown b' k3, k1]
        congr 2; omega
       ·simp only [Gh.join] at hj
        split at hj
        ·exact k3 (hFF b' (.inr (.inl ⟨j, hj⟩)))
        ·exact k4 _ hj
      | stk e' u c =>
       simp only [sh]
       obtain ⟨r1, ⟨r3, r4⟩ | r3⟩ := ho
       ·refine ⟨r1, .inl ⟨r3, fun b' hb' => ?_⟩⟩
        obtain ⟨k1, k2, k3, k4⟩ := r4 b' hb'
        refine ⟨?_, k2, fun hf => k3 (hFF b' (.inl hf)), fun j hj => ?_⟩
        ·simp only [Gh.join, hown b' k3, k1]
         congr 2; omega
        ·simp only [Gh.join] at hj
         split at hj
         ·exact k3 (hFF b' (.inr (.inl ⟨j, hj⟩)))
         ·exact k4 _ hj
       ·exact ⟨r1, .inr r3⟩
      | _ => exact Owned.plain (by simp [sh, plain])
 ·intro i j b hi hj
  simp only [Gh.join] at hi hj
  split at hi <;> split at hj
  ·exact hs.inj i j b hi hj
  ·exact absurd (.inr (.inl ⟨i, hi⟩)) (hfar _ b hj)
  ·exact absurd (.inr (.inl ⟨j, hj⟩)) (hfar _ b hi)
  ·have := hs1.inj _ _ b hi hj; omega
 ·intro i b hi
  simp only [Gh.join] at hi
  split at hi
  ·have := hs.dom i b hi; have := hev.size; simp; omega
  ·have := hs1.dom _ b hi; simp [shH]; omega
 ·intro b hb; exact Nat.lt_of_lt_of_le (hs.flt b hb) hev.size
 ·intro b x hb
  simp only [Gh.join] at hb
  split at hb
  ·next y hy => exact Nat.lt_of_lt_of_le (hs.olt b _ hy) hev.size
  ·split at hb
   ·next hy => exact hs1.olt b _ hy
   ·exact hs1.olt b x hb
 ·intro i hi
  by_cases hid : i < h.length
  ·rw [List.getElem?_append_left hid] at hi
   simp only [Gh.join, if_pos hid]; exact hs.hole i hi
  ·rw [List.getElem?_append_right (by omega), shH, List.getElem?_map] at hi
   simp only [Gh.join, if_neg hid]
   cases hl1 : h1[i - h.length]? with
   | none => rw [hl1] at hi; cases hi
   | some o =>
    cases o with
    | none => exact hs1.hole _ hl1
    | some x => rw [hl1] at hi; simp at hi
 ·obtain ⟨q1, q2, q3, q4⟩ := hev.Fb b (.inl hb)
  refine ⟨q1, q2, ?_, fun i hi => ?_⟩
  ·simp only [Gh.join]
   split
   ·next y hy => exact hy.symm
   ·next hy => rw [q3, hy]; rfl
  ·simp only [Gh.join] at hi
   split at hi
   ·exact hi
   ·have := q4 _ hi; cases this
theorem ACalls.shift {P : Program} {f : FuncId} {args : List AV} {R : AV → Hp → Prop} (ha : free.frees args = true) (hc : ACalls P f args [] R) (h : Hp) : ACalls P f args h (fun a h' => ∃ a0 h0, R a0 h0 ∧ a = sh h.length a0 ∧ h' = h ++ shH h.length h0) := by
 refine ⟨hc.1, fun g w vargs hs hns hr hpl => ?_⟩
 refine (hc.2 g.bare w vargs hs.bare (fun b k h => by cases h) (RepL.free (g := g) (g' := g.bare) (fun _ _ _ h => h) (fun _ _ h => h) hr ha) hpl).mono ?_
 rintro e w1 ⟨x, a, h1, g1, rfl, r1, r2, r3, r4, r5, r6⟩
 obtain ⟨s1, s2⟩ := hs.join r1 r2
 refine ⟨x, _, _, g.join g1 h.length, rfl, s2, s1, fun b k hk => ?_, r4.sh, plain_sh _ r5, a, h1, r6, rfl, rfl⟩
 simp only [Gh.join] at hk
 split at hk
 ·next y hy => simp only [Option.some.injEq] at hk; subst hk; exact hns b k hy
 ·split at hk
  ·cases hk
  ·exact r3 b k hk
def only (k : Nat) : AV → Bool
 | .ptr i _ => decide (i = k)
 | .hs i _ => decide (i = k)
 | .hsc i _ _ => decide (i = k)
 | .fp l | .lst _ _ l | .agg l | .tup l | .fn _ l | .fnb _ l => onlys l
 | _ => true
where onlys : List AV → Bool
  | [] => true
  | a :: l => only k a && onlys l
mutual
def rn : AV → AV
  | .ptr _ o => .ptr 0 o
  | .hs _ m => .hs 0 m
  | .hsc _ m c => .hsc 0 m c
  | .fp l => .fp (rns l)
  | .lst f m l => .lst f m (rns l)
  | .agg l => .agg (rns l)
  | .tup l => .tup (rns l)
  | .fn f l => .fn f (rns l)
  | .fnb f l => .fnb f (rns l)
  | a => a
def rns : List AV → List AV
  | [] => []
  | a :: l => rn a :: rns l
end
theorem plain_rn (a : AV) (h : plain a = true) : plain (rn a) = true := by
 cases a with
 | lst f m l => cases f <;> first | (simp [plain] at h; done) | simp [rn, plain]
 | itr s p => simp [plain] at h
 | omp b ks vs => simp [plain] at h
 | stk e o l => simp [plain] at h
 | _ => simp [rn, plain]
theorem plains_rn : ∀ {l : List AV}, plains l → plains (rns l)
 | [], _ => by intro a ha; simp [rns] at ha
 | a :: l, h => by
  intro b hb
  simp only [rns, List.mem_cons] at hb
  rcases hb with rfl | hb
  ·exact plain_rn a (h a (by simp))
  ·exact plains_rn (fun x hx => h x (by simp [hx])) b hb
def Gh.one (g : Gh) (k : Nat) : Gh := { g with io := fun i => if i = 0 then g.io k else none }
mutual
theorem Rep.one {g : Gh} {k : Nat} : ∀ {v : Value} {a : AV}, Rep g v a → only k a = true → Rep (g.one k) v (rn a)
  | _, _, .bool b, _ => by simp only [rn]; exact .bool b
  | _, _, .int i m, _ => by simp only [rn]; exact .int i m
  | _, _, .str s, _ => by simp only [rn]; exact .str s
  | _, _, .nilp, _ => by simp only [rn]; exact .nilp
  | _, _, .ptr id off b h, ho => by
    have : id = k := by simpa [only] using ho
    subst this
    simp only [rn]; exact .ptr 0 off b (by simp only [Gh.one, if_true]; exact h)
  | _, _, .fp b off vs l h hp hr, ho => by simp only [rn]; exact .fp b off vs _ h (plains_rn hp) (RepL.one hr (by simpa [only] using ho))
  | _, _, .lst b off m c f vs l h hp h1 h2 hr, ho => by simp only [rn]; exact .lst b off m c f vs _ h (plains_rn hp) h1 h2 (RepL.one hr (by simpa [only] using ho))
  | _, _, .lst0 a c f h, _ => by simp only [rn, rns]; exact .lst0 a c f h
  | _, _, .hs id b m c h h1, ho => by
    have : id = k := by simpa [only] using ho
    subst this
    simp only [rn]; exact .hs 0 b m c (by simp only [Gh.one, if_true]; exact h) h1
  | _, _, .hsc id b m c h h1, ho => by
    have : id = k := by simpa [only] using ho
    subst this
    simp only [rn]; exact .hsc 0 b m c (by simp only [Gh.one, if_true]; exact h) h1
  | _, _, .agg vs l h hp hr, ho => by simp only [rn]; exact .agg vs _ h (plains_rn hp) (RepL.one hr (by simpa [only] using ho))
  | _, _, .tup vs l hp hr, ho => by simp only [rn]; exact .tup vs _ (plains_rn hp) (RepL.one hr (by simpa [only] using ho))
  | _, _, .fn f vs l hp hr, ho => by simp only [rn]; exact .fn f vs _ (plains_rn hp) (RepL.one hr (by simpa [only] using ho))
  | _, _, .fnb f vs l hp hr, ho => by simp only [rn]; exact .fnb f vs _ (plains_rn hp) (RepL.one hr (by simpa [only] using ho))
  | _, _, .nilf, _ => by simp only [rn]; exact .nilf
  | _, _, .opq v h h', _ => by simp only [rn]; exact .opq v h h'
  | _, _, .itr b s p, _ => by simp only [rn]; exact .itr b s p
  | _, _, .omp b ks vs, _ => by simp only [rn]; exact .omp b ks vs
  | _, _, .mp b, _ => by simp only [rn]; exact .mp b
  | _, _, .fmp b obj ks vs h1 h2, _ => by simp only [rn]; exact .fmp b obj ks vs h1 h2
  | _, _, .stk a c e o l h1 h2 h3, _ => by simp only [rn]; exact .stk a c e o l h1 h2 h3
  | _, _, .raw a m c h1 h2, _ => by simp only [rn]; exact .raw a m c h1 h2
  | _, _, .rawp b i m c, _ => by simp only [rn]; exact .rawp b i m c
  | _, _, .frn v Q S W0 h1 h2 h3 h4, _ => by simp only [rn]; exact .frn v Q S W0 h1 h2 h3 h4
theorem RepL.one {g : Gh} {k : Nat} : ∀ {vs : List Value} {l : List AV}, RepL g vs l → only.onlys k l = true → RepL (g.one k) vs (rns l)
  | _, _, .nil, _ => by simp only [rns]; exact .nil
  | _, _, .cons h hr, ho => by
    simp only [only.onlys, Bool.and_eq_true] at ho
    simp only [rns]; exact .cons (Rep.one h ho.1) (RepL.one hr ho.2)
end
theorem ACalls.one {P : Program} {f : FuncId} {args : List AV} {R : AV → Hp → Prop}
  (hc : ACalls P f args [] (fun a h' => ∃ k l, h'[k]? = some (some (false, l)) ∧ only k a = true ∧ free.frees l = true ∧ plains l ∧ R (rn a) [some (false, l)])) : ACalls P f args [] R := by
 refine ⟨hc.1, fun g w vargs hs hns hr hpl => (hc.2 g w vargs hs hns hr hpl).mono ?_⟩
 rintro e w1 ⟨x, a, h', g', rfl, ev, hs', hns', hx, hpa, k, l, hk, ho, hfl, hpll, hR⟩
 have nodom : ∀ i b, g.io i ≠ some b := fun i b hi => absurd (hs.dom i b hi).1 (by simp)
 obtain ⟨b, arr, e, p1, ⟨rest, p2⟩, p3, p4, p5, p6, p7, p8, p9⟩ := hs'.obj k false l hk
 refine ⟨x, _, _, g'.one k, rfl, ?_, ?_, hns', Rep.one hx ho, plain_rn _ hpa, hR⟩
 ·refine ⟨⟨ev.le.C, fun i b hi => absurd hi (nodom i b), ev.le.X⟩, ev.F, fun b' hb' => ?_, ev.os, ev.tape, ev.output, ev.size, ev.Fx⟩
  obtain ⟨q1, q2, q3, q4⟩ := ev.Fb b' hb'
  refine ⟨q1, q2, q3, fun i hi => ?_⟩
  simp only [Gh.one] at hi
  split at hi
  ·exact absurd (q4 _ hi) (nodom _ _)
  ·cases hi
 ·refine ⟨hs'.prot, fun id s l' hl' => ?_, fun i j b' hi hj => ?_, fun i b' hi => ?_, hs'.flt, hs'.olt, fun i hi => ?_, fun b o hx => ⟨(hs'.fro b o hx).1, (hs'.fro b o hx).2.1, fun i hi => by simp only [Gh.one] at hi; split at hi; exact (hs'.fro b o hx).2.2 _ hi; cases hi⟩⟩
  ·cases id with
   | zero =>
    simp only [List.getElem?_cons_zero, Option.some.injEq, Prod.mk.injEq] at hl'
    obtain ⟨rfl, rfl⟩ := hl'
    refine ⟨b, arr, e, by simp only [Gh.one, if_true]; exact p1, ⟨rest, p2⟩, RepL.free (g := g') (g' := g'.one k) (fun _ _ _ h => h) (fun _ _ h => h) p3 hfl, p4, fun i v a _ ha => Owned.plain (hpll a (List.mem_of_getElem? ha)), p6, p7, p8, p9⟩
   | succ id => simp at hl'
  ·simp only [Gh.one] at hi hj
   split at hi
   ·split at hj
    ·omega
    ·cases hj
   ·cases hi
  ·simp only [Gh.one] at hi
   split at hi
   ·next h0 => subst h0; exact ⟨by simp, (hs'.dom k b' hi).2⟩
   ·cases hi
  ·cases i with
   | zero => simp at hi
   | succ i => simp at hi
def zO : Nat → List AV
 | 0 => []
 | n + 1 => .int .i64 0 :: .lst .clip 0 [] :: .int .i64 0 :: zO n
theorem zO_eq (n : Nat) : ((List.range (n * 3)).map fun i => [AV.int .i64 0, .lst .clip 0 [], .int .i64 0].getD (i % 3) .nilp) = zO n := by
 have h1 : ∀ m k : Nat, k % 3 = 0 → ((List.range' k (m * 3)).map fun i => [AV.int .i64 0, .lst .clip 0 [], .int .i64 0].getD (i % 3) .nilp) = zO m := by
  intro m
  induction m with
  | zero => intro k _; simp [zO]
  | succ m ihm =>
   intro k hk
   rw [show (m + 1) * 3 = m * 3 + 1 + 1 + 1 by omega, List.range'_succ, List.range'_succ, List.range'_succ]
   simp only [List.map_cons]
   rw [ihm (k + 1 + 1 + 1) (by omega), hk, show (k + 1) % 3 = 1 by omega, show (k + 1 + 1) % 3 = 2 by omega]
   rfl
 have := h1 n 0 rfl
 rwa [← List.range_eq_range'] at this
theorem zO_len (n : Nat) : (zO n).length = n * 3 := by
 induction n with
 | zero => rfl
 | succ n ih => simp only [zO, List.length_cons, ih]; omega
theorem set_three {A B : List AV} {n : Nat} (hn : A.length = n) (a b c x y z : AV) : (((A ++ a :: b :: c :: B).set n x).set (n + 1) y).set (n + 1 + 1) z = A ++ x :: y :: z :: B := by
 subst hn
 rw [List.set_append_right _ _ (Nat.le_refl _), List.set_append_right _ _ (by omega), List.set_append_right _ _ (by omega), Nat.sub_self, show A.length + 1 - A.length = 1 by omega, show A.length + 1 + 1 - A.length = 2 by omega]
 rfl
theorem objsC_succ {l : List Obt} {i : Nat} (hil : i < l.length) : objsC (l.take i) ++ [.int .i64 l[i].value, .lst .ro l[i].ents.length (entsC l[i].ents), .int .i64 l[i].version] = objsC (l.take (i + 1)) := by
 rw [List.take_succ_eq_append_getElem hil]
 unfold objsC
 rw [List.flatMap_append]
 rfl
theorem plains_objsC (l : List Obt) : plains (objsC l) := by
 intro a ha
 simp only [objsC, List.mem_flatMap] at ha
 obtain ⟨o, _, ho⟩ := ha
 simp only [oC, List.mem_cons, List.not_mem_nil, or_false] at ho
 rcases ho with rfl | rfl | rfl <;> rfl
theorem a_copied0 (r : Rcd) (h : smallR r) : ACalls Try.prog 51 [vR r] [] (fun a h' => a = .agg [.int .i64 r.boot, .hs 0 r.objs.length] ∧ h' = [some (false, objsC r.objs)]) := by
 refine ACalls.one (acalls_of mixed J_record_copied_ok (Nat.le_of_ble_eq_true rfl) ?_); simp only [J_record_copied, vR, rC, wk,Nat.reduceEqDiff,Nat.reduceAdd,Nat.reduceSub,Nat.reduceLeDiff,Nat.reduceLT,↓reduceIte]
 have hlen := h.1
 refine ⟨⟨by omega, by omega, by omega⟩, ?_⟩
 rw [Int.toNat_natCast, zO_eq]
 refine W_loop (fun n fr h' => ∃ (i : Nat) (ex : Hp), i ≤ r.objs.length ∧ n = r.objs.length - i ∧ h' = some (false, [.int .i64 r.boot, .lst .ro r.objs.length (objsC r.objs)]) :: some (false, [.int .i64 0, .lst (.own 71) 0 []]) :: some (false, objsC (r.objs.take i) ++ zO (r.objs.length - i)) :: some (true, [.int .i64 r.boot, .hs 2 r.objs.length]) :: ex ∧ fr = [(2, .ptr 1 0), (3, .ptr 3 0), (14, .lst .ro r.objs.length (objsC r.objs)), (15, .int .i64 r.objs.length), (16, .int .i64 i)]) r.objs.length ⟨0, [], by omega, by omega, rfl, rfl⟩ ?_
 rintro n fr h' ⟨i, ex, hi, rfl, rfl, rfl⟩
 simp only [J_record_copied_j2, wk,Nat.reduceEqDiff,Nat.reduceAdd,Nat.reduceLeDiff,↓reduceIte]
 refine ⟨fun hlt => ?_, fun hge => ?_⟩
 ·have hil : i < r.objs.length := by omega
  have hd : (objsC r.objs).drop ((i : Int).toNat * 3) = .int .i64 r.objs[i].value :: .lst .ro r.objs[i].ents.length (entsC r.objs[i].ents) :: .int .i64 r.objs[i].version :: (objsC r.objs).drop ((i + 1) * 3) := by rw [show (i : Int).toNat = i by omega]; exact objsC_drop hil
  have hsm := h.2 _ (List.getElem_mem hil)
  have q := p_entries r.objs[i].ents (by have := hsm.1; omega) hsm.2
  refine ⟨⟨by omega, by omega⟩, ?_⟩
  simp only [hd, wk,Nat.reduceAdd,Nat.reduceLeDiff,↓reduceIte]
  refine PCalls.use (q) ?_; simp only [wk,Nat.reduceEqDiff,Nat.reduceAdd,Nat.reduceLeDiff,↓reduceIte]
  have hA : (objsC (r.objs.take i)).length = i * 3 := by rw [objsC_len]; simp; omega
  have hz : zO (r.objs.length - i) = .int .i64 0 :: .lst .clip 0 [] :: .int .i64 0 :: zO (r.objs.length - (i + 1)) := by rw [show r.objs.length - i = (r.objs.length - (i + 1)) + 1 by omega]; rfl
  refine ⟨⟨by omega, by omega⟩, by rw [List.length_append, hA, zO_len]; omega, inR_of (by omega) (by omega), r.objs.length - (i + 1), by omega, i + 1, ex ++ [some (false, [.int .i64 r.objs[i].value, .lst .ro r.objs[i].ents.length (entsC r.objs[i].ents), .int .i64 r.objs[i].version])], by omega, rfl, ?_, by simp⟩
  rw [show (i : Int).toNat = i by omega, hz, set_three hA, ← objsC_succ hil, List.append_assoc]
  rfl
 ·have : i = r.objs.length := by omega
  subst this
  simp only [J_record_copied_j1, valL, wk,Nat.reduceEqDiff,Nat.reduceAdd,Nat.reduceLeDiff,↓reduceIte]
  refine ⟨2, objsC r.objs, ?_, by simp [only, only.onlys], frees_objsC _, plains_objsC _, by simp [rn, rns], rfl⟩
  rw [List.take_length, Nat.sub_self]
  simp [zO]
mutual
theorem sh_free {n : Nat} : ∀ {a : AV}, free a = true → sh n a = a
  | .bool _, _ => by simp only [sh]
  | .int _ _, _ => by simp only [sh]
  | .str _, _ => by simp only [sh]
  | .nilp, _ => by simp only [sh]
  | .nilf, _ => by simp only [sh]
  | .opq, _ => by simp only [sh]
  | .itr _ _, _ => by simp only [sh]
  | .stk _ _ _, _ => by simp only [sh]
  | .raw _ _, _ => by simp only [sh]
  | .rawp _ _, _ => by simp only [sh]
  | .ptr _ _, h => by simp [free] at h
  | .hs _ _, h => by simp [free] at h
  | .fp l, h => by simp only [sh]; rw [shs_free (by simpa [free] using h)]
  | .lst _ _ l, h => by simp only [sh]; rw [shs_free (by simpa [free] using h)]
  | .agg l, h => by simp only [sh]; rw [shs_free (by simpa [free] using h)]
  | .tup l, h => by simp only [sh]; rw [shs_free (by simpa [free] using h)]
  | .fn _ l, h => by simp only [sh]; rw [shs_free (by simpa [free] using h)]
  | .fnb _ l, h => by simp only [sh]; rw [shs_free (by simpa [free] using h)]
  | .frn _, _ => by simp only [sh]
  | .omp _ _ _, _ => by simp only [sh]
  | .mp _, _ => by simp only [sh]
  | .fmp _ _, _ => by simp only [sh]
theorem shs_free {n : Nat} : ∀ {l : List AV}, free.frees l = true → shs n l = l
  | [], _ => by simp only [shs]
  | a :: l, h => by
    simp only [free.frees, Bool.and_eq_true] at h
    simp only [shs]; rw [sh_free h.1, shs_free h.2]
end
theorem a_copied {h : Hp} (r : Rcd) (hr : smallR r) : ACalls Try.prog 51 [vR r] h (fun a h' => a = .agg [.int .i64 r.boot, .hs h.length r.objs.length] ∧ h' = h ++ [some (false, objsC r.objs)]) := by
 refine (ACalls.shift (by simp [free.frees, free_vR]) (a_copied0 r hr) h).mono ?_
 rintro a h' ⟨a0, h0, ⟨rfl, rfl⟩, rfl, rfl⟩
 refine ⟨by simp [sh, shs], ?_⟩
 simp [shH, shs_free (frees_objsC r.objs)]
theorem drop_at {A B : List AV} {n k : Nat} (hn : A.length = n) (x : List AV) : (A ++ (x ++ B)).drop (n + k) = (x ++ B).drop k := by
 subst hn
 rw [← List.drop_drop, List.drop_left]
theorem set_at {A B : List AV} {n k : Nat} (hn : A.length = n) (x : List AV) (y : AV) : (A ++ (x ++ B)).set (n + k) y = A ++ (x ++ B).set k y := by
 subst hn
 rw [List.set_append_right _ _ (by omega), show A.length + k - A.length = k by omega]
theorem frees_app : ∀ a b : List AV, free.frees (a ++ b) = (free.frees a && free.frees b)
 | [], b => by simp [free.frees]
 | x :: a, b => by simp [free.frees, frees_app a b, Bool.and_assoc]
def turnE (o : Obt) (e : Int) : Int := if 4611686018427387904 ≤ o.version then 5 else e
theorem a_turn {h : Hp} {id off : Nat} {A B : List AV} {o : Obt} {fB : FuncId} {e : Int} {l' : List Ent} (x : Ent) (ho : h[id]? = some (some (false, A ++ (oC o ++ B)))) (hA : A.length = off) (hs : smallO o) (hs' : l'.length ≤ 1001 ∧ ∀ y ∈ l', smallE y) (hnew : newE [] o.ents = 0) (hver : 0 ≤ o.version)
  (hfA : free.frees A = true) (hfB : free.frees B = true)
  (hno : e ≠ 0 → ∀ (h' : Hp) id' f, okF f → h'[id']? = some (lObj f o.ents 0) → ACalls Try.prog fB [.ptr id' 0, vE x] h' (fun a h'' => a = .int .i64 e ∧ h' = h''))
  (hok : e = 0 → ∀ (h' : Hp) id' f, okF f → h'[id']? = some (lObj f o.ents 0) → ACalls Try.prog fB [.ptr id' 0, vE x] h' (fun a h'' => a = .int .i64 0 ∧ h'' = h'.set id' (lObj (.own 58) l' (0 + 1)))) :
  ACalls Try.prog 52 [.ptr id off, vE x, .fn fB []] h (fun a h' => a = .int .i64 (turnE o e) ∧ h' = if turnE o e = 0 then h.set id (some (false, A ++ (oC ⟨o.value, l', o.version + 1⟩ ++ B))) else h) := by
 have hid : id < h.length := hlt_of ho
 have ho' : (h ++ [some (false, eC x)])[id]? = some (some (false, A ++ (oC o ++ B))) := hold _ ho
 have d2 : (A ++ (oC o ++ B)).drop (off + 2) = .int .i64 o.version :: B := by rw [drop_at hA]; rfl
 have d1 : (A ++ (oC o ++ B)).drop (off + 1) = .lst .ro o.ents.length (entsC o.ents) :: .int .i64 o.version :: B := by rw [drop_at hA]; rfl
 refine ACalls.trim (acalls_of mixed J_record_turn_ok (Nat.le_of_ble_eq_true rfl) ?_); simp only [J_record_turn, vE]
 simp only [eC] at ho'
 simp only [eC, ho', d2, wk,Nat.reduceEqDiff,Nat.reduceAdd,reduceCtorEq,↓reduceIte]
 refine ⟨fun hv => ?_, fun hv => ?_⟩
 ·have e5 : turnE o e = 5 := by unfold turnE; rw [if_pos hv]
  rw [e5]
  exact ⟨h, _, rfl, Nat.le_refl _, by simp [low], fun _ s _ hl => .inl ⟨s, hl⟩, rfl, by simp⟩
 ·have e6 : turnE o e = e := by unfold turnE; rw [if_neg hv]
  rw [e6]
  simp only [d1, wk,↓reduceIte]
  refine ACalls.use (a_new o.ents (by have := hs.1; omega) hs.2) ?_
  rintro a h2 hp
  unfold NewPost at hp
  rw [if_pos hnew] at hp
  obtain ⟨f, hf, rfl, rfl⟩ := hp
  simp only [wk,ne_eq,eq_self,Nat.reduceEqDiff,reduceCtorEq,↓reduceIte]
  obtain ⟨bx, hbx⟩ : ∃ bx : List AV, bx = [.int .i64 x.op, .lst .ro x.who.length (x.who.map .str)] := ⟨_, rfl⟩
  rw [← hbx]
  have g1 : ∀ lo : Option (Bool × List AV), h ++ [some (false, bx)] ++ [lo] = h ++ [some (false, bx), lo] := fun lo => by simp
  have g2 : (h ++ [some (false, bx)]).length = h.length + 1 := by simp
  have g3 : ∀ lo, (h ++ [some (false, bx), lo])[h.length]? = some (some (false, bx)) := fun lo => by simp
  have g4 : ∀ lo, (h ++ [some (false, bx), lo])[h.length + 1]? = some lo := fun lo => by simp
  have g5 : ∀ lo lo', (h ++ [some (false, bx), lo]).set (h.length + 1) lo' = h ++ [some (false, bx), lo'] := fun lo lo' => by
   rw [List.set_append_right _ _ (by omega), show h.length + 1 - h.length = 1 by omega]; rfl
  have g6 : ∀ ex, (h ++ ex)[id]? = some (some (false, A ++ (oC o ++ B))) := fun ex => by rw [List.getElem?_append_left hid]; exact ho
  have g7 : ∀ ex y, (h ++ ex).set id y = h.set id y ++ ex := fun ex y => List.set_append_left _ _ hid
  have g8 : ∀ ex y, (h.set id y ++ ex)[id]? = some y := fun ex y => by rw [List.getElem?_append_left (by simpa using hid), List.getElem?_set_self hid]
  have g9 : ∀ ex y z, (h.set id y ++ ex).set id z = h.set id z ++ ex := fun ex y z => by rw [List.set_append_left _ _ (by simpa using hid), List.set_set]
  simp only [g1, g2, g3]
  rw [hbx]
  simp only [wk,Nat.reduceAdd,Nat.reduceLeDiff]
  rw [← hbx]
  by_cases he : e = 0
  ·have q1 := hok he (h ++ [some (false, bx), lObj f o.ents 0]) (h.length + 1) f hf (g4 _)
   rw [g5] at q1
   simp only [vE, eC, ← hbx] at q1
   refine ACalls.use (q1) ?_; rintro _ _ ⟨rfl, rfl⟩; simp only [wk,ne_eq,eq_self,Nat.reduceEqDiff,Int.reduceAdd,reduceCtorEq,↓reduceIte]
   have q2 := a_all (h := h ++ [some (false, bx), lObj (.own 58) l' (0 + 1)]) (id := h.length + 1) (.inr rfl) (g4 _) (by omega) hs'.2
   refine ACalls.use (q2) ?_; rintro _ _ ⟨rfl, rfl⟩; simp only [wk,Int.reduceAdd,↓reduceIte]
   refine PCalls.use (p_entries l' (by omega) hs'.2) ?_; simp only [wk,Nat.reduceEqDiff,reduceCtorEq,↓reduceIte]
   simp only [g6, g7, g8]
   have s1 : (A ++ (oC o ++ B)).set (off + 1) (.lst .ro l'.length (entsC l')) = A ++ (oC ⟨o.value, l', o.version⟩ ++ B) := by rw [set_at hA]; rfl
   have s2 : (A ++ (oC ⟨o.value, l', o.version⟩ ++ B)).set (off + 2) (.int .i64 (o.version + 1)) = A ++ (oC ⟨o.value, l', o.version + 1⟩ ++ B) := by rw [set_at hA]; rfl
   have d3 : (A ++ (oC ⟨o.value, l', o.version⟩ ++ B)).drop (off + 2) = .int .i64 o.version :: B := by rw [drop_at hA]; rfl
   have len1 : (A ++ (oC o ++ B)).length = off + (3 + B.length) := by simp [hA, oC]; omega
   have len2 : (A ++ (oC ⟨o.value, l', o.version⟩ ++ B)).length = off + (3 + B.length) := by simp [hA, oC]; omega
   rw [s1]
   refine ⟨by omega, ?_⟩
   simp only [d3, g8, g9, wk,Nat.reduceEqDiff,↓reduceIte]
   refine ⟨inR_of (by omega) (by omega), by omega, ?_⟩
   rw [s2, he, if_pos rfl]
   obtain ⟨h2, ex', k1, k2, k3, k4, k5⟩ := trimS (h := h) (ex := [some (false, bx), lObj (.own 58) l' 1]) (a := .int .i64 0) (id := id) (s := false) (l := A ++ (oC ⟨o.value, l', o.version + 1⟩ ++ B)) rfl (by rw [frees_app, frees_app, hfA, hfB]; simp [oC, free.frees, free, frees_entsC])
   exact ⟨h2, ex', k1, k2, k3, k4, rfl, k5⟩
  ·have q1 := hno he (h ++ [some (false, bx), lObj f o.ents 0]) (h.length + 1) f hf (g4 _)
   simp only [vE, eC, ← hbx] at q1
   refine ACalls.use (q1) ?_; rintro _ _ ⟨rfl, rfl⟩; simp only [wk,ne_eq,eq_self,Nat.reduceEqDiff,reduceCtorEq,↓reduceIte]
   refine ⟨fun _ => ⟨h, _, rfl, Nat.le_refl _, by simp [low], fun _ s _ hl => .inl ⟨s, hl⟩, by rw [if_neg he]⟩, fun e' => absurd e' he⟩
end Go.Proofs.Ytpiofcjkekpboaa
namespace Go.Proofs.Ytpiofcjkekpboaa
open Go.RowKit
def F_record_entries : AFn :=
 ⟨27,[.t 2],Zq [Zo 2 (.mv (.c (.lst .clip 0 [])))] (.keep [0] (Zq [Zm 6 0,Zo 7 (.lenl (.t 6)),Zo 8 (.mkn 58 2 32 [(.int .i64 0),(.lst .clip 0 [])] (.t 7)),Zm 3 8] (.keep [0,3] (.seq (Zq [Zm 9 0,Zo 10 (.lenl (.t 9)),Zo 11 (.mv (Zi 0))] (.keep [3,9,10,11] (.block 0 (.loop [3,9,10,11] (Zq [Zo 12 (.bin .lss (.t 11) (.t 10))] (.keep [3,9,10,11,12] (.seq (.cond (.t 12)
 .skip
 (.exit 0)) (.keep [3,9,10,11] (.seq (.block 1 (Zq [Zm 13 11,Zo 14 (.idxa 2 (.t 9) (.t 11)),Zo 15 (.load (some 2) (.t 14)),Zo 5 (.new [(.int .i64 0),(.lst .clip 0 [])] []),Zm 4 13,⟨none,none,.stores 2 (.t 5) (.t 15),none⟩] (.keep [3,4,5,9,10,11] (.draw [3,9,10,11] [Zm 16 3,Zm 17 4,Zo 18 (.fld 0 (.t 5)),
 Zo 19 (.lds none (.t 18)),Zo 20 (.fld 1 (.t 5)),Zo 21 (.lds none (.t 20)),Zo 22 (.apz 72 1 16 [(.str ⟨#[]⟩)] (.t 21)),Zo 23 (.build [(.int .i64 0),(.lst .clip 0 [])] [(0,1,(.t 19)),(1,1,(.t 22))]),Zo 24 (.idxa 2 (.t 16) (.t 17)),⟨none,none,.store 2 (.t 24) (.t 23),none⟩])))) (.keep [3,9,10,11] (.ops [Zo 25 (.bin .add (.t 11) (Zi 1)),Zm 11 25]))))))))))) (.keep [3] (Zq [Zm 26 3,Zm 2 26]
 .ret))))))⟩
theorem F_record_entries_ok : chkFn Try.prog 92 F_record_entries = true := by kernel_rfl
end Go.Proofs.Ytpiofcjkekpboaa
/- record's entries, as objects. -/
namespace Go.Proofs.Ytpiofcjkekpboaa
open Go.RowKit Go.Lib

def whoV (k : Nat) (who : List ByteArray) : AV := if who.length = 0 then .lst .clip 0 [] else .hs k who.length
theorem deg_whoV (k : Nat) (who : List ByteArray) : deg (whoV k who) = whoV k who := by
 unfold whoV; split <;> rfl
theorem cellsOf_whoV (k : Nat) (who : List ByteArray) : cellsOf (whoV k who) = [whoV k who] := by
 unfold whoV; split <;> rfl
def entD : Nat → List Ent → List AV
 | _, [] => []
 | k, x :: l => .int .i64 x.op :: whoV (k + 1) x.who :: entD (k + 2) l
def heapD : List Ent → Hp
 | [] => []
 | x :: l => some (true, [.int .i64 x.op, .lst .ro x.who.length (x.who.map .str)]) :: (if x.who.length = 0 then none else some (false, x.who.map .str)) :: heapD l
theorem entD_app (x : Ent) : ∀ (l : List Ent) (k : Nat), entD k (l ++ [x]) = entD k l ++ [.int .i64 x.op, whoV (k + 2 * l.length + 1) x.who]
 | [], k => rfl
 | y :: l, k => by
  simp only [List.cons_append, entD, entD_app x l (k + 2), List.length_cons]
  rw [show k + 2 + 2 * l.length + 1 = k + 2 * (l.length + 1) + 1 by omega]
theorem heapD_app (x : Ent) : ∀ l : List Ent, heapD (l ++ [x]) = heapD l ++ [some (true, [.int .i64 x.op, .lst .ro x.who.length (x.who.map .str)]), if x.who.length = 0 then none else some (false, x.who.map .str)]
 | [] => rfl
 | y :: l => by simp only [List.cons_append, heapD, heapD_app x l]
theorem heapD_len : ∀ l : List Ent, (heapD l).length = 2 * l.length
 | [] => rfl
 | y :: l => by simp only [heapD, List.length_cons, heapD_len l]; omega
theorem entD_len : ∀ (l : List Ent) (k : Nat), (entD k l).length = l.length * 2
 | [], k => rfl
 | y :: l, k => by simp only [entD, List.length_cons, entD_len l]; omega
theorem a_entries0 (l : List Ent) (hl : l.length ≤ 1000000) (hs : ∀ x ∈ l, smallE x) : ACalls Try.prog 92 [.lst .ro l.length (entsC l)] [] (fun a h' => a = .hs 0 l.length ∧ h' = some (false, entD 1 l) :: heapD l) := by
 refine acalls_of mixed F_record_entries_ok (Nat.le_of_ble_eq_true rfl) ?_; simp only [F_record_entries, wk,Nat.reduceEqDiff,reduceCtorEq,↓reduceIte]
 refine ⟨⟨by omega, by omega, by omega⟩, ?_⟩
 refine W_loop (fun n fr h' => ∃ (i : Nat), i ≤ l.length ∧ n = l.length - i ∧ h' = some (false, entD 1 (l.take i) ++ zE (l.length - i)) :: heapD (l.take i) ∧ fr = [(3, .hs 0 l.length), (9, .lst .ro l.length (entsC l)), (10, .int .i64 l.length), (11, .int .i64 i)]) l.length ⟨0, by omega, by omega, ?_, rfl⟩ ?_
 ·rw [← zE_eq]; simp [entD, heapD]
 rintro n fr h' ⟨i, hi, rfl, rfl, rfl⟩
 simp only [wk,Nat.reduceEqDiff,Nat.reduceAdd,Nat.reduceLeDiff,↓reduceIte]
 refine ⟨fun hlt => ?_, fun hge => ?_⟩
 ·have hil : i < l.length := by omega
  have hd : (entsC l).drop ((i : Int).toNat * 2) = .int .i64 l[i].op :: .lst .ro l[i].who.length (l[i].who.map .str) :: (entsC l).drop ((i + 1) * 2) := by rw [show (i : Int).toNat = i by omega]; exact entsC_drop hil
  have hsz := (hs _ (List.getElem_mem hil)).1
  refine ⟨⟨by omega, by omega⟩, ?_⟩
  simp only [hd, wk,Nat.reduceEqDiff,Nat.reduceAdd,Nat.reduceLeDiff,↓reduceIte]
  have hA : (entD 1 (l.take i)).length = i * 2 := by rw [entD_len]; simp; omega
  have hz : zE (l.length - i) = .int .i64 0 :: .lst .clip 0 [] :: zE (l.length - (i + 1)) := by rw [show l.length - i = (l.length - (i + 1)) + 1 by omega]; rfl
  have hH : (heapD (l.take i)).length = 2 * i := by rw [heapD_len]; simp; omega
  have hL : (heapD (l.take i) ++ [some (true, [AV.int .i64 l[i].op, .lst .ro l[i].who.length (l[i].who.map .str)])]).length + 1 = 1 + 2 * i + 1 := by rw [List.length_append, hH]; simp; omega
  have hw : ∀ k, (if l[i].who.length = 0 then AV.lst .clip 0 [] else .hs k l[i].who.length) = whoV k l[i].who := fun _ => rfl
  rw [hL]
  simp only [hw, deg_whoV, cellsOf_whoV]
  have e1 : entD 1 (l.take (i + 1)) = entD 1 (l.take i) ++ [.int .i64 l[i].op, whoV (1 + 2 * i + 1) l[i].who] := by
   rw [List.take_succ_eq_append_getElem hil, entD_app, List.length_take, Nat.min_eq_left hi]
  have e2 : heapD (l.take (i + 1)) = heapD (l.take i) ++ [some (true, [.int .i64 l[i].op, .lst .ro l[i].who.length (l[i].who.map .str)]), if l[i].who.length = 0 then none else some (false, l[i].who.map .str)] := by
   rw [List.take_succ_eq_append_getElem hil, heapD_app]
  refine ⟨⟨by simp, by omega, by omega⟩, ⟨?_, rfl⟩, ⟨by omega, by omega⟩, ⟨by simp [splice], by rw [List.length_append, hA, zE_len]; omega⟩, inR_of (by omega) (by omega), l.length - (i + 1), by omega, i + 1, by omega, rfl, ?_, by simp⟩
  ·unfold whoV; split <;> rfl
  rw [e1, e2, hz, show (i : Int).toNat = i by omega]
  have e3 := splice_two (entD 1 (l.take i)) (zE (l.length - (i + 1))) (.int .i64 0) (.lst .clip 0 []) (.int .i64 l[i].op) (whoV (1 + 2 * i + 1) l[i].who)
  rw [hA] at e3
  rw [show splice [AV.int .i64 l[i].op, .lst .clip 0 []] 1 [whoV (1 + 2 * i + 1) l[i].who] = [AV.int .i64 l[i].op, whoV (1 + 2 * i + 1) l[i].who] from rfl, e3]
  simp
 ·have : i = l.length := by omega
  subst this
  rw [List.take_length, Nat.sub_self]
  simp [zE]
theorem holds {h : Hp} {i : Nat} {x : Option (Bool × List AV)} (ex : Hp) (hx : h[i]? = some x) : (h ++ ex)[i]? = some x := by
 rw [List.getElem?_append_left (hlt_of hx)]; exact hx
def DEnts (k : Nat) (h : Hp) (v : AV) (l : List Ent) : Prop := ∃ id j, k ≤ id ∧ k ≤ j ∧ v = .hs id l.length ∧ h[id]? = some (some (false, entD j l)) ∧ ∀ i (hi : i < l.length), l[i].who.length ≠ 0 → h[j + 2 * i + 1]? = some (some (false, l[i].who.map .str))
theorem DEnts.app {k : Nat} {h : Hp} {v : AV} {l : List Ent} (hd : DEnts k h v l) (ex : Hp) : DEnts k (h ++ ex) v l := by
 obtain ⟨id, j, h1, h2, h3, h4, h5⟩ := hd
 exact ⟨id, j, h1, h2, h3, holds ex h4, fun i hi hw => holds ex (h5 i hi hw)⟩
theorem DEnts.set {k : Nat} {h : Hp} {v : AV} {l : List Ent} (hd : DEnts k h v l) {m : Nat} (hm : m < k) (x : Option (Bool × List AV)) : DEnts k (h.set m x) v l := by
 obtain ⟨id, j, h1, h2, h3, h4, h5⟩ := hd
 exact ⟨id, j, h1, h2, h3, by rw [List.getElem?_set_ne (by omega)]; exact h4, fun i hi hw => by rw [List.getElem?_set_ne (by omega)]; exact h5 i hi hw⟩
theorem DEnts.mono {k k' : Nat} {h : Hp} {v : AV} {l : List Ent} (hd : DEnts k h v l) (hk : k' ≤ k) : DEnts k' h v l := by
 obtain ⟨id, j, h1, h2, h3, h4, h5⟩ := hd
 exact ⟨id, j, by omega, by omega, h3, h4, h5⟩
theorem heapD_get : ∀ (l : List Ent) (i : Nat) (hi : i < l.length), l[i].who.length ≠ 0 → (heapD l)[2 * i + 1]? = some (some (false, l[i].who.map .str))
 | x :: l, 0, hi, hw => by
  have hw' : ¬ x.who.length = 0 := hw
  simp only [heapD, if_neg hw']
  rfl
 | x :: l, i + 1, hi, hw => by
  have := heapD_get l i (by simpa using hi) (by simpa using hw)
  simp only [heapD]
  rw [show 2 * (i + 1) + 1 = 2 * i + 1 + 1 + 1 by omega, List.getElem?_cons_succ, List.getElem?_cons_succ]
  simpa using this
theorem sh_whoV (n k : Nat) (who : List ByteArray) : sh n (whoV k who) = whoV (n + k) who := by
 unfold whoV; split <;> simp [sh, shs, Nat.add_comm]
theorem shs_entD (n : Nat) : ∀ (l : List Ent) (k : Nat), shs n (entD k l) = entD (n + k) l
 | [], k => by simp [entD, shs]
 | x :: l, k => by simp only [entD, shs, sh_whoV, shs_entD n l, sh]; rfl
theorem frees_strs (l : List ByteArray) : free.frees (l.map .str) = true := by
 induction l with
 | nil => rfl
 | cons x l ih => simp only [List.map_cons, free.frees, free, ih]; rfl
theorem a_entriesD {h : Hp} (l : List Ent) (hl : l.length ≤ 1000000) (hs : ∀ x ∈ l, smallE x) : ACalls Try.prog 92 [.lst .ro l.length (entsC l)] h (fun a h' => ∃ ex, h' = h ++ ex ∧ DEnts h.length h' a l) := by
 refine (ACalls.shift (by simp [free.frees, free, frees_entsC]) (a_entries0 l hl hs) h).mono ?_
 rintro a h' ⟨a0, h0, ⟨rfl, rfl⟩, rfl, rfl⟩
 refine ⟨_, rfl, h.length, h.length + 1, by omega, by omega, by simp [sh], ?_, fun i hi hw => ?_⟩
 ·rw [List.getElem?_append_right (by omega), Nat.sub_self]
  simp [shH, shs_entD]
 ·have hg := heapD_get l i hi hw
  rw [List.getElem?_append_right (by omega), show h.length + 1 + 2 * i + 1 - h.length = 2 * i + 1 + 1 by omega]
  simp only [shH, List.map_cons, List.getElem?_cons_succ, List.getElem?_map, hg, Option.map_some]
  rw [shs_free (frees_strs _)]
def EV (d : Bool) (k : Nat) (h : Hp) (v : AV) (l : List Ent) : Prop := match d with
 | true => DEnts k h v l
 | false => v = .lst .ro l.length (entsC l)
theorem EV.app {d : Bool} {k : Nat} {h : Hp} {v : AV} {l : List Ent} (hd : EV d k h v l) (ex : Hp) : EV d k (h ++ ex) v l := by
 cases d
 ·exact hd
 ·exact DEnts.app hd ex
theorem EV.set {d : Bool} {k : Nat} {h : Hp} {v : AV} {l : List Ent} (hd : EV d k h v l) {m : Nat} (hm : m < k) (x : Option (Bool × List AV)) : EV d k (h.set m x) v l := by
 cases d
 ·exact hd
 ·exact DEnts.set hd hm x
theorem EV.mono {d : Bool} {k k' : Nat} {h : Hp} {v : AV} {l : List Ent} (hd : EV d k h v l) (hk : k' ≤ k) : EV d k' h v l := by
 cases d
 ·exact hd
 ·exact DEnts.mono hd hk
theorem EV.val {d : Bool} {k : Nat} {h : Hp} {v : AV} {l : List Ent} (hd : EV d k h v l) : (∃ id, v = .hs id l.length) ∨ v = .lst .ro l.length (entsC l) := by
 cases d
 ·exact .inr hd
 ·obtain ⟨id, j, h1, h2, h3, _⟩ := hd; exact .inl ⟨id, h3⟩
theorem a_entriesB {h : Hp} (d : Bool) (l : List Ent) (hl : l.length ≤ 1000000) (hs : ∀ x ∈ l, smallE x) : ACalls Try.prog 92 [.lst .ro l.length (entsC l)] h (fun a h' => ∃ ex, h' = h ++ ex ∧ EV d h.length h' a l) := by
 cases d with
 | true => exact a_entriesD l hl hs
 | false =>
  refine ((p_entries l hl hs).acalls h).mono ?_
  rintro a h' ⟨rfl, rfl⟩
  exact ⟨[], by simp, rfl⟩
def objsV : List Obt → List AV → List AV
 | o :: l, v :: vs => .int .i64 o.value :: v :: .int .i64 o.version :: objsV l vs
 | _, _ => []
theorem objsV_app (o : Obt) (v : AV) : ∀ (l : List Obt) (vs : List AV), vs.length = l.length → objsV (l ++ [o]) (vs ++ [v]) = objsV l vs ++ [.int .i64 o.value, v, .int .i64 o.version]
 | [], [], _ => rfl
 | x :: l, w :: vs, h => by
  simp only [List.cons_append, objsV]
  rw [objsV_app o v l vs (by simpa using h)]
 | [], _ :: _, h => by simp at h
 | _ :: _, [], h => by simp at h
theorem objsV_len : ∀ (l : List Obt) (vs : List AV), vs.length = l.length → (objsV l vs).length = l.length * 3
 | [], [], _ => rfl
 | x :: l, w :: vs, h => by
  simp only [objsV, List.length_cons]
  rw [objsV_len l vs (by simpa using h)]
  omega
 | [], _ :: _, h => by simp at h
 | _ :: _, [], h => by simp at h
theorem shs_objsV (n : Nat) : ∀ (l : List Obt) (vs : List AV), shs n (objsV l vs) = objsV l (shs n vs)
 | [], _ => by simp [objsV, shs]
 | _ :: _, [] => by simp [objsV, shs]
 | x :: l, w :: vs => by simp only [objsV, shs, shs_objsV n l vs, sh]
theorem objsV_drop : ∀ {l : List Obt} {vs : List AV} {i : Nat} (h : vs.length = l.length) (hi : i < l.length), (objsV l vs).drop (i * 3) = .int .i64 l[i].value :: vs[i] :: .int .i64 l[i].version :: (objsV l vs).drop ((i + 1) * 3)
 | x :: l, w :: vs, 0, h, hi => by simp [objsV]
 | x :: l, w :: vs, i + 1, h, hi => by
  have := objsV_drop (i := i) (l := l) (vs := vs) (by simpa using h) (by simpa using hi)
  rw [show (i + 1) * 3 = i * 3 + 1 + 1 + 1 by omega, show (i + 1 + 1) * 3 = (i + 1) * 3 + 1 + 1 + 1 by omega]
  simp only [objsV, List.drop_succ_cons, this, List.getElem_cons_succ]
 | [], _, i, h, hi => by simp at hi
 | x :: l, [], i, h, hi => by simp at h
theorem EV.sh {d : Bool} {k : Nat} {h : Hp} {v : AV} {l : List Ent} (hd : EV d k h v l) (h0 : Hp) : EV d (h0.length + k) (h0 ++ shH h0.length h) (sh h0.length v) l := by
 cases d
 ·have hv : v = .lst .ro l.length (entsC l) := hd
  subst hv
  show Go.Proofs.Ytpiofcjkekpboaa.sh h0.length (AV.lst .ro l.length (entsC l)) = _
  simp only [Go.Proofs.Ytpiofcjkekpboaa.sh, shs_free (frees_entsC l)]
 ·obtain ⟨id, j, h1, h2, rfl, h4, h5⟩ := hd
  refine ⟨h0.length + id, h0.length + j, by omega, by omega, by simp [Go.Proofs.Ytpiofcjkekpboaa.sh, Nat.add_comm], ?_, fun i hi hw => ?_⟩
  ·rw [List.getElem?_append_right (by omega), Nat.add_sub_cancel_left]
   simp [shH, h4, shs_entD]
  ·have := h5 i hi hw
   rw [List.getElem?_append_right (by omega), show h0.length + j + 2 * i + 1 - h0.length = j + 2 * i + 1 by omega]
   simp only [shH, List.getElem?_map, this, Option.map_some, shs_free (frees_strs _)]
theorem a_copiedD0 (d : Nat → Bool) (r : Rcd) (h : smallR r) : ACalls Try.prog 51 [vR r] [] (fun a h' => ∃ vs : List AV, a = .agg [.int .i64 r.boot, .hs 2 r.objs.length] ∧ h'[2]? = some (some (false, objsV r.objs vs)) ∧ vs.length = r.objs.length ∧ ∀ i (hi : i < r.objs.length) v, vs[i]? = some v → EV (d i) 3 h' v r.objs[i].ents) := by
 refine acalls_of mixed J_record_copied_ok (Nat.le_of_ble_eq_true rfl) ?_; simp only [J_record_copied, vR, rC, wk,Nat.reduceEqDiff,Nat.reduceAdd,Nat.reduceSub,Nat.reduceLeDiff,Nat.reduceLT,↓reduceIte]
 have hlen := h.1
 refine ⟨⟨by omega, by omega, by omega⟩, ?_⟩
 rw [Int.toNat_natCast, zO_eq]
 refine W_loop (fun n fr h' => ∃ (i : Nat) (vs : List AV) (ex : Hp), i ≤ r.objs.length ∧ n = r.objs.length - i ∧ vs.length = i ∧ h' = some (false, [.int .i64 r.boot, .lst .ro r.objs.length (objsC r.objs)]) :: some (false, [.int .i64 0, .lst (.own 71) 0 []]) :: some (false, objsV (r.objs.take i) vs ++ zO (r.objs.length - i)) :: some (true, [.int .i64 r.boot, .hs 2 r.objs.length]) :: ex ∧ (∀ k (hk : k < r.objs.length) v, vs[k]? = some v → EV (d k) 3 h' v r.objs[k].ents) ∧ fr = [(2, .ptr 1 0), (3, .ptr 3 0), (14, .lst .ro r.objs.length (objsC r.objs)), (15, .int .i64 r.objs.length), (16, .int .i64 i)]) r.objs.length ⟨0, [], [], by omega, by omega, rfl, rfl, fun k hk v hv => by simp at hv, rfl⟩ ?_
 rintro n fr h' ⟨i, vs, ex, hi, rfl, hvl, rfl, hev, rfl⟩
 simp only [J_record_copied_j2, wk,Nat.reduceEqDiff,Nat.reduceAdd,Nat.reduceLeDiff,↓reduceIte]
 refine ⟨fun hlt => ?_, fun hge => ?_⟩
 ·have hil : i < r.objs.length := by omega
  have hd : (objsC r.objs).drop ((i : Int).toNat * 3) = .int .i64 r.objs[i].value :: .lst .ro r.objs[i].ents.length (entsC r.objs[i].ents) :: .int .i64 r.objs[i].version :: (objsC r.objs).drop ((i + 1) * 3) := by rw [show (i : Int).toNat = i by omega]; exact objsC_drop hil
  have hsm := h.2 _ (List.getElem_mem hil)
  refine ⟨⟨by omega, by omega⟩, ?_⟩
  simp only [hd, wk,Nat.reduceAdd,Nat.reduceLeDiff,↓reduceIte]
  refine ACalls.use (a_entriesB (d i) r.objs[i].ents (by have := hsm.1; omega) hsm.2) ?_
  rintro a h2 ⟨ex', rfl, he⟩
  have hz : zO (r.objs.length - i) = .int .i64 0 :: .lst .clip 0 [] :: .int .i64 0 :: zO (r.objs.length - (i + 1)) := by rw [show r.objs.length - i = (r.objs.length - (i + 1)) + 1 by omega]; rfl
  have m1 : ∀ x : Option (Bool × List AV), (ex ++ [x] ++ ex')[ex.length]? = some x := fun x => by simp
  have m2 : ∀ x y : Option (Bool × List AV), (ex ++ [x] ++ ex').set ex.length y = ex ++ [y] ++ ex' := fun x y => by
   rw [List.append_assoc, List.set_append_right _ _ (Nat.le_refl _), Nat.sub_self]; simp
  have htl : (r.objs.take i).length = i := by simp; omega
  have hA : (objsV (r.objs.take i) vs).length = i * 3 := by rw [objsV_len _ _ (by omega)]; omega
  have hst : ∀ V : AV, (((objsV (r.objs.take i) vs ++ zO (r.objs.length - i)).set ((i : Int).toNat * 3) (.int .i64 r.objs[i].value)).set ((i : Int).toNat * 3 + 1) V).set ((i : Int).toNat * 3 + 1 + 1) (.int .i64 r.objs[i].version) = objsV (r.objs.take (i + 1)) (vs ++ [V]) ++ zO (r.objs.length - (i + 1)) := fun V => by
   rw [show (i : Int).toNat = i by omega, hz, set_three hA, List.take_succ_eq_append_getElem hil, objsV_app _ _ _ _ (by omega), List.append_assoc]
   rfl
  have hfin : ∀ (V : AV) (X : List AV) (Y : Option (Bool × List AV)), EV (d i) (some (false, [AV.int .i64 r.boot, .lst .ro r.objs.length (objsC r.objs)]) :: some (false, [AV.int .i64 0, .lst (.own 71) 0 []]) :: some (false, objsV (r.objs.take i) vs ++ zO (r.objs.length - i)) :: some (true, [AV.int .i64 r.boot, .hs 2 r.objs.length]) :: (ex ++ [some (false, [AV.int .i64 r.objs[i].value, .lst .ro r.objs[i].ents.length (entsC r.objs[i].ents), .int .i64 r.objs[i].version])])).length (some (false, [AV.int .i64 r.boot, .lst .ro r.objs.length (objsC r.objs)]) :: some (false, [AV.int .i64 0, .lst (.own 71) 0 []]) :: some (false, objsV (r.objs.take i) vs ++ zO (r.objs.length - i)) :: some (true, [AV.int .i64 r.boot, .hs 2 r.objs.length]) :: (ex ++ [some (false, [AV.int .i64 r.objs[i].value, .lst .ro r.objs[i].ents.length (entsC r.objs[i].ents), .int .i64 r.objs[i].version])]) ++ ex') V r.objs[i].ents →
    ∀ k (hk : k < r.objs.length) v, (vs ++ [V])[k]? = some v → EV (d k) 3 (some (false, [AV.int .i64 r.boot, .lst .ro r.objs.length (objsC r.objs)]) :: some (false, [AV.int .i64 0, .lst (.own 71) 0 []]) :: some (false, X) :: some (true, [AV.int .i64 r.boot, .hs 2 r.objs.length]) :: (ex ++ [Y] ++ ex')) v r.objs[k].ents := by
   intro V X Y hV k hk v hv
   by_cases hki : k < i
   ·rw [List.getElem?_append_left (by omega)] at hv
    have := ((hev k hk v hv).set (m := 2) (by omega) (some (false, X))).app ([Y] ++ ex')
    simpa using this
   ·have hki' : k = i := by
     have := (List.getElem?_eq_some_iff.1 hv).1
     simp at this; omega
    subst hki'
    rw [List.getElem?_append_right (by omega), show k - vs.length = 0 by omega] at hv
    obtain rfl : V = v := by simpa using hv
    have h1 := hV.set (m := 2) (by simp) (some (false, X))
    have h2 := h1.set (m := 4 + ex.length) (by simp; omega) Y
    have h3 := h2.mono (k' := 3) (by simp)
    have e : ((some (false, [AV.int .i64 r.boot, .lst .ro r.objs.length (objsC r.objs)]) :: some (false, [AV.int .i64 0, .lst (.own 71) 0 []]) :: some (false, objsV (r.objs.take k) vs ++ zO (r.objs.length - k)) :: some (true, [AV.int .i64 r.boot, .hs 2 r.objs.length]) :: (ex ++ [some (false, [AV.int .i64 r.objs[k].value, .lst .ro r.objs[k].ents.length (entsC r.objs[k].ents), .int .i64 r.objs[k].version])]) ++ ex').set 2 (some (false, X))).set (4 + ex.length) Y = some (false, [AV.int .i64 r.boot, .lst .ro r.objs.length (objsC r.objs)]) :: some (false, [AV.int .i64 0, .lst (.own 71) 0 []]) :: some (false, X) :: some (true, [AV.int .i64 r.boot, .hs 2 r.objs.length]) :: (ex ++ [Y] ++ ex') := by
     simp only [List.cons_append, List.set_cons_succ, List.set_cons_zero, show 4 + ex.length = ex.length + 1 + 1 + 1 + 1 by omega, m2]
    rw [e] at h3
    exact h3
  have hfit : (i : Int).toNat * 3 + 3 ≤ (objsV (r.objs.take i) vs ++ zO (r.objs.length - i)).length := by rw [List.length_append, hA, zO_len]; omega
  rcases he.val with ⟨id, rfl⟩ | rfl
  ·simp only [m1, m2, wk,Nat.reduceEqDiff,Nat.reduceAdd,Nat.reduceLeDiff,↓reduceIte]
   exact ⟨⟨by omega, by omega⟩, hfit, inR_of (by omega) (by omega), r.objs.length - (i + 1), by omega, i + 1, vs ++ [_], _, by omega, rfl, by simp [hvl], by rw [hst], hfin _ _ _ he, by simp⟩
  ·simp only [m1, m2, wk,Nat.reduceEqDiff,Nat.reduceAdd,Nat.reduceLeDiff,↓reduceIte]
   exact ⟨⟨by omega, by omega⟩, hfit, inR_of (by omega) (by omega), r.objs.length - (i + 1), by omega, i + 1, vs ++ [_], _, by omega, rfl, by simp [hvl], by rw [hst], hfin _ _ _ he, by simp⟩
 ·have : i = r.objs.length := by omega
  subst this
  simp only [J_record_copied_j1, valL, wk,Nat.reduceEqDiff,Nat.reduceAdd,Nat.reduceLeDiff,↓reduceIte]
  refine ⟨vs, ?_, hvl, fun k hk v hv => (hev k hk v hv).set (m := 1) (by omega) _⟩
  rw [List.take_length, Nat.sub_self]
  simp [zO]
theorem shs_length (n : Nat) : ∀ l : List AV, (shs n l).length = l.length
 | [] => by simp [shs]
 | a :: l => by simp [shs, shs_length n l]
theorem a_copiedD {h : Hp} (d : Nat → Bool) (r : Rcd) (hr : smallR r) : ACalls Try.prog 51 [vR r] h (fun a h' => ∃ (id : Nat) (vs : List AV) (ex : Hp), h' = h ++ ex ∧ h.length ≤ id ∧ a = .agg [.int .i64 r.boot, .hs id r.objs.length] ∧ h'[id]? = some (some (false, objsV r.objs vs)) ∧ vs.length = r.objs.length ∧ ∀ i (hi : i < r.objs.length) v, vs[i]? = some v → EV (d i) (id + 1) h' v r.objs[i].ents) := by
 refine (ACalls.shift (by simp [free.frees, free_vR]) (a_copiedD0 d r hr) h).mono ?_
 rintro a h' ⟨a0, h0, ⟨vs, rfl, h2, h3, h4⟩, rfl, rfl⟩
 refine ⟨h.length + 2, shs h.length vs, _, rfl, by omega, by simp [sh, shs, Nat.add_comm], ?_, by rw [shs_length, h3], fun i hi v hv => ?_⟩
 ·rw [List.getElem?_append_right (by omega), Nat.add_sub_cancel_left]
  simp [shH, h2, shs_objsV]
 ·rw [shs_get] at hv
  obtain ⟨v0, hv0, rfl⟩ := Option.map_eq_some_iff.1 hv
  exact (h4 i hi v0 hv0).sh h
def TurnD (h : Hp) (id : Nat) (A B : List AV) (o : Obt) (e : Int) (l' : List Ent) (a : AV) (h' : Hp) : Prop :=
 a = .int .i64 (turnE o e) ∧ if turnE o e = 0 then ∃ v ex, h' = h.set id (some (false, A ++ ([AV.int .i64 o.value, v, .int .i64 (o.version + 1)] ++ B))) ++ ex ∧ DEnts h.length h' v l' else ∃ ex, h' = h ++ ex
theorem a_turnD {h : Hp} {id off : Nat} {A B : List AV} {o : Obt} {fB : FuncId} {e : Int} {l' : List Ent} (x : Ent) (ho : h[id]? = some (some (false, A ++ (oC o ++ B)))) (hA : A.length = off) (hs : smallO o) (hs' : l'.length ≤ 1001 ∧ ∀ y ∈ l', smallE y) (hnew : newE [] o.ents = 0) (hver : 0 ≤ o.version)
  (hno : e ≠ 0 → ∀ (h' : Hp) id' f, okF f → h'[id']? = some (lObj f o.ents 0) → ACalls Try.prog fB [.ptr id' 0, vE x] h' (fun a h'' => a = .int .i64 e ∧ h' = h''))
  (hok : e = 0 → ∀ (h' : Hp) id' f, okF f → h'[id']? = some (lObj f o.ents 0) → ACalls Try.prog fB [.ptr id' 0, vE x] h' (fun a h'' => a = .int .i64 0 ∧ h'' = h'.set id' (lObj (.own 58) l' (0 + 1)))) :
  ACalls Try.prog 52 [.ptr id off, vE x, .fn fB []] h (TurnD h id A B o e l') := by
 have hid : id < h.length := hlt_of ho
 have ho' : (h ++ [some (false, eC x)])[id]? = some (some (false, A ++ (oC o ++ B))) := hold _ ho
 have d2 : (A ++ (oC o ++ B)).drop (off + 2) = .int .i64 o.version :: B := by rw [drop_at hA]; rfl
 have d1 : (A ++ (oC o ++ B)).drop (off + 1) = .lst .ro o.ents.length (entsC o.ents) :: .int .i64 o.version :: B := by rw [drop_at hA]; rfl
 refine acalls_of mixed J_record_turn_ok (Nat.le_of_ble_eq_true rfl) ?_; simp only [J_record_turn, vE]
 simp only [eC] at ho'
 simp only [eC, ho', d2, wk,Nat.reduceEqDiff,Nat.reduceAdd,reduceCtorEq,↓reduceIte]
 refine ⟨fun hv => ?_, fun hv => ?_⟩
 ·have e5 : turnE o e = 5 := by unfold turnE; rw [if_pos hv]
  exact ⟨by rw [e5], by rw [e5, if_neg (by decide)]; exact ⟨_, rfl⟩⟩
 ·have e6 : turnE o e = e := by unfold turnE; rw [if_neg hv]
  simp only [d1, wk,↓reduceIte]
  refine ACalls.use (a_new o.ents (by have := hs.1; omega) hs.2) ?_
  rintro a h2 hp
  unfold NewPost at hp
  rw [if_pos hnew] at hp
  obtain ⟨f, hf, rfl, rfl⟩ := hp
  simp only [wk,ne_eq,eq_self,Nat.reduceEqDiff,reduceCtorEq,↓reduceIte]
  obtain ⟨bx, hbx⟩ : ∃ bx : List AV, bx = [.int .i64 x.op, .lst .ro x.who.length (x.who.map .str)] := ⟨_, rfl⟩
  rw [← hbx]
  have g1 : ∀ lo : Option (Bool × List AV), h ++ [some (false, bx)] ++ [lo] = h ++ [some (false, bx), lo] := fun lo => by simp
  have g2 : (h ++ [some (false, bx)]).length = h.length + 1 := by simp
  have g3 : ∀ lo, (h ++ [some (false, bx), lo])[h.length]? = some (some (false, bx)) := fun lo => by simp
  have g4 : ∀ lo, (h ++ [some (false, bx), lo])[h.length + 1]? = some lo := fun lo => by simp
  have g5 : ∀ lo lo', (h ++ [some (false, bx), lo]).set (h.length + 1) lo' = h ++ [some (false, bx), lo'] := fun lo lo' => by
   rw [List.set_append_right _ _ (by omega), show h.length + 1 - h.length = 1 by omega]; rfl
  have g6 : ∀ ex, (h ++ ex)[id]? = some (some (false, A ++ (oC o ++ B))) := fun ex => by rw [List.getElem?_append_left hid]; exact ho
  have g7 : ∀ ex y, (h ++ ex).set id y = h.set id y ++ ex := fun ex y => List.set_append_left _ _ hid
  have g8 : ∀ ex y, (h.set id y ++ ex)[id]? = some y := fun ex y => by rw [List.getElem?_append_left (by simpa using hid), List.getElem?_set_self hid]
  have g9 : ∀ ex y z, (h.set id y ++ ex).set id z = h.set id z ++ ex := fun ex y z => by rw [List.set_append_left _ _ (by simpa using hid), List.set_set]
  simp only [g1, g2, g3]
  rw [hbx]
  simp only [wk,Nat.reduceAdd,Nat.reduceLeDiff]
  rw [← hbx]
  by_cases he : e = 0
  ·have q1 := hok he (h ++ [some (false, bx), lObj f o.ents 0]) (h.length + 1) f hf (g4 _)
   rw [g5] at q1
   simp only [vE, eC, ← hbx] at q1
   refine ACalls.use (q1) ?_; rintro _ _ ⟨rfl, rfl⟩; simp only [wk,ne_eq,eq_self,Nat.reduceEqDiff,Int.reduceAdd,reduceCtorEq,↓reduceIte]
   have q2 := a_all (h := h ++ [some (false, bx), lObj (.own 58) l' (0 + 1)]) (id := h.length + 1) (.inr rfl) (g4 _) (by omega) hs'.2
   refine ACalls.use (q2) ?_; rintro _ _ ⟨rfl, rfl⟩; simp only [wk,Int.reduceAdd,↓reduceIte]
   refine ACalls.use (a_entriesD l' (by omega) hs'.2) ?_
   rintro a h3 ⟨ex', rfl, hd⟩
   have hdv := hd
   obtain ⟨id', j, _, _, rfl, _, _⟩ := hdv
   rw [List.append_assoc] at hd ⊢
   simp only [g6, g7, g8, wk,Nat.reduceEqDiff,reduceCtorEq,↓reduceIte]
   have s1 : (A ++ (oC o ++ B)).set (off + 1) (.hs id' l'.length) = A ++ (AV.int .i64 o.value :: .hs id' l'.length :: .int .i64 o.version :: B) := by rw [set_at hA]; rfl
   have s2 : (A ++ (AV.int .i64 o.value :: .hs id' l'.length :: .int .i64 o.version :: B)).set (off + 2) (.int .i64 (o.version + 1)) = A ++ (AV.int .i64 o.value :: .hs id' l'.length :: .int .i64 (o.version + 1) :: B) := set_at hA [AV.int .i64 o.value, .hs id' l'.length, .int .i64 o.version] _
   have d3 : (A ++ (AV.int .i64 o.value :: .hs id' l'.length :: .int .i64 o.version :: B)).drop (off + 2) = .int .i64 o.version :: B := drop_at hA [AV.int .i64 o.value, .hs id' l'.length, .int .i64 o.version]
   have len1 : (A ++ (oC o ++ B)).length = off + (3 + B.length) := by simp [hA, oC]; omega
   have len2 : (A ++ (AV.int .i64 o.value :: .hs id' l'.length :: .int .i64 o.version :: B)).length = off + (3 + B.length) := by simp [hA]; omega
   rw [s1]
   refine ⟨by omega, ?_⟩
   simp only [d3, g8, g9, wk,Nat.reduceEqDiff,↓reduceIte]
   refine ⟨inR_of (by omega) (by omega), by omega, ?_⟩
   rw [s2]
   refine ⟨by rw [e6, he], ?_⟩
   rw [e6, he, if_pos rfl]
   refine ⟨_, _, rfl, ?_⟩
   have h9 := (hd.mono (k' := h.length) (by simp)).set hid (some (false, A ++ ([AV.int .i64 o.value, .hs id' l'.length, .int .i64 (o.version + 1)] ++ B)))
   rw [g7] at h9
   exact h9
  ·have q1 := hno he (h ++ [some (false, bx), lObj f o.ents 0]) (h.length + 1) f hf (g4 _)
   simp only [vE, eC, ← hbx] at q1
   refine ACalls.use (q1) ?_; rintro _ _ ⟨rfl, rfl⟩; simp only [wk,ne_eq,eq_self,Nat.reduceEqDiff,reduceCtorEq,↓reduceIte]
   refine ⟨fun _ => ⟨by rw [e6], by rw [e6, if_neg he]; exact ⟨_, rfl⟩⟩, fun e' => absurd e' he⟩
def stepO (o : Obt) (q : Rqs) : Int × Obt :=
 if q.op = 1 then (if 4611686018427387904 - q.arg < o.value then (5, o) else (0, ⟨o.value + q.arg, o.ents, o.version⟩))
 else if q.op = 2 then (turnE o (addE o.ents q.ent), ⟨o.value, o.ents ++ [q.ent], o.version + 1⟩)
 else if q.op = 3 then (turnE o (remE o.ents q.ent), ⟨o.value, without o.ents (idxE q.ent o.ents).toNat, o.version + 1⟩)
 else (0, o)
def doE (r : Rcd) (q : Rqs) : Int :=
 if mayR r = true ∧ asksE q = true then (if q.object < r.objs.length then (match r.objs[q.object.toNat]? with
  | some o => (stepO o q).1
  | none => 10) else 10) else 2
theorem objsC_split {l : List Obt} {k : Nat} (hk : k < l.length) : objsC l = objsC (l.take k) ++ (oC l[k] ++ objsC (l.drop (k + 1))) := by
 have h1 : l.take k ++ l[k] :: l.drop (k + 1) = l := by rw [← List.drop_eq_getElem_cons hk, List.take_append_drop]
 have h2 : objsC (l.take k ++ l[k] :: l.drop (k + 1)) = objsC (l.take k) ++ (oC l[k] ++ objsC (l.drop (k + 1))) := by unfold objsC; rw [List.flatMap_append, List.flatMap_cons]
 rw [h1] at h2
 exact h2
theorem objsC_set {l : List Obt} {k : Nat} (hk : k < l.length) (o : Obt) : objsC (l.set k o) = objsC (l.take k) ++ (oC o ++ objsC (l.drop (k + 1))) := by
 rw [List.set_eq_take_append_cons_drop, if_pos hk]
 simp [objsC]
def doR (r : Rcd) (q : Rqs) : Rcd := match r.objs[q.object.toNat]? with
 | some o => ⟨r.boot, r.objs.set q.object.toNat (stepO o q).2⟩
 | none => r
def doV (r : Rcd) (q : Rqs) : Int := match r.objs[q.object.toNat]? with
 | some o => (stepO o q).2.value
 | none => 0
def DoPost (r : Rcd) (q : Rqs) (a : AV) (h' : Hp) : Prop :=
 if doE r q = 0 then ∃ k, h'[k]? = some (some (false, objsC (doR r q).objs)) ∧ a = .tup [.agg [.int .i64 r.boot, .hs k r.objs.length], .int .i64 (doV r q), .int .i64 0]
 else a = .tup [.agg [.int .i64 0, .lst .clip 0 []], .int .i64 0, .int .i64 (doE r q)]
theorem a_do (r : Rcd) (q : Rqs) (hr : smallR r) (hq : smallE q.ent) : ACalls Try.prog 17 [vR r, vQ q] [] (DoPost r q) := by
 have m1 := p_rmay1 r hr
 have m2 := p_asks q hq
 simp only [vR, rC] at m1
 simp only [vQ, qC] at m2
 have no : ∀ (e : Int) (h' : Hp), doE r q = e → e ≠ 0 → DoPost r q (.tup [.agg [.int .i64 0, .lst .clip 0 []], .int .i64 0, .int .i64 e]) h' := fun e h' h1 h2 => by
  unfold DoPost; rw [h1, if_neg h2]
 have hlen := hr.1
 refine acalls_of mixed J_record_Do_ok (Nat.le_of_ble_eq_true rfl) ?_; simp only [J_record_Do, vR, rC, vQ, qC, wk,Nat.reduceEqDiff,Nat.reduceAdd,Nat.reduceLeDiff,↓reduceIte]
 refine PCalls.use (m1) ?_; simp only [wk,Nat.reduceEqDiff,Nat.reduceAdd,Nat.reduceLeDiff,↓reduceIte]
 refine ⟨fun e1 => ?_, fun e1 => ?_⟩
 ·refine PCalls.use (m2) ?_; simp only [wk,Nat.reduceEqDiff,Nat.reduceAdd,Nat.reduceLeDiff,↓reduceIte]
  refine ⟨fun e2 => ?_, fun e2 => ?_⟩
  ·simp only [valL, wk,Nat.reduceEqDiff,Nat.reduceAdd,Nat.reduceLeDiff,↓reduceIte]
   exact no 2 _ (by unfold doE; rw [if_neg (by simp [e2])]) (by decide)
  ·refine ⟨fun e3 => ?_, fun e3 => ?_⟩
   ·simp only [valL, wk,Nat.reduceEqDiff,Nat.reduceAdd,Nat.reduceLeDiff,↓reduceIte]
    exact no 10 _ (by unfold doE; rw [if_pos ⟨e1, e2⟩, if_neg (by omega)]) (by decide)
   ·have hob : 0 ≤ q.object := by
     unfold asksE at e2
     split at e2
     ·next h => exact h.1
     ·cases e2
    obtain ⟨k, hk⟩ : ∃ k : Nat, q.object = k := ⟨q.object.toNat, by omega⟩
    have hkl : k < r.objs.length := by omega
    have hkn : q.object.toNat = k := by omega
    have hget : r.objs[q.object.toNat]? = some r.objs[k] := by rw [hkn]; exact List.getElem?_eq_getElem hkl
    have hde : doE r q = (stepO r.objs[k] q).1 := by unfold doE; rw [if_pos ⟨e1, e2⟩, if_pos (by omega), hget]
    have hdr : (doR r q).objs = r.objs.set k (stepO r.objs[k] q).2 := by unfold doR; rw [hget, hkn]
    have hdv : doV r q = (stepO r.objs[k] q).2.value := by unfold doV; rw [hget]
    have hso := hr.2 _ (List.getElem_mem hkl)
    have hmo : mayO r.objs[k] = true := by
     simp only [mayR, Bool.and_eq_true, List.all_eq_true] at e1
     exact e1.2.2 _ (List.getElem_mem hkl)
    have q1 := a_copied (h := [some (false, [.int .i64 r.boot, .lst .ro r.objs.length (objsC r.objs)]), some (false, [.int .i64 q.object, .int .i64 q.op, .int .i64 q.arg, .int .i64 q.ent.op, .lst .ro q.ent.who.length (q.ent.who.map .str)]), some (false, [.int .i64 0, .lst (.own 71) 0 []])]) r hr
    simp only [vR, rC] at q1
    have hj : ∀ (e : Int) (os : List Obt) (fr : Fr), restr [4, 7, 8, 9] fr = [(4, .ptr 2 0), (7, .ptr 4 0), (8, .ptr 3 (k * 3)), (9, .int .i64 e)] → doE r q = e → (e = 0 → os = (doR r q).objs) →
      W Try.prog J_record_Do_j1 fr [some (false, [.int .i64 r.boot, .lst .ro r.objs.length (objsC r.objs)]), some (false, [.int .i64 q.object, .int .i64 q.op, .int .i64 q.arg, .int .i64 q.ent.op, .lst .ro q.ent.who.length (q.ent.who.map .str)]), some (false, [.int .i64 0, .lst (.own 71) 0 []]), some (false, objsC os), some (true, [.int .i64 r.boot, .hs 3 r.objs.length])] (kret [.c 4 (some 2), .t 5, .t 6] (DoPost r q)) := by
     intro e os fr hfr hde2 hos
     simp only [J_record_Do_j1, W_keep]
     rw [hfr]
     simp only [wk,ne_eq,eq_self,Nat.reduceEqDiff,Nat.reduceAdd,Nat.reduceLeDiff,↓reduceIte]
     refine ⟨fun he => ?_, fun he => ?_⟩
     ·simp only [valL, wk,Nat.reduceEqDiff,Nat.reduceAdd,Nat.reduceLeDiff,↓reduceIte]
      exact no e _ hde2 he
     ·have hos' := hos he
      rw [hos', hdr]
      have hl2 : k < (r.objs.set k (stepO r.objs[k] q).2).length := by simpa using hkl
      have hd : (objsC (r.objs.set k (stepO r.objs[k] q).2)).drop (k * 3) = .int .i64 (stepO r.objs[k] q).2.value :: .lst .ro (stepO r.objs[k] q).2.ents.length (entsC (stepO r.objs[k] q).2.ents) :: .int .i64 (stepO r.objs[k] q).2.version :: (objsC (r.objs.set k (stepO r.objs[k] q).2)).drop ((k + 1) * 3) := by
       have := objsC_drop hl2
       simpa using this
      simp only [hd, valL, wk,ne_eq,eq_self,Nat.reduceEqDiff,Nat.reduceAdd,Nat.reduceLeDiff,↓reduceIte]
      unfold DoPost
      rw [hde2, if_pos he]
      exact ⟨3, by rw [hdr]; rfl, by rw [hdv]⟩
    have hnums : numOk q.arg = true := by
     unfold asksE at e2
     split at e2
     ·next h => exact h.2.2
     ·cases e2
    simp only [mayO, Bool.and_eq_true, numOk, decide_eq_true_eq] at hmo
    simp only [numOk, decide_eq_true_eq] at hnums
    refine ACalls.use (q1) ?_; rintro _ _ ⟨rfl, rfl⟩; simp only [wk,Nat.reduceEqDiff,Nat.reduceAdd,Nat.reduceLeDiff,↓reduceIte]
    refine ⟨⟨by omega, by omega⟩, ?_⟩
    rw [hkn]
    have hds := objsC_split hkl
    have hA : (objsC (r.objs.take k)).length = k * 3 := by rw [objsC_len]; simp; omega
    have hd0 : (objsC r.objs).drop (k * 3) = .int .i64 r.objs[k].value :: .lst .ro r.objs[k].ents.length (entsC r.objs[k].ents) :: .int .i64 r.objs[k].version :: (objsC r.objs).drop ((k + 1) * 3) := objsC_drop hkl
    refine ⟨fun o1 => ?_, fun o1 => ⟨fun o2 => ?_, fun o2 => ⟨fun o3 => ?_, fun o3 => ?_⟩⟩⟩
    ·simp only [hd0, wk,Nat.reduceEqDiff,↓reduceIte]
     refine ⟨inR_of (by omega) (by omega), fun hb => hj 5 r.objs _ rfl (by rw [hde]; simp [stepO, o1, hb]) (fun h => absurd h (by decide)), fun hb => ⟨inR_of (by omega) (by omega), by rw [objsC_len]; omega, ?_⟩⟩
     have hset : (objsC r.objs).set (k * 3) (.int .i64 (r.objs[k].value + q.arg)) = objsC (r.objs.set k ⟨r.objs[k].value + q.arg, r.objs[k].ents, r.objs[k].version⟩) := by
      rw [hds, objsC_set hkl, show k * 3 = k * 3 + 0 by omega, set_at hA]; rfl
     rw [hset]
     exact hj 0 _ _ rfl (by rw [hde]; simp [stepO, o1, hb]) (fun _ => by rw [hdr]; simp [stepO, o1, hb])
    ·have qt := a_turn (h := [some (false, [.int .i64 r.boot, .lst .ro r.objs.length (objsC r.objs)]), some (false, [.int .i64 q.object, .int .i64 q.op, .int .i64 q.arg, .int .i64 q.ent.op, .lst .ro q.ent.who.length (q.ent.who.map .str)]), some (false, [.int .i64 0, .lst (.own 71) 0 []]), some (false, objsC r.objs), some (true, [.int .i64 r.boot, .hs 3 r.objs.length])]) (id := 3) (off := k * 3) (A := objsC (r.objs.take k)) (B := objsC (r.objs.drop (k + 1))) (o := r.objs[k]) (fB := 53) (e := addE r.objs[k].ents q.ent) (l' := r.objs[k].ents ++ [q.ent]) q.ent (by rw [← hds]; rfl) hA hso ⟨by have := hso.1; simp; omega, fun y hy => by rcases List.mem_append.1 hy with h | h; exact hso.2 y h; simp at h; subst h; exact hq⟩ hmo.2.2 (by omega) (frees_objsC _) (frees_objsC _)
      (fun he h' id' f hf ho => a_add_no q.ent hf ho hq (by have := hso.1; omega) he) (fun he h' id' f hf ho => a_add_ok q.ent hf ho hq (by have := hso.1; omega) (by omega) he)
     simp only [vE, eC, List.set_cons_succ, List.set_cons_zero] at qt
     refine ACalls.use (qt) ?_; rintro _ _ ⟨rfl, rfl⟩; simp only [wk,↓reduceIte]
     split
     ·next he =>
      rw [← objsC_set hkl]
      exact hj _ _ _ rfl (by rw [hde]; simp [stepO, o2]) (fun _ => by rw [hdr]; simp [stepO, o2])
     ·next he => exact hj _ r.objs _ rfl (by rw [hde]; simp [stepO, o2]) (fun h => absurd h he)
    ·have qt := a_turn (h := [some (false, [.int .i64 r.boot, .lst .ro r.objs.length (objsC r.objs)]), some (false, [.int .i64 q.object, .int .i64 q.op, .int .i64 q.arg, .int .i64 q.ent.op, .lst .ro q.ent.who.length (q.ent.who.map .str)]), some (false, [.int .i64 0, .lst (.own 71) 0 []]), some (false, objsC r.objs), some (true, [.int .i64 r.boot, .hs 3 r.objs.length])]) (id := 3) (off := k * 3) (A := objsC (r.objs.take k)) (B := objsC (r.objs.drop (k + 1))) (o := r.objs[k]) (fB := 54) (e := remE r.objs[k].ents q.ent) (l' := without r.objs[k].ents (idxE q.ent r.objs[k].ents).toNat) q.ent (by rw [← hds]; rfl) hA hso ⟨by have := hso.1; simp [without]; omega, fun y hy => by rcases List.mem_append.1 hy with h | h; exact hso.2 y (List.mem_of_mem_take h); exact hso.2 y (List.mem_of_mem_drop h)⟩ hmo.2.2 (by omega) (frees_objsC _) (frees_objsC _)
      (fun he h' id' f hf ho => a_rem_no q.ent hf ho hq (by have := hso.1; omega) he) (fun he h' id' f hf ho => a_rem_ok q.ent hf ho hq (by have := hso.1; omega) (by omega) he)
     simp only [vE, eC, List.set_cons_succ, List.set_cons_zero] at qt
     refine ACalls.use (qt) ?_; rintro _ _ ⟨rfl, rfl⟩; simp only [wk,↓reduceIte]
     split
     ·next he =>
      rw [← objsC_set hkl]
      exact hj _ _ _ rfl (by rw [hde]; simp [stepO, o3]) (fun _ => by rw [hdr]; simp [stepO, o3])
     ·next he => exact hj _ r.objs _ rfl (by rw [hde]; simp [stepO, o3]) (fun h => absurd h he)
    ·exact hj 0 r.objs _ rfl (by rw [hde]; simp [stepO, o1, o2, o3]) (fun _ => by rw [hdr]; simp [stepO, o1, o2, o3])
 ·simp only [valL, wk,Nat.reduceEqDiff,Nat.reduceAdd,Nat.reduceLeDiff,↓reduceIte]
  exact no 2 _ (by unfold doE; rw [if_neg (by simp [e1])]) (by decide)
theorem ltV {h : Hp} {i : Nat} {x : Option (Bool × List AV)} (hx : h[i]? = some x) : i < h.length := (List.getElem?_eq_some_iff.1 hx).1
theorem objsV_split : ∀ {l : List Obt} {vs : List AV} {k : Nat} (hv : vs.length = l.length) (hk : k < l.length), ∃ A B, A.length = k * 3 ∧ objsV l vs = A ++ ([AV.int .i64 l[k].value, vs[k], .int .i64 l[k].version] ++ B) ∧ ∀ (o' : Obt) (w : AV), objsV (l.set k o') (vs.set k w) = A ++ ([AV.int .i64 o'.value, w, .int .i64 o'.version] ++ B)
 | x :: l, w :: vs, 0, hv, hk => ⟨[], objsV l vs, rfl, rfl, fun o' w => rfl⟩
 | x :: l, w :: vs, k + 1, hv, hk => by
  obtain ⟨A, B, h1, h2, h3⟩ := objsV_split (l := l) (vs := vs) (k := k) (by simpa using hv) (by simpa using hk)
  refine ⟨.int .i64 x.value :: w :: .int .i64 x.version :: A, B, by simp only [List.length_cons]; omega, ?_, fun o' w' => ?_⟩
  ·simp only [objsV, h2, List.getElem_cons_succ, List.cons_append]
  ·simp only [List.set_cons_succ, objsV, h3, List.cons_append]
 | [], _, k, hv, hk => by simp at hk
 | x :: l, [], k, hv, hk => by simp at hv
theorem doR_len' (r : Rcd) (q : Rqs) : (doR r q).objs.length = r.objs.length := by
 unfold doR
 split <;> simp
structure DoT (G : Hp) (r : Rcd) (q : Rqs) (N id : Nat) (C : List AV) : Prop where
  g1 : G[1]? = some (some (false, [.int .i64 q.object, .int .i64 q.op, .int .i64 q.arg, .int .i64 q.ent.op, .lst .ro q.ent.who.length (q.ent.who.map .str)]))
  g2 : G[2]? = some (some (false, [.int .i64 0, .lst (.own 71) 0 []]))
  gi : G[id]? = some (some (false, C))
  gN : G[N]? = some (some (true, [.int .i64 r.boot, .hs id r.objs.length]))
  hi : 3 ≤ id
  hN : id < N
theorem DoT.setC {G : Hp} {r : Rcd} {q : Rqs} {N id : Nat} {C : List AV} (h : DoT G r q N id C) (C' : List AV) : DoT (G.set id (some (false, C'))) r q N id C' := by
 obtain ⟨g1, g2, gi, gN, hi, hN⟩ := h
 exact ⟨by rw [List.getElem?_set_ne (by omega)]; exact g1, by rw [List.getElem?_set_ne (by omega)]; exact g2, List.getElem?_set_self (ltV gi), by rw [List.getElem?_set_ne (by omega)]; exact gN, hi, hN⟩
theorem DoT.app {G : Hp} {r : Rcd} {q : Rqs} {N id : Nat} {C : List AV} (h : DoT G r q N id C) (ex : Hp) : DoT (G ++ ex) r q N id C := by
 obtain ⟨g1, g2, gi, gN, hi, hN⟩ := h
 exact ⟨holds ex g1, holds ex g2, holds ex gi, holds ex gN, hi, hN⟩
def DoPostV (r : Rcd) (q : Rqs) (a : AV) (h' : Hp) : Prop :=
 if doE r q = 0 then ∃ (id : Nat) (vs : List AV), h'[id]? = some (some (false, objsV (doR r q).objs vs)) ∧ vs.length = r.objs.length ∧ a = .tup [.agg [.int .i64 r.boot, .hs id r.objs.length], .int .i64 (doV r q), .int .i64 0] ∧ ∀ (i : Nat) (o : Obt) (v : AV), (doR r q).objs[i]? = some o → vs[i]? = some v → DEnts 0 h' v o.ents
 else a = .tup [.agg [.int .i64 0, .lst .clip 0 []], .int .i64 0, .int .i64 (doE r q)]
theorem do_end {G : Hp} {r : Rcd} {q : Rqs} {N id k : Nat} {vs : List AV} (h : DoT G r q N id (objsV (doR r q).objs vs)) (hkl : k < r.objs.length) (hk : q.object = k) (hv : vs.length = r.objs.length) (hde : doE r q = 0) (hd : ∀ (i : Nat) (o : Obt) (v : AV), (doR r q).objs[i]? = some o → vs[i]? = some v → DEnts 3 G v o.ents) :
  W Try.prog J_record_Do_j1 [(4, .ptr 2 0), (7, .ptr N 0), (8, .ptr id (k * 3)), (9, .int .i64 0)] G (kret [.c 4 (some 2), .t 5, .t 6] (DoPostV r q)) := by
 obtain ⟨g1, g2, gi, gN, hi, hN⟩ := h
 have hol : (doR r q).objs.length = r.objs.length := doR_len' r q
 have hd0 := objsV_drop (l := (doR r q).objs) (vs := vs) (i := k) (by omega) (by omega)
 have s4 : ∀ y : Option (Bool × List AV), (G.set 2 y)[2]? = some y := fun y => List.getElem?_set_self (ltV g2)
 have n1 : (id = 2) = False := by simp; omega
 have n2 : (2 = id) = False := by simp; omega
 simp only [J_record_Do_j1, g2, gi, gN, hd0, n1, n2, wk,ne_eq,eq_self,Nat.reduceEqDiff,Nat.reduceAdd,Nat.reduceLeDiff,↓reduceIte]
 simp only [val, ev, lk, s4, wk,Nat.reduceAdd,Nat.reduceLeDiff,↓reduceIte]
 have hdv : (doR r q).objs[k].value = doV r q := by
  have hget : r.objs[q.object.toNat]? = some r.objs[k] := by rw [hk, Int.toNat_natCast]; exact List.getElem?_eq_getElem hkl
  have e2 : (doR r q).objs = r.objs.set k (stepO r.objs[k] q).2 := by unfold doR; rw [hget, hk, Int.toNat_natCast]
  have e1 : doV r q = (stepO r.objs[k] q).2.value := by unfold doV; rw [hget]
  rw [e1]
  simp only [e2, List.getElem_set_self]
 rw [hdv]
 unfold DoPostV
 rw [if_pos hde]
 exact ⟨id, vs, by rw [List.getElem?_set_ne (by omega)]; exact gi, hv, rfl, fun i o v h1 h2 => ((hd i o v h1 h2).set (by omega) _).mono (by omega)⟩
theorem hturn {G h' : Hp} {r : Rcd} {q : Rqs} {N id k : Nat} {vs A B : List AV} {e : Int} {l' : List Ent} (hT : DoT G r q N id (objsV r.objs vs)) (hvl : vs.length = r.objs.length) (hkl : k < r.objs.length) {w0 : AV} (hvk : w0 = .lst .ro r.objs[k].ents.length (entsC r.objs[k].ents))
  (hset : ∀ (o' : Obt) (w : AV), objsV (r.objs.set k o') (vs.set k w) = A ++ ([AV.int .i64 o'.value, w, .int .i64 o'.version] ++ B))
  (hev : ∀ (i : Nat) (o : Obt) (v : AV), r.objs[i]? = some o → vs[i]? = some v → EV (!(decide (2 ≤ q.op) && decide (i = k))) (id + 1) G v o.ents) (hq2 : decide (2 ≤ q.op) = true)
  (hdr : (doR r q).objs = r.objs.set k (stepO r.objs[k] q).2) (hde : doE r q = turnE r.objs[k] e) (hst : turnE r.objs[k] e = 0 → (stepO r.objs[k] q).2 = ⟨r.objs[k].value, l', r.objs[k].version + 1⟩)
  (hp : if turnE r.objs[k] e = 0 then ∃ v ex, h' = G.set id (some (false, A ++ ([AV.int .i64 r.objs[k].value, v, .int .i64 (r.objs[k].version + 1)] ++ B))) ++ ex ∧ DEnts G.length h' v l' else ∃ ex, h' = G ++ ex) :
  ∃ C vs', DoT h' r q N id C ∧ (turnE r.objs[k] e = 0 → C = objsV (doR r q).objs vs' ∧ vs'.length = r.objs.length ∧ ∀ (i : Nat) (o : Obt) (v : AV), (doR r q).objs[i]? = some o → vs'[i]? = some v → DEnts 3 h' v o.ents) := by
 have hi := hT.hi
 have hidG := ltV hT.gi
 split at hp
 ·next h0 =>
  obtain ⟨v, ex, rfl, hd⟩ := hp
  refine ⟨_, vs.set k v, (hT.setC _).app ex, fun _ => ⟨?_, by simpa using hvl, fun i o w h1 h2 => ?_⟩⟩
  ·rw [hdr, hst h0, hset]
  ·rw [hdr, hst h0] at h1
   by_cases hik : i = k
   ·subst hik
    rw [List.getElem?_set_self hkl] at h1
    rw [List.getElem?_set_self (by omega)] at h2
    obtain rfl := Option.some.inj h1
    obtain rfl := Option.some.inj h2
    exact hd.mono (by omega)
   ·rw [List.getElem?_set_ne (Ne.symm hik)] at h1 h2
    have := hev i o w h1 h2
    rw [hq2, show decide (i = k) = false by simp [hik]] at this
    have h3 : DEnts (id + 1) G w o.ents := this
    exact ((h3.set (by omega) _).app ex).mono (by omega)
 ·next h0 =>
  obtain ⟨ex, rfl⟩ := hp
  exact ⟨_, vs, hT.app ex, fun h => absurd h h0⟩
theorem a_doD (r : Rcd) (q : Rqs) (hr : smallR r) (hq : smallE q.ent) : ACalls Try.prog 17 [vR r, vQ q] [] (DoPostV r q) := by
 have m1 := p_rmay1 r hr
 have m2 := p_asks q hq
 simp only [vR, rC] at m1
 simp only [vQ, qC] at m2
 have no : ∀ (e : Int) (h' : Hp), doE r q = e → e ≠ 0 → DoPostV r q (.tup [.agg [.int .i64 0, .lst .clip 0 []], .int .i64 0, .int .i64 e]) h' := fun e h' h1 h2 => by
  unfold DoPostV; rw [h1, if_neg h2]
 have hlen := hr.1
 refine acalls_of mixed J_record_Do_ok (Nat.le_of_ble_eq_true rfl) ?_; simp only [J_record_Do, vR, rC, vQ, qC, wk,Nat.reduceEqDiff,Nat.reduceAdd,Nat.reduceLeDiff,↓reduceIte]
 refine PCalls.use (m1) ?_; simp only [wk,Nat.reduceEqDiff,Nat.reduceAdd,Nat.reduceLeDiff,↓reduceIte]
 refine ⟨fun e1 => ?_, fun e1 => ?_⟩
 ·refine PCalls.use (m2) ?_; simp only [wk,Nat.reduceEqDiff,Nat.reduceAdd,Nat.reduceLeDiff,↓reduceIte]
  refine ⟨fun e2 => ?_, fun e2 => ?_⟩
  ·simp only [valL, wk,Nat.reduceEqDiff,Nat.reduceAdd,Nat.reduceLeDiff,↓reduceIte]
   exact no 2 _ (by unfold doE; rw [if_neg (by simp [e2])]) (by decide)
  ·refine ⟨fun e3 => ?_, fun e3 => ?_⟩
   ·simp only [valL, wk,Nat.reduceEqDiff,Nat.reduceAdd,Nat.reduceLeDiff,↓reduceIte]
    exact no 10 _ (by unfold doE; rw [if_pos ⟨e1, e2⟩, if_neg (by omega)]) (by decide)
   ·have hob : 0 ≤ q.object := by
     unfold asksE at e2
     split at e2
     ·next h => exact h.1
     ·cases e2
    obtain ⟨k, hk⟩ : ∃ k : Nat, q.object = k := ⟨q.object.toNat, by omega⟩
    have hkl : k < r.objs.length := by omega
    have hkn : q.object.toNat = k := by omega
    have hget : r.objs[q.object.toNat]? = some r.objs[k] := by rw [hkn]; exact List.getElem?_eq_getElem hkl
    have hde : doE r q = (stepO r.objs[k] q).1 := by unfold doE; rw [if_pos ⟨e1, e2⟩, if_pos (by omega), hget]
    have hdr : (doR r q).objs = r.objs.set k (stepO r.objs[k] q).2 := by unfold doR; rw [hget, hkn]
    have hdv : doV r q = (stepO r.objs[k] q).2.value := by unfold doV; rw [hget]
    have hso := hr.2 _ (List.getElem_mem hkl)
    have hmo : mayO r.objs[k] = true := by
     simp only [mayR, Bool.and_eq_true, List.all_eq_true] at e1
     exact e1.2.2 _ (List.getElem_mem hkl)
    have hnums : numOk q.arg = true := by
     unfold asksE at e2
     split at e2
     ·next h => exact h.2.2
     ·cases e2
    simp only [mayO, Bool.and_eq_true, numOk, decide_eq_true_eq] at hmo
    simp only [numOk, decide_eq_true_eq] at hnums
    have hop0 : 0 ≤ q.op ∧ q.op ≤ 3 := by
     unfold asksE at e2
     split at e2
     ·split at e2
      ·omega
      ·split at e2
       ·omega
       ·split at e2
        ·omega
        ·cases e2
     ·cases e2
    have qc := fun h d => a_copiedD (h := h) d r hr
    simp only [vR, rC] at qc
    refine ACalls.use (qc _ (fun i => !(decide (2 ≤ q.op) && decide (i = k)))) ?_
    rintro a h2 ⟨id, vs, ex, rfl, hid, rfl, hgid, hvl, hev⟩
    have hid3 : 3 ≤ id := by simpa using hid
    generalize hH : _ ++ ex = H at hgid hev
    have g1 : H[1]? = some (some (false, [.int .i64 q.object, .int .i64 q.op, .int .i64 q.arg, .int .i64 q.ent.op, .lst .ro q.ent.who.length (q.ent.who.map .str)])) := by rw [← hH]; rfl
    have g2 : H[2]? = some (some (false, [.int .i64 0, .lst (.own 71) 0 []])) := by rw [← hH]; rfl
    clear hH hid
    have hidN := ltV hgid
    have hin : ((0 ≤ (k : Int)) ∧ (k : Int) < (r.objs.length : Int)) = True := propext ⟨fun _ => trivial, fun _ => ⟨by omega, by omega⟩⟩
    have hT0 : DoT (H ++ [some (true, [.int .i64 r.boot, .hs id r.objs.length])]) r q H.length id (objsV r.objs vs) := ⟨holds _ g1, holds _ g2, holds _ hgid, List.getElem?_concat_length, hid3, hidN⟩
    have hev' : ∀ (i : Nat) (o : Obt) (v : AV), r.objs[i]? = some o → vs[i]? = some v → EV (!(decide (2 ≤ q.op) && decide (i = k))) (id + 1) (H ++ [some (true, [.int .i64 r.boot, .hs id r.objs.length])]) v o.ents := fun i o v h1 h2 => by
     obtain ⟨h3, rfl⟩ := List.getElem?_eq_some_iff.1 h1
     exact (hev i h3 v h2).app _
    simp only [wk,Nat.reduceEqDiff,Nat.reduceAdd,Nat.reduceLeDiff,↓reduceIte]
    generalize hG : H ++ [some (true, [AV.int .i64 r.boot, .hs id r.objs.length])] = G at hT0 hev' ⊢
    generalize hN : H.length = N at hT0 ⊢
    clear hG hN hev g1 g2 hgid
    have hT := hT0
    obtain ⟨g1, g2, gi, gN, _, _⟩ := hT0
    have hkv : k < vs.length := by omega
    obtain ⟨A, B, hA, hAB, hset⟩ := objsV_split hvl hkl
    have hd0 := objsV_drop hvl hkl
    have hlenV := objsV_len _ _ hvl
    have hgo : r.objs[k]? = some r.objs[k] := List.getElem?_eq_getElem hkl
    have hgv : vs[k]? = some vs[k] := List.getElem?_eq_getElem hkv
    have hj : ∀ (e : Int) (H' : Hp) (C : List AV) (vs' : List AV) (fr : Fr), restr [4, 7, 8, 9] fr = [(4, .ptr 2 0), (7, .ptr N 0), (8, .ptr id (k * 3)), (9, .int .i64 e)] → DoT H' r q N id C → doE r q = e → (e = 0 → C = objsV (doR r q).objs vs' ∧ vs'.length = r.objs.length ∧ ∀ (i : Nat) (o : Obt) (v : AV), (doR r q).objs[i]? = some o → vs'[i]? = some v → DEnts 3 H' v o.ents) →
      W Try.prog J_record_Do_j1 fr H' (kret [.c 4 (some 2), .t 5, .t 6] (DoPostV r q)) := by
     intro e H' C vs' fr hfr hTH hde2 hos
     by_cases he : e = 0
     ·subst he
      obtain ⟨rfl, hvl', hds⟩ := hos rfl
      have hend := do_end hTH hkl hk hvl' hde2 hds
      simp only [J_record_Do_j1, W_keep] at hend ⊢
      rw [hfr]
      exact hend
     ·obtain ⟨t1, t2, ti, tN, _, _⟩ := hTH
      have tset2 : ∀ x : Option (Bool × List AV), (H'.set 2 x)[2]? = some x := fun x => List.getElem?_set_self (ltV t2)
      simp only [J_record_Do_j1, W_keep]
      rw [hfr]
      simp only [t2, he, wk,ne_eq,eq_self,Nat.reduceEqDiff,Nat.reduceAdd,Nat.reduceLeDiff,↓reduceIte]
      simp only [val, ev, lk, tset2, wk,Nat.reduceEqDiff,Nat.reduceAdd,Nat.reduceLeDiff,↓reduceIte]
      exact no e _ hde2 he
    simp only [g1, gi, hk, hin, Int.toNat_natCast, wk,Nat.reduceEqDiff,Nat.reduceAdd,Nat.reduceLeDiff,↓reduceIte]
    refine ⟨fun o1 => ?_, fun o1 => ⟨fun o2 => ?_, fun o2 => ⟨fun o3 => ?_, fun o3 => ?_⟩⟩⟩
    ·simp only [g1, gi, hd0, wk,Nat.reduceEqDiff,↓reduceIte]
     have hD : ∀ (i : Nat) (o : Obt) (v : AV), r.objs[i]? = some o → vs[i]? = some v → DEnts (id + 1) G v o.ents := fun i o v h1 h2 => by
      have := hev' i o v h1 h2
      rw [show decide (2 ≤ q.op) = false by simp; omega] at this
      exact this
     refine ⟨inR_of (by omega) (by omega), fun hb => hj 5 G _ vs _ rfl hT (by rw [hde]; simp [stepO, o1, hb]) (fun h => absurd h (by decide)), fun hb => ⟨inR_of (by omega) (by omega), by rw [hlenV]; omega, ?_⟩⟩
     have hs : (objsV r.objs vs).set (k * 3) (.int .i64 (r.objs[k].value + q.arg)) = objsV (r.objs.set k ⟨r.objs[k].value + q.arg, r.objs[k].ents, r.objs[k].version⟩) vs := by
      have h1 := hset ⟨r.objs[k].value + q.arg, r.objs[k].ents, r.objs[k].version⟩ vs[k]
      rw [List.set_getElem_self] at h1
      rw [h1, hAB, show k * 3 = k * 3 + 0 by omega, set_at hA]
      rfl
     rw [hs]
     have hst : (stepO r.objs[k] q).2 = ⟨r.objs[k].value + q.arg, r.objs[k].ents, r.objs[k].version⟩ := by simp [stepO, o1, hb]
     refine hj 0 _ _ vs _ rfl (hT.setC _) (by rw [hde]; simp [stepO, o1, hb]) (fun _ => ⟨by rw [hdr, hst], hvl, fun i o v h1 h2 => ?_⟩)
     rw [hdr, hst] at h1
     by_cases hik : i = k
     ·subst hik
      rw [List.getElem?_set_self hkl] at h1
      obtain rfl := Option.some.inj h1
      exact ((hD i _ v hgo h2).set (by omega) _).mono (by omega)
     ·rw [List.getElem?_set_ne (Ne.symm hik)] at h1
      exact ((hD i o v h1 h2).set (by omega) _).mono (by omega)
    ·have hq2 : decide (2 ≤ q.op) = true := by simp; omega
     have hvk : vs[k] = .lst .ro r.objs[k].ents.length (entsC r.objs[k].ents) := by
      have := hev' k _ _ hgo hgv
      rw [hq2] at this
      simpa [EV] using this
     have hoC : G[id]? = some (some (false, A ++ (oC r.objs[k] ++ B))) := by rw [gi, hAB, hvk]; rfl
     have qt := a_turnD (h := G) (id := id) (off := k * 3) (A := A) (B := B) (o := r.objs[k]) (fB := 53) (e := addE r.objs[k].ents q.ent) (l' := r.objs[k].ents ++ [q.ent]) q.ent hoC hA hso ⟨by have := hso.1; simp; omega, fun y hy => by rcases List.mem_append.1 hy with h | h; exact hso.2 y h; simp at h; subst h; exact hq⟩ hmo.2.2 (by omega)
      (fun he h' id' f hf ho => a_add_no q.ent hf ho hq (by have := hso.1; omega) he) (fun he h' id' f hf ho => a_add_ok q.ent hf ho hq (by have := hso.1; omega) (by omega) he)
     simp only [vE, eC] at qt
     refine ACalls.use qt ?_
     rintro a h' ⟨rfl, hp⟩
     simp only [wk,↓reduceIte]
     obtain ⟨C, vs', c1, c2⟩ := hturn hT hvl hkl hvk hset hev' hq2 hdr (by rw [hde]; simp [stepO, o2]) (fun _ => by simp [stepO, o2]) hp
     exact hj _ _ C vs' _ rfl c1 (by rw [hde]; simp [stepO, o2]) c2
    ·have hq2 : decide (2 ≤ q.op) = true := by simp; omega
     have hvk : vs[k] = .lst .ro r.objs[k].ents.length (entsC r.objs[k].ents) := by
      have := hev' k _ _ hgo hgv
      rw [hq2] at this
      simpa [EV] using this
     have hoC : G[id]? = some (some (false, A ++ (oC r.objs[k] ++ B))) := by rw [gi, hAB, hvk]; rfl
     have qt := a_turnD (h := G) (id := id) (off := k * 3) (A := A) (B := B) (o := r.objs[k]) (fB := 54) (e := remE r.objs[k].ents q.ent) (l' := without r.objs[k].ents (idxE q.ent r.objs[k].ents).toNat) q.ent hoC hA hso ⟨by have := hso.1; simp [without]; omega, fun y hy => by rcases List.mem_append.1 hy with h | h; exact hso.2 y (List.mem_of_mem_take h); exact hso.2 y (List.mem_of_mem_drop h)⟩ hmo.2.2 (by omega)
      (fun he h' id' f hf ho => a_rem_no q.ent hf ho hq (by have := hso.1; omega) he) (fun he h' id' f hf ho => a_rem_ok q.ent hf ho hq (by have := hso.1; omega) (by omega) he)
     simp only [vE, eC] at qt
     refine ACalls.use qt ?_
     rintro a h' ⟨rfl, hp⟩
     simp only [wk,↓reduceIte]
     obtain ⟨C, vs', c1, c2⟩ := hturn hT hvl hkl hvk hset hev' hq2 hdr (by rw [hde]; simp [stepO, o3]) (fun _ => by simp [stepO, o3]) hp
     exact hj _ _ C vs' _ rfl c1 (by rw [hde]; simp [stepO, o3]) c2
    ·have hq0 : q.op = 0 := by omega
     have hD : ∀ (i : Nat) (o : Obt) (v : AV), r.objs[i]? = some o → vs[i]? = some v → DEnts (id + 1) G v o.ents := fun i o v h1 h2 => by
      have := hev' i o v h1 h2
      rw [show decide (2 ≤ q.op) = false by simp; omega] at this
      exact this
     have hst : (doR r q).objs = r.objs := by rw [hdr]; simp [stepO, hq0]
     exact hj 0 G _ vs _ rfl hT (by rw [hde]; simp [stepO, hq0]) (fun _ => ⟨by rw [hst], hvl, fun i o v h1 h2 => by rw [hst] at h1; exact (hD i o v h1 h2).mono (by omega)⟩)
 ·simp only [valL, wk,Nat.reduceEqDiff,Nat.reduceAdd,Nat.reduceLeDiff,↓reduceIte]
  exact no 2 _ (by unfold doE; rw [if_neg (by simp [e1])]) (by decide)
section
variable {P : Program} {g : Gh} {h : Hp} {w : World}
open Classical in
noncomputable def Gh.lend (g : Gh) (w : World) : Gh :=
  { g.bare with C := fun b o => if (∃ i, g.io i = some b) then (match w.cell? ⟨b, o, none⟩ with
      | some v => if v.oneCell' = true then some v else none
      | none => none) else g.C b o }
theorem lend_C (hs : Sim P g h w) {b o : Nat} {v : Value} (hc : g.C b o = some v) : (g.lend w).C b o = some v := by
 simp only [Gh.lend]
 split
 ·obtain ⟨q1, q2⟩ := hs.prot b o v hc
  rw [q1]; simp [q2]
 ·exact hc
theorem lend_obj {i b o : Nat} {v : Value} (hi : g.io i = some b) (hc : w.cell? ⟨b, o, none⟩ = some v) (h1 : v.oneCell' = true) : (g.lend w).C b o = some v := by
 simp only [Gh.lend]
 rw [if_pos ⟨i, hi⟩, hc]
 simp [h1]
theorem Sim.lend (hs : Sim P g h w) : Sim P (g.lend w) [] w := by
 refine ⟨fun b o v hc => ?_, (fun id s l hl => by simp at hl), hs.bare.inj, hs.bare.dom, hs.bare.flt, hs.bare.olt, hs.bare.hole, hs.bare.fro⟩
 simp only [Gh.lend] at hc
 split at hc
 ·split at hc
  ·next v' e =>
   split at hc
   ·next h1 => injection hc with hc; subst hc; exact ⟨e, h1⟩
   ·cases hc
  ·cases hc
 ·exact hs.prot b o v hc
open Classical in
noncomputable def Gh.lret (g g1 : Gh) : Gh := { g with C := fun b o => if (∃ i, g.io i = some b) then g.C b o else g1.C b o, X := g1.X }
theorem Sim.lret {g1 : Gh} {w1 : World} {h1 : Hp} (hs : Sim P g h w) (hev : Ev (g.lend w) w g1 w1) (hs1 : Sim P g1 h1 w1) : Sim P (g.lret g1) h w1 ∧ Ev g w (g.lret g1) w1 := by
 have hC : ∀ b o, ¬ (∃ i, g.io i = some b) → (g.lend w).C b o = g.C b o := fun b o hb => by simp only [Gh.lend]; rw [if_neg hb]
 have hbC : ∀ b o, ¬ (∃ i, g.io i = some b) → (g.lret g1).C b o = g1.C b o := fun b o hb => by simp only [Gh.lret]; rw [if_neg hb]
 have hbO : ∀ b o, (∃ i, g.io i = some b) → (g.lret g1).C b o = g.C b o := fun b o hb => by simp only [Gh.lret]; rw [if_pos hb]
 have hle : GLe g (g.lret g1) := ⟨fun b o v hc => by
  by_cases hb : ∃ i, g.io i = some b
  ·rw [hbO b o hb]; exact hc
  ·rw [hbC b o hb]; exact hev.le.C b o v (by rw [hC b o hb]; exact hc), fun _ _ h => h, fun b o hx => hev.le.X b o hx⟩
 refine ⟨⟨fun b o v hc => ?_, ?_, hs.inj, fun i b hi => ⟨(hs.dom i b hi).1, Nat.lt_of_lt_of_le (hs.dom i b hi).2 hev.size⟩, fun b hb => Nat.lt_of_lt_of_le (hs.flt b hb) hev.size, fun b x hx => Nat.lt_of_lt_of_le (hs.olt b x hx) hev.size, hs.hole, fun b o hx => ?_⟩, ⟨hle, fun _ => .rfl, fun b hb => ?_, hev.os, hev.tape, hev.output, hev.size, fun b hb => hev.Fx b (.inl hb)⟩⟩
 ·by_cases hb : ∃ i, g.io i = some b
  ·rw [hbO b o hb] at hc
   obtain ⟨q1, q2⟩ := hs.prot b o v hc
   have hw := (hev.Fb b (.inr (.inl hb))).1
   refine ⟨?_, q2⟩
   rw [← q1]
   simp only [World.cell?, hw]
  ·rw [hbC b o hb] at hc
   exact hs1.prot b o v hc
 ·intro id s l hl
  refine (hs.obj id s l hl).keep hle (fun b hb h8 h9 => ?_) (fun b i o1 o3 o4 => ?_)
  ·obtain ⟨q1, q2, _⟩ := hev.Fb b (.inr (.inl ⟨id, hb⟩))
   exact ⟨q1, fun o => hbO b o ⟨id, hb⟩, h8, h9⟩
  ·obtain ⟨q1, q2, _⟩ := hev.Fb b (.inr (.inr ⟨_, o1⟩))
   have hno : ¬ ∃ i, g.io i = some b := fun ⟨j, hj⟩ => o4 j hj
   exact ⟨q1, o1, fun o => by rw [hbC b o hno, q2 o, hC b o hno], o3, o4⟩
 ·have hbk : (∃ i, g.io i = some b) ∨ (∃ x, g.own b = some x) → g.X b = some o := fun hh => by
   have := hev.Fx b (.inr hh)
   rw [show (g.lend w).X b = g.X b from rfl] at this
   rw [← this]; exact hx
  refine ⟨(hs1.fro b o hx).1, ?_, fun i hi => ?_⟩
  ·cases ho : g.own b with
   | none => exact ho
   | some x => exact absurd (hs.fro b o (hbk (.inr ⟨x, ho⟩))).2.1 (by rw [ho]; simp)
  ·exact (hs.fro b o (hbk (.inl ⟨i, hi⟩))).2.2 i hi
 ·obtain ⟨q1, q2, _⟩ := hev.Fb b (.inl hb)
  refine ⟨q1, fun o => ?_, rfl, fun _ h => h⟩
  by_cases hbo : ∃ i, g.io i = some b
  ·exact hbO b o hbo
  ·rw [hbC b o hbo, q2 o, hC b o hbo]
mutual
def flat : AV → Bool
  | .bool _ | .int _ _ | .str _ | .nilp => true
  | .tup l => flats l
  | _ => false
def flats : List AV → Bool
  | [] => true
  | a :: l => flat a && flats l
end
mutual
theorem Rep.flat {g g' : Gh} : ∀ {v : Value} {a : AV}, Rep g v a → flat a = true → Rep g' v a
  | _, _, .bool b, _ => .bool b
  | _, _, .int k n, _ => .int k n
  | _, _, .str s, _ => .str s
  | _, _, .nilp, _ => .nilp
  | _, _, .tup vs l hp hl, hf => .tup vs l hp (RepL.flat hl (by simpa only [Go.Proofs.Ytpiofcjkekpboaa.flat] using hf))
theorem RepL.flat {g g' : Gh} : ∀ {vs : List Value} {l : List AV}, RepL g vs l → flats l = true → RepL g' vs l
  | _, _, .nil, _ => .nil
  | _, _, .cons h hl, hf => by
    simp only [flats, Bool.and_eq_true] at hf
    exact .cons (Rep.flat h hf.1) (RepL.flat hl hf.2)
end
mutual
inductive Lnd (h : Hp) : AV → AV → Prop where
  | same (a : AV) : free a = true → Lnd h a a
  | ro (f : Fl) (n : Nat) (l : List AV) : free.frees l = true → Lnd h (.lst f n l) (.lst .ro n l)
  | hsc (id n c k : Nat) (s : Bool) (l : List AV) : h[id]? = some (some (s, l)) → free.frees (l.take k) = true → plains (l.take k) → Lnd h (.hsc id n c) (.lst .ro n (l.take k))
  | agg (l l' : List AV) : Lnds h l l' → plains l' → Lnd h (.agg l) (.agg l')
  -- an object's cells may hold objects' rows themselves
  | hs (id n : Nat) (s : Bool) (l l' : List AV) : h[id]? = some (some (s, l)) → Lnds h l l' → plains l' → Lnd h (.hs id n) (.lst .ro n l')
inductive Lnds (h : Hp) : List AV → List AV → Prop where
  | nil : Lnds h [] []
  | cons {a a' : AV} {l l' : List AV} : Lnd h a a' → Lnds h l l' → Lnds h (a :: l) (a' :: l')
end
mutual
theorem Rep.lend (hs : Sim P g h w) {v : Value} {a a' : AV} (hr : Rep g v a) (hl : Lnd h a a') : Rep (g.lend w) v a' := by
  cases hl with
  | same _ hf => exact Rep.free (fun _ _ _ h => lend_C hs h) (fun _ _ h => h) hr hf
  | ro f n l hf =>
    have hC := fun (b o : Nat) (v : Value) (h : g.C b o = some v) => lend_C hs h
    cases hr with
    | lst b off _ c _ vs _ h1 h2 h3 h4 h5 => exact .lst b off n c .ro vs l (fun i v hv => hC _ _ _ (h1 i v hv)) h2 h3 (fun e => by cases e) (RepL.free hC (fun _ _ h => h) h5 hf)
    | lst0 a c _ h => exact .lst0 a c .ro (fun e => by cases e)
  | hsc id n c k s l hl hf hp =>
    cases hr with
    | hsc _ b _ _ hb hn =>
      obtain ⟨b', arr, e', p1, ⟨rest, p2⟩, p3, p4, p5, p6, p7, p8, p9⟩ := hs.obj id s l hl
      obtain rfl : b = b' := by rw [hb] at p1; simpa using p1
      refine .lst b 0 n c .ro (arr.toList.take k) (l.take k) (fun i v hv => ?_) hp hn (fun e => by cases e) (RepL.free (fun _ _ _ h => lend_C hs h) (fun _ _ h => h) (p3.take k) hf)
      rw [List.getElem?_take] at hv
      split at hv
      · refine lend_obj hb ?_ (p4 v (List.mem_of_getElem? hv))
        rw [Nat.zero_add, cell_of_row w b i (arr ++ rest) e' (0, 0) p2]; exact get_app hv
      · cases hv
  | agg l l' hl hp =>
    cases hr with
    | agg vs _ h1 h2 h3 => exact .agg vs l' h1 hp (RepL.lend hs h3 hl)
  | hs id n s l l' hl hls hp =>
    cases hr with
    | hs _ b _ c hb hn =>
      obtain ⟨b', arr, e', p1, ⟨rest, p2⟩, p3, p4, p5, p6, p7, p8, p9⟩ := hs.obj id s l hl
      obtain rfl : b = b' := by rw [hb] at p1; simpa using p1
      refine .lst b 0 n c .ro arr.toList l' (fun i v hv => ?_) hp hn (fun e => by cases e) (RepL.lend hs p3 hls)
      refine lend_obj hb ?_ (p4 v (List.mem_of_getElem? hv))
      rw [Nat.zero_add, cell_of_row w b i (arr ++ rest) e' (0, 0) p2]; exact get_app hv
theorem RepL.lend (hs : Sim P g h w) {vs : List Value} {l l' : List AV} (hr : RepL g vs l) (hl : Lnds h l l') : RepL (g.lend w) vs l' := by
  cases hl with
  | nil => cases hr; exact .nil
  | cons hx hy =>
    cases hr with
    | cons h1 h2 => exact .cons (Rep.lend hs h1 hx) (RepL.lend hs h2 hy)
end
theorem Lnds.plains : ∀ {l l' : List AV}, Lnds h l l' → plains l → plains l'
 | _, _, .nil, _ => fun a ha => by simp at ha
 | _, _, .cons hx hy, hp => fun a ha => by
  rcases List.mem_cons.1 ha with rfl | ha
  ·cases hx with
   | same _ hf => exact hp _ (by simp)
   | ro => rfl
   | hsc => rfl
   | agg => rfl
   | hs => rfl
  ·exact Lnds.plains hy (fun b hb => hp b (by simp [hb])) a ha
theorem PCalls.lend {f : FuncId} {args args' : List AV} {v : AV} (hp : PCalls P f args' v) (hv : flat v = true) (hl : Lnds h args args') : ACalls P f args h (fun a h' => a = v ∧ h' = h) := by
 obtain ⟨hfa, hfv, hent, hc⟩ := hp
 refine ⟨hent, fun g w vargs hs hns hr hpl => ?_⟩
 refine (hc (g.lend w) w vargs hs.lend (fun b k h => by cases h) (RepL.lend hs hr hl) (hl.plains hpl)).mono ?_
 rintro e w1 ⟨x, a, h1, g1, rfl, r1, r2, r3, r4, r5, rfl, rfl⟩
 obtain ⟨s1, s2⟩ := hs.lret r1 r2
 exact ⟨x, a, h, g.lret g1, rfl, s2, s1, hns, Rep.flat r4 hv, r5, rfl, rfl⟩
mutual
inductive Shr : AV → AV → Prop where
  | same (a : AV) : Shr a a
  | lst (f : Fl) (n k : Nat) (l : List AV) : plains (l.take k) → Shr (.lst f n l) (.lst .ro n (l.take k))
  | agg (l l' : List AV) : Shrs l l' → plains l' → Shr (.agg l) (.agg l')
  | tup (l l' : List AV) : Shrs l l' → plains l' → Shr (.tup l) (.tup l')
inductive Shrs : List AV → List AV → Prop where
  | nil : Shrs [] []
  | cons {a a' : AV} {l l' : List AV} : Shr a a' → Shrs l l' → Shrs (a :: l) (a' :: l')
end
mutual
theorem Rep.shr {g : Gh} {v : Value} {a a' : AV} (hr : Rep g v a) (hl : Shr a a') : Rep g v a' := by
  cases hl with
  | same => exact hr
  | lst f n k l hp =>
    cases hr with
    | lst b off _ c _ vs _ h1 h2 h3 h4 h5 =>
      refine .lst b off n c .ro (vs.take k) (l.take k) (fun i v hv => ?_) hp h3 (fun e => by cases e) (h5.take k)
      rw [List.getElem?_take] at hv
      split at hv
      · exact h1 i v hv
      · cases hv
    | lst0 a c _ h => rw [List.take_nil]; exact .lst0 a c .ro (fun e => by cases e)
  | agg l l' hl hp => cases hr with
    | agg vs _ h1 h2 h3 => exact .agg vs l' h1 hp (RepL.shr h3 hl)
  | tup l l' hl hp => cases hr with
    | tup vs _ h2 h3 => exact .tup vs l' hp (RepL.shr h3 hl)
theorem RepL.shr {g : Gh} {vs : List Value} {l l' : List AV} (hr : RepL g vs l) (hl : Shrs l l') : RepL g vs l' := by
  cases hl with
  | nil => exact hr
  | cons hx hy => cases hr with
    | cons h1 h2 => exact .cons (Rep.shr h1 hx) (RepL.shr h2 hy)
end
theorem Shr.plain {a a' : AV} (hl : Shr a a') (hp : plain a = true) : plain a' = true := by
 cases hl with
 | same => exact hp
 | lst => rfl
 | agg => rfl
 | tup => rfl
theorem pcalls_fzs {P : Program} {f : FuncId} {args : List AV} {v : AV} (ha : free.frees args = true) (hv : free v = true) (hc : ACalls P f args [] (fun a h' => free (fz h' a) = true ∧ Shr (fz h' a) v)) : PCalls P f args v := by
 refine ⟨ha, hv, hc.1, fun g w vargs hs hns hr hpl => (hc.2 g w vargs hs hns hr hpl).mono ?_⟩
 rintro e w1 ⟨x, a, h1, g1, rfl, r1, r2, r3, r4, r5, r6, r7⟩
 refine ⟨x, _, [], g1.ice h1 w1, rfl, ⟨⟨fun b o u hu => ice_le (r1.le.C b o u hu), fun i b hi => absurd (hs.dom i b hi).1 (by simp), r1.le.X⟩, r1.F, fun b hb => ?_, r1.os, r1.tape, r1.output, r1.size, r1.Fx⟩, ?_, r3, (Rep.ice r2 r4 r6).shr r7, r7.plain (plain_fz _ r5), rfl, rfl⟩
 ·obtain ⟨q1, q2, q3, q4⟩ := r1.Fb b hb
  refine ⟨q1, fun o => ?_, q3, fun i hi => by cases hi⟩
  simp only [Gh.ice]
  split
  ·next u hu => rw [← q2 o]; exact hu.symm
  ·next hu =>
   rw [if_neg]
   ·rw [← q2 o]; exact hu.symm
   ·rintro ⟨id, s, l, k1, k2⟩
    obtain ⟨b', arr, e, p1, ⟨rest, p2⟩, p3, p4, p5, p6, p7, p8, p9⟩ := r2.obj id s l k2
    rw [k1] at p1
    simp only [Option.some.injEq] at p1
    subst p1
    exact p8 ((r1.F b).2 hb)
 ·refine ⟨fun b o u hu => ?_, (fun id s l hl => by simp at hl), (fun i j b hi => by cases hi), (fun i b hi => by cases hi), r2.flt, r2.olt, (fun i hi => by simp at hi), fun b o hx => ⟨(r2.fro b o hx).1, (r2.fro b o hx).2.1, fun i hi => by cases hi⟩⟩
  simp only [Gh.ice] at hu
  split at hu
  ·next u' hu' => simp only [Option.some.injEq] at hu; subst hu; exact r2.prot b o _ hu'
  ·split at hu
   ·simp only [Option.filter_eq_some_iff] at hu; exact hu
   ·cases hu
end
theorem degs_objs (l : List Obt) : (objsC l).map deg = objsC l := by
 induction l with
 | nil => rfl
 | cons x l ih =>
  simp only [objsC, List.flatMap_cons, oC, List.cons_append, List.nil_append, List.map_cons] at ih ⊢
  rw [ih]
  rfl
def zeroR : Rcd := ⟨0, []⟩
theorem doR_len (r : Rcd) (q : Rqs) : (doR r q).objs.length = r.objs.length := by
 unfold doR
 split <;> simp
theorem doR_boot (r : Rcd) (q : Rqs) : (doR r q).boot = r.boot := by
 unfold doR
 split <;> rfl
theorem p_do_ok (r : Rcd) (q : Rqs) (hr : smallR r) (hq : smallE q.ent) (he : doE r q = 0) : PCalls Try.prog 17 [vR r, vQ q] (.tup [vR (doR r q), .int .i64 (doV r q), .int .i64 0]) := by
 refine pcalls_fz (by simp [free.frees, free_vR, free_vQ]) (by simp [free, free.frees, free_vR]) ((a_do r q hr hq).mono ?_)
 intro a h' hp
 unfold DoPost at hp
 rw [if_pos he] at hp
 obtain ⟨k, hk, rfl⟩ := hp
 simp only [fz_tup, fz_agg, fzs_cons, fzs_nil, fz_int, fz_hs hk, degs_objs, vR, rC, doR_len, doR_boot]
theorem p_do_no (r : Rcd) (q : Rqs) (hr : smallR r) (hq : smallE q.ent) (he : doE r q ≠ 0) : PCalls Try.prog 17 [vR r, vQ q] (.tup [vR zeroR, .int .i64 0, .int .i64 (doE r q)]) := by
 refine pcalls_of (by simp [free.frees, free_vR, free_vQ]) (by simp [free, free.frees, free_vR]) (ACalls.deep ((a_do r q hr hq).mono ?_))
 intro a h' hp
 unfold DoPost at hp
 rw [if_neg he] at hp
 subst hp
 simp only [rdpw]
 rfl
theorem p_need (q : Rqs) : PCalls Try.prog 24 [vQ q] (.int .i64 q.op) := by
 refine pcalls_of (by simp [free.frees, free_vQ]) rfl (acalls_of mixed J_record_Need_ok (Nat.le_of_ble_eq_true rfl) ?_); simp only [J_record_Need, vQ, qC, wk,↓reduceIte]
def sameO (a b : Obt) : Bool := decide (a.value = b.value) && (decide (a.version = b.version) && (decide (a.ents.length = b.ents.length) && (a.ents.zip b.ents).all fun p => sameEnt p.1 p.2))
def sameR (a b : Rcd) : Bool := decide (a.boot = b.boot) && (decide (a.objs.length = b.objs.length) && (a.objs.zip b.objs).all fun p => sameO p.1 p.2)
theorem sameO_no {a b : Obt} {k : Nat} (h1 : k < a.ents.length) (h2 : k < b.ents.length) (h : sameEnt a.ents[k] b.ents[k] = false) : sameO a b = false := by
 simp only [sameO, Bool.and_eq_false_iff]
 right; right; right
 rw [List.all_eq_false]
 refine ⟨(a.ents[k], b.ents[k]), ?_, by simp [h]⟩
 rw [List.mem_iff_getElem]
 exact ⟨k, by simp; omega, by simp⟩
theorem sameR_no {a b : Rcd} {k : Nat} (h1 : k < a.objs.length) (h2 : k < b.objs.length) (h : sameO a.objs[k] b.objs[k] = false) : sameR a b = false := by
 simp only [sameR, Bool.and_eq_false_iff]
 right; right
 rw [List.all_eq_false]
 refine ⟨(a.objs[k], b.objs[k]), ?_, by simp [h]⟩
 rw [List.mem_iff_getElem]
 exact ⟨k, by simp; omega, by simp⟩
theorem all_zip {α : Type} {l m : List α} {p : α → α → Bool} (hl : l.length = m.length) (h : ∀ (k : Nat) (h1 : k < l.length) (h2 : k < m.length), p l[k] m[k] = true) : (l.zip m).all (fun x => p x.1 x.2) = true := by
 rw [List.all_eq_true]
 intro x hx
 obtain ⟨k, hk, rfl⟩ := List.mem_iff_getElem.1 hx
 simp only [List.length_zip] at hk
 simp only [List.getElem_zip]
 exact h k (by omega) (by omega)
theorem two0 (ex : Hp) (x y : Option (Bool × List AV)) : (ex ++ [x] ++ [y])[ex.length]? = some x := by simp
theorem two1 (ex : Hp) (x y : Option (Bool × List AV)) : (ex ++ [x] ++ [y])[ex.length + 1]? = some y := by simp
theorem two2 (ex : Hp) (x : Option (Bool × List AV)) : (ex ++ [x]).length = ex.length + 1 := by simp
theorem p_recsame (a b : Rcd) (ha : smallR a) (hb : smallR b) : PCalls Try.prog 50 [vR a, vR b] (.bool (sameR a b)) := by
  refine pcalls_of (by simp [free.frees, free_vR]) rfl (acalls_of mixed J_record_Same_ok (Nat.le_of_ble_eq_true rfl) ?_); simp only [J_record_Same, vR, rC, wk,ne_eq,eq_self,Nat.reduceEqDiff,Nat.reduceAdd,↓reduceIte]
  have no : sameR a b = false → AV.bool false = .bool (sameR a b) := fun e => by rw [e]
  refine ⟨fun e1 => ⟨fun e2 => no (by have : ¬ a.objs.length = b.objs.length := by omega
                                      simp [sameR, this]), fun e2 => ?_⟩, fun e1 => no (by simp [sameR, e1])⟩
  have hn : a.objs.length = b.objs.length := by omega
  have hla := ha.1
  refine W_loop (fun n fr h' => ∃ (i : Nat) (ex : Hp), i ≤ a.objs.length ∧ n = a.objs.length - i ∧ h' = some (false, [.int .i64 a.boot, .lst .ro a.objs.length (objsC a.objs)]) :: some (false, [.int .i64 b.boot, .lst .ro b.objs.length (objsC b.objs)]) :: ex ∧ fr = [(3, .ptr 1 0), (25, .lst .ro a.objs.length (objsC a.objs)), (26, .int .i64 a.objs.length), (27, .int .i64 i)] ∧ ∀ (k : Nat) (h1 : k < a.objs.length) (h2 : k < b.objs.length), k < i → sameO a.objs[k] b.objs[k] = true) a.objs.length ⟨0, [], by omega, by omega, rfl, rfl, fun k _ _ h => by omega⟩ ?_
  rintro n fr h' ⟨i, ex, hi, rfl, rfl, rfl, hall⟩
  simp only [J_record_Same_j4, wk,Nat.reduceEqDiff,Nat.reduceAdd,Nat.reduceLeDiff,↓reduceIte]
  refine ⟨fun hlt => ?_, fun hge => ?_⟩
  · have hil : i < a.objs.length := by omega
    have hil2 : i < b.objs.length := by omega
    have hd : (objsC a.objs).drop ((i : Int).toNat * 3) = .int .i64 a.objs[i].value :: .lst .ro a.objs[i].ents.length (entsC a.objs[i].ents) :: .int .i64 a.objs[i].version :: (objsC a.objs).drop ((i + 1) * 3) := by rw [show (i : Int).toNat = i by omega]; exact objsC_drop hil
    have hd2 : (objsC b.objs).drop ((i : Int).toNat * 3) = .int .i64 b.objs[i].value :: .lst .ro b.objs[i].ents.length (entsC b.objs[i].ents) :: .int .i64 b.objs[i].version :: (objsC b.objs).drop ((i + 1) * 3) := by rw [show (i : Int).toNat = i by omega]; exact objsC_drop hil2
    have hin : ((0 ≤ (i : Int)) ∧ (i : Int) < (a.objs.length : Int)) = True := by simp; omega
    have hin2 : ((0 ≤ (i : Int)) ∧ (i : Int) < (b.objs.length : Int)) = True := by simp; omega
    simp only [hin, hin2, hd, hd2, true_and, wk,Nat.reduceAdd,Nat.reduceLeDiff]
    simp only [two0, two1, two2, wk,ne_eq,eq_self,Nat.reduceEqDiff,↓reduceIte]
    have nox : sameO a.objs[i] b.objs[i] = false → AV.bool false = .bool (sameR a b) := fun e => no (sameR_no hil hil2 e)
    refine ⟨fun v1 => ⟨fun v2 => ⟨fun v3 => nox (by have : ¬ a.objs[i].ents.length = b.objs[i].ents.length := by omega
                                                    simp [sameO, this]), fun v3 => ?_⟩, fun v2 => nox (by simp [sameO, v2])⟩, fun v1 => nox (by simp [sameO, v1])⟩
    have hne : a.objs[i].ents.length = b.objs[i].ents.length := by omega
    have hso := ha.2 _ (List.getElem_mem hil)
    have hsl := hso.1
    obtain ⟨H, hH⟩ : ∃ H : Hp, H = some (false, [.int .i64 a.boot, .lst .ro a.objs.length (objsC a.objs)]) :: some (false, [.int .i64 b.boot, .lst .ro b.objs.length (objsC b.objs)]) :: (ex ++ [some (true, [.int .i64 a.objs[i].value, .lst .ro a.objs[i].ents.length (entsC a.objs[i].ents), .int .i64 a.objs[i].version])] ++ [some (true, [.int .i64 b.objs[i].value, .lst .ro b.objs[i].ents.length (entsC b.objs[i].ents), .int .i64 b.objs[i].version])]) := ⟨_, rfl⟩
    rw [← hH]
    have g7 : ∀ ey, (H ++ ey)[ex.length + 1 + 1 + 1]? = some (some (true, [.int .i64 b.objs[i].value, .lst .ro b.objs[i].ents.length (entsC b.objs[i].ents), .int .i64 b.objs[i].version])) := fun ey => by rw [hH]; simp
    refine W_loop (fun n fr h' => ∃ (j : Nat) (ey : Hp), j ≤ a.objs[i].ents.length ∧ n = a.objs[i].ents.length - j ∧ h' = H ++ ey ∧ fr = [(3, .ptr 1 0), (7, .ptr (ex.length + 1 + 1 + 1) 0), (25, .lst .ro a.objs.length (objsC a.objs)), (26, .int .i64 a.objs.length), (27, .int .i64 i), (59, .lst .ro a.objs[i].ents.length (entsC a.objs[i].ents)), (60, .int .i64 a.objs[i].ents.length), (61, .int .i64 j)] ∧ ∀ (k : Nat) (h1 : k < a.objs[i].ents.length) (h2 : k < b.objs[i].ents.length), k < j → sameEnt a.objs[i].ents[k] b.objs[i].ents[k] = true) a.objs[i].ents.length ⟨0, [], by omega, by omega, by simp, rfl, fun k _ _ h => by omega⟩ ?_
    rintro n fr h' ⟨j, ey, hj, rfl, rfl, rfl, hall2⟩
    simp only [J_record_Same_j3, wk,Nat.reduceEqDiff,Nat.reduceAdd,Nat.reduceLeDiff,↓reduceIte]
    refine ⟨fun hlt2 => ?_, fun hge2 => ?_⟩
    · have hjl : j < a.objs[i].ents.length := by omega
      have hjl2 : j < b.objs[i].ents.length := by omega
      have hf : (entsC a.objs[i].ents).drop ((j : Int).toNat * 2) = .int .i64 a.objs[i].ents[j].op :: .lst .ro a.objs[i].ents[j].who.length (a.objs[i].ents[j].who.map .str) :: (entsC a.objs[i].ents).drop ((j + 1) * 2) := by rw [show (j : Int).toNat = j by omega]; exact entsC_drop hjl
      have hf2 : (entsC b.objs[i].ents).drop ((j : Int).toNat * 2) = .int .i64 b.objs[i].ents[j].op :: .lst .ro b.objs[i].ents[j].who.length (b.objs[i].ents[j].who.map .str) :: (entsC b.objs[i].ents).drop ((j + 1) * 2) := by rw [show (j : Int).toNat = j by omega]; exact entsC_drop hjl2
      have hjn : ((0 ≤ (j : Int)) ∧ (j : Int) < (a.objs[i].ents.length : Int)) = True := by simp; omega
      have hjn2 : ((0 ≤ (j : Int)) ∧ (j : Int) < (b.objs[i].ents.length : Int)) = True := by simp; omega
      have hw := (hso.2 _ (List.getElem_mem hjl)).1
      have qs := p_esame a.objs[i].ents[j] b.objs[i].ents[j] (by omega)
      simp only [vE, eC] at qs
      simp only [hjn, hf, true_and, wk,Nat.reduceAdd,Nat.reduceLeDiff]
      simp only [List.append_assoc, g7, hjn2, hf2, true_and, wk,Nat.reduceEqDiff,Nat.reduceLeDiff,↓reduceIte]
      refine ⟨_, qs, ?_⟩
      simp only [wk]
      refine ⟨fun e => nox (sameO_no hjl hjl2 e), fun e => ⟨inR_of (by omega) (by omega), a.objs[i].ents.length - (j + 1), by omega, j + 1, _, by omega, rfl, rfl, by simp, fun k h1 h2 hk => ?_⟩⟩
      by_cases hkj : k < j
      · exact hall2 k h1 h2 hkj
      · obtain rfl : k = j := by omega
        exact e
    · have hyes : sameO a.objs[i] b.objs[i] = true := by
        simp only [sameO, Bool.and_eq_true, decide_eq_true_eq]
        exact ⟨v1, v2, hne, all_zip hne (fun k h1 h2 => hall2 k h1 h2 (by omega))⟩
      simp only [J_record_Same_j2, wk,Nat.reduceEqDiff,↓reduceIte]
      refine ⟨inR_of (by omega) (by omega), a.objs.length - (i + 1), by omega, i + 1, ex ++ [some (true, [.int .i64 a.objs[i].value, .lst .ro a.objs[i].ents.length (entsC a.objs[i].ents), .int .i64 a.objs[i].version])] ++ [some (true, [.int .i64 b.objs[i].value, .lst .ro b.objs[i].ents.length (entsC b.objs[i].ents), .int .i64 b.objs[i].version])] ++ ey, by omega, rfl, by rw [hH]; rfl, by simp, fun k h1 h2 hk => ?_⟩
      by_cases hki : k < i
      · exact hall k h1 h2 hki
      · obtain rfl : k = i := by omega
        exact hyes
  · simp only [J_record_Same_j1, wk,↓reduceIte]
    congr 1
    symm
    simp only [sameR, Bool.and_eq_true, decide_eq_true_eq]
    exact ⟨e1, hn, all_zip hn (fun k h1 h2 => hall k h1 h2 (by omega))⟩
def upTo (S : ByteArray) (p : Nat) : List UInt8 := S.data.toList.take p
theorem upTo_add (S : ByteArray) (p m : Nat) : upTo S (p + m) = upTo S p ++ (S.data.toList.drop p).take m := by
 unfold upTo; rw [List.take_add]
theorem ext_list (S : ByteArray) (p m : Nat) : (S.extract p (p + m)).data.toList = (S.data.toList.drop p).take m := by
 simp [List.extract_eq_take_drop]
theorem upTo_word {S w : ByteArray} {p q : Nat} (h : rWord S p = some (w, q)) : upTo S q = upTo S p ++ wordBytes w := by
 obtain ⟨h1, h2, h3, h4, h5⟩ := rWord_le h
 have hlt : p < S.data.toList.length := by simp; omega
 have hw : w.size = 2 * byteAt S p := by rw [h4]; simp; omega
 have hb := byteAt_lt S p
 have e : byteAt S p = S.data.toList[p].toNat := by
  unfold byteAt
  rw [List.getElem?_eq_getElem hlt]; rfl
 rw [show q = p + (1 + 2 * byteAt S p) by omega, upTo_add, List.drop_eq_getElem_cons hlt, Nat.add_comm 1, List.take_succ_cons, wordBytes]
 congr 2
 ·rw [hw, show 2 * byteAt S p / 2 = byteAt S p by omega, e]; simp
 ·rw [h4, show q = p + 1 + 2 * byteAt S p by omega, ext_list]
theorem upTo_words {S : ByteArray} {p : Nat} : ∀ {k : Nat} {l : List ByteArray} {q : Nat}, rWords S p k = some (l, q) → upTo S q = upTo S p ++ l.flatMap wordBytes
 | 0, l, q, h => by
  simp only [rWords, Option.some.injEq, Prod.mk.injEq] at h
  obtain ⟨rfl, rfl⟩ := h
  simp
 | k + 1, l, q, h => by
  simp only [rWords] at h
  split at h
  ·next l' q' hr =>
   split at h
   ·next w q2 hr2 =>
    simp only [Option.some.injEq, Prod.mk.injEq] at h
    obtain ⟨rfl, rfl⟩ := h
    rw [upTo_word hr2, upTo_words hr]
    simp
   ·cases h
  ·cases h
theorem upTo_set {S : ByteArray} {l : List ByteArray} {p q : Nat} (h : rSet S p = some (l, q)) : upTo S q = upTo S p ++ setBytes l ∧ setMay l = true ∧ p < q ∧ q ≤ S.size := by
 unfold rSet at h
 split at h
 ·cases h
 ·next hlt =>
  split at h
  ·next l' q' hr =>
   split at h
   ·next hm =>
    simp only [Option.some.injEq, Prod.mk.injEq] at h
    obtain ⟨rfl, rfl⟩ := h
    have hl := rWords_le (by omega) hr
    have hp : p < S.data.toList.length := by simp; omega
    refine ⟨?_, hm, by omega, hl.2.2.1⟩
    have e : byteAt S p = S.data.toList[p].toNat := by
     unfold byteAt
     rw [List.getElem?_eq_getElem hp]; rfl
    rw [upTo_words hr, upTo_add, List.drop_eq_getElem_cons hp, setBytes, hl.1, e]
    simp
   ·cases h
  ·cases h
def aft (r : List ByteArray) (k : Nat) (x : ByteArray) : Prop := k = 0 ∨ ∃ h : k - 1 < r.length, wless r[k - 1] x = true
structure RInv (l : List ByteArray) (k i : Nat) (best : ByteArray) (found : Bool) : Prop where
  no : found = false → ∀ x ∈ l.take i, ¬ aft (nrm l) k x
  mem : found = true → best ∈ l ∧ aft (nrm l) k best
  least : found = true → ∀ x ∈ l.take i, aft (nrm l) k x → wless x best = false
theorem setMay_small {l : List ByteArray} (h : setMay l = true) : l.length ≤ 16 ∧ ∀ x ∈ l, x.size ≤ 16 := ⟨(setMay_words h).1.2, fun x hx => by have := wordMay_size ((setMay_words h).2 x hx); omega⟩
def entB (x : Ent) : List UInt8 := num x.op.toNat ++ setBytes x.who
def objB (o : Obt) : List UInt8 := num o.value.toNat ++ (num o.version.toNat ++ (num o.ents.length ++ o.ents.flatMap entB))
def recB (r : Rcd) : List UInt8 := num r.boot.toNat ++ (num r.objs.length ++ r.objs.flatMap objB)
theorem addE_ok {l : List Ent} {x : Ent} (h : addE l x = 0) : mayEnt x = true ∧ idxE x l < 0 ∧ l.length < 12 := by
 unfold addE at h
 split at h
 ·next m =>
  split at h
  ·simp at h
  ·next i =>
   split at h
   ·simp at h
   ·next n => exact ⟨m, by omega, by omega⟩
 ·simp at h
theorem newE_ok : ∀ {l acc : List Ent}, newE acc l = 0 → acc.length ≤ 12 → (∀ x ∈ l, mayEnt x = true) ∧ acc.length + l.length ≤ 12
 | [], acc, _, h => ⟨by simp, by simpa using h⟩
 | x :: l, acc, h, hl => by
  simp only [newE] at h
  split at h
  ·next he =>
   obtain ⟨m, _, hn⟩ := addE_ok he
   obtain ⟨h1, h2⟩ := newE_ok h (by simp; omega)
   refine ⟨fun y hy => ?_, by simp at h2 ⊢; omega⟩
   rcases List.mem_cons.1 hy with rfl | hy
   ·exact m
   ·exact h1 y hy
  ·next he => exact absurd h he
theorem mayEnt_ok {x : Ent} (h : mayEnt x = true) : 0 ≤ x.op ∧ x.op < 8 ∧ setMay x.who = true := by
 simp only [mayEnt, Bool.and_eq_true, decide_eq_true_eq] at h
 exact h
theorem flat_len {α : Type} {f : α → List UInt8} {c : Nat} : ∀ (l : List α), (∀ x ∈ l, (f x).length ≤ c) → (l.flatMap f).length ≤ c * l.length
 | [], _ => by simp
 | x :: l, h => by
  have h1 := h x (by simp)
  have h2 := flat_len l (fun y hy => h y (by simp [hy]))
  simp only [List.flatMap_cons, List.length_append, List.length_cons, Nat.mul_succ]
  omega
theorem entB_len {x : Ent} (h : mayEnt x = true) : (entB x).length ≤ 309 := by
 obtain ⟨h1, h2, h3⟩ := mayEnt_ok h
 obtain ⟨w16, ws⟩ := setMay_small h3
 have l1 : (num x.op.toNat).length ≤ 9 := (num_len9 (by omega)).2
 have l2 : (x.who.flatMap wordBytes).length ≤ 17 * x.who.length := flat_len _ (fun y hy => by have := ws y hy; simp [wordBytes]; omega)
 simp only [entB, setBytes, List.length_append, List.length_cons]
 omega
theorem onum_ok {h : Hp} {id : Nat} {bs : List UInt8} (z : Int) (ho : h[id]? = some (oObj (false, bs))) (hl : bs.length ≤ 1000000000) (hz : 0 ≤ z ∧ z ≤ 4611686018427387904) :
  ACalls Try.prog 84 [.ptr id 0, .int .i64 z] h (fun a h' => a = .tup [] ∧ h' = h.set id (oObj (false, bs ++ num z.toNat))) := by
 have := a_onum (s := (false, bs)) z ho (by simp only; omega)
 have hk : okNum z = true := by simp [okNum, hz]
 rw [hk, wri_yes] at this
 exact this
theorem oset_ok {h : Hp} {id : Nat} {bs : List UInt8} (l : List ByteArray) (ho : h[id]? = some (oObj (false, bs))) (hl : bs.length ≤ 1000000) (hm : setMay l = true) :
  ACalls Try.prog 85 [.ptr id 0, .lst .ro l.length (l.map .str)] h (fun a h' => a = .tup [] ∧ h' = h.set id (oObj (false, bs ++ setBytes l))) := by
 obtain ⟨w16, ws⟩ := setMay_small hm
 have := a_oset (s := (false, bs)) l ho (by simp only; omega) (by omega) (fun x hx => by have := ws x hx; omega)
 rw [hm, wri_yes] at this
 exact this
def encR (r : Rcd) : AV := if mayR r = true then .tup [.str ⟨(recB r).toArray⟩, .int .i64 0] else .tup [.str ⟨#[]⟩, .int .i64 2]
theorem free_encR (r : Rcd) : free (encR r) = true := by unfold encR; split <;> rfl
theorem objB_len {o : Obt} (h : mayO o = true) : (objB o).length ≤ 4000 := by
 simp only [mayO, Bool.and_eq_true, numOk, decide_eq_true_eq] at h
 obtain ⟨h1, h2, h3⟩ := h
 obtain ⟨m1, m2⟩ := newE_ok h3 (by simp)
 have l1 : (num o.value.toNat).length ≤ 9 := (num_len9 (by omega)).2
 have l2 : (num o.version.toNat).length ≤ 9 := (num_len9 (by omega)).2
 have l3 : (num o.ents.length).length ≤ 9 := (num_len9 (by simp at m2; omega)).2
 have l4 := flat_len (f := entB) (c := 309) o.ents (fun x hx => entB_len (m1 x hx))
 simp only [objB, List.length_append]
 simp at m2
 omega
theorem p_renc (r : Rcd) (hr : smallR r) : PCalls Try.prog 48 [vR r] (encR r) := by
 have m1 := p_rmay1 r hr
 simp only [vR, rC] at m1
 refine pcalls_of (by simp [free.frees, free_vR]) (free_encR r) (acalls_of mixed J_record_Encode_ok (Nat.le_of_ble_eq_true rfl) ?_); simp only [J_record_Encode, vR, rC, wk,Nat.reduceEqDiff,Nat.reduceAdd,Nat.reduceLeDiff,↓reduceIte]
 refine PCalls.use (m1) ?_; simp only [wk,Nat.reduceEqDiff,↓reduceIte]
 refine ⟨fun e1 => by unfold encR; rw [if_neg (by simp [e1])], fun e1 => ?_⟩
 have e1' := e1
 simp only [mayR, Bool.and_eq_true, decide_eq_true_eq, List.all_eq_true] at e1'
 obtain ⟨hboot, h4, hmo⟩ := e1'
 have lb : (num r.boot.toNat).length ≤ 9 := (num_len9 (by omega)).2
 have ln : (num r.objs.length).length ≤ 9 := (num_len9 (by omega)).2
 refine ACalls.use (onum_ok (bs := []) r.boot rfl (by simp) (by omega)) ?_; rintro _ _ ⟨rfl, rfl⟩; simp only [wk,Nat.reduceEqDiff,↓reduceIte]
 refine ACalls.use (onum_ok (bs := num r.boot.toNat) r.objs.length rfl (by omega) (by omega)) ?_; rintro _ _ ⟨rfl, rfl⟩; simp only [wk,Nat.reduceEqDiff,↓reduceIte]
 simp only [Int.toNat_natCast]
 obtain ⟨hd0, hhd⟩ : ∃ b : List UInt8, b = num r.boot.toNat ++ num r.objs.length := ⟨_, rfl⟩
 have lh : hd0.length ≤ 18 := by rw [hhd]; simp; omega
 rw [← hhd]
 have hpre : ∀ i, ((r.objs.take i).flatMap objB).length ≤ 16000 := fun i => by
  have := flat_len (f := objB) (c := 4000) (r.objs.take i) (fun x hx => objB_len (hmo x (List.mem_of_mem_take hx)))
  have h2 : (r.objs.take i).length ≤ 4 := by simp; omega
  omega
 refine W_loop (fun n fr h' => ∃ (i : Nat) (ex : Hp), i ≤ r.objs.length ∧ n = r.objs.length - i ∧ h' = some (false, [.int .i64 r.boot, .lst .ro r.objs.length (objsC r.objs)]) :: oObj (false, hd0 ++ (r.objs.take i).flatMap objB) :: ex ∧ fr = [(4, .ptr 1 0), (20, .lst .ro r.objs.length (objsC r.objs)), (21, .int .i64 r.objs.length), (22, .int .i64 i)]) r.objs.length ⟨0, [], by omega, by omega, by simp, rfl⟩ ?_
 rintro n fr h' ⟨i, ex, hi, rfl, rfl, rfl⟩
 simp only [J_record_Encode_j4, wk,Nat.reduceEqDiff,Nat.reduceAdd,Nat.reduceLeDiff,↓reduceIte]
 refine ⟨fun hlt => ?_, fun hge => ?_⟩
 ·have hil : i < r.objs.length := by omega
  have hd : (objsC r.objs).drop ((i : Int).toNat * 3) = .int .i64 r.objs[i].value :: .lst .ro r.objs[i].ents.length (entsC r.objs[i].ents) :: .int .i64 r.objs[i].version :: (objsC r.objs).drop ((i + 1) * 3) := by rw [show (i : Int).toNat = i by omega]; exact objsC_drop hil
  have hmi := hmo _ (List.getElem_mem hil)
  have hmi' := hmi
  simp only [mayO, Bool.and_eq_true, numOk, decide_eq_true_eq] at hmi'
  obtain ⟨n1, n2, n3⟩ := hmi'
  obtain ⟨me, ml⟩ := newE_ok n3 (by simp)
  simp only [List.length_nil, Nat.zero_add] at ml
  have lp := hpre i
  have l1 : (num r.objs[i].value.toNat).length ≤ 9 := (num_len9 (by omega)).2
  have l2 : (num r.objs[i].version.toNat).length ≤ 9 := (num_len9 (by omega)).2
  have l3 : (num r.objs[i].ents.length).length ≤ 9 := (num_len9 (by omega)).2
  obtain ⟨B0, hB0⟩ : ∃ b : List UInt8, b = hd0 ++ (r.objs.take i).flatMap objB := ⟨_, rfl⟩
  have lB0 : B0.length ≤ 16018 := by rw [hB0, List.length_append]; omega
  rw [← hB0]
  refine ⟨⟨by omega, by omega⟩, ?_⟩
  simp only [hd, wk,Nat.reduceEqDiff,Nat.reduceAdd,Nat.reduceLeDiff,↓reduceIte]
  refine ACalls.use (onum_ok (bs := B0) r.objs[i].value rfl (by omega) n1) ?_; rintro _ _ ⟨rfl, rfl⟩; simp only [wk,Nat.reduceEqDiff,↓reduceIte]
  refine ACalls.use (onum_ok (bs := B0 ++ num r.objs[i].value.toNat) r.objs[i].version rfl (by simp; omega) n2) ?_; rintro _ _ ⟨rfl, rfl⟩; simp only [wk,Nat.reduceEqDiff,↓reduceIte]
  refine ACalls.use (onum_ok (bs := B0 ++ num r.objs[i].value.toNat ++ num r.objs[i].version.toNat) r.objs[i].ents.length rfl (by simp; omega) (by omega)) ?_; rintro _ _ ⟨rfl, rfl⟩; simp only [wk,Nat.reduceEqDiff,↓reduceIte]
  simp only [Int.toNat_natCast]
  obtain ⟨B1, hB1⟩ : ∃ b : List UInt8, b = B0 ++ num r.objs[i].value.toNat ++ num r.objs[i].version.toNat ++ num r.objs[i].ents.length := ⟨_, rfl⟩
  have lB1 : B1.length ≤ 16045 := by rw [hB1]; simp only [List.length_append]; omega
  rw [← hB1]
  have hpre2 : ∀ j, ((r.objs[i].ents.take j).flatMap entB).length ≤ 4000 := fun j => by
   have := flat_len (f := entB) (c := 309) (r.objs[i].ents.take j) (fun x hx => entB_len (me x (List.mem_of_mem_take hx)))
   have h2 : (r.objs[i].ents.take j).length ≤ 12 := by simp; omega
   omega
  refine W_loop (fun n fr h' => ∃ (j : Nat) (ey : Hp), j ≤ r.objs[i].ents.length ∧ n = r.objs[i].ents.length - j ∧ h' = some (false, [.int .i64 r.boot, .lst .ro r.objs.length (objsC r.objs)]) :: oObj (false, B1 ++ (r.objs[i].ents.take j).flatMap entB) :: ey ∧ fr = [(4, .ptr 1 0), (20, .lst .ro r.objs.length (objsC r.objs)), (21, .int .i64 r.objs.length), (22, .int .i64 i), (37, .lst .ro r.objs[i].ents.length (entsC r.objs[i].ents)), (38, .int .i64 r.objs[i].ents.length), (39, .int .i64 j)]) r.objs[i].ents.length ⟨0, ex ++ [some (true, [.int .i64 r.objs[i].value, .lst .ro r.objs[i].ents.length (entsC r.objs[i].ents), .int .i64 r.objs[i].version])], by omega, by omega, by simp, rfl⟩ ?_
  rintro n fr h' ⟨j, ey, hj, rfl, rfl, rfl⟩
  simp only [J_record_Encode_j3, wk,Nat.reduceEqDiff,Nat.reduceAdd,Nat.reduceLeDiff,↓reduceIte]
  refine ⟨fun hlt2 => ?_, fun hge2 => ?_⟩
  ·have hjl : j < r.objs[i].ents.length := by omega
   have hf : (entsC r.objs[i].ents).drop ((j : Int).toNat * 2) = .int .i64 r.objs[i].ents[j].op :: .lst .ro r.objs[i].ents[j].who.length (r.objs[i].ents[j].who.map .str) :: (entsC r.objs[i].ents).drop ((j + 1) * 2) := by rw [show (j : Int).toNat = j by omega]; exact entsC_drop hjl
   obtain ⟨p1, p2, p3⟩ := mayEnt_ok (me _ (List.getElem_mem hjl))
   have lq := hpre2 j
   have l4 : (num r.objs[i].ents[j].op.toNat).length ≤ 9 := (num_len9 (by omega)).2
   obtain ⟨B2, hB2⟩ : ∃ b : List UInt8, b = B1 ++ (r.objs[i].ents.take j).flatMap entB := ⟨_, rfl⟩
   have lB2 : B2.length ≤ 20045 := by rw [hB2, List.length_append]; omega
   rw [← hB2]
   refine ⟨⟨by omega, by omega⟩, ?_⟩
   simp only [hf, wk,Nat.reduceEqDiff,Nat.reduceAdd,Nat.reduceLeDiff,↓reduceIte]
   refine ACalls.use (onum_ok (bs := B2) r.objs[i].ents[j].op rfl (by omega) (by omega)) ?_; rintro _ _ ⟨rfl, rfl⟩; simp only [wk,Nat.reduceEqDiff,↓reduceIte]
   refine ACalls.use (oset_ok (bs := B2 ++ num r.objs[i].ents[j].op.toNat) r.objs[i].ents[j].who rfl (by simp; omega) p3) ?_; rintro _ _ ⟨rfl, rfl⟩; simp only [wk,Nat.reduceEqDiff,↓reduceIte]
   refine ⟨inR_of (by omega) (by omega), r.objs[i].ents.length - (j + 1), by omega, j + 1, ey ++ [some (true, [.int .i64 r.objs[i].ents[j].op, .lst .ro r.objs[i].ents[j].who.length (r.objs[i].ents[j].who.map .str)])], by omega, rfl, ?_, by simp⟩
   rw [List.take_succ_eq_append_getElem hjl, List.flatMap_append, hB2]
   simp [entB, List.append_assoc]
  ·have : j = r.objs[i].ents.length := by omega
   subst this
   simp only [J_record_Encode_j2, wk,Nat.reduceEqDiff,↓reduceIte]
   refine ⟨inR_of (by omega) (by omega), r.objs.length - (i + 1), by omega, i + 1, ey, by omega, rfl, ?_, by simp⟩
   rw [List.take_succ_eq_append_getElem hil, List.flatMap_append, hB1, hB0, List.take_length]
   simp [objB, List.append_assoc]
 ·have : i = r.objs.length := by omega
  subst this
  simp only [J_record_Encode_j1, wk,↓reduceIte]
  refine ACalls.use (a_odone (s := (false, hd0 ++ (r.objs.take r.objs.length).flatMap objB)) rfl) ?_; rintro _ _ ⟨rfl, rfl⟩; simp only [wk,Nat.reduceEqDiff,↓reduceIte]
  simp only [told, eI, wk,↓reduceIte]
  unfold encR
  rw [if_pos e1, List.take_length, hhd]
  simp [recB, List.append_assoc]
def nI : Option (Nat × Nat) → Nat
 | some (n, _) => n
 | none => 0
def nL : Option (List ByteArray × Nat) → List ByteArray
 | some (l, _) => l
 | none => []
theorem vI_n (r : Option (Nat × Nat)) : vI r = .int .i64 (nI r) := by cases r <;> rfl
def rN (S : ByteArray) (m : Int) (s : Bool × Nat) : Option (Nat × Nat) := if s.1 = true then none else rNum S m s.2
def rL (S : ByteArray) (s : Bool × Nat) : Option (List ByteArray × Nat) := if s.1 = true then none else rSet S s.2
theorem rN_eq (S : ByteArray) (m : Int) (s : Bool × Nat) : (if s.1 = true then none else rNum S m s.2) = rN S m s := rfl
theorem rL_eq (S : ByteArray) (s : Bool × Nat) : (if s.1 = true then none else rSet S s.2) = rL S s := rfl
theorem rN_le {S : ByteArray} {m : Int} {s : Bool × Nat} {q : Nat} (hs : s.2 ≤ S.size) (hq : q ≤ S.size) : (stO (rN S m s) q).2 ≤ S.size := by
 unfold rN
 split
 ·exact hq
 ·cases h : rNum S m s.2 with
  | none => exact hq
  | some x => obtain ⟨n, p⟩ := x; exact (rNum_le h hs).2.1
theorem rL_le {S : ByteArray} {s : Bool × Nat} {q : Nat} (hq : q ≤ S.size) : (stO (rL S s) q).2 ≤ S.size := by
 unfold rL
 split
 ·exact hq
 ·cases h : rSet S s.2 with
  | none => exact hq
  | some x => obtain ⟨n, p⟩ := x; exact (upTo_set h).2.2.2
theorem nI_le {S : ByteArray} {m : Int} {s : Bool × Nat} (hs : s.2 ≤ S.size) : nI (rN S m s) ≤ 4611686018427387904 ∧ (0 ≤ m → (nI (rN S m s) : Int) ≤ m) := by
 unfold rN
 split
 ·exact ⟨by simp [nI], fun h => by simpa [nI] using h⟩
 ·cases h : rNum S m s.2 with
  | none => exact ⟨by simp [nI], fun h => by simpa [nI] using h⟩
  | some x => obtain ⟨n, p⟩ := x; obtain ⟨_, _, h3, h4⟩ := rNum_le h hs; exact ⟨h3, fun _ => h4⟩
def fL (r : Option (List ByteArray × Nat)) : Fl := match r with
 | some _ => .ro
 | none => .clip
theorem vL_n (r : Option (List ByteArray × Nat)) : vL r = .lst (fL r) (nL r).length ((nL r).map .str) := by cases r <;> rfl
theorem deg_fL (r : Option (List ByteArray × Nat)) (n : Nat) (l : List AV) : deg (.lst (fL r) n l) = .lst (fL r) n l := by cases r <;> rfl
theorem a_num' {h : Hp} {id : Nat} {S : ByteArray} {s : Bool × Nat} (most : Int) (ho : h[id]? = some (iObj S s)) (hs : S.size ≤ 1000000) (hp : s.2 ≤ S.size) {r : Option (Nat × Nat)} (e : r = rN S most s) {s' : Bool × Nat} (d : s' = stO r s.2) :
  ACalls Try.prog 88 [.ptr id 0, .int .i64 most] h (fun a h' => a = .int .i64 (nI r) ∧ h' = h.set id (iObj S s')) := by
 have := a_inum most ho (by omega) hp
 rw [rN_eq, ← e, vI_n, ← d] at this
 exact this
def qWord (S : ByteArray) (s : Bool × Nat) : Nat := match (if s.1 = true then none else rCount S 8 s.2) with
 | none => qCount S s.1 s.2
 | some (n, q) => (match rTake S (2 * n) q with
  | none => q
  | some (_, q2) => q2)
theorem qWord_le {S : ByteArray} {s : Bool × Nat} (hp : s.2 ≤ S.size) : qWord S s ≤ S.size := by
 unfold qWord
 split
 ·exact qCount_le hp
 ·next n q hr =>
  have hle : q ≤ S.size := by
   split at hr
   ·cases hr
   ·exact (rCount_le hr).2.1
  split
  ·exact hle
  ·next w q2 h2 => exact (rTake_le h2).2.1
theorem a_iwordq {h : Hp} {id : Nat} {S : ByteArray} {s : Bool × Nat} (ho : h[id]? = some (iObj S s)) (hs : S.size ≤ 1000000000000) (hp : s.2 ≤ S.size) :
  ACalls Try.prog 110 [.ptr id 0] h (fun a h' => a = vS (if s.1 then none else rWord S s.2) ∧ h' = h.set id (iObj S (stO (if s.1 then none else rWord S s.2) (qWord S s)))) := by
 obtain ⟨bad, p⟩ := s
 simp only at hp ⊢
 have hq1 := qCount_le (S := S) (bad := bad) hp
 obtain ⟨q0, hq0⟩ : ∃ q, q = qWord S (bad, p) := ⟨_, rfl⟩
 rw [← hq0]
 refine acalls_of mixed F_pack_In_Word_ok (Nat.le_of_ble_eq_true rfl) ?_; simp only [F_pack_In_Word, wk,reduceCtorEq,↓reduceIte]
 unfold qWord at hq0
 cases hr : (if bad = true then none else rCount S 8 p) with
 | none =>
  have hrw : (if bad = true then none else rWord S p) = none := by
   cases bad with
   | true => rfl
   | false =>
    simp only [Bool.false_eq_true, if_false] at hr ⊢
    rw [rWord_eq, hr]
  simp only [hr] at hq0
  subst hq0
  rw [hrw]
  have hc := a_count (s := (bad, p)) 8 ho hs hp
  simp only [hr, vI, stO] at hc
  refine ACalls.use (hc) ?_; rintro _ _ ⟨rfl, rfl⟩; simp only [wk,Nat.reduceEqDiff,Int.reduceMul,↓reduceIte]
  refine ⟨inR_of (by omega) (by omega), ?_⟩
  refine ACalls.use (a_take' (s := (true, qCount S bad p)) 0 (hset ho _) hs hq1 (by omega)) ?_; rintro _ _ ⟨rfl, rfl⟩; simp only [wk,reduceCtorEq,↓reduceIte, stO, vS, iObj]
  refine PCalls.use (p_wmay ⟨#[]⟩ (by decide)) ?_; simp only [wk,implies_true,eq_self,Nat.reduceEqDiff,reduceCtorEq,↓reduceIte]
  rw [wordMay_empty]
  simp only [wk,forall_const,eq_self]
  refine ACalls.use (a_fail (hset ho _)) ?_; rintro _ _ ⟨rfl, rfl⟩; simp only [wk,↓reduceIte]
  (try first | exact ⟨rfl, rfl⟩ | rfl | trivial)
 | some x =>
  obtain ⟨n, q⟩ := x
  have hb : bad = false := by cases bad with
   | true => simp at hr
   | false => rfl
  subst hb
  simp only [hr] at hq0
  simp only [Bool.false_eq_true, if_false] at hr ⊢
  have hle := rCount_le hr
  cases hr2 : rTake S (2 * n) q with
  | none =>
   have hrw : rWord S p = none := by rw [rWord_eq, hr]; simp only [hr2]
   simp only [hr2] at hq0
   subst hq0
   rw [hrw]
   have hc := a_count (s := (false, p)) 8 ho hs hp
   simp only [Bool.false_eq_true, if_false, hr, vI, stO] at hc
   refine ACalls.use (hc) ?_; rintro _ _ ⟨rfl, rfl⟩; simp only [wk,Nat.reduceEqDiff,↓reduceIte]
   refine ⟨inR_of (by omega) (by omega), ?_⟩
   have ht := a_take' (s := (false, q0)) (2 * n) (hset ho (iObj S (false, q0))) hs hle.2.1 (by omega)
   simp only [Bool.false_eq_true, if_false, hr2, vS, stO] at ht
   rw [show ((2 : Int) * (n : Int)) = ((2 * n : Nat) : Int) by omega]
   refine ACalls.use (ht) ?_; rintro _ _ ⟨rfl, rfl⟩; simp only [wk,reduceCtorEq,↓reduceIte]
   refine PCalls.use (p_wmay ⟨#[]⟩ (by decide)) ?_; simp only [wk,Nat.reduceEqDiff,reduceCtorEq,↓reduceIte]
   rw [wordMay_empty]
   simp only [wk,forall_const,eq_self]
   refine ACalls.use (a_fail (bad := true) (hset ho _)) ?_; rintro _ _ ⟨rfl, rfl⟩; simp only [wk,↓reduceIte]
   (try first | exact ⟨rfl, rfl⟩ | rfl | trivial)
  | some y =>
   obtain ⟨w, q2⟩ := y
   have hle2 := rTake_le hr2
   simp only [hr2] at hq0
   subst hq0
   have hrw : rWord S p = if wordMay w then some (w, q0) else none := by rw [rWord_eq, hr]; simp only [hr2]
   rw [hrw]
   have hc := a_count (s := (false, p)) 8 ho hs hp
   simp only [Bool.false_eq_true, if_false, hr, vI, stO] at hc
   refine ACalls.use (hc) ?_; rintro _ _ ⟨rfl, rfl⟩; simp only [wk,Nat.reduceEqDiff,↓reduceIte]
   refine ⟨inR_of (by omega) (by omega), ?_⟩
   have ht := a_take' (s := (false, q)) (2 * n) (hset ho (iObj S (false, q))) hs hle.2.1 (by omega)
   simp only [Bool.false_eq_true, if_false, hr2, vS, stO] at ht
   rw [show ((2 : Int) * (n : Int)) = ((2 * n : Nat) : Int) by omega]
   refine ACalls.use (ht) ?_; rintro _ _ ⟨rfl, rfl⟩; simp only [wk,reduceCtorEq,↓reduceIte]
   refine PCalls.use (p_wmay w (by rw [hle2.2.2]; simp; omega)) ?_; simp only [wk,Nat.reduceEqDiff,reduceCtorEq,↓reduceIte]
   refine ⟨fun hw => ?_, fun hw => ?_⟩
   ·refine ACalls.use (a_fail (bad := false) (hset ho _)) ?_; rintro _ _ ⟨rfl, rfl⟩; simp only [wk,↓reduceIte]
    rw [hw]; (try first | exact ⟨rfl, rfl⟩ | rfl | trivial)
   ·rw [hw]; (try first | exact ⟨rfl, rfl⟩ | rfl | trivial)
def qWords (S : ByteArray) (p : Nat) : Nat → Nat
 | 0 => p
 | k + 1 => qWord S (stO (rWords S p k) (qWords S p k))
theorem rWords_st {S : ByteArray} {q q' i : Nat} (hq : q ≤ S.size) (hq' : q' ≤ S.size) : (stO (rWords S q i) q').2 ≤ S.size := by
 cases hw : rWords S q i with
 | none => exact hq'
 | some x => exact (rWords_le hq hw).2.2.1
theorem qWords_le {S : ByteArray} {p : Nat} (hp : p ≤ S.size) : ∀ k, qWords S p k ≤ S.size
 | 0 => hp
 | k + 1 => qWord_le (rWords_st hp (qWords_le hp k))
def qSet (S : ByteArray) (s : Bool × Nat) : Nat := match (if s.1 = true then none else rCount S 16 s.2) with
 | none => qCount S s.1 s.2
 | some (n, q) => (match rWords S q n with
  | none => qWords S q n
  | some (_, q2) => q2)
theorem qSet_le {S : ByteArray} {s : Bool × Nat} (hp : s.2 ≤ S.size) : qSet S s ≤ S.size := by
 unfold qSet
 split
 ·exact qCount_le hp
 ·next n q hr =>
  have hle : q ≤ S.size := by
   split at hr
   ·cases hr
   ·exact (rCount_le hr).2.1
  split
  ·exact qWords_le hle _
  ·next w q2 h2 => exact (rWords_le hle h2).2.2.1
theorem a_isetq {h : Hp} {id : Nat} {S : ByteArray} {s : Bool × Nat} (ho : h[id]? = some (iObj S s)) (hs : S.size ≤ 1000000000000) (hp : s.2 ≤ S.size) :
  ACalls Try.prog 89 [.ptr id 0] h (fun a h' => a = vL (if s.1 then none else rSet S s.2) ∧ h' = h.set id (iObj S (stO (if s.1 then none else rSet S s.2) (qSet S s)))) := by
 obtain ⟨bad, p⟩ := s
 simp only at hp ⊢
 have hq1 := qCount_le (S := S) (bad := bad) hp
 obtain ⟨q0, hq0⟩ : ∃ q, q = qSet S (bad, p) := ⟨_, rfl⟩
 rw [← hq0]
 refine acalls_of mixed F_pack_In_Set_ok (Nat.le_of_ble_eq_true rfl) ?_; simp only [F_pack_In_Set, wk,reduceCtorEq,↓reduceIte]
 unfold qSet at hq0
 have hc := a_count (s := (bad, p)) 16 ho hs hp
 cases hr : (if bad = true then none else rCount S 16 p) with
 | none =>
  have hrw : (if bad = true then none else rSet S p) = none := by
   cases bad with
   | true => rfl
   | false =>
    simp only [Bool.false_eq_true, if_false] at hr ⊢
    rw [rSet_eq S p hp, hr]
  simp only [hr] at hq0
  subst hq0
  rw [hrw]
  simp only [hr, vI, stO] at hc
  refine ACalls.use (hc) ?_; rintro _ _ ⟨rfl, rfl⟩; simp only [wk,Nat.reduceEqDiff,Int.reduceLE,reduceCtorEq,↓reduceIte]
  (repeat (refine And.intro (by first | omega | exact inR_of (by omega) (by omega) | exact ⟨by omega, by omega⟩ | exact ⟨by omega, by omega, by omega⟩ | rfl) ?_))
  refine W_loop (fun k fr h' => k = 0 ∧ fr = [(0, .ptr id 0), (4, .lst (.own 72) 0 []), (9, .int .i64 0), (10, .int .i64 0)] ∧ h' = h.set id (iObj S (true, qCount S bad p))) 0 ⟨rfl, rfl, rfl⟩ ?_
  rintro k fr h' ⟨rfl, rfl, rfl⟩
  simp only [wk,Nat.reduceEqDiff,Int.reduceLT,reduceCtorEq,↓reduceIte]
  refine ACalls.use (a_well (bad := true) (hset ho _)) ?_; rintro _ _ ⟨rfl, rfl⟩; simp only [wk,Nat.reduceEqDiff,reduceCtorEq,↓reduceIte]
  refine ACalls.use (a_fail (bad := true) (hset ho _)) ?_; rintro _ _ ⟨rfl, rfl⟩; simp only [wk,↓reduceIte]
  exact ⟨rfl, rfl⟩
 | some x =>
  obtain ⟨n, q⟩ := x
  have hb : bad = false := by cases bad with
   | true => simp at hr
   | false => rfl
  subst hb
  simp only [hr] at hq0
  simp only [Bool.false_eq_true, if_false] at hr hc ⊢
  have hle := rCount_le hr
  have hrw := rSet_eq S p hp
  rw [hr] at hrw
  simp only at hrw
  rw [hrw]
  simp only [hr, vI, stO] at hc
  refine ACalls.use (hc) ?_; rintro _ _ ⟨rfl, rfl⟩; simp only [wk,Nat.reduceEqDiff,reduceCtorEq,↓reduceIte]
  refine ⟨⟨by omega, by omega, by omega⟩, ?_⟩
  refine W_loop (fun k fr h' => ∃ (i : Nat) (ws : List ByteArray), i ≤ n ∧ k = n - i ∧ ws.length = i ∧ fr = [(0, .ptr id 0), (4, .lst (.own 72) i (ws.map .str)), (9, .int .i64 n), (10, .int .i64 i)] ∧ h' = h.set id (iObj S (stO (rWords S q i) (qWords S q i))) ∧ ∀ l q'', rWords S q i = some (l, q'') → ws = l) n ⟨0, [], by omega, by omega, rfl, rfl, rfl, fun l q'' h => by simp only [rWords, Option.some.injEq, Prod.mk.injEq] at h; exact h.1⟩ ?_
  rintro k fr h' ⟨i, ws, hi, rfl, hwl, rfl, rfl, hws⟩
  have hst := rWords_st (i := i) hle.2.1 (qWords_le hle.2.1 i)
  simp only [wk,Nat.reduceEqDiff,reduceCtorEq,↓reduceIte]
  refine ⟨fun hlt => ?_, fun hge => ?_⟩
  ·have hword := a_iwordq (s := stO (rWords S q i) (qWords S q i)) (hset ho (iObj S (stO (rWords S q i) (qWords S q i)))) hs hst
   have hstep : stO (if (stO (rWords S q i) (qWords S q i)).1 = true then none else rWord S (stO (rWords S q i) (qWords S q i)).2) (qWord S (stO (rWords S q i) (qWords S q i))) = stO (rWords S q (i + 1)) (qWords S q (i + 1)) := by
    rw [qWords]
    cases hw : rWords S q i with
    | none => simp only [rWords, hw, stO, if_true]
    | some x =>
     obtain ⟨l, q3⟩ := x
     simp only [rWords, hw, stO, Bool.false_eq_true, if_false]
     cases rWord S q3 <;> rfl
   obtain ⟨w, hwv, hwx⟩ := vS_str (if (stO (rWords S q i) (qWords S q i)).1 = true then none else rWord S (stO (rWords S q i) (qWords S q i)).2)
   have hval : ∀ l q'', rWords S q (i + 1) = some (l, q'') → ws ++ [w] = l := by
    intro l q'' he
    cases hw : rWords S q i with
    | none => simp only [rWords, hw] at he; cases he
    | some x =>
     obtain ⟨l', q3⟩ := x
     simp only [rWords, hw] at he
     simp only [hw, stO, Bool.false_eq_true, if_false] at hwx
     cases hw2 : rWord S q3 with
     | none => rw [hw2] at he; cases he
     | some y =>
      obtain ⟨w', q4⟩ := y
      rw [hw2] at he
      simp only [Option.some.injEq, Prod.mk.injEq] at he
      rw [hws l' q3 hw, ← hwx w' q4 hw2, he.1]
   rw [hwv, hstep] at hword
   refine ACalls.use (hword) ?_; rintro _ _ ⟨rfl, rfl⟩; simp only [wk,Nat.reduceEqDiff,Nat.reduceLeDiff,reduceCtorEq,↓reduceIte]
   (repeat (refine And.intro (by first | omega | exact inR_of (by omega) (by omega) | exact ⟨by omega, by omega⟩ | exact ⟨by omega, by omega, by omega⟩ | rfl) ?_))
   exact ⟨n - (i + 1), by omega, i + 1, ws ++ [w], by omega, rfl, by simp [hwl], by simp, rfl, hval⟩
  ·have hin : i = n := by omega
   subst hin
   cases hw : rWords S q i with
   | none =>
    simp only [hw] at hq0
    subst hq0
    simp only [stO]
    refine ACalls.use (a_well (bad := true) (hset ho _)) ?_; rintro _ _ ⟨rfl, rfl⟩; simp only [wk,Nat.reduceEqDiff,reduceCtorEq,↓reduceIte]
    refine ACalls.use (a_fail (bad := true) (hset ho _)) ?_; rintro _ _ ⟨rfl, rfl⟩; simp only [wk,↓reduceIte]
    (try first | exact ⟨rfl, rfl⟩ | rfl | trivial)
   | some x =>
    obtain ⟨l, q3⟩ := x
    simp only [hw] at hq0
    subst hq0
    have hl := hws l q0 hw
    subst hl
    have hwl' := rWords_le hle.2.1 hw
    simp only [stO]
    refine ACalls.use (a_well (bad := false) (hset ho _)) ?_; rintro _ _ ⟨rfl, rfl⟩; simp only [wk,Nat.reduceEqDiff,reduceCtorEq,↓reduceIte]
    rw [← hwl]
    refine PCalls.use (p_smay ws (by omega) (fun x hx => by have := wordMay_size (hwl'.2.2.2 x hx); omega)) ?_; simp only [wk,Nat.reduceEqDiff,reduceCtorEq,↓reduceIte]
    refine ⟨fun hm => ?_, fun hm => ?_⟩
    ·refine ACalls.use (a_fail (bad := false) (hset ho _)) ?_; rintro _ _ ⟨rfl, rfl⟩; simp only [wk,↓reduceIte]
     rw [hm]; exact ⟨rfl, rfl⟩
    ·rw [hm]; (try first | exact ⟨rfl, rfl⟩ | rfl | trivial)
theorem a_setq {h : Hp} {id : Nat} {S : ByteArray} {s : Bool × Nat} (ho : h[id]? = some (iObj S s)) (hs : S.size ≤ 1000000) (hp : s.2 ≤ S.size) {r : Option (List ByteArray × Nat)} (e : r = rL S s) {s' : Bool × Nat} (d : s' = stO r (qSet S s)) :
  ACalls Try.prog 89 [.ptr id 0] h (fun a h' => a = .lst (fL r) (nL r).length ((nL r).map .str) ∧ h' = h.set id (iObj S s')) := by
 have := a_isetq ho (by omega) hp
 rw [rL_eq, ← e, vL_n, ← d] at this
 exact this
def rMany {α : Type} (f : Nat → Option (α × Nat)) (p : Nat) : Nat → Option (List α × Nat)
 | 0 => some ([], p)
 | k + 1 => match rMany f p k with
  | some (l, q) => (match f q with
   | some (x, q') => some (l ++ [x], q')
   | none => none)
  | none => none
def rEnt (S : ByteArray) (p : Nat) : Option (Ent × Nat) := match rNum S 7 p with
 | none => none
 | some (n, q) => match rSet S q with
  | none => none
  | some (l, q') => some (⟨n, l⟩, q')
def rObt (S : ByteArray) (p : Nat) : Option (Obt × Nat) := match rNum S 4611686018427387904 p with
 | none => none
 | some (v, q1) => match rNum S 4611686018427387904 q1 with
  | none => none
  | some (w, q2) => match rNum S 12 q2 with
   | none => none
   | some (m, q3) => match rMany (rEnt S) q3 m with
    | none => none
    | some (l, q4) => some (⟨v, l, w⟩, q4)
def rRec (S : ByteArray) : Option (Rcd × Nat) := match rNum S 40 0 with
 | none => none
 | some (b, q1) => match rNum S 4 q1 with
  | none => none
  | some (n, q2) => match rMany (rObt S) q2 n with
   | none => none
   | some (l, q3) => some (⟨b, l⟩, q3)
def decR (S : ByteArray) : Option Rcd := match rRec S with
 | none => none
 | some (r, q) => if q < S.size then none else if mayR r = true then some r else none
def decRV (r : Option Rcd) : AV :=
 match r with
 | some c => .tup [vR c, .int .i64 0]
 | none => .tup [vR zeroR, .int .i64 2]
theorem free_decRV (r : Option Rcd) : free (decRV r) = true := by cases r <;> simp [decRV, free, free.frees, free_vR]
def Sees {α : Type} (r : Option (List α × Nat)) (C : List α → List AV) (s : Bool × Nat) (cs : List AV) : Prop := match r with
 | some (l, q) => s = (false, q) ∧ cs = C l
 | none => s.1 = true
def rM {α : Type} (f : Nat → Option (α × Nat)) (s : Bool × Nat) (k : Nat) : Option (List α × Nat) := if s.1 = true then none else rMany f s.2 k
theorem sees0 {α : Type} {f : Nat → Option (α × Nat)} {C : List α → List AV} (s : Bool × Nat) (hC : C [] = []) : Sees (rM f s 0) C s [] := by
 obtain ⟨b, p⟩ := s
 cases b with
 | true => rfl
 | false => exact ⟨rfl, hC.symm⟩
theorem seesStep {α : Type} {f : Nat → Option (α × Nat)} {C : List α → List AV} {s0 s s' : Bool × Nat} {k : Nat} {cs ds : List AV} (h : Sees (rM f s0 k) C s cs)
  (hb : s.1 = true → s'.1 = true) (hg : s.1 = false → match f s.2 with
   | some (x, q) => s' = (false, q) ∧ ∀ l, C (l ++ [x]) = C l ++ ds
   | none => s'.1 = true) : Sees (rM f s0 (k + 1)) C s' (cs ++ ds) := by
 unfold Sees at h ⊢
 unfold rM at h ⊢
 obtain ⟨b0, p0⟩ := s0
 cases b0 with
 | true => exact hb h
 | false =>
  simp only [Bool.false_eq_true, if_false, rMany] at h ⊢
  cases hr : rMany f p0 k with
  | none => rw [hr] at h; exact hb h
  | some x =>
   obtain ⟨l, q⟩ := x
   rw [hr] at h
   obtain ⟨rfl, rfl⟩ := h
   have := hg rfl
   simp only at this ⊢
   cases hf : f q with
   | none => rw [hf] at this; exact this
   | some y =>
    obtain ⟨x, q'⟩ := y
    rw [hf] at this
    exact ⟨this.1, (this.2 l).symm⟩
theorem rN_bad {S : ByteArray} {m : Int} {s : Bool × Nat} (h : s.1 = true) : rN S m s = none := by unfold rN; rw [if_pos h]
theorem rL_bad {S : ByteArray} {s : Bool × Nat} (h : s.1 = true) : rL S s = none := by unfold rL; rw [if_pos h]
theorem rN_good {S : ByteArray} {m : Int} {s : Bool × Nat} (h : s.1 = false) : rN S m s = rNum S m s.2 := by unfold rN; rw [if_neg (by simp [h])]
theorem rL_good {S : ByteArray} {s : Bool × Nat} (h : s.1 = false) : rL S s = rSet S s.2 := by unfold rL; rw [if_neg (by simp [h])]
theorem entsC_sn (l : List Ent) (x : Ent) : entsC (l ++ [x]) = entsC l ++ [.int .i64 x.op, .lst .ro x.who.length (x.who.map .str)] := by
 simp [entsC, List.flatMap_append, eC]
theorem entStep {S : ByteArray} {s0 s s1 s2 : Bool × Nat} {k : Nat} {cs : List AV} {r1 : Option (Nat × Nat)} {r2 : Option (List ByteArray × Nat)} {q1 q2 : Nat} (h : Sees (rM (rEnt S) s0 k) entsC s cs)
  (e1 : r1 = rN S 7 s) (d1 : s1 = stO r1 q1) (e2 : r2 = rL S s1) (d2 : s2 = stO r2 q2) : Sees (rM (rEnt S) s0 (k + 1)) entsC s2 (cs ++ [.int .i64 (nI r1), .lst (fL r2) (nL r2).length ((nL r2).map .str)]) := by
 refine seesStep h (fun hb => ?_) (fun hg => ?_)
 ·rw [rN_bad hb] at e1; subst e1 d1; rw [rL_bad rfl] at e2; subst e2 d2; rfl
 ·rw [rN_good hg] at e1
  subst e1
  unfold rEnt
  cases hr : rNum S 7 s.2 with
  | none => rw [hr] at d1; subst d1; rw [rL_bad rfl] at e2; subst e2 d2; rfl
  | some x =>
   obtain ⟨n, q⟩ := x
   rw [hr] at d1
   subst d1
   rw [rL_good rfl] at e2
   subst e2
   simp only [stO] at d2 ⊢
   cases hr2 : rSet S q with
   | none => rw [hr2] at d2; subst d2; rfl
   | some y =>
    obtain ⟨l, q'⟩ := y
    rw [hr2] at d2
    subst d2
    exact ⟨rfl, fun l' => entsC_sn l' _⟩
theorem objsC_sn (l : List Obt) (x : Obt) : objsC (l ++ [x]) = objsC l ++ [.int .i64 x.value, .lst .ro x.ents.length (entsC x.ents), .int .i64 x.version] := by
 simp [objsC, List.flatMap_append, oC]
theorem rMany_len {α : Type} {f : Nat → Option (α × Nat)} {p : Nat} : ∀ {k : Nat} {l : List α} {q : Nat}, rMany f p k = some (l, q) → l.length = k ∧ ∀ x ∈ l, ∃ a b, f a = some (x, b)
 | 0, l, q, h => by
  simp only [rMany, Option.some.injEq, Prod.mk.injEq] at h
  obtain ⟨rfl, rfl⟩ := h
  simp
 | k + 1, l, q, h => by
  simp only [rMany] at h
  split at h
  ·next l' q' h1 =>
   obtain ⟨i1, i2⟩ := rMany_len h1
   split at h
   ·next x q2 h2 =>
    simp only [Option.some.injEq, Prod.mk.injEq] at h
    obtain ⟨rfl, rfl⟩ := h
    refine ⟨by simp [i1], fun y hy => ?_⟩
    rcases List.mem_append.1 hy with hy | hy
    ·exact i2 y hy
    ·simp at hy; subst hy; exact ⟨_, _, h2⟩
   ·cases h
  ·cases h
theorem objStep {S : ByteArray} {s0 s s3 s4 s5 s6 : Bool × Nat} {k : Nat} {cs ds : List AV} {r3 r4 r5 : Option (Nat × Nat)} {q3 q4 q5 : Nat} (h : Sees (rM (rObt S) s0 k) objsC s cs)
  (e3 : r3 = rN S 4611686018427387904 s) (d3 : s3 = stO r3 q3) (e4 : r4 = rN S 4611686018427387904 s3) (d4 : s4 = stO r4 q4) (e5 : r5 = rN S 12 s4) (d5 : s5 = stO r5 q5) (hd : Sees (rM (rEnt S) s5 (nI r5)) entsC s6 ds) :
  Sees (rM (rObt S) s0 (k + 1)) objsC s6 (cs ++ [.int .i64 (nI r3), .lst .ro (nI r5) ds, .int .i64 (nI r4)]) := by
 have bad : s5.1 = true → s6.1 = true := fun hb => by
  unfold Sees rM at hd
  rw [if_pos hb] at hd
  exact hd
 refine seesStep h (fun hb => ?_) (fun hg => ?_)
 ·rw [rN_bad hb] at e3; subst e3 d3; rw [rN_bad rfl] at e4; subst e4 d4; rw [rN_bad rfl] at e5; subst e5 d5; exact bad rfl
 ·rw [rN_good hg] at e3
  subst e3
  unfold rObt
  cases h3 : rNum S 4611686018427387904 s.2 with
  | none => rw [h3] at d3; subst d3; rw [rN_bad rfl] at e4; subst e4 d4; rw [rN_bad rfl] at e5; subst e5 d5; exact bad rfl
  | some x3 =>
   obtain ⟨n3, p3⟩ := x3
   rw [h3] at d3
   subst d3
   rw [rN_good rfl] at e4
   subst e4
   simp only [stO] at d4 ⊢
   cases h4 : rNum S 4611686018427387904 p3 with
   | none => rw [h4] at d4; subst d4; rw [rN_bad rfl] at e5; subst e5 d5; exact bad rfl
   | some x4 =>
    obtain ⟨n4, p4⟩ := x4
    rw [h4] at d4
    subst d4
    rw [rN_good rfl] at e5
    subst e5
    simp only [stO] at d5 ⊢
    cases h5 : rNum S 12 p4 with
    | none => rw [h5] at d5; subst d5; exact bad rfl
    | some x5 =>
     obtain ⟨n5, p5⟩ := x5
     rw [h5] at d5 hd
     subst d5
     simp only [rM, Bool.false_eq_true, if_false, nI] at hd ⊢
     cases h6 : rMany (rEnt S) p5 n5 with
     | none => rw [h6] at hd; exact hd
     | some x6 =>
      obtain ⟨l6, p6⟩ := x6
      rw [h6] at hd
      obtain ⟨rfl, rfl⟩ := hd
      refine ⟨rfl, fun l => ?_⟩
      rw [objsC_sn, (rMany_len h6).1]
theorem rdps_objs : ∀ l : List Obt, rdps (objsC l) = objsC l
 | [] => rdps_nil
 | x :: l => by
  have := rdps_objs l
  simp only [objsC, List.flatMap_cons, oC, List.cons_append, List.nil_append, rdpw, rdps_ents] at this ⊢
  rw [this]
theorem rEnt_small {S : ByteArray} {p q : Nat} {x : Ent} (h : rEnt S p = some (x, q)) : smallE x := by
 unfold rEnt at h
 split at h
 ·cases h
 ·next n q1 h1 =>
  split at h
  ·cases h
  ·next l q2 h2 =>
   simp only [Option.some.injEq, Prod.mk.injEq] at h
   obtain ⟨rfl, rfl⟩ := h
   obtain ⟨a, b⟩ := setMay_small (upTo_set h2).2.1
   exact ⟨by show l.length ≤ 1000; omega, fun w hw => by have := b w hw; omega⟩
theorem rNum_mo {S : ByteArray} {p q n : Nat} {m : Int} (h : rNum S m p = some (n, q)) : (n : Int) ≤ m := by
 unfold rNum at h
 split at h
 ·split at h
  ·simp only [Option.some.injEq, Prod.mk.injEq] at h
   omega
  ·cases h
 ·cases h
theorem rObt_small {S : ByteArray} {p q : Nat} {x : Obt} (h : rObt S p = some (x, q)) : smallO x := by
 unfold rObt at h
 split at h
 ·cases h
 ·next v q1 h1 =>
  split at h
  ·cases h
  ·next w q2 h2 =>
   split at h
   ·cases h
   ·next m q3 h3 =>
    split at h
    ·cases h
    ·next l q4 h4 =>
     simp only [Option.some.injEq, Prod.mk.injEq] at h
     obtain ⟨rfl, rfl⟩ := h
     obtain ⟨a, b⟩ := rMany_len h4
     have hm := rNum_mo h3
     exact ⟨by show l.length ≤ 1000; omega, fun y hy => by obtain ⟨_, _, e⟩ := b y hy; exact rEnt_small e⟩
theorem recEnd {S : ByteArray} {r1 r2 : Option (Nat × Nat)} {s1 s2 s : Bool × Nat} {cs : List AV} {q1 q2 : Nat} (e1 : r1 = rN S 40 (false, 0)) (d1 : s1 = stO r1 q1) (e2 : r2 = rN S 4 s1) (d2 : s2 = stO r2 q2) (hsee : Sees (rM (rObt S) s2 (nI r2)) objsC s cs) :
  (s.1 = true → decR S = none) ∧ (s.1 = false → ∃ l, cs = objsC l ∧ l.length = nI r2 ∧ smallR ⟨nI r1, l⟩ ∧ decR S = if s.2 < S.size then none else if mayR ⟨nI r1, l⟩ = true then some ⟨nI r1, l⟩ else none) := by
 unfold decR rRec
 rw [rN_good rfl] at e1
 subst e1
 simp only
 cases h1 : rNum S 40 0 with
 | none =>
  rw [h1] at d1; subst d1; rw [rN_bad rfl] at e2; subst e2 d2
  refine ⟨fun _ => rfl, fun h => ?_⟩
  unfold Sees rM at hsee
  simp only [stO, if_true] at hsee
  rw [h] at hsee; cases hsee
 | some x1 =>
  obtain ⟨b, p1⟩ := x1
  rw [h1] at d1
  subst d1
  rw [rN_good rfl] at e2
  subst e2
  simp only [stO] at d2 hsee ⊢
  cases h2 : rNum S 4 p1 with
  | none =>
   rw [h2] at d2 hsee; subst d2
   refine ⟨fun _ => rfl, fun h => ?_⟩
   unfold Sees rM at hsee
   simp only [if_true] at hsee
   rw [h] at hsee; cases hsee
  | some x2 =>
   obtain ⟨n, p2⟩ := x2
   rw [h2] at d2 hsee
   subst d2
   simp only [Sees, rM, Bool.false_eq_true, if_false, nI] at hsee ⊢
   cases h3 : rMany (rObt S) p2 n with
   | none =>
    rw [h3] at hsee
    simp only at hsee
    exact ⟨fun _ => rfl, fun h => by rw [h] at hsee; cases hsee⟩
   | some x3 =>
    obtain ⟨l, q⟩ := x3
    rw [h3] at hsee
    obtain ⟨rfl, rfl⟩ := hsee
    obtain ⟨a, c⟩ := rMany_len h3
    have hn := rNum_mo h2
    exact ⟨fun h => (nomatch h), fun _ => ⟨l, rfl, a, ⟨by show l.length ≤ 1000; omega, fun o ho => by obtain ⟨_, _, e⟩ := c o ho; exact rObt_small e⟩, rfl⟩⟩
theorem p_rdec (S : ByteArray) (hs : S.size ≤ 1000000) : PCalls Try.prog 49 [.str S] (decRV (decR S)) := by
 refine pcalls_of rfl (free_decRV _) (ACalls.deep (acalls_of mixed J_record_Decode_ok (Nat.le_of_ble_eq_true rfl) ?_)); simp only [J_record_Decode, wk,reduceCtorEq,↓reduceIte]
 refine ACalls.use (a_from S) ?_; rintro _ _ ⟨rfl, rfl⟩; simp only [wk,Nat.reduceEqDiff,reduceCtorEq,↓reduceIte]
 obtain ⟨r1, e1⟩ : ∃ r, r = rN S 40 (false, 0) := ⟨_, rfl⟩
 obtain ⟨s1, d1⟩ : ∃ s, s = stO r1 0 := ⟨_, rfl⟩
 have b1 : s1.2 ≤ S.size := by rw [d1, e1]; exact rN_le (Nat.zero_le _) (Nat.zero_le _)
 refine ACalls.use (a_num' (S := S) (s := (false, 0)) 40 rfl hs (Nat.zero_le _) e1 d1) ?_; rintro _ _ ⟨rfl, rfl⟩; simp only [wk,Nat.reduceEqDiff,Nat.reduceAdd,Nat.reduceLeDiff,↓reduceIte]
 obtain ⟨r2, e2⟩ : ∃ r, r = rN S 4 s1 := ⟨_, rfl⟩
 obtain ⟨s2, d2⟩ : ∃ s, s = stO r2 s1.2 := ⟨_, rfl⟩
 have b2 : s2.2 ≤ S.size := by rw [d2, e2]; exact rN_le b1 b1
 have n2 : nI r2 ≤ 4 := by have := (nI_le (S := S) (m := 4) b1).2 (by omega); rw [← e2] at this; omega
 refine ACalls.use (a_num' (S := S) (s := s1) 4 rfl hs b1 e2 d2) ?_; rintro _ _ ⟨rfl, rfl⟩; simp only [wk,Nat.reduceEqDiff,↓reduceIte]
 refine W_loop (fun n fr h' => ∃ (i : Nat) (s : Bool × Nat) (cs : List AV) (ex : Hp), i ≤ nI r2 ∧ n = nI r2 - i ∧ s.2 ≤ S.size ∧ cs.length = i * 3 ∧ Sees (rM (rObt S) s2 i) objsC s cs ∧ h' = some (false, [.int .i64 0, .lst (.own 71) 0 []]) :: iObj S s :: some (false, [.int .i64 (nI r1), .lst (.own 71) i cs]) :: ex ∧ fr = [(2, .ptr 0 0), (4, .ptr 1 0), (5, .ptr 2 0), (13, .int .i64 (nI r2)), (14, .int .i64 i)]) (nI r2) ⟨0, s2, [], [], by omega, by omega, b2, rfl, sees0 _ rfl, rfl, rfl⟩ ?_
 rintro n fr h' ⟨i, s, cs, ex, hi, rfl, hb, hcl, hsee, rfl, rfl⟩
 simp only [J_record_Decode_j5, wk,Nat.reduceEqDiff,↓reduceIte]
 refine ⟨fun hlt => ?_, fun hge => ?_⟩
 ·obtain ⟨r3, e3⟩ : ∃ r, r = rN S 4611686018427387904 s := ⟨_, rfl⟩
  obtain ⟨s3, d3⟩ : ∃ t, t = stO r3 s.2 := ⟨_, rfl⟩
  have b3 : s3.2 ≤ S.size := by rw [d3, e3]; exact rN_le hb hb
  refine ACalls.use (a_num' (S := S) (s := s) 4611686018427387904 rfl hs hb e3 d3) ?_; rintro _ _ ⟨rfl, rfl⟩; simp only [wk,Nat.reduceEqDiff,↓reduceIte]
  obtain ⟨r4, e4⟩ : ∃ r, r = rN S 4611686018427387904 s3 := ⟨_, rfl⟩
  obtain ⟨s4, d4⟩ : ∃ t, t = stO r4 s3.2 := ⟨_, rfl⟩
  have b4 : s4.2 ≤ S.size := by rw [d4, e4]; exact rN_le b3 b3
  refine ACalls.use (a_num' (S := S) (s := s3) 4611686018427387904 rfl hs b3 e4 d4) ?_; rintro _ _ ⟨rfl, rfl⟩; simp only [wk,Nat.reduceEqDiff,Nat.reduceAdd,Nat.reduceLeDiff,↓reduceIte]
  obtain ⟨r5, e5⟩ : ∃ r, r = rN S 12 s4 := ⟨_, rfl⟩
  obtain ⟨s5, d5⟩ : ∃ t, t = stO r5 s4.2 := ⟨_, rfl⟩
  have b5 : s5.2 ≤ S.size := by rw [d5, e5]; exact rN_le b4 b4
  have n5 : nI r5 ≤ 12 := by have := (nI_le (S := S) (m := 12) b4).2 (by omega); rw [← e5] at this; omega
  refine ACalls.use (a_num' (S := S) (s := s4) 12 rfl hs b4 e5 d5) ?_; rintro _ _ ⟨rfl, rfl⟩; simp only [wk,Nat.reduceEqDiff,↓reduceIte]
  refine W_loop (fun n fr h' => ∃ (j : Nat) (t : Bool × Nat) (ds : List AV), j ≤ nI r5 ∧ n = nI r5 - j ∧ t.2 ≤ S.size ∧ ds.length = j * 2 ∧ Sees (rM (rEnt S) s5 j) entsC t ds ∧ h' = some (false, [.int .i64 0, .lst (.own 71) 0 []]) :: iObj S t :: some (false, [.int .i64 (nI r1), .lst (.own 71) i cs]) :: (ex ++ [some (false, [.int .i64 (nI r3), .lst (.own 58) j ds, .int .i64 (nI r4)])]) ∧ fr = [(2, .ptr 0 0), (4, .ptr 1 0), (5, .ptr 2 0), (6, .ptr (ex.length + 1 + 1 + 1) 0), (13, .int .i64 (nI r2)), (14, .int .i64 i), (22, .int .i64 (nI r5)), (23, .int .i64 j)]) (nI r5) ⟨0, s5, [], by omega, by omega, b5, rfl, sees0 _ rfl, rfl, rfl⟩ ?_
  rintro n fr h' ⟨j, t, ds, hj, rfl, ht, hdl, hsee2, rfl, rfl⟩
  simp only [J_record_Decode_j4, wk,ne_eq,eq_self,Nat.reduceEqDiff,Nat.reduceAdd,Nat.reduceMul,Nat.reduceLeDiff,Nat.reduceLT,↓reduceIte]
  refine ⟨fun hlt2 => ?_, fun hge2 => ?_⟩
  ·obtain ⟨r6, e6⟩ : ∃ r, r = rN S 7 t := ⟨_, rfl⟩
   obtain ⟨s6, d6⟩ : ∃ u, u = stO r6 t.2 := ⟨_, rfl⟩
   have b6 : s6.2 ≤ S.size := by rw [d6, e6]; exact rN_le ht ht
   obtain ⟨r7, e7⟩ : ∃ r, r = rL S s6 := ⟨_, rfl⟩
   obtain ⟨s7, d7⟩ : ∃ u, u = stO r7 (qSet S s6) := ⟨_, rfl⟩
   have b7 : s7.2 ≤ S.size := by rw [d7, e7]; exact rL_le (qSet_le b6)
   refine ⟨_, _, _, rfl, fun h0 hh => a_num' (S := S) (s := t) 7 hh hs ht e6 d6, _, _, _, rfl, fun h0 hh => a_setq (S := S) (s := s6) hh hs b6 e7 d7, ?_⟩
   simp only [deg_fL, wk,Nat.reduceAdd,Nat.reduceLeDiff]
   refine ⟨⟨by omega, by omega⟩, inR_of (by omega) (by omega), nI r5 - (j + 1), by omega, j + 1, s7, _, by omega, rfl, b7, by simp [hdl]; omega, entStep hsee2 e6 d6 e7 d7, rfl, by simp⟩
  ·simp only [J_record_Decode_j3, wk,Nat.reduceEqDiff,Nat.reduceAdd,Nat.reduceMul,Nat.reduceLeDiff,Nat.reduceLT,↓reduceIte]
   have hjn : j = nI r5 := by omega
   subst hjn
   refine ⟨⟨by omega, by omega⟩, ?_⟩
   simp only [J_record_Decode_j2, wk,Nat.reduceEqDiff,↓reduceIte]
   refine ⟨inR_of (by omega) (by omega), nI r2 - (i + 1), by omega, i + 1, t, _, _, by omega, rfl, ht, by simp [hcl]; omega, objStep hsee e3 d3 e4 d4 e5 d5 hsee2, rfl, by simp⟩
 ·have hin : i = nI r2 := by omega
  subst hin
  simp only [J_record_Decode_j1, wk,Nat.reduceEqDiff,↓reduceIte]
  refine ACalls.use (a_idone (S := S) (s := s) rfl (by omega) hb) ?_; rintro _ _ ⟨rfl, rfl⟩; simp only [wk,ne_eq,eq_self,Nat.reduceEqDiff,Nat.reduceAdd,Nat.reduceLeDiff,↓reduceIte]
  obtain ⟨k1, k2⟩ := recEnd e1 d1 e2 d2 hsee
  cases hbad : s.1 with
  | true =>
   rw [k1 hbad]
   simp only [Bool.true_or, eI, decRV, vR, rC, zeroR, rdpw, valL, wk,forall_const,eq_self,Nat.reduceEqDiff,Nat.reduceAdd,Nat.reduceLeDiff,Int.reduceEq,↓reduceIte]
   simp [objsC]
  | false =>
   obtain ⟨l, rfl, hll, hsm, k3⟩ := k2 hbad
   rw [k3]
   by_cases hend : s.2 < S.size
   ·simp only [hend, Bool.false_or, decide_true, eI, decRV, vR, rC, zeroR, rdpw, valL, wk,forall_const,eq_self,Nat.reduceEqDiff,Nat.reduceAdd,Nat.reduceLeDiff,Int.reduceEq,↓reduceIte]
    simp [objsC]
   ·simp only [hend, Bool.false_or, decide_false, eI, wk,forall_const,eq_self,↓reduceIte]
    have hck := p_rmay1 _ hsm
    simp only [vR, rC, hll] at hck
    refine PCalls.use (hck) ?_; simp only [wk,Nat.reduceEqDiff,Nat.reduceAdd,Nat.reduceLeDiff,↓reduceIte]
    refine ⟨fun h0 => ?_, fun h0 => ?_⟩
    ·simp only [h0, Bool.false_eq_true, decRV, vR, rC, zeroR, rdpw, valL, wk,Nat.reduceEqDiff,Nat.reduceAdd,Nat.reduceLeDiff,↓reduceIte]
     simp [objsC]
    ·simp only [h0, decRV, vR, rC, rdpw, rdps_objs, hll, valL, wk,Nat.reduceEqDiff,Nat.reduceAdd,Nat.reduceLeDiff,↓reduceIte]
theorem sameEnt_comm (a b : Ent) : sameEnt a b = sameEnt b a := by
 unfold sameEnt
 congr 1
 exact propext ⟨fun h => ⟨h.1.symm, h.2.symm⟩, fun h => ⟨h.1.symm, h.2.symm⟩⟩
theorem deg_fl (f : Fl) : ∃ f', (∀ n m, deg (.lst f n m) = .lst f' n m) ∧ ∀ n m, deg (.lst f' n m) = .lst f' n m := by
 cases f with
 | ro => exact ⟨.ro, fun _ _ => rfl, fun _ _ => rfl⟩
 | clip => exact ⟨.clip, fun _ _ => rfl, fun _ _ => rfl⟩
 | own e => exact ⟨.ro, fun _ _ => rfl, fun _ _ => rfl⟩
theorem trimC {h ex Y : Hp} {a : AV} {q : Prop} (hf : free a = true) (hq : q) (hY : Y = h) : ∃ h2 ex', h ++ ex = h2 ++ ex' ∧ h.length ≤ h2.length ∧ low h2.length a = true ∧ (∀ (j : Nat) s l, h2[j]? = some (some (s, l)) → (∃ s', h[j]? = some (some (s', l))) ∨ low.lows h2.length l = true) ∧ q ∧ h2 = Y :=
 ⟨h, ex, rfl, Nat.le_refl _, low_free hf, fun _ s _ hl => .inl ⟨s, hl⟩, hq, hY.symm⟩
def addO (f : Fl) (l : List Ent) (ver : Int) (x : Ent) : Option (Bool × List AV) := if addE l x = 0 then lObj (.own 58) (l ++ [x]) (ver + 1) else lObj f l ver
theorem a_radd {h : Hp} {id : Nat} {f : Fl} {l : List Ent} {ver : Int} (x : Ent) (ho : h[id]? = some (lObj f l ver)) (hx : smallE x) (hl : l.length ≤ 1000000) (hls : ∀ y ∈ l, smallE y) (hv : 0 ≤ ver ∧ ver ≤ 1000000000) :
  ACalls Try.prog 56 [.ptr id 0, vE x] h (fun a h' => a = .int .i64 (addE l x) ∧ h' = h.set id (addO f l ver x)) := by
 have hid : id < h.length := hlt_of ho
 have ho' : (h ++ [some (false, eC x)])[id]? = some (lObj f l ver) := hold _ ho
 have hs1 : ∀ y, ((h ++ [some (false, eC x)]).set id y)[id]? = some y := fun y => hset ho' y
 have q1 := p_remay x hx
 simp only [vE, eC] at q1 ho' hs1
 obtain ⟨f', hdeg, hdeg'⟩ := deg_fl f
 have hself : h.set id (lObj f l ver) = h := hself ho
 have hlen := entsC_len l
 refine ACalls.trim (acalls_of mixed J_ref16_List_Add_ok (Nat.le_of_ble_eq_true rfl) ?_); simp only [J_ref16_List_Add, vE, eC, wk,Nat.reduceAdd,Nat.reduceLeDiff,reduceCtorEq,↓reduceIte]
 refine PCalls.use (q1) ?_; simp only [wk,Nat.reduceEqDiff,reduceCtorEq,↓reduceIte]
 refine ⟨fun m => ?_, fun m => ?_⟩
 ·have e0 : addE l x = 2 := by unfold addE; rw [if_neg (by simp [m])]
  unfold addO
  rw [e0, if_neg (by decide), hself]
  exact trimC rfl rfl rfl
 refine W_loop (fun n fr h' => ∃ i : Nat, i ≤ l.length ∧ n = l.length - i ∧ h' = h ++ [some (false, [.int .i64 x.op, .lst .ro x.who.length (x.who.map .str)])] ∧ fr = [(0, .ptr id 0), (3, .ptr h.length 0), (5, .int .i64 i)] ∧ ∀ y ∈ l.take i, sameEnt x y = false) l.length ⟨0, by omega, by omega, rfl, rfl, by simp⟩ ?_
 rintro n fr h' ⟨i, hi, rfl, rfl, rfl, hall⟩
 simp only [J_ref16_List_Add_j2, ho', hdeg, hdeg', wk,Nat.reduceEqDiff,Nat.reduceAdd,Nat.reduceLeDiff,reduceCtorEq,↓reduceIte]
 refine ⟨fun hlt => ?_, fun hge => ?_⟩
 ·have hil : i < l.length := by omega
  have hd : (entsC l).drop ((i : Int).toNat * 2) = .int .i64 l[i].op :: .lst .ro l[i].who.length (l[i].who.map .str) :: (entsC l).drop ((i + 1) * 2) := by rw [show (i : Int).toNat = i by omega]; exact entsC_drop hil
  have q := p_resame l[i] x (by have := (hls _ (List.getElem_mem hil)).1; omega)
  simp only [vE, eC] at q
  simp only [hd, wk,Nat.reduceLeDiff]
  refine ⟨⟨by omega, by omega⟩, _, q, ?_⟩
  simp only [wk]
  refine ⟨fun e => ?_, fun e => ⟨inR_of (by omega) (by omega), l.length - (i + 1), by omega, i + 1, by omega, rfl, by simp, fun y hy => ?_⟩⟩
  ·have hidx := idxE_at hil hall (by rw [sameEnt_comm]; exact e)
   have e0 : addE l x = 11 := by unfold addE; rw [if_pos m, if_pos (by omega)]
   unfold addO
   rw [e0, if_neg (by decide), hself]
   exact trimC rfl rfl rfl
  ·rw [List.take_succ_eq_append_getElem hil] at hy
   rcases List.mem_append.1 hy with hy | hy
   ·exact hall y hy
   ·simp at hy; subst hy; rw [sameEnt_comm]; exact e
 ·rw [List.take_of_length_le (by omega)] at hall
  have hidx := idxE_none hall
  simp only [J_ref16_List_Add_j1, ho', hdeg, hdeg', wk,Nat.reduceEqDiff,Nat.reduceAdd,Nat.reduceLT,reduceCtorEq,↓reduceIte]
  refine ⟨fun n => ?_, fun n => ?_⟩
  ·have e0 : addE l x = 3 := by unfold addE; rw [if_pos m, if_neg (by omega), if_pos (by omega)]
   unfold addO
   rw [e0, if_neg (by decide), hself]
   exact trimC rfl rfl rfl
  ·have e0 : addE l x = 0 := by unfold addE; rw [if_pos m, if_neg (by omega), if_neg (by omega)]
   unfold addO
   rw [e0, if_pos rfl]
   have hg : ∀ y, (h ++ [y])[id]? = some (lObj f l ver) := fun y => hold _ ho
   have hg2 : ∀ y z, ((h ++ [y]).set id z)[id]? = some z := fun y z => hset (hg y) z
   have hg3 : ∀ y z, ((h ++ [y]).set id z)[h.length]? = some y := fun y z => by rw [List.getElem?_set_ne (by omega)]; simp
   have e1 : (entsC (l ++ [x])) = entsC l ++ [.int .i64 x.op, .lst .ro x.who.length (x.who.map .str)] := entsC_sn l x
   have hw := hx.1
   simp only [hg, hg2, hdeg, hdeg', wk,Nat.reduceEqDiff,Nat.reduceAdd,Nat.reduceMul,Nat.reduceLeDiff,Nat.reduceLT,reduceCtorEq,↓reduceIte]
   refine ⟨⟨by simp, by omega, by omega⟩, ⟨by omega, by omega, by omega⟩, ⟨by omega, by omega⟩, inR_of (by omega) (by omega), ?_⟩
   rw [set_left _ hid]
   rw [← e1, show l.length + 1 = (l ++ [x]).length by simp]
   refine trimS ?_ ?_
   ·rfl
   ·simp [free.frees, free, frees_entsC]
def restE (l : List Ent) (x : Ent) : List Ent := l.filter fun y => !sameEnt y x
theorem restE_snoc {l : List Ent} {i : Nat} (x : Ent) (hi : i < l.length) : restE (l.take (i + 1)) x = restE (l.take i) x ++ if sameEnt l[i] x = true then [] else [l[i]] := by
 unfold restE
 rw [List.take_succ_eq_append_getElem hi, List.filter_append]
 cases h : sameEnt l[i] x <;> simp [h]
theorem restE_len (l : List Ent) (x : Ent) : (restE l x).length ≤ l.length := List.length_filter_le _ _
theorem restE_all {x : Ent} : ∀ {l : List Ent}, idxE x l < 0 → (restE l x).length = l.length
 | [], _ => rfl
 | y :: l, h => by
  simp only [idxE] at h
  split at h
  ·omega
  ·next hs =>
   have := idxE_lt x l
   split at h
   ·next hn =>
    have ih := restE_all hn
    unfold restE at ih ⊢
    rw [List.filter_cons_of_pos (by rw [sameEnt_comm]; simp [hs]), List.length_cons, ih, List.length_cons]
   ·omega
theorem restE_less {x : Ent} : ∀ {l : List Ent}, ¬ idxE x l < 0 → (restE l x).length < l.length
 | [], h => by simp [idxE] at h
 | y :: l, h => by
  simp only [idxE] at h
  have hle := restE_len l x
  unfold restE at hle ⊢
  split at h
  ·next hs =>
   rw [List.filter_cons_of_neg (by rw [sameEnt_comm]; simp [hs]), List.length_cons]
   omega
  ·next hs =>
   split at h
   ·omega
   ·next hn =>
    have ih := restE_less hn
    unfold restE at ih
    rw [List.filter_cons_of_pos (by rw [sameEnt_comm]; simp [hs]), List.length_cons, List.length_cons]
    omega
def remO (f : Fl) (l : List Ent) (ver : Int) (x : Ent) : Option (Bool × List AV) := if remE l x = 0 then lObj .ro (restE l x) (ver + 1) else lObj f l ver
theorem a_rrem {h : Hp} {id : Nat} {f : Fl} {l : List Ent} {ver : Int} (x : Ent) (ho : h[id]? = some (lObj f l ver)) (hx : smallE x) (hl : l.length ≤ 1000000) (hls : ∀ y ∈ l, smallE y) (hv : 0 ≤ ver ∧ ver ≤ 1000000000) :
  ACalls Try.prog 57 [.ptr id 0, vE x] h (fun a h' => a = .int .i64 (remE l x) ∧ h' = h.set id (remO f l ver x)) := by
 have hid : id < h.length := hlt_of ho
 have hg : ∀ y, (h ++ [y])[id]? = some (lObj f l ver) := fun y => hold _ ho
 have hg2 : ∀ y z, ((h ++ [y]).set id z)[id]? = some z := fun y z => hset (hg y) z
 have q1 := p_remay x hx
 simp only [vE, eC] at q1
 obtain ⟨f', hdeg, hdeg'⟩ := deg_fl f
 have hself : h.set id (lObj f l ver) = h := hself ho
 have hlen := entsC_len l
 refine ACalls.trim (acalls_of mixed J_ref16_List_Remove_ok (Nat.le_of_ble_eq_true rfl) ?_); simp only [J_ref16_List_Remove, vE, eC, wk,Nat.reduceAdd,Nat.reduceLeDiff,reduceCtorEq,↓reduceIte]
 refine PCalls.use (q1) ?_; simp only [wk,Nat.reduceEqDiff,reduceCtorEq,↓reduceIte]
 refine ⟨fun m => ?_, fun m => ?_⟩
 ·have e0 : remE l x = 2 := by unfold remE; rw [if_neg (by simp [m])]
  unfold remO
  rw [e0, if_neg (by decide), hself]
  exact trimC rfl rfl rfl
 refine W_loop (fun n fr h' => ∃ i : Nat, i ≤ l.length ∧ n = l.length - i ∧ h' = h ++ [some (false, [.int .i64 x.op, .lst .ro x.who.length (x.who.map .str)])] ∧ fr = [(0, .ptr id 0), (3, .ptr h.length 0), (5, .lst (.own 58) (restE (l.take i) x).length (entsC (restE (l.take i) x))), (6, .int .i64 i)]) l.length ⟨0, by omega, by omega, rfl, rfl⟩ ?_
 rintro n fr h' ⟨i, hi, rfl, rfl, rfl⟩
 simp only [J_ref16_List_Remove_j3, hg, hdeg, hdeg', wk,Nat.reduceEqDiff,Nat.reduceAdd,Nat.reduceMul,Nat.reduceLeDiff,reduceCtorEq,↓reduceIte]
 refine ⟨fun hlt => ?_, fun hge => ?_⟩
 ·have hil : i < l.length := by omega
  have hd : (entsC l).drop ((i : Int).toNat * 2) = .int .i64 l[i].op :: .lst .ro l[i].who.length (l[i].who.map .str) :: (entsC l).drop ((i + 1) * 2) := by rw [show (i : Int).toNat = i by omega]; exact entsC_drop hil
  have q := p_resame l[i] x (by have := (hls _ (List.getElem_mem hil)).1; omega)
  simp only [vE, eC] at q
  simp only [hd, wk,Nat.reduceAdd,Nat.reduceLeDiff]
  refine ⟨⟨by omega, by omega⟩, _, q, ?_⟩
  simp only [wk]
  have hrl := restE_len (l.take i) x
  have hsn := restE_snoc x hil
  simp only [List.length_take] at hrl
  refine ⟨fun e => ⟨⟨by omega, by omega⟩, ⟨by omega, by omega⟩, ?_⟩, fun e => ?_⟩
  ·simp only [J_ref16_List_Remove_j2, wk,Nat.reduceEqDiff,reduceCtorEq,↓reduceIte]
   rw [if_neg (by simp [e])] at hsn
   refine ⟨inR_of (by omega) (by omega), l.length - (i + 1), by omega, i + 1, by omega, rfl, ?_⟩
   rw [hsn, entsC_sn]
   simp
  ·simp only [J_ref16_List_Remove_j2, wk,Nat.reduceEqDiff,reduceCtorEq,↓reduceIte]
   rw [if_pos e] at hsn
   refine ⟨inR_of (by omega) (by omega), l.length - (i + 1), by omega, i + 1, by omega, rfl, ?_⟩
   rw [hsn]
   simp
 ·rw [List.take_of_length_le (by omega)]
  simp only [J_ref16_List_Remove_j1, hg, hdeg, hdeg', wk,Nat.reduceEqDiff,Nat.reduceAdd,Nat.reduceLeDiff,reduceCtorEq,↓reduceIte]
  refine ⟨fun n => ?_, fun n => ?_⟩
  ·have hn : idxE x l < 0 := by
    by_cases hc : idxE x l < 0
    ·exact hc
    ·have := restE_less hc; omega
   have e0 : remE l x = 10 := by unfold remE; rw [if_pos m, if_pos hn]
   unfold remO
   rw [e0, if_neg (by decide), hself]
   exact trimC rfl rfl rfl
  ·have hn : ¬ idxE x l < 0 := fun hc => n (by rw [restE_all hc])
   have e0 : remE l x = 0 := by unfold remE; rw [if_pos m, if_neg hn]
   unfold remO
   rw [e0, if_pos rfl]
   simp only [hg2, wk,Nat.reduceEqDiff,Nat.reduceAdd,Nat.reduceLeDiff,↓reduceIte]
   refine ⟨inR_of (by omega) (by omega), ?_⟩
   rw [set_left _ hid]
   refine trimS ?_ ?_
   ·rfl
   ·simp [free.frees, free, frees_entsC]
def NewPostR (h : Hp) (l : List Ent) (a : AV) (h' : Hp) : Prop :=
 if newE [] l = 0 then ∃ f, a = .tup [.ptr h.length 0, .int .i64 0] ∧ h' = h ++ [lObj f l 0] else a = .tup [.nilp, .int .i64 (newE [] l)] ∧ h = h'
theorem snoc_set (h : Hp) (x y : Option (Bool × List AV)) : (h ++ [x]).set h.length y = h ++ [y] := by simp
theorem a_rnew {h : Hp} (l : List Ent) (hl : l.length ≤ 1000000) (hs : ∀ x ∈ l, smallE x) : ACalls Try.prog 55 [.lst .ro l.length (entsC l)] h (NewPostR h l) := by
 refine ACalls.trim (acalls_of mixed J_ref16_New_ok (Nat.le_of_ble_eq_true rfl) ?_); simp only [J_ref16_New, wk,reduceCtorEq,↓reduceIte]
 refine W_loop (fun n fr h' => ∃ (i : Nat) (f : Fl), i ≤ l.length ∧ n = l.length - i ∧ h' = h ++ [lObj f (l.take i) i] ∧ newE [] l = newE (l.take i) (l.drop i) ∧ fr = [(0, .lst .ro l.length (entsC l)), (4, .ptr h.length 0), (5, .int .i64 i)]) l.length ⟨0, .clip, by omega, by omega, rfl, rfl, rfl⟩ ?_
 rintro n fr h' ⟨i, f, hi, rfl, rfl, hnew, rfl⟩
 simp only [J_ref16_New_j2, wk,Nat.reduceEqDiff,reduceCtorEq,↓reduceIte]
 refine ⟨fun hlt => ?_, fun hge => ?_⟩
 ·have hil : i < l.length := by omega
  have hd : (entsC l).drop ((i : Int).toNat * 2) = .int .i64 l[i].op :: .lst .ro l[i].who.length (l[i].who.map .str) :: (entsC l).drop ((i + 1) * 2) := by rw [show (i : Int).toNat = i by omega]; exact entsC_drop hil
  rw [newE_at hil] at hnew
  have hxs := hs _ (List.getElem_mem hil)
  refine ⟨⟨by omega, by omega⟩, ?_⟩
  simp only [hd, wk,Nat.reduceLeDiff]
  have q := a_radd (h := h ++ [lObj f (l.take i) i]) (id := h.length) (f := f) (l := l.take i) (ver := i) l[i] (by simp) hxs (by simp; omega) (fun y hy => hs y (List.mem_of_mem_take hy)) (by omega)
  rw [snoc_set] at q
  simp only [vE, eC] at q
  refine ACalls.use (q) ?_; rintro _ _ ⟨rfl, rfl⟩; simp only [wk,ne_eq,eq_self,Nat.reduceEqDiff,reduceCtorEq,↓reduceIte]
  refine ⟨fun he => ?_, fun he => ?_⟩
  ·rw [if_neg he] at hnew
   refine ⟨h, _, rfl, Nat.le_refl _, by simp [low, low.lows], fun _ s _ hl => .inl ⟨s, hl⟩, ?_⟩
   unfold NewPostR
   rw [hnew, if_neg he]
   exact ⟨rfl, rfl⟩
  ·rw [if_pos he] at hnew
   refine ⟨inR_of (by omega) (by omega), l.length - (i + 1), by omega, i + 1, .own 58, by omega, rfl, ?_, hnew, by simp⟩
   unfold addO
   rw [if_pos he, List.take_succ_eq_append_getElem hil]
   simp
 ·rw [List.take_of_length_le (by omega), List.drop_of_length_le (by omega)] at hnew
  simp only [newE] at hnew
  rw [List.take_of_length_le (by omega)]
  simp only [J_ref16_New_j1, wk,Nat.reduceEqDiff,Nat.reduceAdd,Nat.reduceLeDiff,reduceCtorEq,↓reduceIte]
  obtain ⟨h2, ex', k1, k2, k3, k4, k5, k6⟩ := trimN (h := h) (ex := []) (a := .tup [.ptr h.length 0, .int .i64 0]) (s := false) (l := [.lst f l.length (entsC l), .int .i64 0]) (q := True) (by simp [low, low.lows]) (by simp [free.frees, free, frees_entsC]) trivial
  refine ⟨h2, ex', k1, k2, k3, k4, ?_⟩
  unfold NewPostR
  rw [if_pos hnew]
  exact ⟨f, rfl, k6⟩
theorem p_rrmay (r : Rcd) (h : smallR r) : PCalls Try.prog 21 [vR r] (.bool (mayR r)) := by
 refine pcalls_of (by simp [free.frees, free_vR]) rfl (acalls_of mixed J_ref21_May_ok (Nat.le_of_ble_eq_true rfl) ?_); simp only [J_ref21_May, vR, rC, wk,Nat.reduceEqDiff,↓reduceIte]
 have no : mayR r = false → AV.bool false = .bool (mayR r) := fun e => by rw [e]
 have hlr := h.1
 refine ⟨fun h1 => ⟨fun h2 => ⟨fun h3 => no (by simp [mayR]; omega), fun h3 => ?_⟩, fun h2 => no (by simp [mayR]; omega)⟩, fun h1 => no (by simp [mayR]; omega)⟩
 refine W_loop (fun n fr h' => ∃ (i : Nat) (ex : Hp), i ≤ r.objs.length ∧ n = r.objs.length - i ∧ h' = some (false, [.int .i64 r.boot, .lst .ro r.objs.length (objsC r.objs)]) :: ex ∧ fr = [(1, .ptr 0 0), (3, .int .i64 i)] ∧ ∀ o ∈ r.objs.take i, mayO o = true) r.objs.length ⟨0, [], by omega, by omega, rfl, rfl, by simp⟩ ?_
 rintro n fr h' ⟨i, ex, hi, rfl, rfl, rfl, hall⟩
 simp only [J_ref21_May_j2, wk,Nat.reduceEqDiff,Nat.reduceAdd,Nat.reduceLeDiff,↓reduceIte]
 refine ⟨fun hlt => ?_, fun hge => ?_⟩
 ·have hil : i < r.objs.length := by omega
  have hd : (objsC r.objs).drop ((i : Int).toNat * 3) = .int .i64 r.objs[i].value :: .lst .ro r.objs[i].ents.length (entsC r.objs[i].ents) :: .int .i64 r.objs[i].version :: (objsC r.objs).drop ((i + 1) * 3) := by rw [show (i : Int).toNat = i by omega]; exact objsC_drop hil
  have hmem := List.getElem_mem hil
  have hsm := h.2 _ hmem
  refine ⟨⟨by omega, by omega⟩, ?_⟩
  simp only [hd, wk,Nat.reduceAdd,Nat.reduceLeDiff,↓reduceIte]
  refine ACalls.use (a_rnew r.objs[i].ents (by have := hsm.1; omega) hsm.2) ?_
  have step : ∀ o ∈ r.objs.take (i + 1), mayO r.objs[i] = true → mayO o = true := fun o ho hm => by
   rw [List.take_succ_eq_append_getElem hil] at ho
   rcases List.mem_append.1 ho with ho | ho
   ·exact hall o ho
   ·simp at ho; subst ho; exact hm
  rintro a h2 hp
  unfold NewPostR at hp
  split at hp
  ·next he =>
   obtain ⟨f, rfl, rfl⟩ := hp
   simp only [two0, wk,Nat.reduceEqDiff,↓reduceIte]
   refine PCalls.use (p_rrecnum r.objs[i].value) ?_; simp only [wk,Nat.reduceEqDiff,↓reduceIte]
   refine ⟨fun m1 => ?_, fun m1 => no (mayR_no hmem (by simp [mayO, m1]))⟩
   simp only [two0, wk,Nat.reduceEqDiff,↓reduceIte]
   refine PCalls.use (p_rrecnum r.objs[i].version) ?_; simp only [wk,ne_eq,eq_self,Nat.reduceEqDiff,↓reduceIte]
   refine ⟨fun m2 => ⟨inR_of (by omega) (by omega), r.objs.length - (i + 1), by omega, i + 1, _, by omega, rfl, rfl, by simp, fun o ho => step o ho (by simp [mayO, m1, m2, he])⟩, fun m2 => no (mayR_no hmem (by simp [mayO, m2]))⟩
  ·next he =>
   obtain ⟨rfl, rfl⟩ := hp
   simp only [wk,Nat.reduceEqDiff,↓reduceIte]
   refine PCalls.use (p_rrecnum r.objs[i].value) ?_; simp only [wk,Nat.reduceEqDiff,↓reduceIte]
   refine ⟨fun m1 => ?_, fun m1 => no (mayR_no hmem (by simp [mayO, m1]))⟩
   refine PCalls.use (p_rrecnum r.objs[i].version) ?_; simp only [wk,ne_eq,eq_self,Nat.reduceEqDiff,↓reduceIte]
   refine ⟨fun m2 => ⟨fun _ => no (mayR_no hmem (by simp [mayO, he])), fun e => absurd e he⟩, fun m2 => no (mayR_no hmem (by simp [mayO, m2]))⟩
 ·rw [List.take_of_length_le (by omega)] at hall
  simp only [J_ref21_May_j1, wk,↓reduceIte]
  congr 1
  symm
  simp only [mayR, Bool.and_eq_true, decide_eq_true_eq, List.all_eq_true]
  exact ⟨⟨by omega, by omega⟩, by omega, hall⟩
theorem p_rasks (q : Rqs) (h : smallE q.ent) : PCalls Try.prog 23 [vQ q] (.bool (asksE q)) := by
 refine pcalls_of (by simp [free.frees, free_vQ]) rfl (acalls_of mixed J_ref21_Asks_ok (Nat.le_of_ble_eq_true rfl) ?_); simp only [J_ref21_Asks, vQ, qC, wk,Nat.reduceEqDiff,↓reduceIte]
 have q0 := p_rrecnum q.arg
 have q1 := p_rsmay q.ent.who (by have := h.1; omega) (fun w hw => by have := h.2 w hw; omega)
 unfold asksE noneE mayEnt
 repeat' (first | (refine PCalls.use q0 ?_; simp only [wk,ne_eq,eq_self,Nat.reduceEqDiff,Nat.reduceAdd,↓reduceIte]) | (refine PCalls.use q1 ?_; simp only [wk,Nat.reduceEqDiff,↓reduceIte]) | (refine And.intro ?_ ?_) | intro _)
 all_goals first
  | (simp_all; done)
  | (congr 1; simp_all; done)
  | (congr 1; simp_all; omega)
  | (congr 1; symm; split <;> (repeat' split) <;> simp_all <;> omega)
end Go.Proofs.Ytpiofcjkekpboaa
namespace Go.Proofs.Ytpiofcjkekpboaa
open Go.RowKit
end Go.Proofs.Ytpiofcjkekpboaa
/- What the reference's In does, over the abstract code. -/
namespace Go.Proofs.Ytpiofcjkekpboaa
open Go.RowKit Go.Lib
theorem str_app2 (a b : List UInt8) : (⟨a.toArray⟩ ++ ⟨b.toArray⟩ : ByteArray) = ⟨(a ++ b).toArray⟩ := by
 apply ByteArray.ext; apply Array.ext'; simp
theorem p_rrsame (a b : Rcd) (ha : smallR a) (hb : smallR b) : PCalls Try.prog 19 [vR a, vR b] (.bool (sameR a b)) := by
  refine pcalls_of (by simp [free.frees, free_vR]) rfl (acalls_of mixed J_ref21_Same_ok (Nat.le_of_ble_eq_true rfl) ?_); simp only [J_ref21_Same, vR, rC, wk,ne_eq,eq_self,Nat.reduceEqDiff,Nat.reduceAdd,↓reduceIte]
  have no : sameR a b = false → AV.bool false = .bool (sameR a b) := fun e => by rw [e]
  refine ⟨fun e1 => ⟨fun e2 => no (by have : ¬ a.objs.length = b.objs.length := by omega
                                      simp [sameR, this]), fun e2 => ?_⟩, fun e1 => no (by simp [sameR, e1])⟩
  have hn : a.objs.length = b.objs.length := by omega
  have hla := ha.1
  refine W_loop (fun n fr h' => ∃ (i : Nat) (ex : Hp), i ≤ a.objs.length ∧ n = a.objs.length - i ∧ h' = some (false, [.int .i64 a.boot, .lst .ro a.objs.length (objsC a.objs)]) :: some (false, [.int .i64 b.boot, .lst .ro b.objs.length (objsC b.objs)]) :: ex ∧ fr = [(2, .ptr 0 0), (3, .ptr 1 0), (5, .int .i64 i)] ∧ ∀ (k : Nat) (h1 : k < a.objs.length) (h2 : k < b.objs.length), k < i → sameO a.objs[k] b.objs[k] = true) a.objs.length ⟨0, [], by omega, by omega, rfl, rfl, fun k _ _ h => by omega⟩ ?_
  rintro n fr h' ⟨i, ex, hi, rfl, rfl, rfl, hall⟩
  simp only [J_ref21_Same_j4, wk,Nat.reduceEqDiff,Nat.reduceAdd,Nat.reduceLeDiff,↓reduceIte]
  refine ⟨fun hlt => ?_, fun hge => ?_⟩
  · have hil : i < a.objs.length := by omega
    have hil2 : i < b.objs.length := by omega
    have hd : (objsC a.objs).drop ((i : Int).toNat * 3) = .int .i64 a.objs[i].value :: .lst .ro a.objs[i].ents.length (entsC a.objs[i].ents) :: .int .i64 a.objs[i].version :: (objsC a.objs).drop ((i + 1) * 3) := by rw [show (i : Int).toNat = i by omega]; exact objsC_drop hil
    have hd2 : (objsC b.objs).drop ((i : Int).toNat * 3) = .int .i64 b.objs[i].value :: .lst .ro b.objs[i].ents.length (entsC b.objs[i].ents) :: .int .i64 b.objs[i].version :: (objsC b.objs).drop ((i + 1) * 3) := by rw [show (i : Int).toNat = i by omega]; exact objsC_drop hil2
    have hin : ((0 ≤ (i : Int)) ∧ (i : Int) < (a.objs.length : Int)) = True := by simp; omega
    have hin2 : ((0 ≤ (i : Int)) ∧ (i : Int) < (b.objs.length : Int)) = True := by simp; omega
    simp only [hin, hin2, hd, hd2, true_and, wk,Nat.reduceAdd,Nat.reduceLeDiff]
    simp only [two0, two1, two2, wk,ne_eq,eq_self,Nat.reduceEqDiff,↓reduceIte]
    have nox : sameO a.objs[i] b.objs[i] = false → AV.bool false = .bool (sameR a b) := fun e => no (sameR_no hil hil2 e)
    refine ⟨fun v1 => ⟨fun v2 => ⟨fun v3 => nox (by have : ¬ a.objs[i].ents.length = b.objs[i].ents.length := by omega
                                                    simp [sameO, this]), fun v3 => ?_⟩, fun v2 => nox (by simp [sameO, v2])⟩, fun v1 => nox (by simp [sameO, v1])⟩
    have hne : a.objs[i].ents.length = b.objs[i].ents.length := by omega
    have hso := ha.2 _ (List.getElem_mem hil)
    have hsl := hso.1
    obtain ⟨H, hH⟩ : ∃ H : Hp, H = some (false, [.int .i64 a.boot, .lst .ro a.objs.length (objsC a.objs)]) :: some (false, [.int .i64 b.boot, .lst .ro b.objs.length (objsC b.objs)]) :: (ex ++ [some (true, [.int .i64 a.objs[i].value, .lst .ro a.objs[i].ents.length (entsC a.objs[i].ents), .int .i64 a.objs[i].version])] ++ [some (true, [.int .i64 b.objs[i].value, .lst .ro b.objs[i].ents.length (entsC b.objs[i].ents), .int .i64 b.objs[i].version])]) := ⟨_, rfl⟩
    rw [← hH]
    have g6 : H[ex.length + 1 + 1]? = some (some (true, [.int .i64 a.objs[i].value, .lst .ro a.objs[i].ents.length (entsC a.objs[i].ents), .int .i64 a.objs[i].version])) := by rw [hH]; simp
    have g7 : H[ex.length + 1 + 1 + 1]? = some (some (true, [.int .i64 b.objs[i].value, .lst .ro b.objs[i].ents.length (entsC b.objs[i].ents), .int .i64 b.objs[i].version])) := by rw [hH]; simp
    refine W_loop (fun n fr h' => ∃ (j : Nat), j ≤ a.objs[i].ents.length ∧ n = a.objs[i].ents.length - j ∧ h' = H ∧ fr = [(2, .ptr 0 0), (3, .ptr 1 0), (5, .int .i64 i), (6, .ptr (ex.length + 1 + 1) 0), (7, .ptr (ex.length + 1 + 1 + 1) 0), (8, .int .i64 j)] ∧ ∀ (k : Nat) (h1 : k < a.objs[i].ents.length) (h2 : k < b.objs[i].ents.length), k < j → sameEnt a.objs[i].ents[k] b.objs[i].ents[k] = true) a.objs[i].ents.length ⟨0, by omega, by omega, rfl, rfl, fun k _ _ h => by omega⟩ ?_
    rintro n fr h' ⟨j, hj, rfl, rfl, rfl, hall2⟩
    simp only [J_ref21_Same_j3, g6, g7, wk,Nat.reduceEqDiff,↓reduceIte]
    refine ⟨fun hlt2 => ?_, fun hge2 => ?_⟩
    · have hjl : j < a.objs[i].ents.length := by omega
      have hjl2 : j < b.objs[i].ents.length := by omega
      have hf : (entsC a.objs[i].ents).drop ((j : Int).toNat * 2) = .int .i64 a.objs[i].ents[j].op :: .lst .ro a.objs[i].ents[j].who.length (a.objs[i].ents[j].who.map .str) :: (entsC a.objs[i].ents).drop ((j + 1) * 2) := by rw [show (j : Int).toNat = j by omega]; exact entsC_drop hjl
      have hf2 : (entsC b.objs[i].ents).drop ((j : Int).toNat * 2) = .int .i64 b.objs[i].ents[j].op :: .lst .ro b.objs[i].ents[j].who.length (b.objs[i].ents[j].who.map .str) :: (entsC b.objs[i].ents).drop ((j + 1) * 2) := by rw [show (j : Int).toNat = j by omega]; exact entsC_drop hjl2
      have hjn : ((0 ≤ (j : Int)) ∧ (j : Int) < (a.objs[i].ents.length : Int)) = True := by simp; omega
      have hjn2 : ((0 ≤ (j : Int)) ∧ (j : Int) < (b.objs[i].ents.length : Int)) = True := by simp; omega
      have hw := (hso.2 _ (List.getElem_mem hjl)).1
      have qs := p_resame a.objs[i].ents[j] b.objs[i].ents[j] (by omega)
      simp only [vE, eC] at qs
      simp only [hjn, hjn2, hf, hf2, true_and, wk,Nat.reduceLeDiff]
      refine ⟨_, qs, ?_⟩
      simp only [wk]
      refine ⟨fun e => nox (sameO_no hjl hjl2 e), fun e => ⟨inR_of (by omega) (by omega), a.objs[i].ents.length - (j + 1), by omega, j + 1, by omega, rfl, by simp, fun k h1 h2 hk => ?_⟩⟩
      by_cases hkj : k < j
      · exact hall2 k h1 h2 hkj
      · obtain rfl : k = j := by omega
        exact e
    · have hyes : sameO a.objs[i] b.objs[i] = true := by
        simp only [sameO, Bool.and_eq_true, decide_eq_true_eq]
        exact ⟨v1, v2, hne, all_zip hne (fun k h1 h2 => hall2 k h1 h2 (by omega))⟩
      simp only [J_ref21_Same_j2, wk,Nat.reduceEqDiff,↓reduceIte]
      refine ⟨inR_of (by omega) (by omega), a.objs.length - (i + 1), by omega, i + 1, _, by omega, rfl, hH, by simp, fun k h1 h2 hk => ?_⟩
      by_cases hki : k < i
      · exact hall k h1 h2 hki
      · obtain rfl : k = i := by omega
        exact hyes
  · simp only [J_ref21_Same_j1, wk,↓reduceIte]
    congr 1
    symm
    simp only [sameR, Bool.and_eq_true, decide_eq_true_eq]
    exact ⟨e1, hn, all_zip hn (fun k h1 h2 => hall k h1 h2 (by omega))⟩
def hard : AV → Bool
 | .lst (.own _) _ _ => false
 | .lst .ro _ _ => false
 | _ => true
theorem unf_hard {a b : AV} (hb : hard b = true) (h : unf a = unf b) : a = b := by
 have e : unf b = b := by
  cases b with
  | lst f n l => cases f <;> first | rfl | simp [hard] at hb
  | _ => rfl
 rw [e] at h
 cases a with
 | lst f n l =>
  cases f with
  | own e => simp only [unf] at h; subst h; simp [hard] at hb
  | ro => exact h
  | clip => exact h
 | _ => exact h
theorem sameU_get {h h0 : Hp} {id : Nat} {s : Bool} {l : List AV} (hu : SameU h0 h) (hg : h[id]? = some (some (s, l))) (hl : ∀ c ∈ l, hard c = true) : h0[id]? = some (some (s, l)) := by
 have hq : (h0.map unfO)[id]? = (h.map unfO)[id]? := by rw [show h0.map unfO = h.map unfO from hu]
 rw [List.getElem?_map, List.getElem?_map, hg] at hq
 cases hx : h0[id]? with
 | none => rw [hx] at hq; cases hq
 | some x =>
  rw [hx] at hq
  simp only [Option.map_some, Option.some.injEq] at hq
  cases x with
  | none => cases hq
  | some y =>
   obtain ⟨b, l'⟩ := y
   simp only [unfO, Option.some.injEq, Prod.mk.injEq] at hq
   obtain ⟨rfl, h2⟩ := hq
   have : l' = l := by
    clear hx hg
    induction l' generalizing l with
    | nil => cases l with
     | nil => rfl
     | cons y l => cases h2
    | cons x l' ih =>
     cases l with
     | nil => cases h2
     | cons y l =>
      simp only [List.map_cons, List.cons.injEq] at h2
      rw [unf_hard (hl y (by simp)) h2.1, ih (fun c hc => hl c (by simp [hc])) h2.2]
   rw [this]
theorem hard_whoV (k : Nat) (who : List ByteArray) : hard (whoV k who) = true := by
 unfold whoV; split <;> rfl
theorem hard_entD : ∀ (l : List Ent) (k : Nat), ∀ c ∈ entD k l, hard c = true
 | [], k, c, hc => by simp [entD] at hc
 | x :: l, k, c, hc => by
  simp only [entD, List.mem_cons] at hc
  rcases hc with rfl | rfl | hc
  ·rfl
  ·exact hard_whoV _ _
  ·exact hard_entD l _ c hc
theorem DEnts.sameU {k : Nat} {h h0 : Hp} {v : AV} {l : List Ent} (hd : DEnts k h v l) (hu : SameU h0 h) : DEnts k h0 v l := by
 obtain ⟨id, j, h1, h2, h3, h4, h5⟩ := hd
 exact ⟨id, j, h1, h2, h3, sameU_get hu h4 (hard_entD _ _), fun i hi hw => sameU_get hu (h5 i hi hw) (fun c hc => by obtain ⟨s, _, rfl⟩ := List.mem_map.1 hc; rfl)⟩
theorem lnds_same {h : Hp} : ∀ {l : List AV}, free.frees l = true → Lnds h l l
 | [], _ => .nil
 | a :: l, hf => by
  simp only [free.frees, Bool.and_eq_true] at hf
  exact .cons (.same _ hf.1) (lnds_same hf.2)
theorem plains_strs (l : List ByteArray) : plains (l.map .str) := fun a ha => by
 obtain ⟨s, _, rfl⟩ := List.mem_map.1 ha; rfl
theorem plains_entsC' (l : List Ent) : plains (entsC l) := fun a ha => by
 simp only [entsC, List.mem_flatMap] at ha
 obtain ⟨o, _, ho⟩ := ha
 simp only [eC, List.mem_cons, List.not_mem_nil, or_false] at ho
 rcases ho with rfl | rfl <;> rfl
theorem lnds_entD {h : Hp} : ∀ (l : List Ent) (j : Nat), (∀ i (hi : i < l.length), l[i].who.length ≠ 0 → h[j + 2 * i + 1]? = some (some (false, l[i].who.map .str))) → Lnds h (entD j l) (entsC l)
 | [], j, _ => .nil
 | x :: l, j, hw => by
  have h1 : Lnds h (entD (j + 2) l) (entsC l) := lnds_entD l (j + 2) fun i hi hn => by
   have := hw (i + 1) (by simpa using hi) (by simpa using hn)
   rw [show j + 2 + 2 * i + 1 = j + 2 * (i + 1) + 1 by omega]
   simpa using this
  have h0 : Lnd h (whoV (j + 1) x.who) (.lst .ro x.who.length (x.who.map .str)) := by
   unfold whoV
   split
   ·next he =>
    have : x.who = [] := List.eq_nil_of_length_eq_zero he
    rw [this]
    exact .ro .clip 0 [] rfl
   ·next hn =>
    have := hw 0 (by simp) (by simpa using hn)
    exact .hs _ _ false (x.who.map .str) _ (by simpa using this) (lnds_same (frees_strs _)) (plains_strs _)
  exact .cons (.same _ rfl) (.cons h0 h1)
theorem DEnts.lnd {k : Nat} {h : Hp} {v : AV} {l : List Ent} (hd : DEnts k h v l) : Lnd h v (.lst .ro l.length (entsC l)) := by
 obtain ⟨id, j, h1, h2, rfl, h4, h5⟩ := hd
 exact .hs _ _ false _ _ h4 (lnds_entD l j h5) (plains_entsC' l)
def DObjs (h : Hp) (id : Nat) (os : List Obt) (vs : List AV) : Prop := h[id]? = some (some (false, objsV os vs)) ∧ vs.length = os.length ∧ ∀ (i : Nat) (o : Obt) (v : AV), os[i]? = some o → vs[i]? = some v → DEnts 0 h v o.ents
theorem hard_objsV : ∀ {os : List Obt} {vs : List AV}, (∀ v ∈ vs, hard v = true) → ∀ c ∈ objsV os vs, hard c = true
 | [], vs, _, c, hc => by simp [objsV] at hc
 | o :: os, [], _, c, hc => by simp [objsV] at hc
 | o :: os, v :: vs, hv, c, hc => by
  simp only [objsV, List.mem_cons] at hc
  rcases hc with rfl | rfl | rfl | hc
  ·rfl
  ·exact hv _ (by simp)
  ·rfl
  ·exact hard_objsV (fun u hu => hv u (by simp [hu])) c hc
theorem DObjs.sameU {h h0 : Hp} {id : Nat} {os : List Obt} {vs : List AV} (hd : DObjs h id os vs) (hu : SameU h0 h) : DObjs h0 id os vs := by
 obtain ⟨h1, h2, h3⟩ := hd
 refine ⟨sameU_get hu h1 (hard_objsV fun v hv => ?_), h2, fun i o v ho hv => (h3 i o v ho hv).sameU hu⟩
 obtain ⟨i, hi, rfl⟩ := List.mem_iff_getElem.1 hv
 obtain ⟨id', j, _, _, e, _, _⟩ := h3 i os[i] vs[i] (List.getElem?_eq_getElem (by omega)) (List.getElem?_eq_getElem hi)
 rw [e]; rfl
theorem lnds_objsV {h : Hp} : ∀ (os : List Obt) (vs : List AV), vs.length = os.length → (∀ (i : Nat) (o : Obt) (v : AV), os[i]? = some o → vs[i]? = some v → DEnts 0 h v o.ents) → Lnds h (objsV os vs) (objsC os)
 | [], [], _, _ => .nil
 | o :: os, v :: vs, hl, hd => .cons (.same _ rfl) (.cons (hd 0 o v rfl rfl).lnd (.cons (.same _ rfl) (lnds_objsV os vs (by simpa using hl) fun i o' v' h1 h2 => hd (i + 1) o' v' h1 h2)))
 | [], _ :: _, hl, _ => by simp at hl
 | _ :: _, [], hl, _ => by simp at hl
theorem DObjs.lnd {h : Hp} {id : Nat} {os : List Obt} {vs : List AV} (hd : DObjs h id os vs) : Lnd h (.hs id os.length) (.lst .ro os.length (objsC os)) := by
 obtain ⟨h1, h2, h3⟩ := hd
 exact .hs _ _ false _ _ h1 (lnds_objsV os vs h2 h3) (plains_objsC os)
theorem plainsB (a b : AV) (ha : plain a = true) (hb : plain b = true) : plains [a, b] := by
 intro u hu
 simp only [List.mem_cons, List.not_mem_nil, or_false] at hu
 rcases hu with rfl | rfl
 ·exact ha
 ·exact hb
theorem a_rsameV {h h0 : Hp} {id : Nat} {vs : List AV} {a b : Rcd} (hd : DObjs h id a.objs vs) (ha : smallR a) (hb : smallR b) (hu : SameU h0 h) : ACalls Try.prog 19 [.agg [.int .i64 a.boot, .hs id a.objs.length], vR b] h0 (fun x h' => x = .bool (sameR a b) ∧ h' = h0) :=
 PCalls.lend (p_rrsame a b ha hb) rfl (.cons (.agg _ _ (.cons (.same _ rfl) (.cons (hd.sameU hu).lnd .nil)) (plainsB _ _ rfl rfl)) (.cons (.same _ (free_vR b)) .nil))
theorem wop_k (P : Program) (d : Option Nat) (o : KOp) (fr : Fr) (h : Hp) (K : Fr → Hp → Prop) : wop P d (.k o) fr h K = (kF o fr h (fun a h' => K (put d a (ktk o fr)) h')) := id rfl
theorem eff_k (P : Program) (o : KOp) (fr : Fr) (h : Hp) (R : AV → Hp → Prop) : eff P (.k o) fr h R = (kF o fr h R) := id rfl
theorem tk_k (o : KOp) (fr : Fr) : tk (.k o) fr = (ktk o fr) := id rfl
theorem effF_kld (P : Program) (b : FB) (x : Opd) (fr : Fr) (h : Hp) (R : AV → Hp → Prop) : effF P b (.k (.ld x)) fr h R = (sameId (ev fr x) (fbId b fr h) ∧ kF (.ld x) fr h R) := id rfl
theorem wop_callr (P : Program) (d : Option Nat) (f : Opd) (args : List Opd) (fr : Fr) (h : Hp) (K : Fr → Hp → Prop) : wop P d (.callr f args) fr h K = (match ev fr f, evs fr args with
  | some (.fn f' caps), some l => ACalls P f' (l ++ caps) h (kcall d fr K)
  | _, _ => False) := id rfl
theorem eff_callr (P : Program) (f : Opd) (args : List Opd) (fr : Fr) (h : Hp) (R : AV → Hp → Prop) : eff P (.callr f args) fr h R = (match ev fr f, evs fr args with
  | some (.fn f' caps), some l => ∃ v, (∀ h0 : Hp, SameU h0 h → ACalls P f' (l ++ caps) h0 (fun a h' => a = v ∧ h' = h0)) ∧ R v h
  | _, _ => False) := id rfl
theorem tk_callr (f : Opd) (args : List Opd) (fr : Fr) : tk (.callr f args) fr = (fr) := id rfl
theorem kF_mk (e : Nat) (x : Opd) (fr : Fr) (h : Hp) (R : AV → Hp → Prop) : kF (.mk e x) fr h R = (match ev fr x with
  | some (.lst .clip 0 []) => R (.stk e none []) h
  | _ => False) := id rfl
theorem kF_mv (k : Nat) (fr : Fr) (h : Hp) (R : AV → Hp → Prop) : kF (.mv k) fr h R = (match lk fr k with
  | some (.stk e o l) => R (.stk e o l) h
  | _ => False) := id rfl
theorem kF_ld (x : Opd) (fr : Fr) (h : Hp) (R : AV → Hp → Prop) : kF (.ld x) fr h R = (match ev fr x with
  | some (.ptr id off) => (match h[id]? with
   | some (some (false, c)) => (match c[off]? with
    | some (.stk e o l) => R (.stk e o l) (h.set id (some (false, c.set off .opq)))
    | _ => False)
   | _ => False)
  | _ => False) := id rfl
theorem kF_st (a : Opd) (k : Nat) (fr : Fr) (h : Hp) (R : AV → Hp → Prop) : kF (.st a k) fr h R = (match ev fr a, lk fr k with
  | some (.ptr id off), some (.stk e o l) => (match h[id]? with
   | some (some (false, c)) => off < c.length ∧ R .nilp (h.set id (some (false, c.set off (.stk e o l))))
   | _ => False)
  | _, _ => False) := id rfl
theorem kF_ap (e b k : Nat) (y : Opd) (fr : Fr) (h : Hp) (R : AV → Hp → Prop) : kF (.ap e b k y) fr h R = (match lk fr k, ev fr y with
  | some (.stk e' _ l), some (.lst _ 1 [.int .i64 x]) => (e' = e ∧ l.length + 1 ≤ 9223372036854775807 ∧ (l.length + 1) * b ≤ 140737488355328) ∧ R (.stk e none (l ++ [x])) h
  | _, _ => False) := id rfl
theorem kF_cut (k : Nat) (j : Opd) (fr : Fr) (h : Hp) (R : AV → Hp → Prop) : kF (.cut k j) fr h R = (match lk fr k, ev fr j with
  | some (.stk e _ l), some (.int _ m) => (0 ≤ m ∧ m ≤ l.length) ∧ R (.stk e none (l.take m.toNat)) h
  | _, _ => False) := id rfl
theorem kF_pop (a x : Opd) (fr : Fr) (h : Hp) (R : AV → Hp → Prop) : kF (.pop a x) fr h R = (match ev fr a, ev fr x with
  | some (.ptr id off), some (.raw v n) => (match h[id]? with
   | some (some (false, c)) => (match c[off]? with
    | some (.stk e (some u) l) => (n ≤ l.length ∧ v = cutV u n) ∧ R .nilp (h.set id (some (false, c.set off (.stk e (some v) (l.take n)))))
    | _ => False)
   | _ => False)
  | _, _ => False) := id rfl
theorem kF_pk (k : Nat) (x : Opd) (fr : Fr) (h : Hp) (R : AV → Hp → Prop) : kF (.pk k x) fr h R = (match lk fr k, ev fr x with
  | some (.stk _ (some u) l), some (.rawp v i) => (v = u ∧ i < l.length) ∧ R (.int .i64 (l.getD i 0)) h
  | _, _ => False) := id rfl
theorem kF_po (a x : Opd) (fr : Fr) (h : Hp) (R : AV → Hp → Prop) : kF (.po a x) fr h R = (match ev fr a, ev fr x with
  | some (.ptr id off), some (.rawp v i) => (match h[id]? with
   | some (some (false, c)) => (match c[off]? with
    | some (.stk _ (some u) l) => (v = u ∧ i < l.length) ∧ R (.int .i64 (l.getD i 0)) h
    | _ => False)
   | _ => False)
  | _, _ => False) := id rfl
theorem kF_len (x : Opd) (fr : Fr) (h : Hp) (R : AV → Hp → Prop) : kF (.len x) fr h R = (match ev fr x with
  | some (.raw _ n) => R (.int .i64 n) h
  | _ => False) := id rfl
theorem kF_sl (x j : Opd) (fr : Fr) (h : Hp) (R : AV → Hp → Prop) : kF (.sl x j) fr h R = (match ev fr x, ev fr j with
  | some (.raw v n), some (.int _ m) => (0 ≤ m ∧ m ≤ n) ∧ R (.raw (cutV v m.toNat) m.toNat) h
  | _, _ => False) := id rfl
theorem kF_ix (x i : Opd) (fr : Fr) (h : Hp) (R : AV → Hp → Prop) : kF (.ix x i) fr h R = (match ev fr x, ev fr i with
  | some (.raw v n), some (.int _ i) => (0 ≤ i ∧ i < n) ∧ R (.rawp v i.toNat) h
  | _, _ => False) := id rfl
theorem kF_new (l : List AV) (u : List (Nat × Nat × Nat)) (ks : List (Nat × Nat)) (fr : Fr) (h : Hp) (R : AV → Hp → Prop) : kF (.new l u ks) fr h R = (upgK u l (fun l' => ksetK ks l' (fun l'' => R (.ptr h.length 0) (h ++ [some (false, l'')])))) := id rfl
theorem ksetK_nil (l : List AV) (K : List AV → Prop) : ksetK [] l K = (K l) := id rfl
theorem ksetK_cons (i e : Nat) (r : List (Nat × Nat)) (l : List AV) (K : List AV → Prop) : ksetK ((i, e) :: r) l K = (match l[i]? with
  | some (.lst .clip 0 []) => ksetK r (l.set i (.stk e none [])) K
  | _ => False) := id rfl
theorem ktk_mk (e : Nat) (x : Opd) (fr : Fr) : ktk (.mk e x) fr = (fr) := id rfl
theorem ktk_mv (k : Nat) (fr : Fr) : ktk (.mv k) fr = (degr k fr) := id rfl
theorem ktk_ld (x : Opd) (fr : Fr) : ktk (.ld x) fr = (fr) := id rfl
theorem ktk_st (a : Opd) (k : Nat) (fr : Fr) : ktk (.st a k) fr = (degr k fr) := id rfl
theorem ktk_ap (e b k : Nat) (y : Opd) (fr : Fr) : ktk (.ap e b k y) fr = (degr k fr) := id rfl
theorem ktk_cut (k : Nat) (j : Opd) (fr : Fr) : ktk (.cut k j) fr = (degr k fr) := id rfl
theorem ktk_pop (a x : Opd) (fr : Fr) : ktk (.pop a x) fr = (fr) := id rfl
theorem ktk_pk (k : Nat) (x : Opd) (fr : Fr) : ktk (.pk k x) fr = (fr) := id rfl
theorem ktk_po (a x : Opd) (fr : Fr) : ktk (.po a x) fr = (fr) := id rfl
theorem ktk_len (x : Opd) (fr : Fr) : ktk (.len x) fr = (fr) := id rfl
theorem ktk_sl (x j : Opd) (fr : Fr) : ktk (.sl x j) fr = (fr) := id rfl
theorem ktk_ix (x i : Opd) (fr : Fr) : ktk (.ix x i) fr = (fr) := id rfl
theorem ktk_new (l : List AV) (u : List (Nat × Nat × Nat)) (ks : List (Nat × Nat)) (fr : Fr) : ktk (.new l u ks) fr = (fr) := id rfl
theorem W_nms (P : Program) (k : Nat) (a : ACode) (fr : Fr) (h : Hp) (Q : Exit → Fr → Hp → Prop) : W P (.nms k a) fr h Q = (match lk fr k with
  | some (.stk e none l) => ∀ v, W P a ((k, .stk e (some v) l) :: fr) h Q
  | _ => W P a fr h Q) := id rfl
theorem W_nmo (P : Program) (k off : Nat) (a : ACode) (fr : Fr) (h : Hp) (Q : Exit → Fr → Hp → Prop) : W P (.nmo k off a) fr h Q = (match lk fr k with
  | some (.ptr id _) => (match h[id]? with
   | some (some (false, c)) => (match c[off]? with
    | some (.stk e none l) => ∀ v, W P a fr (h.set id (some (false, c.set off (.stk e (some v) l)))) Q
    | _ => W P a fr h Q)
   | _ => W P a fr h Q)
  | _ => W P a fr h Q) := id rfl
theorem deg_stks (e : TypeId) (v : Value) (l : List Int) : deg (.stk e (some v) l) = (.raw v l.length) := id rfl
theorem deg_stkn (e : TypeId) (l : List Int) : deg (.stk e none l) = (.opq) := id rfl
theorem deg_raw (v : Value) (n : Nat) : deg (.raw v n) = (.raw v n) := id rfl
theorem isTup_raw (v : Value) (n : Nat) : isTup (.raw v n) = (false) := id rfl
theorem cellsOf_raw (v : Value) (n : Nat) : cellsOf (.raw v n) = ([.raw v n]) := id rfl
theorem deg_rawp (v : Value) (n : Nat) : deg (.rawp v n) = (.rawp v n) := id rfl
theorem isTup_rawp (v : Value) (n : Nat) : isTup (.rawp v n) = (false) := id rfl
theorem cellsOf_rawp (v : Value) (n : Nat) : cellsOf (.rawp v n) = ([.rawp v n]) := id rfl
theorem wkr : type_of% (And.intro (And.intro (And.intro (And.intro (And.intro (@wop_k) (@eff_k)) (And.intro (@tk_k) (And.intro (@effF_kld) (@wop_callr)))) (And.intro (And.intro (@eff_callr) (And.intro (@tk_callr) (@kF_mk))) (And.intro (@kF_mv) (And.intro (@kF_ld) (@kF_st))))) (And.intro (And.intro (And.intro (@kF_ap) (@kF_cut)) (And.intro (@kF_pop) (And.intro (@kF_pk) (@kF_po)))) (And.intro (And.intro (@kF_len) (And.intro (@kF_sl) (@kF_ix))) (And.intro (@kF_new) (And.intro (@ksetK_nil) (@ksetK_cons)))))) (And.intro (And.intro (And.intro (And.intro (@ktk_mk) (@ktk_mv)) (And.intro (@ktk_ld) (And.intro (@ktk_st) (@ktk_ap)))) (And.intro (And.intro (@ktk_cut) (And.intro (@ktk_pop) (@ktk_pk))) (And.intro (@ktk_po) (And.intro (@ktk_len) (@ktk_sl))))) (And.intro (And.intro (And.intro (@ktk_ix) (And.intro (@ktk_new) (@W_nms))) (And.intro (@W_nmo) (And.intro (@deg_stks) (@deg_stkn)))) (And.intro (And.intro (@deg_raw) (And.intro (@isTup_raw) (@cellsOf_raw))) (And.intro (@deg_rawp) (And.intro (@isTup_rawp) (@cellsOf_rawp))))))) :=
 And.intro (And.intro (And.intro (And.intro (And.intro (@wop_k) (@eff_k)) (And.intro (@tk_k) (And.intro (@effF_kld) (@wop_callr)))) (And.intro (And.intro (@eff_callr) (And.intro (@tk_callr) (@kF_mk))) (And.intro (@kF_mv) (And.intro (@kF_ld) (@kF_st))))) (And.intro (And.intro (And.intro (@kF_ap) (@kF_cut)) (And.intro (@kF_pop) (And.intro (@kF_pk) (@kF_po)))) (And.intro (And.intro (@kF_len) (And.intro (@kF_sl) (@kF_ix))) (And.intro (@kF_new) (And.intro (@ksetK_nil) (@ksetK_cons)))))) (And.intro (And.intro (And.intro (And.intro (@ktk_mk) (@ktk_mv)) (And.intro (@ktk_ld) (And.intro (@ktk_st) (@ktk_ap)))) (And.intro (And.intro (@ktk_cut) (And.intro (@ktk_pop) (@ktk_pk))) (And.intro (@ktk_po) (And.intro (@ktk_len) (@ktk_sl))))) (And.intro (And.intro (And.intro (@ktk_ix) (And.intro (@ktk_new) (@W_nms))) (And.intro (@W_nmo) (And.intro (@deg_stks) (@deg_stkn)))) (And.intro (And.intro (@deg_raw) (And.intro (@isTup_raw) (@cellsOf_raw))) (And.intro (@deg_rawp) (And.intro (@isTup_rawp) (@cellsOf_rawp))))))
end Go.Proofs.Ytpiofcjkekpboaa
/- Records, the document's side: Copied hands out its objects as an object. -/
-- fast
namespace Go.Proofs.Ytpiofcjkekpboaa
open Go.RowKit Go.Lib

theorem W_upg (P : Program) (k off : Nat) (e : TypeId) (sz : Nat) (a : ACode) (fr : Fr) (h : Hp) (Q : Exit → Fr → Hp → Prop) : W P (.upg k off e sz a) fr h Q = (match lk fr k with
  | some (.ptr id _) => (match h[id]? with
   | some (some (false, c)) => (match c[off]? with
    | some (.lst .clip n l) => l.length = n * sz ∧ W P a fr (h.set id (some (false, c.set off (.lst (.own e) n l)))) Q
    | _ => W P a fr h Q)
   | _ => W P a fr h Q)
  | _ => W P a fr h Q) := id rfl
def gdc (u : AV) : Prop := deg u = u ∧ free u = true ∧ plain u = true
def gds (l : List AV) : Prop := ∀ u ∈ l, gdc u
theorem gds_deg {l : List AV} (h : gds l) : l.map deg = l := by
 induction l with
 | nil => rfl
 | cons a l ih => rw [List.map_cons, ih (fun u hu => h u (by simp [hu])), (h a (by simp)).1]
theorem gds_frees {l : List AV} (h : gds l) : free.frees l = true := by
 induction l with
 | nil => rfl
 | cons a l ih => simp only [free.frees, Bool.and_eq_true]; exact ⟨(h a (by simp)).2.1, ih (fun u hu => h u (by simp [hu]))⟩
theorem gds_plains {l : List AV} (h : gds l) : plains l := fun u hu => (h u hu).2.2
theorem gds_app {a b : List AV} (ha : gds a) (hb : gds b) : gds (a ++ b) := fun u hu => (List.mem_append.1 hu).elim (ha u) (hb u)
theorem gds_take {l : List AV} (h : gds l) (n : Nat) : gds (l.take n) := fun u hu => h u (List.mem_of_mem_take hu)
theorem gds_drop {l : List AV} (h : gds l) (n : Nat) : gds (l.drop n) := fun u hu => h u (List.mem_of_mem_drop hu)
theorem gds_zrow {z : List AV} (hz : gds z) (sz n : Nat) : gds (zrow z sz n) := by
 intro u hu
 simp only [zrow, List.mem_map] at hu
 obtain ⟨j, _, rfl⟩ := hu
 rw [List.getD_eq_getElem?_getD]
 cases h : z[j % sz]? with
 | none => exact ⟨rfl, rfl, rfl⟩
 | some x => exact hz _ (List.mem_of_getElem? h)
theorem gds_objsC (l : List Obt) : gds (objsC l) := by
 intro u hu
 simp only [objsC, List.mem_flatMap] at hu
 obtain ⟨o, _, ho⟩ := hu
 simp only [oC, List.mem_cons, List.not_mem_nil, or_false] at ho
 rcases ho with rfl | rfl | rfl
 ·exact ⟨rfl, rfl, rfl⟩
 ·exact ⟨rfl, by simp only [free]; exact frees_entsC _, rfl⟩
 ·exact ⟨rfl, rfl, rfl⟩
def idO : AV → Option Nat
 | .hsc id _ _ => some id
 | _ => none
theorem ltO {α : Type} {l : List α} {i : Nat} {x : α} (h : l[i]? = some x) : i < l.length := (List.getElem?_eq_some_iff.1 h).1
def HasO (h : Hp) (v : AV) (n sz : Nat) (l : List AV) : Prop := (n = 0 ∧ v = .lst .clip 0 []) ∨ ∃ id c cells, v = .hsc id n c ∧ h[id]? = some (some (false, cells)) ∧ cells.length = c * sz ∧ n ≤ c ∧ cells.take (n * sz) = l ∧ gds cells
theorem HasO.app {h : Hp} {v : AV} {n sz : Nat} {l : List AV} (hs : HasO h v n sz l) (o : Option (Bool × List AV)) : HasO (h ++ [o]) v n sz l := by
 rcases hs with h1 | ⟨id, c, cells, h1, h3, h4⟩
 ·exact .inl h1
 ·exact .inr ⟨id, c, cells, h1, by rw [List.getElem?_append_left (ltO h3)]; exact h3, h4⟩
theorem HasO.set {h : Hp} {v : AV} {n sz : Nat} {l : List AV} (hs : HasO h v n sz l) {j : Nat} (hj : idO v ≠ some j) (o : Option (Bool × List AV)) : HasO (h.set j o) v n sz l := by
 rcases hs with h1 | ⟨id, c, cells, rfl, h3, h4⟩
 ·exact .inl h1
 ·exact .inr ⟨id, c, cells, rfl, by rw [List.getElem?_set_ne (fun e => hj (by rw [← e]; rfl))]; exact h3, h4⟩
theorem HasO.first (H : Hp) (m sz : Nat) (l : List AV) (z : List AV) (k : Nat) (hl : l.length = m * sz) (hz : gds z) (ha : gds l) : HasO (H ++ [some (false, l ++ zrow z sz (k * sz))]) (.hsc H.length m (m + k)) m sz l :=
 .inr ⟨H.length, m + k, _, rfl, List.getElem?_concat_length, by rw [List.length_append, zrow_len, hl, Nat.add_mul], by omega, by rw [← hl, List.take_left], gds_app ha (gds_zrow hz _ _)⟩
theorem spliceO {α : Type} : ∀ (x p l : List α), p.length + x.length ≤ l.length → l.take p.length = p → splice l p.length x = p ++ x ++ l.drop (p.length + x.length)
 | [], p, l, _, h => by
  rw [splice_nil, List.append_nil, List.length_nil, Nat.add_zero]
  conv => lhs; rw [← List.take_append_drop p.length l, h]
 | a :: x, p, l, hl, h => by
  simp only [List.length_cons] at hl
  have hp : p.length < l.length := by omega
  have e : (l.set p.length a).take (p ++ [a]).length = p ++ [a] := by
   rw [List.length_append, List.length_singleton, List.take_succ_eq_append_getElem (by rw [List.length_set]; exact hp), List.take_set_of_le (Nat.le_refl _), h, List.getElem_set_self]
  have ih := spliceO x (p ++ [a]) (l.set p.length a) (by simp; omega) e
  rw [splice_cons]
  rw [List.length_append, List.length_singleton] at ih
  rw [ih, List.append_assoc p [a] x, List.singleton_append, List.length_cons, List.drop_set_of_lt (by omega), show p.length + 1 + x.length = p.length + (x.length + 1) by omega]
theorem HasO.put {H : Hp} {id n c sz : Nat} {cells l : List AV} (h1 : H[id]? = some (some (false, cells))) (h2 : cells.length = c * sz) (h5 : cells.take (n * sz) = l) (hs : gds cells) (m : Nat) (l' : List AV) (hl' : l'.length = m * sz) (ha : gds l') (hc : n + m ≤ c) :
  HasO (H.set id (some (false, splice cells (n * sz) l'))) (.hsc id (n + m) c) (n + m) sz (l ++ l') := by
 have hle : (n + m) * sz ≤ c * sz := Nat.mul_le_mul_right _ hc
 rw [Nat.add_mul] at hle
 have hll : l.length = n * sz := by rw [← h5, List.length_take]; omega
 have hsp : splice cells (n * sz) l' = l ++ l' ++ cells.drop (n * sz + m * sz) := by
  have := spliceO l' l cells (by rw [hll, hl', h2]; omega) (by rw [hll]; exact h5)
  rw [hll, hl'] at this
  exact this
 refine .inr ⟨id, c, _, rfl, List.getElem?_set_self (ltO h1), ?_, hc, ?_, ?_⟩
 ·rw [hsp, List.length_append, List.length_append, List.length_drop, hll, hl']; omega
 ·rw [hsp, Nat.add_mul, List.take_append_of_le_length (by rw [List.length_append, hll, hl']; omega), List.take_of_length_le (by rw [List.length_append, hll, hl']; omega)]
 ·rw [hsp]; exact gds_app (gds_app (by rw [← h5]; exact gds_take hs _) ha) (gds_drop hs _)
theorem HasO.grow {H : Hp} {n c sz : Nat} {cells l : List AV} (h2 : cells.length = c * sz) (hn : n ≤ c) (h5 : cells.take (n * sz) = l) (hs : gds cells) (m : Nat) (l' : List AV) (hl' : l'.length = m * sz) (ha : gds l') (z : List AV) (hz : gds z) (k : Nat) :
  HasO (H ++ [some (false, ((cells.take (n * sz)).map deg ++ l') ++ zrow z sz (k * sz))]) (.hsc H.length (n + m) (n + m + k)) (n + m) sz (l ++ l') := by
 have hle : n * sz ≤ c * sz := Nat.mul_le_mul_right _ hn
 have hll : l.length = n * sz := by rw [← h5, List.length_take]; omega
 have hls : gds l := by rw [← h5]; exact gds_take hs _
 rw [h5, gds_deg hls]
 exact HasO.first H (n + m) sz (l ++ l') z k (by rw [List.length_append, hll, hl', Nat.add_mul]) hz (gds_app hls ha)
end Go.Proofs.Ytpiofcjkekpboaa
/- Records, the document's Copied. -/
-- fast
namespace Go.Proofs.Ytpiofcjkekpboaa
open Go.RowKit Go.Lib

def CopS (h : Hp) (r : Rcd) (v : AV) (i : Nat) : Prop := h[0]? = some (some (false, [.int .i64 r.boot, .lst .ro r.objs.length (objsC r.objs)])) ∧ (∃ z, h[1]? = some (some (false, z)) ∧ z.length = 2) ∧ h[2]? = some (some (false, [.int .i64 r.boot, v])) ∧ HasO h v i 3 (objsC (r.objs.take i)) ∧ idO v ≠ some 0 ∧ idO v ≠ some 1 ∧ idO v ≠ some 2
theorem CopS.app {h : Hp} {r : Rcd} {v : AV} {i : Nat} (hs : CopS h r v i) (o : Option (Bool × List AV)) : CopS (h ++ [o]) r v i := by
 obtain ⟨h0, ⟨z, h1, hz⟩, h2, h3, h4⟩ := hs
 exact ⟨by rw [List.getElem?_append_left (ltO h0)]; exact h0, ⟨z, by rw [List.getElem?_append_left (ltO h1)]; exact h1, hz⟩, by rw [List.getElem?_append_left (ltO h2)]; exact h2, h3.app o, h4⟩
theorem CopS.set {h : Hp} {r : Rcd} {v : AV} {i j : Nat} (hs : CopS h r v i) (hj : 3 ≤ j) (hv : idO v ≠ some j) (o : Option (Bool × List AV)) : CopS (h.set j o) r v i := by
 obtain ⟨h0, ⟨z, h1, hz⟩, h2, h3, h4⟩ := hs
 exact ⟨by rw [List.getElem?_set_ne (by omega)]; exact h0, ⟨z, by rw [List.getElem?_set_ne (by omega)]; exact h1, hz⟩, by rw [List.getElem?_set_ne (by omega)]; exact h2, h3.set hv o, h4⟩
theorem HasO.deg {h : Hp} {v : AV} {n sz : Nat} {l : List AV} (hs : HasO h v n sz l) : deg v = v := by
 rcases hs with ⟨_, rfl⟩ | ⟨id, c, cells, rfl, _⟩ <;> rfl
theorem CopS.upd {h h' : Hp} {r : Rcd} {v v' : AV} {i : Nat} (hs : CopS h r v i) (hk : ∀ j x, h[j]? = some x → idO v ≠ some j → h'[j]? = some x) (hn : HasO h' v' (i + 1) 3 (objsC (r.objs.take (i + 1)))) (hid : idO v' = idO v ∨ idO v' = some h.length) : CopS (h'.set 2 (some (false, [.int .i64 r.boot, v']))) r v' (i + 1) := by
 obtain ⟨h0, ⟨z, h1, hz⟩, h2, h3, e0, e1, e2⟩ := hs
 have l2 := ltO h2
 have ne : ∀ j : Nat, j < h.length → idO v ≠ some j → idO v' ≠ some j := fun j hj hv e => by
  rcases hid with hid | hid
  ·exact hv (hid ▸ e)
  ·rw [hid] at e; injection e with e; omega
 refine ⟨?_, ⟨z, ?_, hz⟩, List.getElem?_set_self (ltO (hk 2 _ h2 e2)), hn.set (ne 2 l2 e2) _, ne 0 (by omega) e0, ne 1 (by omega) e1, ne 2 l2 e2⟩
 ·rw [List.getElem?_set_ne (by omega)]; exact hk 0 _ h0 e0
 ·rw [List.getElem?_set_ne (by omega)]; exact hk 1 _ h1 e1
theorem a_rcopied0 (r : Rcd) (hr : smallR r) : ACalls Try.prog 16 [vR r] [] (fun a h' => ∃ v, a = .agg [.int .i64 r.boot, v] ∧ HasO h' v r.objs.length 3 (objsC r.objs)) := by
 have hlr := hr.1
 refine acalls_of mixed J_ref21_Copied_ok (Nat.le_of_ble_eq_true rfl) ?_; simp only [J_ref21_Copied, vR, rC, wk,Nat.reduceEqDiff,Nat.reduceAdd,Nat.reduceLeDiff,↓reduceIte]
 refine W_loop (fun n fr h' => ∃ (i : Nat) (v : AV), i ≤ r.objs.length ∧ n = r.objs.length - i ∧ CopS h' r v i ∧ fr = [(1, .ptr 0 0), (2, .ptr 1 0), (3, .ptr 2 0), (4, .int .i64 i)]) r.objs.length ⟨0, .lst .clip 0 [], by omega, by omega, ⟨rfl, ⟨_, rfl, rfl⟩, rfl, .inl ⟨rfl, rfl⟩, by simp [idO], by simp [idO], by simp [idO]⟩, rfl⟩ ?_
 rintro n fr h' ⟨i, v, hi, rfl, hs, rfl⟩
 have h0 := hs.1
 simp only [J_ref21_Copied_j5, h0, wk,Nat.reduceEqDiff,↓reduceIte]
 refine ⟨fun hlt => ?_, fun hge => ?_⟩
 ·have hil : i < r.objs.length := by omega
  have hin : ((0 ≤ (i : Int)) ∧ (i : Int) < (r.objs.length : Int)) = True := propext ⟨fun _ => trivial, fun _ => ⟨by omega, by omega⟩⟩
  have hd := objsC_drop hil
  have hsm := hr.2 _ (List.getElem_mem hil)
  have hst := objsC_succ hil
  generalize r.objs[i] = o at hd hsm hst
  have hs1 := fun x => hs.app x
  have hg0 : ∀ x, (h' ++ [x])[0]? = _ := fun x => (hs1 x).1
  simp only [hin, Int.toNat_natCast, hd, h0, W_upg, wk,Nat.reduceEqDiff,Nat.reduceAdd,Nat.reduceLeDiff,↓reduceIte]
  have h3 : 3 ≤ h'.length := by have := ltO hs.2.2.1; omega
  have hvl : idO v ≠ some h'.length := fun e => by
   rcases hs.2.2.2.1 with ⟨_, rfl⟩ | ⟨id, c, cells, rfl, p3, _⟩
   ·cases e
   ·injection e with e; have := ltO p3; omega
  have hol := hsm.1
  refine W_loop (fun m fr H => ∃ k : Nat, k ≤ o.ents.length ∧ m = o.ents.length - k ∧ CopS H r v i ∧ H[h'.length]? = some (some (false, [.int .i64 o.value, .lst (.own 58) k (entsC (o.ents.take k)), .int .i64 o.version])) ∧ fr = [(1, .ptr 0 0), (2, .ptr 1 0), (3, .ptr 2 0), (4, .int .i64 i), (5, .ptr h'.length 0), (6, .int .i64 k)]) o.ents.length ⟨0, by omega, by omega, hs1 _, by simp [entsC], rfl⟩ ?_
  rintro m fr H ⟨k, hk, rfl, hsk, hx, rfl⟩
  have hk0 := hsk.1
  simp only [J_ref21_Copied_j4, hk0, hin, Int.toNat_natCast, hd, wk,Nat.reduceEqDiff,Nat.reduceAdd,Nat.reduceLeDiff,↓reduceIte]
  refine ⟨fun hlt2 => ?_, fun hge2 => ?_⟩
  ·have hkl : k < o.ents.length := by omega
   have hin2 : ((0 ≤ (k : Int)) ∧ (k : Int) < (o.ents.length : Int)) = True := propext ⟨fun _ => trivial, fun _ => ⟨by omega, by omega⟩⟩
   have hd2 := entsC_drop hkl
   have hse := hsm.2 _ (List.getElem_mem hkl)
   have hst2 := entsC_succ hkl
   generalize o.ents[k] = y at hd2 hse hst2
   have hyl := hse.1
   have hk1 : ∀ x, (H ++ [x])[0]? = _ := fun x => (hsk.app x).1
   have hx1 : ∀ x : Option (Bool × List AV), (H ++ [x])[h'.length]? = some (some (false, [.int .i64 o.value, .lst (.own 58) k (entsC (o.ents.take k)), .int .i64 o.version])) := fun x => by rw [List.getElem?_append_left (ltO hx)]; exact hx
   have hNM := ltO hx
   have f1 : ∀ (x c : Option (Bool × List AV)), ((H ++ [c]).set h'.length x)[H.length]? = some c := fun x c => by rw [List.getElem?_set_ne (by omega)]; exact List.getElem?_concat_length
   have f2 : ∀ (x c : Option (Bool × List AV)), ((H ++ [c]).set h'.length x)[h'.length]? = some x := fun x c => List.getElem?_set_self (by simp; omega)
   have hle2 : (entsC (o.ents.take k)).length = k * 2 := by rw [entsC_len, List.length_take]; omega
   simp only [hin2, hd2, hx1, f1, f2, hst2, wk,Nat.reduceEqDiff,Nat.reduceAdd,Nat.reduceMul,Nat.reduceLeDiff,Nat.reduceLT,↓reduceIte]
   exact ⟨⟨by simp, by omega, by omega⟩, ⟨by omega, by omega⟩, inR_of (by omega) (by omega), o.ents.length - (k + 1), by omega, k + 1, by omega, rfl, (hsk.app _).set h3 hvl _, rfl, by simp⟩
  ·obtain rfl : k = o.ents.length := by omega
   rw [List.take_of_length_le (Nat.le_refl _)] at hx
   have h2k := hsk.2.2.1
   have hz : gds [.int .i64 0, .lst .clip 0 [], .int .i64 0] := by
    intro u hu
    simp only [List.mem_cons, List.not_mem_nil, or_false] at hu
    rcases hu with rfl | rfl | rfl <;> exact ⟨rfl, rfl, rfl⟩
   have hgo : gds [.int .i64 o.value, .lst .ro o.ents.length (entsC o.ents), .int .i64 o.version] := by
    have := gds_objsC [o]
    simpa [objsC, oC] using this
   have fin : ∀ (H' : Hp) (v' : AV), CopS H' r v' (i + 1) → inR ((i : Int) + 1) ∧ ∃ m, m < r.objs.length - i ∧ ∃ (i' : Nat) (v : AV), i' ≤ r.objs.length ∧ m = r.objs.length - i' ∧ CopS H' r v i' ∧ [(1, AV.ptr 0 0), (2, .ptr 1 0), (3, .ptr 2 0), (4, .int .i64 ((i : Int) + 1))] = [(1, .ptr 0 0), (2, .ptr 1 0), (3, .ptr 2 0), (4, .int .i64 i')] := fun H' v' hc => ⟨inR_of (by omega) (by omega), r.objs.length - (i + 1), by omega, i + 1, v', by omega, rfl, hc, by simp⟩
   have hqa : ∀ x : Option (Bool × List AV), (H ++ [x])[2]? = H[2]? := fun x => by rw [List.getElem?_append_left (ltO h2k)]
   have hkA : ∀ (x0 : Option (Bool × List AV)) (v : AV) (j : Nat) (x : Option (Bool × List AV)), H[j]? = some x → idO v ≠ some j → (H ++ [x0])[j]? = some x := fun x0 v j x hx' _ => by rw [List.getElem?_append_left (ltO hx')]; exact hx'
   rcases hsk.2.2.2.1 with ⟨l0, rfl⟩ | ⟨id, c, cells, rfl, p3, p4, p5, p6, p7⟩
   ·subst l0
    simp only [J_ref21_Copied_j3, J_ref21_Copied_j2, h2k, hx, hqa, wk,forall_const,eq_self,Nat.reduceEqDiff,Nat.reduceAdd,Nat.reduceMul,Nat.reduceLeDiff,Nat.reduceLT,↓reduceIte]
    intro k
    refine fin _ _ (hsk.upd (hkA _ _) ?_ (.inr rfl))
    have := HasO.first H 1 3 _ _ k rfl hz hgo
    rw [← hst]
    exact this
   ·have hi2 : id ≠ 2 := fun e => hsk.2.2.2.2.2.2 (by rw [e]; rfl)
    have hqb : ∀ x : Option (Bool × List AV), (H.set id x)[2]? = H[2]? := fun x => List.getElem?_set_ne hi2
    have hkS : ∀ (x0 : Option (Bool × List AV)) (j : Nat) (x : Option (Bool × List AV)), H[j]? = some x → idO (.hsc id i c) ≠ some j → (H.set id x0)[j]? = some x := fun x0 j x hx' hne => by rw [List.getElem?_set_ne (fun e => hne (by rw [← e]; rfl))]; exact hx'
    simp only [J_ref21_Copied_j3, J_ref21_Copied_j2, h2k, hx, p3, hqa, hqb, wk,Nat.reduceEqDiff,Nat.reduceAdd,Nat.reduceMul,Nat.reduceLeDiff,Nat.reduceLT,↓reduceIte]
    refine ⟨⟨p4, p5, by omega, by omega⟩, fun hc => fin _ _ (hsk.upd (v' := .hsc id (i + 1) c) (hkS _) ?_ (.inl rfl)), fun hc k => fin _ _ (hsk.upd (hkA _ _) ?_ (.inr rfl))⟩
    ·have := HasO.put p3 p4 p6 p7 1 _ rfl hgo hc
     rw [← hst]
     simp only [splice_cons, splice_nil] at this
     exact this
    ·have := HasO.grow (H := H) p4 p5 p6 p7 1 _ rfl hgo _ hz k
     rw [← hst]
     exact this
 ·obtain rfl : i = r.objs.length := by omega
  obtain ⟨z, h1, hz⟩ := hs.2.1
  have h2 := hs.2.2.1
  obtain ⟨z0, z1, rfl⟩ : ∃ z0 z1, z = [z0, z1] := by
   match z, hz with
   | [a, b], _ => exact ⟨a, b, rfl⟩
  have hdv := hs.2.2.2.1.deg
  have hse : ∀ x : Option (Bool × List AV), (h'.set 1 x)[1]? = some x := fun x => List.getElem?_set_self (ltO h1)
  simp only [J_ref21_Copied_j1, h1, h2, hdv, wk,Nat.reduceEqDiff,Nat.reduceAdd,Nat.reduceLeDiff,↓reduceIte]
  simp only [val, ev, lk, hse, hdv, wk,Nat.reduceEqDiff,Nat.reduceAdd,Nat.reduceLeDiff,↓reduceIte]
  have hf := hs.2.2.2.1.set hs.2.2.2.2.2.1 (some (false, [.int .i64 r.boot, v]))
  rw [List.take_length] at hf
  exact ⟨v, rfl, hf⟩
theorem HasO.shift {h0 h : Hp} {v : AV} {n sz : Nat} {l : List AV} (hs : HasO h0 v n sz l) : HasO (h ++ shH h.length h0) (sh h.length v) n sz l := by
 rcases hs with ⟨h1, rfl⟩ | ⟨id, c, cells, rfl, p3, p4, p5, p6, p7⟩
 ·exact .inl ⟨h1, by simp only [sh, shs]⟩
 ·refine .inr ⟨id + h.length, c, cells, by simp only [sh], ?_, p4, p5, p6, p7⟩
  rw [List.getElem?_append_right (by omega), Nat.add_sub_cancel]
  simp only [shH, List.getElem?_map, p3, Option.map_some, shs_free (gds_frees p7)]
theorem a_rcopied {h : Hp} (r : Rcd) (hr : smallR r) : ACalls Try.prog 16 [vR r] h (fun a h' => ∃ v ex, a = .agg [.int .i64 r.boot, v] ∧ h' = h ++ ex ∧ HasO h' v r.objs.length 3 (objsC r.objs) ∧ ∀ id, idO v = some id → h.length ≤ id) := by
 refine (ACalls.shift (by simp [free.frees, free_vR]) (a_rcopied0 r hr) h).mono ?_
 rintro a h' ⟨a0, h0, ⟨v, rfl, hv⟩, rfl, rfl⟩
 refine ⟨sh h.length v, _, by simp [sh, shs], rfl, hv.shift, fun id hid => ?_⟩
 rcases hv with ⟨_, rfl⟩ | ⟨id', c, cells, rfl, _⟩
 ·simp [sh, shs, idO] at hid
 ·simp [sh, idO] at hid; omega
end Go.Proofs.Ytpiofcjkekpboaa
/- Records in the reference: Decode. -/
namespace Go.Proofs.Ytpiofcjkekpboaa
open Go.RowKit Go.Lib
def wideE (x : Ent) : Bool := decide (30 < x.who.length) || x.who.any fun w => decide (100 < w.size)
theorem p_wide (x : Ent) (h : x.who.length ≤ 9223372036854775807) : PCalls Try.prog 15 [vE x] (.bool (wideE x)) := by
 refine pcalls_of (by simp [free.frees, free_vE]) rfl (acalls_of mixed J_law21_wide_ok (Nat.le_of_ble_eq_true rfl) ?_); simp only [J_law21_wide, vE, eC, wk,Nat.reduceEqDiff,↓reduceIte]
 have big : (30 < x.who.length ∨ ∃ w ∈ x.who, 100 < w.size) → AV.bool true = .bool (wideE x) := fun hb => by
  congr 1
  symm
  simp only [wideE, Bool.or_eq_true, decide_eq_true_eq, List.any_eq_true]
  exact hb
 refine ⟨fun h2 => big (.inl (by omega)), fun h2 => ?_⟩
 refine W_loop (fun n fr h => ∃ i : Nat, i ≤ x.who.length ∧ n = x.who.length - i ∧ h = [some (false, eC x)] ∧ fr = [(1, .ptr 0 0), (10, .int .i64 x.who.length), (11, .int .i64 i)] ∧ ∀ w ∈ x.who.take i, ¬ 100 < w.size) x.who.length ⟨0, by omega, by omega, rfl, rfl, by simp⟩ ?_
 rintro n fr h' ⟨i, hi, rfl, rfl, rfl, hall⟩
 simp only [J_law21_wide_j2, eC, wk,Nat.reduceEqDiff,↓reduceIte]
 refine ⟨fun hlt => ?_, fun hge => ?_⟩
 ·have hil : i < x.who.length := by omega
  have hd : (x.who.map AV.str).drop (i : Int).toNat = .str x.who[i] :: (x.who.map AV.str).drop (i + 1) := by rw [show (i : Int).toNat = i by omega, drop_str hil]
  refine ⟨⟨by omega, by omega⟩, ?_⟩
  simp only [hd, wk,Nat.reduceEqDiff,↓reduceIte]
  refine ⟨fun h4 => big (.inr ⟨_, List.getElem_mem hil, by omega⟩), fun h4 => ⟨inR_of (by omega) (by omega), x.who.length - (i + 1), by omega, i + 1, by omega, rfl, rfl, fun w hw => ?_⟩⟩
  rcases (take_mem_succ hil).1 hw with h | h
  ·exact hall w h
  ·subst h; omega
 ·rw [List.take_of_length_le (by omega)] at hall
  simp only [J_law21_wide_j1, wk,↓reduceIte]
  congr 1
  symm
  simp only [wideE, Bool.or_eq_false_iff, decide_eq_false_iff_not, List.any_eq_false, decide_eq_true_eq]
  exact ⟨by omega, hall⟩
theorem not_wide {x : Ent} (h : wideE x = false) : smallE x := by
 simp only [wideE, Bool.or_eq_false_iff, decide_eq_false_iff_not, List.any_eq_false, decide_eq_true_eq] at h
 exact ⟨by omega, fun w hw => by have := h.2 w hw; omega⟩
def largeO (o : Obt) : Bool := decide (30 < o.ents.length) || o.ents.any wideE
def largeR (r : Rcd) : Bool := decide (10 < r.objs.length) || r.objs.any largeO
theorem not_large {r : Rcd} (h : largeR r = false) : smallR r := by
 simp only [largeR, largeO, Bool.or_eq_false_iff, decide_eq_false_iff_not, List.any_eq_false, Bool.not_eq_true] at h
 refine ⟨by omega, fun o ho => ?_⟩
 obtain ⟨h1, h2⟩ := h.2 o ho
 exact ⟨by omega, fun x hx => not_wide (h2 x hx)⟩
theorem p_large (r : Rcd) (h : r.objs.length ≤ 9223372036854775807) (h2 : ∀ o ∈ r.objs, o.ents.length ≤ 9223372036854775807 ∧ ∀ x ∈ o.ents, x.who.length ≤ 9223372036854775807) : PCalls Try.prog 14 [vR r] (.bool (largeR r)) := by
 refine pcalls_of (by simp [free.frees, free_vR]) rfl (acalls_of mixed J_law21_large_ok (Nat.le_of_ble_eq_true rfl) ?_); simp only [J_law21_large, vR, rC, wk,Nat.reduceEqDiff,↓reduceIte]
 have big : (10 < r.objs.length ∨ ∃ o ∈ r.objs, largeO o = true) → AV.bool true = .bool (largeR r) := fun hb => by
  congr 1
  symm
  simp only [largeR, Bool.or_eq_true, decide_eq_true_eq, List.any_eq_true]
  exact hb
 refine ⟨fun h2 => big (.inl (by omega)), fun h3 => ?_⟩
 refine W_loop (fun n fr h => ∃ i : Nat, i ≤ r.objs.length ∧ n = r.objs.length - i ∧ h = [some (false, [.int .i64 r.boot, .lst .ro r.objs.length (objsC r.objs)])] ∧ fr = [(1, .ptr 0 0), (11, .int .i64 r.objs.length), (12, .int .i64 i)] ∧ ∀ o ∈ r.objs.take i, largeO o = false) r.objs.length ⟨0, by omega, by omega, rfl, rfl, by simp⟩ ?_
 rintro n fr h' ⟨i, hi, rfl, rfl, rfl, hall⟩
 simp only [J_law21_large_j4, wk,Nat.reduceEqDiff,↓reduceIte]
 refine ⟨fun hlt => ?_, fun hge => ?_⟩
 ·have hil : i < r.objs.length := by omega
  have hmem := List.getElem_mem hil
  have hd : (objsC r.objs).drop ((i : Int).toNat * 3) = .int .i64 r.objs[i].value :: .lst .ro r.objs[i].ents.length (entsC r.objs[i].ents) :: .int .i64 r.objs[i].version :: (objsC r.objs).drop ((i + 1) * 3) := by rw [show (i : Int).toNat = i by omega]; exact objsC_drop hil
  have hin : ((0 ≤ (i : Int)) ∧ (i : Int) < (r.objs.length : Int)) = True := by simp; omega
  simp only [hin, hd, true_and, wk,Nat.reduceEqDiff,↓reduceIte]
  refine ⟨fun h4 => big (.inr ⟨_, hmem, by simp only [largeO, Bool.or_eq_true, decide_eq_true_eq]; left; omega⟩), fun h4 => ?_⟩
  obtain ⟨k1, k2⟩ := h2 _ hmem
  refine W_loop (fun n fr h => ∃ j : Nat, j ≤ r.objs[i].ents.length ∧ n = r.objs[i].ents.length - j ∧ h = [some (false, [.int .i64 r.boot, .lst .ro r.objs.length (objsC r.objs)])] ∧ fr = [(1, .ptr 0 0), (3, .int .i64 i), (11, .int .i64 r.objs.length), (12, .int .i64 i), (29, .int .i64 r.objs[i].ents.length), (30, .int .i64 j)] ∧ ∀ x ∈ r.objs[i].ents.take j, wideE x = false) r.objs[i].ents.length ⟨0, by omega, by omega, rfl, rfl, by simp⟩ ?_
  rintro n fr h' ⟨j, hj, rfl, rfl, rfl, hall2⟩
  simp only [J_law21_large_j3, hin, hd, true_and, wk,Nat.reduceEqDiff,↓reduceIte]
  refine ⟨fun hlt2 => ?_, fun hge2 => ?_⟩
  ·have hjl : j < r.objs[i].ents.length := by omega
   have hf : (entsC r.objs[i].ents).drop ((j : Int).toNat * 2) = .int .i64 r.objs[i].ents[j].op :: .lst .ro r.objs[i].ents[j].who.length (r.objs[i].ents[j].who.map .str) :: (entsC r.objs[i].ents).drop ((j + 1) * 2) := by rw [show (j : Int).toNat = j by omega]; exact entsC_drop hjl
   have hjn : ((0 ≤ (j : Int)) ∧ (j : Int) < (r.objs[i].ents.length : Int)) = True := by simp; omega
   have q := p_wide r.objs[i].ents[j] (k2 _ (List.getElem_mem hjl))
   simp only [vE, eC] at q
   simp only [hjn, hf, true_and, wk,Nat.reduceLeDiff]
   refine PCalls.use (q) ?_; simp only [wk,Nat.reduceEqDiff,↓reduceIte]
   refine ⟨fun h5 => big (.inr ⟨_, hmem, by simp only [largeO, Bool.or_eq_true, List.any_eq_true]; right; exact ⟨_, List.getElem_mem hjl, h5⟩⟩), fun h5 => ⟨inR_of (by omega) (by omega), r.objs[i].ents.length - (j + 1), by omega, j + 1, by omega, rfl, by simp, fun w hw => ?_⟩⟩
   rcases (take_mem_succ hjl).1 hw with h | h
   ·exact hall2 w h
   ·subst h; exact h5
  ·rw [List.take_of_length_le (by omega)] at hall2
   simp only [J_law21_large_j2, wk,Nat.reduceEqDiff,↓reduceIte]
   refine ⟨inR_of (by omega) (by omega), r.objs.length - (i + 1), by omega, i + 1, by omega, rfl, by simp, fun w hw => ?_⟩
   rcases (take_mem_succ hil).1 hw with h | h
   ·exact hall w h
   ·subst h
    simp only [largeO, Bool.or_eq_false_iff, decide_eq_false_iff_not, List.any_eq_false, Bool.not_eq_true]
    exact ⟨by omega, hall2⟩
 ·rw [List.take_of_length_le (by omega)] at hall
  simp only [J_law21_large_j1, wk,↓reduceIte]
  congr 1
  symm
  simp only [largeR, Bool.or_eq_false_iff, decide_eq_false_iff_not, List.any_eq_false, Bool.not_eq_true]
  exact ⟨by omega, hall⟩
def wd8 : ByteArray := ⟨#[32, 1]⟩
def ent8 : Ent := ⟨1, [wd8]⟩
def r8 : Rcd := ⟨3, [⟨5, [ent8], 2⟩]⟩
def sR8 : List UInt8 := [3, 1, 5, 2, 1, 1, 1, 1, 32, 1]
abbrev vR8 : AV := .agg [.int .i64 3, .lst .ro 1 [.int .i64 5, .lst .ro 1 [.int .i64 1, .lst .ro 1 [.str wd8]], .int .i64 2]]
abbrev vR8a : AV := .agg [.int .i64 3, .lst .ro 1 [.int .i64 8, .lst .ro 1 [.int .i64 1, .lst .ro 1 [.str wd8]], .int .i64 2]]
abbrev vR8b : AV := .agg [.int .i64 3, .lst .ro 1 [.int .i64 5, .lst .ro 0 [], .int .i64 3]]
abbrev vR0 : AV := .agg [.int .i64 0, .lst .ro 0 []]
theorem small8 : smallR r8 := ⟨by decide, fun o ho => by
 simp [r8] at ho; subst ho
 exact ⟨by decide, fun x hx => by simp at hx; subst hx; exact ⟨by decide, fun w hw => by simp [ent8] at hw; subst hw; decide⟩⟩⟩
theorem smallE0 : smallE ⟨0, []⟩ := ⟨by decide, fun x hx => by simp at hx⟩
theorem smallE8 : smallE ent8 := ⟨by decide, fun w hw => by simp [ent8] at hw; subst hw; decide⟩
theorem q_do1 : PCalls Try.prog 17 [vR8, .agg [.int .i64 0, .int .i64 1, .int .i64 3, .int .i64 0, .lst .clip 0 []]] (.tup [vR8a, .int .i64 8, .int .i64 0]) := by
 refine PCalls.argd ?_
 simp only [rdpw]
 exact p_do_ok r8 ⟨0, 1, 3, ⟨0, []⟩⟩ small8 smallE0 (by kernel_rfl)
theorem q_do2 : PCalls Try.prog 17 [vR8, .agg [.int .i64 1, .int .i64 0, .int .i64 0, .int .i64 0, .lst .clip 0 []]] (.tup [vR0, .int .i64 0, .int .i64 10]) := by
 refine PCalls.argd ?_
 simp only [rdpw]
 have h := p_do_no r8 ⟨1, 0, 0, ⟨0, []⟩⟩ small8 smallE0 (by rw [show doE r8 ⟨1, 0, 0, ⟨0, []⟩⟩ = 10 by kernel_rfl]; decide)
 rw [show doE r8 ⟨1, 0, 0, ⟨0, []⟩⟩ = 10 by kernel_rfl] at h
 exact h
theorem q_do3 : PCalls Try.prog 17 [vR8, .agg [.int .i64 0, .int .i64 3, .int .i64 0, .int .i64 1, .lst .ro 1 [.str wd8]]] (.tup [vR8b, .int .i64 5, .int .i64 0]) :=
 p_do_ok r8 ⟨0, 3, 0, ent8⟩ small8 smallE8 (by kernel_rfl)
theorem q_enc8 : PCalls Try.prog 48 [vR8] (.tup [.str ⟨sR8.toArray⟩, .int .i64 0]) := by
 have h := p_renc r8 small8
 unfold encR at h
 have h1 : num 1 = [1] := by rw [num_lt (by decide)]; rfl
 have h2 : num 2 = [2] := by rw [num_lt (by decide)]; rfl
 have h3 : num 3 = [3] := by rw [num_lt (by decide)]; rfl
 have h5 : num 5 = [5] := by rw [num_lt (by decide)]; rfl
 have e : recB r8 = sR8 := by
  show num 3 ++ (num 1 ++ (num 5 ++ (num 2 ++ (num 1 ++ ((num 1 ++ setBytes [wd8]) ++ [])))  ++ [])) = sR8
  rw [h1, h2, h3, h5]
  rfl
 rw [if_pos (by kernel_rfl), e] at h
 exact h
theorem q_dec8 : PCalls Try.prog 49 [.str ⟨sR8.toArray⟩] (.tup [vR8, .int .i64 0]) := by
 have h := p_rdec ⟨sR8.toArray⟩ (by decide)
 rw [show decR ⟨sR8.toArray⟩ = some r8 by kernel_rfl] at h
 exact h
theorem q_dec9 : PCalls Try.prog 49 [.str (⟨sR8.toArray⟩ ++ ⟨#[63]⟩)] (.tup [vR0, .int .i64 2]) := by
 have h := p_rdec (⟨sR8.toArray⟩ ++ ⟨#[63]⟩) (by decide)
 rw [show decR (⟨sR8.toArray⟩ ++ ⟨#[63]⟩) = none by
  rw [show (⟨sR8.toArray⟩ ++ ⟨#[63]⟩ : ByteArray) = ⟨(sR8 ++ [63]).toArray⟩ from str_app2 sR8 [63]]
  kernel_rfl] at h
 exact h
theorem q_same8 : PCalls Try.prog 50 [vR8, vR8] (.bool true) := by
 have h := p_recsame r8 r8 small8 small8
 rw [show sameR r8 r8 = true by kernel_rfl] at h
 exact h
def r8a : Rcd := ⟨3, [⟨8, [ent8], 2⟩]⟩
theorem small8a : smallR r8a := ⟨by decide, fun o ho => by
 simp [r8a] at ho; subst ho
 exact ⟨by decide, fun x hx => by simp at hx; subst hx; exact smallE8⟩⟩
theorem q_same9 : PCalls Try.prog 50 [vR8, vR8a] (.bool false) := by
 have h := p_recsame r8 r8a small8 small8a
 rw [show sameR r8 r8a = false by kernel_rfl] at h
 exact h
theorem q_may8 : PCalls Try.prog 20 [vR8] (.bool true) := by
 have h := p_rmay1 r8 small8
 rw [show mayR r8 = true by kernel_rfl] at h
 exact h
theorem q_may9 : PCalls Try.prog 20 [.agg [.int .i64 (-1), .lst .clip 0 []]] (.bool false) := by
 refine PCalls.argd ?_
 simp only [rdpw]
 exact p_rmay1 ⟨-1, []⟩ ⟨by decide, fun o ho => by simp at ho⟩
theorem q_ask8 : PCalls Try.prog 22 [.agg [.int .i64 0, .int .i64 0, .int .i64 0, .int .i64 0, .lst .clip 0 []]] (.bool true) := by
 refine PCalls.argd ?_
 simp only [rdpw]
 exact p_asks ⟨0, 0, 0, ⟨0, []⟩⟩ smallE0
theorem q_ask9 : PCalls Try.prog 22 [.agg [.int .i64 0, .int .i64 0, .int .i64 1, .int .i64 0, .lst .clip 0 []]] (.bool false) := by
 refine PCalls.argd ?_
 simp only [rdpw]
 exact p_asks ⟨0, 0, 1, ⟨0, []⟩⟩ smallE0
theorem q_need8 : PCalls Try.prog 24 [.agg [.int .i64 0, .int .i64 2, .int .i64 0, .int .i64 0, .lst .clip 0 []]] (.int .i64 2) := by
 refine PCalls.argd ?_
 simp only [rdpw]
 exact p_need ⟨0, 2, 0, ⟨0, []⟩⟩
theorem q_of8 : PCalls Try.prog 47 [.lst .ro 1 [.int .u16 8193]] (.str wd8) := p_rof [8193] (by decide) (by decide)
theorem p_awake21 : PCalls Try.prog 13 [] (.bool true) := by
 refine pcalls_of (by first | rfl | simp [free, free.frees, frees_str, frees_u8, frees_u16]) (by first | rfl | simp [free, free.frees, frees_str, frees_u8, frees_u16]) (acalls_of mixed J_law21_awake_ok (Nat.le_of_ble_eq_true rfl) ?_); simp only [J_law21_awake, wk,Nat.reduceLeDiff,Int.reduceNeg,↓reduceIte]
 refine PCalls.use (q_of8) ?_; simp only [wk,Nat.reduceEqDiff,Nat.reduceAdd,Nat.reduceLeDiff,Int.reduceNeg,↓reduceIte]
 refine PCalls.use (q_do1) ?_; simp only [wk,Nat.reduceEqDiff,Nat.reduceAdd,Nat.reduceLeDiff,Int.reduceNeg,↓reduceIte]
 refine PCalls.use (q_do2) ?_; simp only [wk,Nat.reduceEqDiff,Nat.reduceAdd,Nat.reduceLeDiff,Int.reduceLE,Int.reduceNeg,↓reduceIte]
 refine ⟨by decide, by decide, _, q_do3, ?_⟩
 simp only [wk,Nat.reduceAdd,Int.reduceNeg]
 refine PCalls.use (q_enc8) ?_; simp only [wk,Nat.reduceEqDiff,Int.reduceNeg,↓reduceIte]
 refine PCalls.use (q_dec8) ?_; simp only [wk,Nat.reduceEqDiff,Nat.reduceAdd,Nat.reduceLeDiff,Int.reduceNeg,↓reduceIte]
 refine ⟨by decide, ?_⟩
 refine PCalls.use (q_dec9) ?_; simp only [wk,Nat.reduceEqDiff,Nat.reduceAdd,Nat.reduceLeDiff,Int.reduceLE,Int.reduceNeg,↓reduceIte]
 repeat (first
  | (refine PCalls.use q_same8 ?_; simp only [wk,Nat.reduceEqDiff,Nat.reduceAdd,Nat.reduceLeDiff,Int.reduceNeg,↓reduceIte])
  | (refine PCalls.use q_same9 ?_; simp only [wk,Nat.reduceEqDiff,Nat.reduceAdd,Nat.reduceLeDiff,Int.reduceNeg,↓reduceIte])
  | (refine PCalls.use q_may8 ?_; simp only [wk,Nat.reduceEqDiff,Nat.reduceAdd,Nat.reduceLeDiff,Int.reduceNeg,↓reduceIte])
  | (refine PCalls.use q_may9 ?_; simp only [wk,Nat.reduceEqDiff,Int.reduceNeg,↓reduceIte])
  | (refine PCalls.use q_ask8 ?_; simp only [wk,Nat.reduceEqDiff,Nat.reduceAdd,Nat.reduceLeDiff,Int.reduceNeg,↓reduceIte])
  | (refine PCalls.use q_ask9 ?_; simp only [wk,Nat.reduceEqDiff,Nat.reduceAdd,Nat.reduceLeDiff,Int.reduceNeg,↓reduceIte])
  | (refine PCalls.use q_need8 ?_; simp only [wk,Nat.reduceEqDiff,Int.reduceNeg,↓reduceIte])
  | refine ⟨fun _ => ?_, fun h => absurd rfl h⟩
  | refine ⟨by decide, ?_⟩)
def fitE (x : Ent) : Prop := x.who.length ≤ 9223372036854775807
def fitR (r : Rcd) : Prop := r.objs.length ≤ 9223372036854775807 ∧ ∀ o ∈ r.objs, o.ents.length ≤ 9223372036854775807 ∧ ∀ x ∈ o.ents, x.who.length ≤ 9223372036854775807
theorem sameEnt_self (x : Ent) : sameEnt x x = true := by simp [sameEnt]
theorem sameO_self (o : Obt) : sameO o o = true := by
 simp only [sameO, decide_true, Bool.true_and]
 exact all_zip rfl (fun k h1 h2 => sameEnt_self _)
theorem sameR_self (r : Rcd) : sameR r r = true := by
 simp only [sameR, decide_true, Bool.true_and]
 exact all_zip rfl (fun k h1 h2 => sameO_self _)
end Go.Proofs.Ytpiofcjkekpboaa
