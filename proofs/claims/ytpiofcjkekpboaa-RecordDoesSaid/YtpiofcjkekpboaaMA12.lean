/- Texts of one proof, laid together: Qa Dc Qb Ay Qc. -/
import Derived.Test.YtpiofcjkekpboaaMA11
import Derived.Test.YtpiofcjkekpboaaMA10
set_option maxRecDepth 100000
set_option maxHeartbeats 16000000

set_option linter.unusedSimpArgs false
set_option linter.unusedVariables false
/- The plain laws of what is done to records. No program in sight. -/
namespace Go.Proofs.Ytpiofcjkekpboaa
open Go.RowKit Go.Lib

def goodL (l : List Ent) : Prop := (∀ x ∈ l, mayEnt x = true) ∧ l.Pairwise (fun x y => sameEnt y x = false) ∧ l.length ≤ 12
theorem idxE_neg {x : Ent} : ∀ {l : List Ent}, idxE x l < 0 ↔ ∀ y ∈ l, sameEnt x y = false
 | [] => by simp [idxE]
 | y :: l => by
  have ih := idxE_neg (x := x) (l := l)
  have hlt := idxE_lt x l
  simp only [idxE, List.mem_cons, forall_eq_or_imp]
  constructor
  ·intro h
   split at h
   ·omega
   ·next hs =>
    refine ⟨by simpa using hs, ?_⟩
    split at h
    ·next hn => exact ih.1 hn
    ·omega
  ·rintro ⟨h1, h2⟩
   rw [h1, if_neg (by simp), if_pos (ih.2 h2)]
   decide
theorem addE_zero {l : List Ent} {x : Ent} : addE l x = 0 ↔ mayEnt x = true ∧ (∀ y ∈ l, sameEnt x y = false) ∧ l.length < 12 := by
 unfold addE
 constructor
 ·intro h
  split at h
  ·next m =>
   split at h
   ·simp at h
   ·next i =>
    split at h
    ·simp at h
    ·exact ⟨m, idxE_neg.1 (by omega), by omega⟩
  ·simp at h
 ·rintro ⟨h1, h2, h3⟩
  have := idxE_neg.2 h2
  rw [if_pos h1, if_neg (by omega), if_neg (by omega)]
theorem goodL_snoc {l : List Ent} {x : Ent} (h : goodL l) : goodL (l ++ [x]) ↔ addE l x = 0 := by
 rw [addE_zero]
 unfold goodL at h ⊢
 rw [List.pairwise_append]
 constructor
 ·rintro ⟨h1, ⟨_, _, h2⟩, h3⟩
  refine ⟨h1 x (by simp), fun y hy => h2 y hy x (by simp), by simp at h3; omega⟩
 ·rintro ⟨h1, h2, h3⟩
  refine ⟨fun y hy => ?_, ⟨h.2.1, by simp, fun y hy z hz => by simp at hz; subst hz; exact h2 y hy⟩, by simp; omega⟩
  rcases List.mem_append.1 hy with hy | hy
  ·exact h.1 y hy
  ·simp at hy; subst hy; exact h1
theorem newE_iff : ∀ {l acc : List Ent}, goodL acc → (newE acc l = 0 ↔ goodL (acc ++ l))
 | [], acc, h => by simp [newE, h]
 | x :: l, acc, h => by
  simp only [newE]
  have e : acc ++ x :: l = (acc ++ [x]) ++ l := by simp
  by_cases ha : addE acc x = 0
  ·rw [if_pos ha, e]
   exact newE_iff ((goodL_snoc h).2 ha)
  ·rw [if_neg ha]
   constructor
   ·intro h0; exact absurd h0 ha
   ·intro hg
    exfalso
    apply ha
    rw [← goodL_snoc h]
    rw [e] at hg
    exact ⟨fun y hy => hg.1 y (List.mem_append.2 (.inl hy)), hg.2.1.sublist (List.sublist_append_left _ _), by have := hg.2.2; simp at this ⊢; omega⟩
theorem goodL_nil : goodL [] := ⟨by simp, by simp, by simp⟩
theorem newE_good {l : List Ent} : newE [] l = 0 ↔ goodL l := by
 have := newE_iff (l := l) goodL_nil
 simpa using this
theorem good_without {l : List Ent} (h : goodL l) (k : Nat) : goodL (without l k) := by
 have hs : (without l k).Sublist l := by
  unfold without
  rw [← List.eraseIdx_eq_take_drop_succ]
  exact List.eraseIdx_sublist _ _
 exact ⟨fun x hx => h.1 x (hs.mem hx), h.2.1.sublist hs, Nat.le_trans hs.length_le h.2.2⟩
theorem step_may {o : Obt} {q : Rqs} (ho : mayO o = true) (hq : asksE q = true) (h : (stepO o q).1 = 0) : mayO (stepO o q).2 = true ∧ (stepO o q).2.value = o.value + q.arg := by
 simp only [mayO, Bool.and_eq_true, numOk, decide_eq_true_eq] at ho ⊢
 obtain ⟨n1, n2, n3⟩ := ho
 rw [newE_good] at n3
 unfold asksE at hq
 split at hq
 ·next ha =>
  have harg := ha.2.2
  simp only [numOk, decide_eq_true_eq] at harg
  unfold stepO at h ⊢
  by_cases o1 : q.op = 1
  ·rw [if_pos o1] at h ⊢
   split at h
   ·simp at h
   ·next hb =>
    rw [if_neg hb]
    exact ⟨⟨⟨by show 0 ≤ o.value + q.arg; omega, by show o.value + q.arg ≤ _; omega⟩, n2, newE_good.2 n3⟩, rfl⟩
  ·rw [if_neg o1] at h ⊢
   have hz : q.arg = 0 := by
    split at hq
    ·simp only [Bool.and_eq_true, decide_eq_true_eq] at hq; exact hq.1
    ·split at hq
     ·simp only [Bool.and_eq_true, decide_eq_true_eq] at hq; exact hq.1
     ·cases hq
   by_cases o2 : q.op = 2
   ·rw [if_pos o2] at h ⊢
    simp only [turnE] at h
    split at h
    ·simp at h
    ·next hv =>
     exact ⟨⟨n1, ⟨by show 0 ≤ o.version + 1; omega, by show o.version + 1 ≤ _; omega⟩, newE_good.2 ((goodL_snoc n3).2 h)⟩, by show o.value = _; omega⟩
   ·rw [if_neg o2] at h ⊢
    by_cases o3 : q.op = 3
    ·rw [if_pos o3] at h ⊢
     simp only [turnE] at h
     split at h
     ·simp at h
     ·next hv =>
      exact ⟨⟨n1, ⟨by show 0 ≤ o.version + 1; omega, by show o.version + 1 ≤ _; omega⟩, newE_good.2 (good_without n3 _)⟩, by show o.value = _; omega⟩
    ·rw [if_neg o3]
     exact ⟨⟨n1, n2, newE_good.2 n3⟩, by show o.value = _; omega⟩
 ·cases hq
theorem do_ok {r : Rcd} {q : Rqs} (h : doE r q = 0) : mayR r = true ∧ asksE q = true ∧ ∃ k : Nat, ∃ hk : k < r.objs.length, q.object = k ∧ (stepO r.objs[k] q).1 = 0 ∧ doR r q = ⟨r.boot, r.objs.set k (stepO r.objs[k] q).2⟩ ∧ doV r q = (stepO r.objs[k] q).2.value := by
 unfold doE at h
 split at h
 ·next hm =>
  split at h
  ·next hl =>
   have hq := hm.2
   unfold asksE at hq
   split at hq
   ·next ha =>
    have hk : q.object.toNat < r.objs.length := by omega
    rw [List.getElem?_eq_getElem hk] at h
    refine ⟨hm.1, hm.2, q.object.toNat, hk, by omega, h, ?_, ?_⟩
    ·unfold doR; rw [List.getElem?_eq_getElem hk]
    ·unfold doV; rw [List.getElem?_eq_getElem hk]
   ·cases hq
  ·simp at h
 ·simp at h
theorem do_may {r : Rcd} {q : Rqs} (h : doE r q = 0) : mayR (doR r q) = true := by
 obtain ⟨h1, h2, k, hk, h3, h4, h5, h6⟩ := do_ok h
 rw [h5]
 simp only [mayR, Bool.and_eq_true, decide_eq_true_eq, List.all_eq_true, List.length_set] at h1 ⊢
 refine ⟨h1.1, h1.2.1, fun o ho => ?_⟩
 rcases List.mem_or_eq_of_mem_set ho with ho | rfl
 ·exact h1.2.2 o ho
 ·exact (step_may (h1.2.2 _ (List.getElem_mem hk)) h2 h4).1
theorem may_smallO {o : Obt} (h : mayO o = true) : smallO o := by
 simp only [mayO, Bool.and_eq_true, decide_eq_true_eq] at h
 have hg := newE_good.1 h.2.2
 refine ⟨by have := hg.2.2; omega, fun x hx => ?_⟩
 obtain ⟨_, _, h3⟩ := mayEnt_ok (hg.1 x hx)
 obtain ⟨a, b⟩ := setMay_small h3
 exact ⟨by omega, fun w hw => by have := b w hw; omega⟩
theorem may_small {r : Rcd} (h : mayR r = true) : smallR r := by
 simp only [mayR, Bool.and_eq_true, decide_eq_true_eq, List.all_eq_true] at h
 exact ⟨by omega, fun o ho => may_smallO (h.2.2 o ho)⟩
end Go.Proofs.Ytpiofcjkekpboaa
/- Records, the document's Do. -/
-- fast
namespace Go.Proofs.Ytpiofcjkekpboaa
open Go.RowKit Go.Lib

def DoPostD (r : Rcd) (q : Rqs) (a : AV) (h' : Hp) : Prop :=
 if doE r q = 0 then ∃ v, a = .tup [.agg [.int .i64 r.boot, v], .int .i64 (doV r q), .int .i64 0] ∧ HasO h' v r.objs.length 3 (objsC (doR r q).objs)
 else a = .tup [.agg [.int .i64 0, .lst .clip 0 []], .int .i64 0, .int .i64 (doE r q)]
structure DoS (G : Hp) (r : Rcd) (q : Rqs) (N id c : Nat) (cells : List AV) (o : Obt) : Prop where
  g1 : G[1]? = some (some (false, [.int .i64 q.object, .int .i64 q.op, .int .i64 q.arg, .int .i64 q.ent.op, .lst .ro q.ent.who.length (q.ent.who.map .str)]))
  g2 : G[2]? = some (some (false, [.int .i64 0, .lst (.own 71) 0 []]))
  g3 : G[3]? = some (some (true, [.int .i64 0, .lst .clip 0 []]))
  gi : G[id]? = some (some (false, cells))
  gN : G[N]? = some (some (true, [.int .i64 r.boot, .hsc id r.objs.length c]))
  gx : G[N + 1]? = some (some (false, [.int .i64 o.value, .lst .ro o.ents.length (entsC o.ents), .int .i64 o.version]))
  h4 : 4 ≤ id
  hN : id < N
theorem DoS.app {G : Hp} {r : Rcd} {q : Rqs} {N id c : Nat} {cells : List AV} {o : Obt} (h : DoS G r q N id c cells o) (y : Option (Bool × List AV)) : DoS (G ++ [y]) r q N id c cells o :=
 ⟨by rw [List.getElem?_append_left (ltO h.g1)]; exact h.g1, by rw [List.getElem?_append_left (ltO h.g2)]; exact h.g2, by rw [List.getElem?_append_left (ltO h.g3)]; exact h.g3, by rw [List.getElem?_append_left (ltO h.gi)]; exact h.gi, by rw [List.getElem?_append_left (ltO h.gN)]; exact h.gN, by rw [List.getElem?_append_left (ltO h.gx)]; exact h.gx, h.h4, h.hN⟩
theorem DoS.setx {G : Hp} {r : Rcd} {q : Rqs} {N id c : Nat} {cells : List AV} {o : Obt} (h : DoS G r q N id c cells o) (o' : Obt) : DoS (G.set (N + 1) (some (false, [.int .i64 o'.value, .lst .ro o'.ents.length (entsC o'.ents), .int .i64 o'.version]))) r q N id c cells o' := by
 have h4 := h.h4
 have hN := h.hN
 exact ⟨by rw [List.getElem?_set_ne (by omega)]; exact h.g1, by rw [List.getElem?_set_ne (by omega)]; exact h.g2, by rw [List.getElem?_set_ne (by omega)]; exact h.g3, by rw [List.getElem?_set_ne (by omega)]; exact h.gi, by rw [List.getElem?_set_ne (by omega)]; exact h.gN, List.getElem?_set_self (ltO h.gx), h4, hN⟩
theorem rdo_end {G : Hp} {r : Rcd} {q : Rqs} {N id c k : Nat} {cells : List AV} {o' : Obt} (h : DoS G r q N id c cells o') (hkl : k < r.objs.length) (hlen : r.objs.length ≤ 1000) (hk : q.object = k) (p4 : cells.length = c * 3) (p5 : r.objs.length ≤ c) (p6 : cells.take (r.objs.length * 3) = objsC r.objs) (p7 : gds cells) (hde : doE r q = 0) (hdr : (doR r q).objs = r.objs.set k o') (hdv : doV r q = o'.value) :
  W Try.prog J_ref21_Do_j1 [(3, .ptr 1 0), (4, .ptr 2 0), (8, .ptr N 0), (9, .ptr (N + 1) 0)] G (kret [.c 4 (some 2), .t 5, .t 6] (DoPostD r q)) := by
 obtain ⟨g1, g2, g3, gi, gN, gx, h4, hN⟩ := h
 have hin : ((0 ≤ (k : Int)) ∧ (k : Int) < (r.objs.length : Int)) = True := propext ⟨fun _ => trivial, fun _ => ⟨by omega, by omega⟩⟩
 have s1 : ∀ x : Option (Bool × List AV), (G.set id x)[N]? = G[N]? := fun x => List.getElem?_set_ne (by omega)
 have s2 : ∀ x : Option (Bool × List AV), (G.set id x)[N + 1]? = G[N + 1]? := fun x => List.getElem?_set_ne (by omega)
 have s3 : ∀ x : Option (Bool × List AV), (G.set id x)[2]? = G[2]? := fun x => List.getElem?_set_ne (by omega)
 have s4 : ∀ x y : Option (Bool × List AV), ((G.set id x).set 2 y)[2]? = some y := fun x y => List.getElem?_set_self (by rw [List.length_set]; exact ltO g2)
 simp only [J_ref21_Do_j1, g1, g2, gi, gN, gx, hk, hin, Int.toNat_natCast, s1, s2, s3, wk,ne_eq,eq_self,Nat.reduceEqDiff,Nat.reduceAdd,Nat.reduceLeDiff,↓reduceIte]
 have hA : (objsC (r.objs.take k)).length = k * 3 := by rw [objsC_len]; simp; omega
 have hcut : cells = objsC (r.objs.take k) ++ .int .i64 r.objs[k].value :: .lst .ro r.objs[k].ents.length (entsC r.objs[k].ents) :: .int .i64 r.objs[k].version :: (objsC (r.objs.drop (k + 1)) ++ cells.drop (r.objs.length * 3)) := by
  conv => lhs; rw [← List.take_append_drop (r.objs.length * 3) cells, p6, objsC_split hkl]
  simp [oC]
 have hnew : ((cells.set (k * 3) (.int .i64 o'.value)).set (k * 3 + 1) (.lst .ro o'.ents.length (entsC o'.ents))).set (k * 3 + 1 + 1) (.int .i64 o'.version) = objsC (r.objs.set k o') ++ cells.drop (r.objs.length * 3) := by
  conv => lhs; rw [hcut]
  rw [set_three hA, objsC_set hkl]
  simp [oC]
 have hsl : (objsC (r.objs.set k o')).length = r.objs.length * 3 := by rw [objsC_len, List.length_set]
 refine ⟨by omega, by omega, by omega, ?_⟩
 simp only [val, ev, lk, s4, wk,Nat.reduceAdd,Nat.reduceLeDiff,↓reduceIte]
 unfold DoPostD
 rw [hde, if_pos rfl, hdv]
 refine ⟨_, rfl, .inr ⟨id, c, _, rfl, by rw [List.getElem?_set_ne (by omega)]; exact List.getElem?_set_self (ltO gi), by simp [p4], p5, ?_, ?_⟩⟩
 ·rw [hnew, hdr, ← hsl, List.take_left]
 ·rw [hnew]; exact gds_app (gds_objsC _) (gds_drop p7 _)
theorem rest_none {x : Ent} : ∀ {l : List Ent}, (∀ y ∈ l, sameEnt y x = false) → restE l x = l := fun h => by
 unfold restE
 rw [List.filter_eq_self]
 intro y hy
 rw [h y hy]; rfl
theorem rest_without {l : List Ent} {x : Ent} (hn : newE [] l = 0) (he : remE l x = 0) : restE l x = without l (idxE x l).toNat := by
 have hp := (newE_good.1 hn).2.1
 have hx : ¬ idxE x l < 0 := by
  unfold remE at he
  split at he
  ·split at he
   ·cases he
   ·assumption
  ·cases he
 clear hn he
 induction l with
 | nil => simp [idxE] at hx
 | cons y l ih =>
  rw [List.pairwise_cons] at hp
  simp only [idxE] at hx ⊢
  by_cases hs : sameEnt x y = true
  ·simp only [hs, if_true] at hx ⊢
   have hy : sameEnt y x = true := by
    simp only [sameEnt, decide_eq_true_eq] at hs ⊢
    exact ⟨hs.1.symm, hs.2.symm⟩
   have hno : ∀ z ∈ l, sameEnt z x = false := fun z hz => by
    have := hp.1 z hz
    simp only [sameEnt, decide_eq_false_iff_not, decide_eq_true_eq] at this hs ⊢
    intro h
    exact this ⟨h.1.trans hs.1, h.2.trans hs.2⟩
   have : restE (y :: l) x = restE l x := by unfold restE; simp [hy]
   rw [this, rest_none hno]
   simp [without]
  ·have hs' : sameEnt x y = false := by simpa using hs
   by_cases h0 : idxE x l < 0
   ·rw [if_neg hs, if_pos h0] at hx
    exact absurd (by decide) hx
   ·rw [if_neg hs, if_neg h0]
    have hy : sameEnt y x = false := by
     simp only [sameEnt, decide_eq_false_iff_not] at hs' ⊢
     intro h
     exact hs' ⟨h.1.symm, h.2.symm⟩
    have e1 : restE (y :: l) x = y :: restE l x := by unfold restE; simp [hy]
    have e2 : (idxE x l + 1).toNat = (idxE x l).toNat + 1 := by omega
    rw [e1, e2, ih hp.2 h0]
    simp [without]
theorem a_rdo (r : Rcd) (q : Rqs) (hr : smallR r) (hq : smallE q.ent) : ACalls Try.prog 18 [vR r, vQ q] [] (DoPostD r q) := by
 have m1 := p_rrmay r hr
 have m2 := p_rasks q hq
 simp only [vR, rC] at m1
 simp only [vQ, qC] at m2
 have no : ∀ (e : Int) (h' : Hp), doE r q = e → e ≠ 0 → DoPostD r q (.tup [.agg [.int .i64 0, .lst .clip 0 []], .int .i64 0, .int .i64 e]) h' := fun e h' h1 h2 => by
  unfold DoPostD; rw [h1, if_neg h2]
 have hlen := hr.1
 refine acalls_of mixed J_ref21_Do_ok (Nat.le_of_ble_eq_true rfl) ?_; simp only [J_ref21_Do, vR, rC, vQ, qC, wk,Nat.reduceEqDiff,Nat.reduceAdd,Nat.reduceLeDiff,↓reduceIte]
 refine PCalls.use (m1) ?_; simp only [wk,Nat.reduceEqDiff,Nat.reduceAdd,Nat.reduceLeDiff,↓reduceIte]
 refine ⟨fun e1 => ?_, fun e1 => ?_⟩
 ·refine PCalls.use (m2) ?_; simp only [wk,Nat.reduceEqDiff,Nat.reduceAdd,Nat.reduceLeDiff,↓reduceIte]
  refine ⟨fun e2 => ?_, fun e2 => ?_⟩
  ·simp only [valL, wk,Nat.reduceEqDiff,Nat.reduceAdd,Nat.reduceLeDiff,↓reduceIte]
   exact no 2 _ (by unfold doE; rw [if_neg (by simp [e2])]) (by decide)
  ·refine ⟨fun e3 => ?_, fun e3 => ?_⟩
   ·simp only [valL, wk,Nat.reduceEqDiff,Nat.reduceAdd,Nat.reduceLeDiff,↓reduceIte]
    exact no 10 _ (by unfold doE; rw [if_pos ⟨e1, e2⟩, if_neg (by omega)]) (by decide)
   ·have hob : 0 ≤ q.object := by
     unfold asksE at e2
     split at e2
     ·next h => exact h.1
     ·cases e2
    obtain ⟨k, hk⟩ : ∃ k : Nat, q.object = k := ⟨q.object.toNat, by omega⟩
    have hkl : k < r.objs.length := by omega
    have hkn : q.object.toNat = k := by omega
    have hget : r.objs[q.object.toNat]? = some r.objs[k] := by rw [hkn]; exact List.getElem?_eq_getElem hkl
    have hde : doE r q = (stepO r.objs[k] q).1 := by unfold doE; rw [if_pos ⟨e1, e2⟩, if_pos (by omega), hget]
    have hdr : (doR r q).objs = r.objs.set k (stepO r.objs[k] q).2 := by unfold doR; rw [hget, hkn]
    have hdv : doV r q = (stepO r.objs[k] q).2.value := by unfold doV; rw [hget]
    have hso := hr.2 _ (List.getElem_mem hkl)
    have hmo : mayO r.objs[k] = true := by
     simp only [mayR, Bool.and_eq_true, List.all_eq_true] at e1
     exact e1.2.2 _ (List.getElem_mem hkl)
    have hnums : numOk q.arg = true := by
     unfold asksE at e2
     split at e2
     ·next h => exact h.2.2
     ·cases e2
    simp only [mayO, Bool.and_eq_true, numOk, decide_eq_true_eq] at hmo
    simp only [numOk, decide_eq_true_eq] at hnums
    have hop0 : 0 ≤ q.op ∧ q.op ≤ 3 := by
     unfold asksE at e2
     split at e2
     ·split at e2
      ·omega
      ·split at e2
       ·omega
       ·split at e2
        ·omega
        ·cases e2
     ·cases e2
    have hds := objsC_split hkl
    have hA : (objsC (r.objs.take k)).length = k * 3 := by rw [objsC_len]; simp; omega
    have qc := fun h => a_rcopied (h := h) r hr
    simp only [vR, rC] at qc
    refine ACalls.use (qc _) ?_
    rintro a h2 ⟨v, ex, rfl, rfl, hv, hvi⟩
    rcases hv with ⟨l0, _⟩ | ⟨id, c, cells, rfl, p3, p4, p5, p6, p7⟩
    ·omega
    have hid4 := hvi id rfl
    have hgo : r.objs[k]? = some r.objs[k] := List.getElem?_eq_getElem hkl
    generalize r.objs[k] = o at hde hdr hdv hso hmo hds hgo
    generalize hH : _ ++ ex = H at p3
    have g1 : H[1]? = some (some (false, [.int .i64 q.object, .int .i64 q.op, .int .i64 q.arg, .int .i64 q.ent.op, .lst .ro q.ent.who.length (q.ent.who.map .str)])) := by rw [← hH]; rfl
    have g2 : H[2]? = some (some (false, [.int .i64 0, .lst (.own 71) 0 []])) := by rw [← hH]; rfl
    have g3 : H[3]? = some (some (true, [.int .i64 0, .lst .clip 0 []])) := by rw [← hH]; rfl
    clear hH
    have hin : ((0 ≤ (k : Int)) ∧ (k : Int) < (r.objs.length : Int)) = True := propext ⟨fun _ => trivial, fun _ => ⟨by omega, by omega⟩⟩
    have hidN := ltO p3
    have a1 : ∀ y : Option (Bool × List AV), (H ++ [y])[1]? = H[1]? := fun y => by rw [List.getElem?_append_left (ltO g1)]
    have a2 : ∀ y : Option (Bool × List AV), (H ++ [y])[2]? = H[2]? := fun y => by rw [List.getElem?_append_left (ltO g2)]
    have a3 : ∀ y : Option (Bool × List AV), (H ++ [y])[3]? = H[3]? := fun y => by rw [List.getElem?_append_left (ltO g3)]
    have ai : ∀ y : Option (Bool × List AV), (H ++ [y])[id]? = H[id]? := fun y => by rw [List.getElem?_append_left hidN]
    have hd0 : cells.drop (k * 3) = .int .i64 o.value :: .lst .ro o.ents.length (entsC o.ents) :: .int .i64 o.version :: cells.drop ((k + 1) * 3) := by
     have h1 := objsC_drop hkl
     have h2 : r.objs[k] = o := by
      rw [List.getElem?_eq_getElem hkl] at hgo
      injection hgo
     rw [h2, ← p6] at h1
     have h3 : ∀ (i : Nat) (x : AV) (l : List AV), (cells.take (r.objs.length * 3)).drop i = x :: l → cells.drop i = x :: cells.drop (i + 1) := fun i x l h => by
      have hlt : i < (cells.take (r.objs.length * 3)).length := by
       rcases Nat.lt_or_ge i (cells.take (r.objs.length * 3)).length with hh | hh
       ·exact hh
       ·rw [List.drop_eq_nil_of_le hh] at h; cases h
      rw [List.drop_eq_getElem_cons hlt] at h
      injection h with h _
      rw [List.getElem_take] at h
      rw [List.length_take] at hlt
      rw [List.drop_eq_getElem_cons (by omega), h]
     have h4 : ∀ {i : Nat} {x : AV} {l : List AV}, (cells.take (r.objs.length * 3)).drop i = x :: l → (cells.take (r.objs.length * 3)).drop (i + 1) = l := fun h => by rw [← List.drop_drop, h]; rfl
     rw [h3 _ _ _ h1, h3 _ _ _ (h4 h1), h3 _ _ _ (h4 (h4 h1)), show (k + 1) * 3 = k * 3 + 1 + 1 + 1 by omega]
    simp only [g1, a1, ai, p3, hk, hin, Int.toNat_natCast, hd0, wk,Nat.reduceEqDiff,Nat.reduceAdd,Nat.reduceLeDiff,↓reduceIte]
    have hS : DoS (H ++ [some (true, [AV.int .i64 r.boot, AV.hsc id r.objs.length c])] ++ [some (false, [AV.int .i64 o.value, AV.lst .ro o.ents.length (entsC o.ents), .int .i64 o.version])]) r q H.length id c cells o := by
     refine ⟨?_, ?_, ?_, ?_, ?_, ?_, hid4, hidN⟩
     ·rw [List.getElem?_append_left (by rw [List.length_append]; have := ltO g1; omega), a1]; exact g1
     ·rw [List.getElem?_append_left (by rw [List.length_append]; have := ltO g2; omega), a2]; exact g2
     ·rw [List.getElem?_append_left (by rw [List.length_append]; have := ltO g3; omega), a3]; exact g3
     ·rw [List.getElem?_append_left (by rw [List.length_append]; omega), ai]; exact p3
     ·rw [List.getElem?_append_left (by simp)]; exact List.getElem?_concat_length
     ·have := List.getElem?_concat_length (l := H ++ [some (true, [AV.int .i64 r.boot, AV.hsc id r.objs.length c])]) (a := some (false, [AV.int .i64 o.value, AV.lst .ro o.ents.length (entsC o.ents), .int .i64 o.version]))
      rwa [List.length_append] at this
    have e9 : (H ++ [some (true, [AV.int .i64 r.boot, AV.hsc id r.objs.length c])]).length = H.length + 1 := by simp
    rw [e9]
    generalize H ++ [some (true, [AV.int .i64 r.boot, AV.hsc id r.objs.length c])] ++ [some (false, [AV.int .i64 o.value, AV.lst .ro o.ents.length (entsC o.ents), .int .i64 o.version])] = G at hS
    generalize H.length = N at hS
    clear g1 g2 g3 a1 a2 a3 ai p3 e9 hidN
    have hS' := hS
    obtain ⟨g1, g2, g3, gi, gN, gx, h4, hN⟩ := hS'
    simp only [g1, g2, g3, gx, wk,Nat.reduceEqDiff,Nat.reduceAdd,Nat.reduceLeDiff,↓reduceIte]
    have hend : ∀ (G' : Hp) (o' : Obt), DoS G' r q N id c cells o' → doE r q = 0 → (stepO o q).2 = o' → W Try.prog J_ref21_Do_j1 [(3, .ptr 1 0), (4, .ptr 2 0), (8, .ptr N 0), (9, .ptr (N + 1) 0)] G' (kret [.c 4 (some 2), .t 5, .t 6] (DoPostD r q)) := fun G' o' hs he ho => rdo_end hs hkl hlen hk p4 p5 p6 p7 he (by rw [hdr, ho]) (by rw [hdv, ho])
    have set2 : ∀ x : Option (Bool × List AV), (G.set 2 x)[2]? = some x := fun x => List.getElem?_set_self (ltO g2)
    refine ⟨fun o1 => ⟨inR_of (by omega) (by omega), fun hb => ?_, fun hb => ⟨inR_of (by omega) (by omega), ?_⟩⟩, fun o1 => ?_⟩
    ·simp only [val, ev, lk, set2, wk,Nat.reduceEqDiff,Nat.reduceAdd,Nat.reduceLeDiff,↓reduceIte]
     exact no 5 _ (by rw [hde]; simp [stepO, o1, hb]) (by decide)
    ·have hs1 := hS.setx ⟨o.value + q.arg, o.ents, o.version⟩
     have k1 := hs1.g1
     have hop : ¬ (2 ≤ q.op) := by omega
     simp only [J_ref21_Do_j3, k1, hop, wk,Nat.reduceEqDiff,↓reduceIte]
     exact hend _ _ hs1 (by rw [hde]; simp [stepO, o1, hb]) (by simp [stepO, o1, hb])
    ·simp only [J_ref21_Do_j3, g1, g2, g3, gx, wk,Nat.reduceEqDiff,Nat.reduceAdd,Nat.reduceLeDiff,↓reduceIte]
     refine ⟨fun o2 => ?_, fun o2 => ?_⟩
     ·have hop : q.op = 2 ∨ q.op = 3 := by omega
      refine ⟨fun hv => ?_, fun hv => ?_⟩
      ·simp only [val, ev, lk, set2, wk,Nat.reduceEqDiff,Nat.reduceAdd,Nat.reduceLeDiff,↓reduceIte]
       have ht : ∀ e, turnE o e = 5 := fun e => by unfold turnE; rw [if_pos (by omega)]
       refine no 5 _ ?_ (by decide)
       rw [hde]
       rcases hop with h | h
       ·simp [stepO, h, ht]
       ·simp [stepO, h, ht]
      ·have ht : ∀ e, turnE o e = e := fun e => by unfold turnE; rw [if_neg (by omega)]
       have hol := hso.1
       refine ACalls.use (a_rnew o.ents (by omega) hso.2) ?_
       rintro a h2 hp
       unfold NewPostR at hp
       rw [if_pos hmo.2.2] at hp
       obtain ⟨f, rfl, rfl⟩ := hp
       have hS2 := hS.app (lObj f o.ents 0)
       have hGl := ltO gx
       have hS3 := hS2
       obtain ⟨k1, k2, k3, ki, kN, kx, _, _⟩ := hS3
       have hself : (G ++ [lObj f o.ents 0])[G.length]? = some (lObj f o.ents 0) := List.getElem?_concat_length
       have hj2 : ∀ (Y : Option (Bool × List AV)) (e : Int) (fr : Fr), restr [3, 4, 7, 8, 9, 10, 12] fr = [(3, .ptr 1 0), (4, .ptr 2 0), (7, .ptr 3 0), (8, .ptr N 0), (9, .ptr (N + 1) 0), (10, .ptr G.length 0), (12, .int .i64 e)] → doE r q = e → (e = 0 → ∃ (f' : Fl) (L : List Ent) (ver : Int), Y = some (false, [.lst f' L.length (entsC L), .int .i64 ver]) ∧ deg (.lst f' L.length (entsC L)) = .lst .ro L.length (entsC L) ∧ (stepO o q).2 = ⟨o.value, L, o.version + 1⟩) → W Try.prog J_ref21_Do_j2 fr (G ++ [Y]) (kseq Try.prog J_ref21_Do_j1 (kret [.c 4 (some 2), .t 5, .t 6] (DoPostD r q))) := by
        intro Y e fr hfr hee hY
        have hT := hS.app Y
        have hT' := hT
        obtain ⟨t1, t2, t3, ti, tN, tx, _, _⟩ := hT'
        have tset2 : ∀ x : Option (Bool × List AV), ((G ++ [Y]).set 2 x)[2]? = some x := fun x => List.getElem?_set_self (ltO t2)
        by_cases he0 : e = 0
        ·obtain ⟨f', L, ver, rfl, hdg, hst⟩ := hY he0
         have tself : (G ++ [some (false, [AV.lst f' L.length (entsC L), .int .i64 ver])])[G.length]? = some (some (false, [.lst f' L.length (entsC L), .int .i64 ver])) := List.getElem?_concat_length
         have tsx : ∀ x : Option (Bool × List AV), ((G ++ [some (false, [AV.lst f' L.length (entsC L), .int .i64 ver])]).set (N + 1) x)[N + 1]? = some x := fun x => List.getElem?_set_self (ltO tx)
         simp only [J_ref21_Do_j2, W_keep]
         rw [hfr]
         subst he0
         have hvr : inR (o.version + 1) := inR_of (by omega) (by omega)
         simp only [tx, tsx, hdg, wk,ne_eq,eq_self,Nat.reduceEqDiff,Nat.reduceAdd,Nat.reduceLeDiff,↓reduceIte]
         exact ⟨hvr, hend _ _ (hT.setx ⟨o.value, L, o.version + 1⟩) hee hst⟩
        ·simp only [J_ref21_Do_j2, W_keep]
         rw [hfr]
         simp only [t2, t3, he0, wk,ne_eq,eq_self,Nat.reduceEqDiff,Nat.reduceAdd,Nat.reduceLeDiff,↓reduceIte]
         simp only [val, ev, lk, tset2, wk,Nat.reduceEqDiff,Nat.reduceAdd,Nat.reduceLeDiff,↓reduceIte]
         exact no e _ hee he0
       simp only [k1, wk,Nat.reduceEqDiff,Nat.reduceAdd,Nat.reduceLeDiff,↓reduceIte]
       refine ⟨fun o3 => ?_, fun o3 => ?_⟩
       ·have qa := a_radd (h := G ++ [lObj f o.ents 0]) (id := G.length) q.ent hself hq (by omega) hso.2 ⟨by omega, by omega⟩
        simp only [vE, eC, snoc_set] at qa
        refine ACalls.use qa ?_
        rintro _ _ ⟨rfl, rfl⟩
        simp only [wk,↓reduceIte]
        refine hj2 _ _ _ rfl (by rw [hde]; simp [stepO, o3, ht]) (fun he => ⟨.own 58, o.ents ++ [q.ent], 0 + 1, by unfold addO; rw [if_pos he], rfl, by simp [stepO, o3]⟩)
       ·have o3' : q.op = 3 := by omega
        have qa := a_rrem (h := G ++ [lObj f o.ents 0]) (id := G.length) q.ent hself hq (by omega) hso.2 ⟨by omega, by omega⟩
        simp only [vE, eC, snoc_set] at qa
        refine ACalls.use qa ?_
        rintro _ _ ⟨rfl, rfl⟩
        simp only [wk,↓reduceIte]
        refine hj2 _ _ _ rfl (by rw [hde]; simp [stepO, o3', ht]) (fun he => ⟨.ro, restE o.ents q.ent, 0 + 1, by unfold remO; rw [if_pos he], rfl, by rw [rest_without hmo.2.2 he]; simp [stepO, o3']⟩)
     ·have hq0 : q.op = 0 := by omega
      exact hend _ _ hS (by rw [hde]; simp [stepO, hq0]) (by simp [stepO, hq0])
 ·simp only [valL, wk,Nat.reduceEqDiff,Nat.reduceAdd,Nat.reduceLeDiff,↓reduceIte]
  exact no 2 _ (by unfold doE; rw [if_neg (by simp [e1])]) (by decide)
theorem HasO.fz {h : Hp} {v : AV} {n sz : Nat} {l : List AV} (hs : HasO h v n sz l) (hl : l.length = n * sz) (hp : plains l) : free (fz h v) = true ∧ Shr (fz h v) (.lst .ro n l) := by
 rcases hs with ⟨rfl, rfl⟩ | ⟨id, c, cells, rfl, h3, h4, h5, h6, h7⟩
 ·have : l = [] := List.eq_nil_of_length_eq_zero (by omega)
  subst this
  exact ⟨rfl, .lst .clip 0 0 [] (by intro a ha; simp at ha)⟩
 ·simp only [Go.Proofs.Ytpiofcjkekpboaa.fz, h3, gds_deg h7]
  refine ⟨gds_frees h7, ?_⟩
  rw [← h6] at hp ⊢
  exact .lst .ro n (n * sz) cells hp
theorem plains2 {a b : AV} (ha : plain a = true) (hb : plain b = true) : plains [a, b] := by
 intro u hu
 simp only [List.mem_cons, List.not_mem_nil, or_false] at hu
 rcases hu with rfl | rfl
 ·exact ha
 ·exact hb
theorem p_rcopied (r : Rcd) (hr : smallR r) : PCalls Try.prog 16 [vR r] (vR r) := by
 refine pcalls_fzs (by simp [free.frees, free_vR]) (free_vR r) ((a_rcopied0 r hr).mono fun a h' ⟨v, ha, hv⟩ => ?_)
 subst ha
 obtain ⟨f1, s1⟩ := hv.fz (objsC_len _) (gds_plains (gds_objsC _))
 simp only [Go.Proofs.Ytpiofcjkekpboaa.fz, fzs]
 exact ⟨by simp [free, free.frees, f1], .agg _ _ (.cons (.same _) (.cons s1 .nil)) (plains2 rfl rfl)⟩
theorem p_rdo (r : Rcd) (q : Rqs) (hr : smallR r) (hq : smallE q.ent) : PCalls Try.prog 18 [vR r, vQ q] (if doE r q = 0 then .tup [vR (doR r q), .int .i64 (doV r q), .int .i64 0] else .tup [.agg [.int .i64 0, .lst .clip 0 []], .int .i64 0, .int .i64 (doE r q)]) := by
 refine pcalls_fzs (by simp [free.frees, free_vR, free_vQ]) (by split <;> simp [free, free.frees, free_vR]) ((a_rdo r q hr hq).mono fun a h' hp => ?_)
 unfold DoPostD at hp
 split at hp
 ·next he =>
  obtain ⟨v, rfl, hv⟩ := hp
  rw [if_pos he]
  rw [← doR_len r q] at hv
  obtain ⟨f1, s1⟩ := hv.fz (objsC_len _) (gds_plains (gds_objsC _))
  simp only [Go.Proofs.Ytpiofcjkekpboaa.fz, fzs]
  refine ⟨by simp [free, free.frees, f1], .tup _ _ (.cons (.agg _ _ ?_ (plains2 rfl rfl)) (.cons (.same _) (.cons (.same _) .nil))) ?_⟩
  ·unfold rC; rw [doR_boot]; exact .cons (.same _) (.cons s1 .nil)
  ·intro u hu
   simp only [List.mem_cons, List.not_mem_nil, or_false] at hu
   rcases hu with rfl | rfl | rfl <;> rfl
 ·next he =>
  subst hp
  rw [if_neg he]
  simp only [Go.Proofs.Ytpiofcjkekpboaa.fz, fzs]
  exact ⟨by simp [free, free.frees], .same _⟩
end Go.Proofs.Ytpiofcjkekpboaa
/- RecordLeaves, over the abstract code. -/
namespace Go.Proofs.Ytpiofcjkekpboaa
open Go.RowKit Go.Lib
mutual
def fgt : AV → AV
  | .lst _ _ _ => .opq
  | .fp _ => .opq
  | .fn _ _ => .opq
  | .fnb _ _ => .opq
  | .ptr _ _ => .opq
  | .hs _ _ => .opq
  | .hsc _ _ _ => .opq
  | .itr _ _ => .opq
  | .omp _ _ _ => .opq
  | .mp _ => .opq
  | .fmp _ _ => .opq
  | .stk _ _ _ => .opq
  | .frn _ => .opq
  | .agg l => .agg (fgts l)
  | .tup l => .tup (fgts l)
  | a => a
def fgts : List AV → List AV
  | [] => []
  | a :: l => fgt a :: fgts l
end
theorem plain_fgt (a : AV) : plain (fgt a) = true := by
 cases a <;> simp [fgt, plain]
theorem plains_fgt : ∀ l : List AV, plains (fgts l)
 | [] => by intro a ha; simp [fgts] at ha
 | a :: l => by
  intro b hb
  simp only [fgts, List.mem_cons] at hb
  rcases hb with rfl | hb
  ·exact plain_fgt a
  ·exact plains_fgt l b hb
mutual
theorem Rep.fgt {g g' : Gh} : ∀ {v : Value} {a : AV}, Rep g v a → Rep g' v (fgt a)
  | _, _, .bool b => by simp only [Go.Proofs.Ytpiofcjkekpboaa.fgt]; exact .bool b
  | _, _, .int k n => by simp only [Go.Proofs.Ytpiofcjkekpboaa.fgt]; exact .int k n
  | _, _, .str s => by simp only [Go.Proofs.Ytpiofcjkekpboaa.fgt]; exact .str s
  | _, _, .nilp => by simp only [Go.Proofs.Ytpiofcjkekpboaa.fgt]; exact .nilp
  | _, _, .ptr id off b h => by simp only [Go.Proofs.Ytpiofcjkekpboaa.fgt]; exact .opq _ rfl (fun h => by cases h)
  | _, _, .fp b off vs l h hp hl => by simp only [Go.Proofs.Ytpiofcjkekpboaa.fgt]; exact .opq _ rfl (fun h => by cases h)
  | _, _, .lst b off n c f vs l h hp h1 h2 hl => by simp only [Go.Proofs.Ytpiofcjkekpboaa.fgt]; exact .opq _ rfl (fun h => by cases h)
  | _, _, .lst0 a c f h => by simp only [Go.Proofs.Ytpiofcjkekpboaa.fgt]; exact .opq _ rfl (fun h => by cases h)
  | _, _, .hs id b n c h h1 => by simp only [Go.Proofs.Ytpiofcjkekpboaa.fgt]; exact .opq _ rfl (fun h => by cases h)
  | _, _, .hsc id b n c h h1 => by simp only [Go.Proofs.Ytpiofcjkekpboaa.fgt]; exact .opq _ rfl (fun h => by cases h)
  | _, _, .agg vs l h hp hl => by simp only [Go.Proofs.Ytpiofcjkekpboaa.fgt]; exact .agg vs _ h (plains_fgt l) (RepL.fgt hl)
  | _, _, .tup vs l hp hl => by simp only [Go.Proofs.Ytpiofcjkekpboaa.fgt]; exact .tup vs _ (plains_fgt l) (RepL.fgt hl)
  | _, _, .fn f vs l hp hl => by simp only [Go.Proofs.Ytpiofcjkekpboaa.fgt]; exact .opq _ rfl (fun h => by cases h)
  | _, _, .fnb f vs l hp hl => by simp only [Go.Proofs.Ytpiofcjkekpboaa.fgt]; exact .opq _ rfl (fun h => by cases h)
  | _, _, .nilf => by simp only [Go.Proofs.Ytpiofcjkekpboaa.fgt]; exact .nilf
  | _, _, .opq v h h' => by simp only [Go.Proofs.Ytpiofcjkekpboaa.fgt]; exact .opq v h h'
  | _, _, .itr b s p => by simp only [Go.Proofs.Ytpiofcjkekpboaa.fgt]; exact .opq _ rfl (fun h => by cases h)
  | _, _, .omp b ks vs => by simp only [Go.Proofs.Ytpiofcjkekpboaa.fgt]; exact .opq _ rfl (fun h => by cases h)
  | _, _, .mp b => by simp only [Go.Proofs.Ytpiofcjkekpboaa.fgt]; exact .opq _ rfl (fun h => by cases h)
  | _, _, .fmp b obj ks vs h1 h2 => by simp only [Go.Proofs.Ytpiofcjkekpboaa.fgt]; exact .opq _ rfl (fun h => by cases h)
  | _, _, .stk a c e o l h1 h2 h3 => by simp only [Go.Proofs.Ytpiofcjkekpboaa.fgt]; exact .opq _ rfl (fun h => by cases h)
  | _, _, .raw a m c h1 h2 => by simp only [Go.Proofs.Ytpiofcjkekpboaa.fgt]; exact .raw a m c h1 h2
  | _, _, .rawp b i m c => by simp only [Go.Proofs.Ytpiofcjkekpboaa.fgt]; exact .rawp b i m c
  | _, _, .frn v Q S W0 h1 h2 h3 h4 => by simp only [Go.Proofs.Ytpiofcjkekpboaa.fgt]; exact .opq _ h1 (fun e => by obtain ⟨b, o, h2⟩ := h2; rw [h2] at e; cases e)
theorem RepL.fgt {g g' : Gh} : ∀ {vs : List Value} {l : List AV}, RepL g vs l → RepL g' vs (fgts l)
  | _, _, .nil => by simp only [fgts]; exact .nil
  | _, _, .cons h hr => by simp only [fgts]; exact .cons (Rep.fgt h) (RepL.fgt hr)
end
open Classical in
section
variable {P : Program} {g : Gh} {h : Hp} {w : World}
end
end Go.Proofs.Ytpiofcjkekpboaa
