/- Texts of one proof, laid together: Ne Ng Nh Ni Nj Nk Nl Nm Nq Np No Nt. -/
import Derived.Test.YtedaffmkpljlnaaGreatMB27
import Derived.Test.YtedaffmkpljlnaaGreatMB19
import Derived.Test.YtedaffmkpljlnaaGreatMB24
import Derived.Test.YtedaffmkpljlnaaGreatMB21
import Derived.Test.YtedaffmkpljlnaaGreatMB22
import Derived.Test.YtedaffmkpljlnaaGreatMB25
import Derived.Deep.LoopGhost
import Derived.OpenShut
import Derived.ShutString
set_option maxRecDepth 100000
set_option maxHeartbeats 16000000

/- Norm: what an atom means; the signs' closure. -/
-- fast
namespace Go.Proofs.YtedaffmkpljlnaaGreat
set_option linter.unusedSimpArgs false
set_option linter.unusedVariables false
open Go.RowKit Go.Lib

theorem atomW_may {a : Nat} (h0 : 0 < a) (h1 : a < 65536) : wordMay (atomW a) = true := by
  have hs : (atomW a).size = 2 := rfl
  have h2 : atomAt (atomW a) 0 = a := by
    unfold atomAt
    rw [dif_pos (by rw [hs]; decide)]
    show (UInt8.ofNat (a / 256)).toNat * 256 + (UInt8.ofNat (a % 256)).toNat = a
    simp only [UInt8.toNat_ofNat']
    omega
  unfold wordMay
  rw [decide_eq_true_eq, hs]
  refine ⟨rfl, by decide, by decide, fun i hi => ?_⟩
  have : i = 0 := by omega
  subst this
  omega
theorem set_one {w : ByteArray} (h : wordMay w = true) : setMay [w] = true := setMay_mk (by simp) (by simp) (by simpa using h) rfl
theorem ofE_one {w : ByteArray} (h : wordMay w = true) : ofE [w] = ([w], 0) := by
  unfold ofE
  rw [if_neg (by simp [h])]
  rfl
theorem findA_lt {L : Nat → List ByteArray} (hm : Few L) {kd : Int} {s : ByteArray} (h : findB L kd s = true) : 0 < (findA L kd s).toNat ∧ (findA L kd s).toNat < 65536 ∧ findA L kd s = ((findA L kd s).toNat : Nat) := by
  unfold findA
  rw [if_pos h]
  unfold findB at h
  rw [decide_eq_true_eq] at h
  have h1 := posOf_le s (L kd.toNat)
  have h2 := hm kd.toNat
  omega
theorem p_wof1 (a : Nat) (ha : a < 65536) : PCalls Tryz.prog 59 [.lst .ro 1 [.int .u16 a]] (.str (atomW a)) := p_wof [a] (by simp) (by simpa using ha)
theorem p_sof1 {w : ByteArray} (h : wordMay w = true) : PCalls Tryz.prog 58 [.lst .ro 1 [.str w]] (.tup [.lst .ro 1 [.str w], .int .i64 0]) := by
  have hw := p_sof [w] (by simp) (by intro x hx; simp only [List.mem_singleton] at hx; subst hx; unfold wordMay at h; rw [decide_eq_true_eq] at h; omega)
  rw [ofE_one h] at hw
  exact hw
theorem p_alone (L : Nat → List ByteArray) (t : Trm) (hm : Few L) (hn : t.name.size ≤ 1000000) : PCalls Tryz.prog 30 [.frn (TabQ L), .agg (trC t)] (vSet (atomE L t)) := by
  have q := p_tfind L t.of t.name (by unfold maxLen; omega)
  simp only [trC]
  refine pcalls_of (by simp [free, free.frees]) (free_vSet _) (ACalls.weak (acalls_of mixed J_norm_alone_ok (Nat.le_of_ble_eq_true rfl) ?_)); simp only [J_norm_alone, wk,ne_eq,eq_self,Nat.reduceEqDiff,Nat.reduceAdd,reduceCtorEq,↓reduceIte]
  by_cases h0 : t.of = 0
  · have hE : atomE L t = ([atomW 1], 0) := by unfold atomE; rw [if_pos h0]
    rw [hE]
    simp only [wk,forall_const,eq_self,Nat.reduceEqDiff,Nat.reduceLeDiff,reduceCtorEq,↓reduceIte, eqTrue h0, J_norm_alone_j1]
    have q1 : PCalls Tryz.prog 59 [.lst .ro 1 [.int .u16 1]] (.str (atomW 1)) := p_wof1 1 (by decide)
    refine PCalls.use (q1) ?_; simp only [wk,eq_self,Nat.reduceLeDiff,↓reduceIte]
    refine PCalls.use (p_sof1 (atomW_may (by decide) (by decide))) ?_; simp only [wk,eq_self,Nat.reduceEqDiff,↓reduceIte]
    rfl
  · simp only [wk,forall_const,eq_self,Nat.reduceEqDiff,Nat.reduceLeDiff,reduceCtorEq,↓reduceIte, eqFalse h0, J_norm_alone_j1]
    refine ⟨_, q, ?_⟩
    cases hb : findB L t.of t.name with
    | false =>
      have hE : atomE L t = ([], 10) := by unfold atomE; rw [if_neg h0, if_neg (by rw [hb]; simp)]
      rw [hE]
      simp only [wk,forall_const,eq_self]
      rfl
    | true =>
      obtain ⟨f0, f1, f2⟩ := findA_lt hm hb
      have hE : atomE L t = ([atomW (findA L t.of t.name).toNat], 0) := by unfold atomE; rw [if_neg h0, if_pos hb]
      rw [hE]
      generalize (findA L t.of t.name).toNat = a at f0 f1 f2
      simp only [wk,forall_const,eq_self,f2]
      refine PCalls.use (p_wof1 a f1) ?_; simp only [wk,eq_self,Nat.reduceLeDiff,↓reduceIte]
      refine PCalls.use (p_sof1 (atomW_may f0 f1)) ?_; simp only [wk,eq_self,Nat.reduceEqDiff,↓reduceIte]
      rfl
theorem may_small {s : List ByteArray} (h : setMay s = true) : 1 ≤ s.length ∧ s.length ≤ 16 ∧ ∀ x ∈ s, wordMay x = true ∧ 2 ≤ x.size ∧ x.size ≤ 17 := by
  obtain ⟨h1, h2⟩ := setMay_words h
  refine ⟨h1.1, h1.2, fun x hx => ⟨h2 x hx, ?_⟩⟩
  have := h2 x hx
  unfold wordMay at this
  rw [decide_eq_true_eq] at this
  omega
theorem p_as (a : List ByteArray) (b : List ByteArray) (ha : setMay a = true) (hb : setMay b = true) : PCalls Tryz.prog 55 [.lst .ro a.length (a.map .str), .lst .ro b.length (b.map .str)] (vSet (asE a (atomAt (b.headD ⟨#[]⟩) 0))) := by
  obtain ⟨b1, b2, b3⟩ := may_small hb
  obtain ⟨a1, a2, a3⟩ := may_small ha
  cases b with
  | nil => simp at b1
  | cons y r =>
    have hy := b3 y (by simp)
    have q1 : PCalls Tryz.prog 57 [.str y, .int .i64 0] (.int .u16 (atomAt y 0)) := p_wat y 0 (by omega) (by omega)
    have q2 := p_sas a (atomAt y 0) (atomAt_lt _ _) (by omega) (fun x hx => by have := (a3 x hx).2.2; omega)
    simp only [List.map_cons, List.headD_cons]
    refine pcalls_of (by simp [free, free.frees, frees_str]) (free_vSet _) (ACalls.weak (acalls_of mixed J_norm_operators_1_ok (Nat.le_of_ble_eq_true rfl) ?_)); simp only [J_norm_operators_1, wk,eq_self,Nat.reduceEqDiff,Nat.reduceAdd,Int.reduceLE,reduceCtorEq,↓reduceIte]
    refine ⟨by omega, ?_⟩
    refine PCalls.use (q1) ?_; simp only [wk,eq_self,Nat.reduceEqDiff,↓reduceIte]
    simp only [vSet] at q2
    refine PCalls.use (q2) ?_; simp only [wk,eq_self,Nat.reduceEqDiff,↓reduceIte]
    simp only [vSet, rod_tup, ro_ro, ro_int, wk,eq_self]
def opsC : List AV := [.int .i64 2, .fn 52 [], .int .i64 3, .fn 53 [], .int .i64 4, .fn 54 [], .int .i64 5, .fn 55 []]
theorem p_operators : PCalls Tryz.prog 29 [] (.lst .ro 4 opsC) := by
  refine pcalls_of rfl rfl (ACalls.weak (acalls_of mixed J_norm_operators_ok (Nat.le_of_ble_eq_true rfl) ?_)); simp only [J_norm_operators, wk,eq_self,Nat.reduceEqDiff,Nat.reduceAdd,Nat.reduceLeDiff,↓reduceIte]
  rfl
end Go.Proofs.YtedaffmkpljlnaaGreat

/- Norm: what an expression means: plain laws of the run, step by step. -/
namespace Go.Proofs.YtedaffmkpljlnaaGreat
set_option linter.unusedSimpArgs false
set_option linter.unusedVariables false
open Go.RowKit Go.Lib

theorem atomE_may {L : Nat → List ByteArray} (hm : Few L) {t : Trm} (h : (atomE L t).2 = 0) : setMay (atomE L t).1 = true := by
  unfold atomE at h ⊢
  by_cases h0 : t.of = 0
  · rw [if_pos h0]; exact set_one (atomW_may (by decide) (by decide))
  · rw [if_neg h0] at h ⊢
    by_cases hb : findB L t.of t.name = true
    · obtain ⟨f0, f1, _⟩ := findA_lt hm hb
      rw [if_pos hb]
      exact set_one (atomW_may f0 f1)
    · rw [if_neg hb] at h; simp at h
theorem quoteE_may {a b : List ByteArray} (h : (quoteE a b).2 = 0) : setMay (quoteE a b).1 = true := by
  obtain ⟨_, _, _, h4, h5⟩ := quote_ok h
  rw [h4]; exact h5
theorem opE_may {k : Int} {a b : List ByteArray} (ha : setMay a = true) (hb : setMay b = true) (h : (opE k a b).2 = 0) : setMay (opE k a b).1 = true := by
  unfold opE at h ⊢
  by_cases h2 : k = 2
  · rw [if_pos h2] at h ⊢
    obtain ⟨h4, h5⟩ := and_ok ha hb h
    rw [h4]; exact h5
  · rw [if_neg h2] at h ⊢
    by_cases h3 : k = 3
    · rw [if_pos h3] at h ⊢
      exact (for_ok h).2.2.2.2
    · rw [if_neg h3] at h ⊢
      by_cases h4 : k = 4
      · rw [if_pos h4] at h ⊢
        exact quoteE_may h
      · rw [if_neg h4] at h ⊢
        unfold asE at h ⊢
        rw [if_neg (by simp [ha])] at h ⊢
        split at h
        · next h5 => rw [if_pos h5]; exact quoteE_may h
        · simp at h
structure At (L : Nat → List ByteArray) (x : List Trm) (i : Nat) (st : List (List ByteArray)) : Prop where
  le : i ≤ x.length
  ex : ∃ sx, runX wrT (x.take i) [] = some sx ∧ sx.length = st.length
  may : ∀ s ∈ st, setMay s = true
  same : runN L x 0 [] = runN L (x.drop i) i st
theorem runX_app {wr : Trm → Bool} : ∀ (a b : List Trm) (st : List Xp), runX wr (a ++ b) st = match runX wr a st with
    | none => none
    | some s => runX wr b s
  | [], b, st => rfl
  | t :: a, b, st => by
    simp only [List.cons_append, runX]
    cases stepX wr t st with
    | none => rfl
    | some s => exact runX_app a b s
theorem At.zero (L : Nat → List ByteArray) (x : List Trm) : At L x 0 [] := ⟨Nat.zero_le _, ⟨[], rfl, rfl⟩, by simp, rfl⟩
theorem At.next {L : Nat → List ByteArray} {x : List Trm} {i : Nat} {st : List (List ByteArray)} {e : Xp} (ht : treeT x = some e) (h : At L x i st) (hi : i < x.length) :
    ∃ sx sx', runX wrT (x.take i) [] = some sx ∧ sx.length = st.length ∧ stepX wrT x[i] sx = some sx' ∧ runX wrT (x.take (i + 1)) [] = some sx' := by
  obtain ⟨sx, h1, h2⟩ := h.ex
  have hr : runX wrT x [] = some [e] := by
    unfold treeT at ht
    split at ht
    · unfold treeX at ht
      split at ht
      · next e' hr => injection ht with ht; subst ht; exact hr
      · cases ht
    · cases ht
  have h3 : x = x.take i ++ x[i] :: x.drop (i + 1) := by rw [← List.drop_eq_getElem_cons hi, List.take_append_drop]
  rw [h3, runX_app, h1] at hr
  simp only [runX] at hr
  cases hs : stepX wrT x[i] sx with
  | none => rw [hs] at hr; cases hr
  | some sx' =>
    refine ⟨sx, sx', h1, h2, hs, ?_⟩
    rw [List.take_succ_eq_append_getElem hi, runX_app, h1]
    simp only [runX, hs]
theorem At.atom {L : Nat → List ByteArray} {x : List Trm} {i : Nat} {st : List (List ByteArray)} {e : Xp} (hm : Few L) (ht : treeT x = some e) (h : At L x i st) (hi : i < x.length) (h1 : x[i].op = 1) :
    (((atomE L x[i]).2 = 0 → At L x (i + 1) ((atomE L x[i]).1 :: st)) ∧ ((atomE L x[i]).2 ≠ 0 → runN L x 0 [] = ([], i, (atomE L x[i]).2))) := by
  obtain ⟨sx, sx', a1, a2, a3, a4⟩ := h.next ht hi
  have hd : x.drop i = x[i] :: x.drop (i + 1) := List.drop_eq_getElem_cons hi
  have hs : stepN L x[i] st = atomE L x[i] := by unfold stepN; rw [if_pos h1]
  have hl : leftN x[i] st = st := by unfold leftN; rw [if_pos h1]
  refine ⟨fun h0 => ⟨hi, ⟨sx', a4, ?_⟩, ?_, ?_⟩, fun h0 => ?_⟩
  · unfold stepX at a3
    rw [if_pos h1] at a3
    split at a3
    · injection a3 with a3; subst a3; simp [a2]
    · cases a3
  · intro s hs'
    rcases List.mem_cons.1 hs' with rfl | hs'
    · exact atomE_may hm h0
    · exact h.may s hs'
  · rw [h.same, hd, runN, hs, if_pos h0, hl]
  · rw [h.same, hd, runN, hs, if_neg h0]
theorem At.sign {L : Nat → List ByteArray} {x : List Trm} {i : Nat} {st : List (List ByteArray)} {e : Xp} (ht : treeT x = some e) (h : At L x i st) (hi : i < x.length) (h1 : x[i].op ≠ 1) :
    (x[i].op = 2 ∨ x[i].op = 3 ∨ x[i].op = 4 ∨ x[i].op = 5) ∧ ∃ b a r, st = b :: a :: r ∧ setMay a = true ∧ setMay b = true ∧
    ((opE x[i].op a b).2 = 0 → At L x (i + 1) ((opE x[i].op a b).1 :: r)) ∧ ((opE x[i].op a b).2 ≠ 0 → runN L x 0 [] = ([], i, (opE x[i].op a b).2)) := by
  obtain ⟨sx, sx', a1, a2, a3, a4⟩ := h.next ht hi
  have hd : x.drop i = x[i] :: x.drop (i + 1) := List.drop_eq_getElem_cons hi
  unfold stepX at a3
  rw [if_neg h1] at a3
  split at a3
  · next hk =>
    refine ⟨bind_pos hk.1, ?_⟩
    cases sx with
    | nil => cases a3
    | cons xb sx =>
      cases sx with
      | nil => cases a3
      | cons xa rx =>
        match st, a2 with
        | b :: a :: r, a2 =>
        have ma := h.may a (by simp)
        have mb := h.may b (by simp)
        have hs : stepN L x[i] (b :: a :: r) = opE x[i].op a b := by unfold stepN; rw [if_neg h1]
        have hl : leftN x[i] (b :: a :: r) = r := by unfold leftN; rw [if_neg h1]; rfl
        refine ⟨b, a, r, rfl, ma, mb, fun h0 => ⟨hi, ⟨sx', a4, ?_⟩, ?_, ?_⟩, fun h0 => ?_⟩
        · simp only at a3
          split at a3
          · cases a3
          · injection a3 with a3; subst a3
            simp only [List.length_cons] at a2 ⊢
            omega
        · intro s hs'
          rcases List.mem_cons.1 hs' with rfl | hs'
          · exact opE_may ma mb h0
          · exact h.may s (by simp [hs'])
        · rw [h.same, hd, runN, hs, if_pos h0, hl]
        · rw [h.same, hd, runN, hs, if_neg h0]
  · cases a3
theorem post_pos' : ∀ e : Xp, 1 ≤ e.post.length
  | .atm _ => by simp [Xp.post]
  | .op _ _ _ => by simp [Xp.post]; omega
theorem stp_len : ∀ sx : List Xp, sx.length ≤ (stp sx).length
  | [] => by simp
  | e :: sx => by
    have := stp_len sx
    have := post_pos' e
    rw [stp_cons, List.length_append, List.length_cons]; omega
theorem tree_len {x : List Trm} {e : Xp} (ht : treeT x = some e) : x.length ≤ 200 := by
  unfold treeT at ht
  split at ht
  · assumption
  · cases ht
theorem At.few {L : Nat → List ByteArray} {x : List Trm} {i : Nat} {st : List (List ByteArray)} (h : At L x i st) : st.length ≤ i := by
  obtain ⟨sx, h1, h2⟩ := h.ex
  have h3 := (runX_ok _ _ _ h1 (by simp)).2
  have h4 := stp_len sx
  rw [h3] at h4
  have h5 := h.le
  simp [stp] at h4
  omega
theorem At.done {L : Nat → List ByteArray} {x : List Trm} {i : Nat} {st : List (List ByteArray)} {e : Xp} (ht : treeT x = some e) (h : At L x i st) (hi : ¬ i < x.length) : ∃ s, st = [s] ∧ setMay s = true ∧ runN L x 0 [] = (s, 0, 0) := by
  obtain ⟨sx, h1, h2⟩ := h.ex
  have hi' : i = x.length := by have := h.le; omega
  subst hi'
  have hr : runX wrT x [] = some [e] := by
    unfold treeT at ht
    split at ht
    · unfold treeX at ht
      split at ht
      · next e' hr => injection ht with ht; subst ht; exact hr
      · cases ht
    · cases ht
  rw [List.take_length, hr] at h1
  injection h1 with h1
  subst h1
  match st, h2 with
  | [s], _ =>
    refine ⟨s, rfl, h.may s (by simp), ?_⟩
    rw [h.same, List.drop_length]
    rfl
end Go.Proofs.YtedaffmkpljlnaaGreat

/- Norm: what an expression means: the program's Run. -/
-- fast
namespace Go.Proofs.YtedaffmkpljlnaaGreat
set_option linter.unusedSimpArgs false
set_option linter.unusedVariables false
open Go.RowKit Go.Lib

def vLs1 (l : List ByteArray) : AV := .lst .ro l.length (l.map .str)
def vRun (r : List ByteArray × Nat × Int) : AV := .tup [vLs1 r.1, .int .i64 r.2.1, .int .i64 r.2.2]
theorem free_vRun (r : List ByteArray × Nat × Int) : free (vRun r) = true := by simp [vRun, vLs1, free, free.frees, frees_str]
def HasS (h : Hp) (v : AV) (st : List (List ByteArray)) : Prop := (st = [] ∧ v = .lst .clip 0 []) ∨ ∃ id n c cells, v = .hsc id n c ∧ h[id]? = some (some (false, cells)) ∧ cells.length = c ∧ n = st.length ∧ n ≤ c ∧ cells.take n = st.reverse.map vLs1
theorem HasS.app {h : Hp} {v : AV} {st : List (List ByteArray)} (hs : HasS h v st) (o : Option (Bool × List AV)) : HasS (h ++ [o]) v st := by
  rcases hs with h1 | ⟨id, n, c, cells, h1, h2, h3⟩
  · exact .inl h1
  · refine .inr ⟨id, n, c, cells, h1, ?_, h3⟩
    rw [List.getElem?_append_left (by rcases Nat.lt_or_ge id h.length with hh | hh; exact hh; rw [List.getElem?_eq_none hh] at h2; cases h2)]
    exact h2
theorem zrow1_len (z : AV) (k : Nat) : (zrow [z] 1 k).length = k := by simp [zrow]
theorem HasS.first (H : Hp) (s : List ByteArray) (z : AV) (k : Nat) : HasS (H ++ [some (false, [vLs1 s] ++ zrow [z] 1 k)]) (.hsc H.length 1 (1 + k)) [s] :=
  .inr ⟨H.length, 1, 1 + k, [vLs1 s] ++ zrow [z] 1 k, rfl, List.getElem?_concat_length, by simp [zrow1_len]; omega, rfl, by omega, by simp⟩
theorem HasS.put {H : Hp} {id n c : Nat} {cells : List AV} {st : List (List ByteArray)} (h1 : H[id]? = some (some (false, cells))) (h2 : cells.length = c) (h3 : n = st.length) (h4 : n + 1 ≤ c) (h5 : cells.take n = st.reverse.map vLs1) (s : List ByteArray) :
    HasS (H.set id (some (false, splice cells n [vLs1 s]))) (.hsc id (n + 1) c) (s :: st) := by
  have hlt : id < H.length := by
    rcases Nat.lt_or_ge id H.length with hh | hh
    · exact hh
    · rw [List.getElem?_eq_none hh] at h1; cases h1
  have hsp : splice cells n [vLs1 s] = cells.set n (vLs1 s) := by simp [splice]
  refine .inr ⟨id, n + 1, c, _, rfl, List.getElem?_set_self hlt, ?_, by simp [h3], h4, ?_⟩
  · rw [hsp, List.length_set, h2]
  · rw [hsp, List.take_succ_eq_append_getElem (by rw [List.length_set]; omega), List.getElem_set_self, List.take_set_of_le (Nat.le_refl _), h5]
    simp
theorem HasS.grow {H : Hp} {n : Nat} {cells : List AV} {st : List (List ByteArray)} (h3 : n = st.length) (h4 : n ≤ cells.length) (h5 : cells.take n = st.reverse.map vLs1) (s : List ByteArray) (z : AV) (k : Nat) :
    HasS (H ++ [some (false, (cells.take n).map deg ++ [vLs1 s] ++ zrow [z] 1 k)]) (.hsc H.length (n + 1) (n + 1 + k)) (s :: st) := by
  have hd : (cells.take n).map deg = st.reverse.map vLs1 := by rw [h5, List.map_map]; rfl
  refine .inr ⟨H.length, n + 1, n + 1 + k, (cells.take n).map deg ++ [vLs1 s] ++ zrow [z] 1 k, rfl, List.getElem?_concat_length, ?_, by simp [h3], by omega, ?_⟩
  · rw [hd]; simp [zrow1_len]; omega
  · rw [hd, List.take_append_of_le_length (by simp; omega), List.take_of_length_le (by simp; omega)]
    simp
theorem ops_at {a b : List ByteArray} (ma : setMay a = true) (mb : setMay b = true) (K : Int) (j : Nat) (hj : j < 4) :
    ∃ F rest, opsC.drop ((j : Int).toNat * 2) = .int .i64 ((j : Int) + 2) :: .fn F [] :: rest ∧ (K = (j : Int) + 2 → PCalls Tryz.prog F [vLs1 a, vLs1 b] (.tup [vLs1 (opE K a b).1, .int .i64 (opE K a b).2])) := by
  obtain ⟨a1, a2, a3⟩ := may_small ma
  obtain ⟨b1, b2, b3⟩ := may_small mb
  have sa : ∀ x ∈ a, x.size ≤ 1000000 := fun x hx => by have := (a3 x hx).2.2; omega
  have sb : ∀ x ∈ b, x.size ≤ 1000000 := fun x hx => by have := (b3 x hx).2.2; omega
  rcases (show j = 0 ∨ j = 1 ∨ j = 2 ∨ j = 3 by omega) with e | e | e | e
  · subst e
    exact ⟨_, _, rfl, fun hK => by rw [show opE K a b = andE a b by unfold opE; rw [if_pos (by omega)]]; exact p_sand a b (by omega) (by omega) sa sb⟩
  · subst e
    exact ⟨_, _, rfl, fun hK => by rw [show opE K a b = forE a b by unfold opE; rw [if_neg (by omega), if_pos (by omega)]]; exact p_sfor a b (by omega) (by omega) sa sb⟩
  · subst e
    exact ⟨_, _, rfl, fun hK => by rw [show opE K a b = quoteE a b by unfold opE; rw [if_neg (by omega), if_neg (by omega), if_pos (by omega)]]; exact p_squote a b (by omega) (by omega) sa sb⟩
  · subst e
    exact ⟨_, _, rfl, fun hK => by rw [show opE K a b = asE a (atomAt (b.headD ⟨#[]⟩) 0) by unfold opE; rw [if_neg (by omega), if_neg (by omega), if_neg (by omega)]]; exact p_as a b ma mb⟩
theorem cells_two {cells : List AV} {n : Nat} {a b : List ByteArray} {r0 : List (List ByteArray)} (h3 : n = (b :: a :: r0).length) (h5 : cells.take n = (b :: a :: r0).reverse.map vLs1) : cells.drop ((n : Int) - 2).toNat = vLs1 a :: vLs1 b :: cells.drop n ∧ cells.drop ((n : Int) - 2 + 1).toNat = vLs1 b :: cells.drop n := by
  have e1 : ((n : Int) - 2).toNat = r0.length := by rw [h3]; simp; omega
  have e2 : ((n : Int) - 2 + 1).toNat = r0.length + 1 := by rw [h3]; simp; omega
  have e0 : cells = r0.reverse.map vLs1 ++ (vLs1 a :: vLs1 b :: cells.drop n) := by
    have := List.take_append_drop n cells
    rw [h5] at this
    simpa using this.symm
  have d : cells.drop r0.length = vLs1 a :: vLs1 b :: cells.drop n := by
    have := congrArg (List.drop r0.length) e0
    rw [this]
    rw [List.drop_left' (by simp)]
  refine ⟨by rw [e1]; exact d, ?_⟩
  rw [e2, ← List.drop_drop, d]
  rfl
theorem p_run (L : Nat → List ByteArray) (x : List Trm) (hm : Few L) (hl : x.length ≤ 9223372036854775807) (hn : ∀ t ∈ x, t.name.size ≤ 1000000) : PCalls Tryz.prog 12 [.frn (TabQ L), vTrs x] (vRun (runE L x)) := by
  have q := p_may x hl hn
  simp only [vTrs] at q
  refine pcalls_of (by simp [vTrs, free, free.frees, frees_trs]) (free_vRun _) (ACalls.weak (acalls_of mixed J_norm_Run_ok (Nat.le_of_ble_eq_true rfl) ?_)); simp only [J_norm_Run, vTrs, wk,eq_self,Nat.reduceEqDiff,Nat.reduceAdd,reduceCtorEq,↓reduceIte]
  refine PCalls.use (q) ?_; simp only [wk,eq_self,Nat.reduceEqDiff,reduceCtorEq,↓reduceIte]
  cases ht : treeT x with
  | none =>
    have hE : runE L x = ([], 0, 2) := by unfold runE; rw [ht]; rfl
    rw [hE]
    simp only [wk,forall_const,eq_self,Option.isSome_none]
    rfl
  | some e =>
    have hE : runE L x = runN L x 0 [] := by unfold runE; rw [ht]; rfl
    rw [hE]
    simp only [wk,forall_const,eq_self,Option.isSome_some]
    refine PCalls.use (p_operators) ?_; simp only [wk,eq_self,Nat.reduceEqDiff,reduceCtorEq,↓reduceIte]
    simp only [opsC]
    refine W_loop (fun n fr h' => ∃ (i : Nat) (v : AV) (st : List (List ByteArray)), n = x.length - i ∧ At L x i st ∧ HasS h' v st ∧ fr = [(0, .frn (TabQ L)), (7, .lst .ro 4 opsC), (8, v), (24, .lst .ro x.length (trsC x)), (25, .int .i64 x.length), (26, .int .i64 i)]) x.length ⟨0, _, [], by omega, .zero L x, .inl ⟨rfl, rfl⟩, rfl⟩ ?_
    rintro n fr h' ⟨i, v, st, rfl, hA, hS, rfl⟩
    simp only [J_norm_Run_j7, wk,eq_self,Nat.reduceEqDiff,Nat.reduceAdd,Nat.reduceLeDiff,reduceCtorEq,↓reduceIte]
    refine ⟨fun hlt => ?_, fun hge => ?_⟩
    · have hil : i < x.length := by omega
      have hd : (trsC x).drop ((i : Int).toNat * 3) = _ := trsC_drop hil
      have hnm := hn _ (List.getElem_mem hil)
      refine ⟨⟨by omega, by omega⟩, ?_⟩
      simp only [wk,eq_self,Nat.reduceEqDiff,Nat.reduceAdd,Nat.reduceLeDiff,reduceCtorEq,↓reduceIte, hd]
      obtain ⟨bx, hbx⟩ : ∃ bx : Option (Bool × List AV), bx = some (true, [.int .i64 x[i].op, .int .i64 x[i].of, .str x[i].name]) := ⟨_, rfl⟩
      rw [← hbx]
      have hgb : (h' ++ [bx])[h'.length]? = some bx := by simp
      by_cases k1 : x[i].op = 1
      · have qa := p_alone L x[i] hm hnm
        simp only [trC, vSet] at qa
        obtain ⟨n1, n2⟩ := hA.atom hm ht hil k1
        have hS1 := hS.app bx
        obtain ⟨r, hr⟩ : ∃ r, r = atomE L x[i] := ⟨_, rfl⟩
        rw [← hr] at qa n1 n2
        simp only [wk,forall_const,hbx, eqTrue k1]
        rw [← hbx]
        refine PCalls.use (qa) ?_; simp only [wk,eq_self,Nat.reduceEqDiff,↓reduceIte]
        have hfew := hA.few
        have hx200 := tree_len ht
        have nxt : ∀ (H : Hp) (v' : AV) (st' : List (List ByteArray)), At L x (i + 1) st' → HasS H v' st' → inR ((i : Int) + 1) ∧ ∃ m, m < x.length - i ∧ ∃ (i' : Nat) (v2 : AV) (st2 : List (List ByteArray)), m = x.length - i' ∧ At L x i' st2 ∧ HasS H v2 st2 ∧ [(0, AV.frn (TabQ L)), (7, .lst .ro 4 opsC), (8, v'), (24, .lst .ro x.length (trsC x)), (25, .int .i64 x.length), (26, .int .i64 ((i : Int) + 1))] = [(0, .frn (TabQ L)), (7, .lst .ro 4 opsC), (8, v2), (24, .lst .ro x.length (trsC x)), (25, .int .i64 x.length), (26, .int .i64 i')] := fun H v' st' a1 a2 =>
          ⟨inR_of (by omega) (by omega), x.length - (i + 1), by omega, i + 1, v', st', rfl, a1, a2, rfl⟩
        have hvl : (.lst .ro r.1.length (r.1.map .str) : AV) = vLs1 r.1 := rfl
        rcases hS1 with ⟨rfl, rfl⟩ | ⟨id, n, c, cells, rfl, g1, g2, g3, g4, g5⟩
        · simp only [wk,ne_eq,eq_self,Nat.reduceEqDiff,Nat.reduceMul,Nat.reduceLeDiff,Nat.reduceLT,reduceCtorEq,↓reduceIte, J_norm_Run_j3, J_norm_Run_j2]
          exact ⟨fun h0 => by rw [n2 h0]; rfl, fun h0 k => nxt _ _ _ (n1 h0) (HasS.first _ _ _ _)⟩
        · simp only [wk,ne_eq,eq_self,Nat.reduceEqDiff,Nat.reduceLeDiff,Nat.reduceLT,reduceCtorEq,↓reduceIte, J_norm_Run_j3, J_norm_Run_j2, g1]
          exact ⟨fun h0 => by rw [n2 h0]; rfl, fun h0 => ⟨⟨g2, g4, by omega, by omega⟩, fun hc => nxt _ _ _ (n1 h0) (HasS.put g1 g2 g3 hc g5 _), fun hc k => nxt _ _ _ (n1 h0) (HasS.grow g3 (by omega) g5 _ _ _)⟩⟩
      · obtain ⟨hk, b, a, r0, rfl, ma, mb, n1, n2⟩ := hA.sign ht hil k1
        obtain ⟨r, hr⟩ : ∃ r, r = opE x[i].op a b := ⟨_, rfl⟩
        rw [← hr] at n1 n2
        rcases hS with ⟨h1, _⟩ | ⟨id, n, c, cells, rfl, g1, g2, g3, g4, g5⟩
        · cases h1
        have hidl : id < h'.length := by
          rcases Nat.lt_or_ge id h'.length with hh | hh
          · exact hh
          · rw [List.getElem?_eq_none hh] at g1; cases g1
        simp only [wk,forall_const,hbx, eqFalse k1]
        rw [← hbx]
        have hn2 : 2 ≤ n := by rw [g3]; simp
        have hfew := hA.few
        have hx200 := tree_len ht
        rw [← g3] at hfew
        have hge : (h' ++ [bx])[id]? = some (some (false, cells)) := by rw [List.getElem?_append_left hidl]; exact g1
        obtain ⟨K, hK⟩ : ∃ K, K = x[i].op := ⟨_, rfl⟩
        rw [← hK] at hk hr hbx k1
        have hbl : h'.length < (h' ++ [bx]).length := by simp
        have hgl : (h' ++ [bx])[h'.length]? = some bx := hgb
        have hidl' : id < (h' ++ [bx]).length := by simp; omega
        refine ⟨inR_of (by omega) (by omega), ?_⟩
        refine W_loop (fun m fr H => ∃ (j : Nat) (v11 v12 : AV), j ≤ 4 ∧ m = 4 - j ∧ H[id]? = some (some (false, cells)) ∧ H[h'.length]? = some bx ∧ (K < (j : Int) + 2 → v11 = vLs1 r.1 ∧ v12 = .int .i64 r.2) ∧ (¬ K < (j : Int) + 2 → v11 = .lst .clip 0 [] ∧ v12 = .int .i64 0) ∧
          fr = [(0, .frn (TabQ L)), (7, .lst .ro 4 opsC), (8, .hsc id n c), (9, .int .i64 i), (10, .ptr h'.length 0), (11, v11), (12, v12), (13, .int .i64 ((n : Int) - 2)), (24, .lst .ro x.length (trsC x)), (25, .int .i64 x.length), (26, .int .i64 i), (43, .lst .ro 4 opsC), (44, .int .i64 (4 : Nat)), (45, .int .i64 j)]) 4 ⟨0, _, _, by omega, rfl, hge, hgl, fun h => absurd h (by rcases hk with k | k | k | k <;> rw [k] <;> decide), fun _ => ⟨rfl, rfl⟩, rfl⟩ ?_
        rintro m fr H ⟨j, v11, v12, hj4, rfl, G1, G2, f1, f2, rfl⟩
        have hHid : id < H.length := by
          rcases Nat.lt_or_ge id H.length with hh | hh
          · exact hh
          · rw [List.getElem?_eq_none hh] at G1; cases G1
        have hHb : h'.length < H.length := by
          rcases Nat.lt_or_ge h'.length H.length with hh | hh
          · exact hh
          · rw [List.getElem?_eq_none hh] at G2; cases G2
        simp only [J_norm_Run_j6, wk,eq_self,Nat.reduceEqDiff,Nat.reduceAdd,Nat.reduceLeDiff,reduceCtorEq,↓reduceIte]
        refine ⟨fun hlt4 => ?_, fun hge4 => ?_⟩
        · have E1 : ∀ o : Option (Bool × List AV), (H ++ [o])[id]? = some (some (false, cells)) := fun o => by rw [List.getElem?_append_left hHid]; exact G1
          have E2 : ∀ o : Option (Bool × List AV), (H ++ [o])[h'.length]? = some bx := fun o => by rw [List.getElem?_append_left hHb]; exact G2
          obtain ⟨F, rest, hdj, hF⟩ := ops_at ma mb K j (by omega)
          obtain ⟨c1, c2⟩ := cells_two g3 g5
          refine ⟨⟨by omega, by omega⟩, ?_⟩
          simp only [wk,eq_self,Nat.reduceEqDiff,Nat.reduceAdd,Nat.reduceLeDiff,reduceCtorEq,↓reduceIte, hdj]
          by_cases hKj : K = (j : Int) + 2
          · have qF := hF hKj
            rw [← hr] at qF
            simp only [vLs1] at qF c1 c2
            simp only [wk,eq_self,Nat.reduceEqDiff,reduceCtorEq,↓reduceIte, E1, E2, hbx, J_norm_Run_j5, c1, c2, eqTrue hKj.symm]
            refine ⟨⟨by omega, by omega⟩, inR_of (by omega) (by omega), ⟨by omega, by omega⟩, _, qF, ?_⟩
            simp only [wk]
            exact ⟨inR_of (by omega) (by omega), 4 - (j + 1), by omega, j + 1, _, _, by omega, rfl, fun _ => ⟨rfl, rfl⟩, fun h => absurd (by omega) h, rfl⟩
          · simp only [wk,eq_self,Nat.reduceEqDiff,reduceCtorEq,↓reduceIte, E1, E2, hbx, J_norm_Run_j5, eqFalse (Ne.symm hKj)]
            exact ⟨inR_of (by omega) (by omega), 4 - (j + 1), by omega, j + 1, _, _, by omega, rfl, fun h => f1 (by omega), fun h => f2 (by omega), rfl⟩
        · obtain ⟨rfl, rfl⟩ := f1 (by omega)
          have en : ((n : Int) - 2).toNat = r0.length := by rw [g3]; simp; omega
          have g6 : cells.take r0.length = r0.reverse.map vLs1 := by
            have := congrArg (List.take r0.length) g5
            rw [List.take_take, Nat.min_eq_left (by rw [g3]; simp; omega)] at this
            rw [this]
            simp
          have nxt : ∀ (H : Hp) (v' : AV) (st' : List (List ByteArray)), At L x (i + 1) st' → HasS H v' st' → inR ((i : Int) + 1) ∧ ∃ m, m < x.length - i ∧ ∃ (i' : Nat) (v2 : AV) (st2 : List (List ByteArray)), m = x.length - i' ∧ At L x i' st2 ∧ HasS H v2 st2 ∧ [(0, AV.frn (TabQ L)), (7, .lst .ro 4 opsC), (8, v'), (24, .lst .ro x.length (trsC x)), (25, .int .i64 x.length), (26, .int .i64 ((i : Int) + 1))] = [(0, .frn (TabQ L)), (7, .lst .ro 4 opsC), (8, v2), (24, .lst .ro x.length (trsC x)), (25, .int .i64 x.length), (26, .int .i64 i')] := fun H v' st' a1 a2 =>
            ⟨inR_of (by omega) (by omega), x.length - (i + 1), by omega, i + 1, v', st', rfl, a1, a2, rfl⟩
          simp only [vLs1]
          simp only [wk,ne_eq,eq_self,Nat.reduceEqDiff,Nat.reduceLeDiff,Nat.reduceLT,reduceCtorEq,↓reduceIte, J_norm_Run_j4, J_norm_Run_j3, J_norm_Run_j2, G1, en]
          refine ⟨⟨by omega, by omega⟩, fun h0 => by rw [n2 h0]; rfl, fun h0 => ?_⟩
          have e3 : n = r0.length + 2 := by rw [g3]; rfl
          exact ⟨⟨g2, by omega, by omega, by omega⟩, fun hc => nxt _ _ _ (n1 h0) (HasS.put G1 g2 rfl hc g6 _), fun hc => absurd hc (by omega)⟩
    · obtain ⟨s, rfl, hms, hR⟩ := hA.done ht (by omega)
      rw [hR]
      rcases hS with ⟨h1, _⟩ | ⟨id, n, c, cells, rfl, g1, g2, g3, g4, g5⟩
      · cases h1
      have e3 : n = 1 := by rw [g3]; rfl
      subst e3
      cases cells with
      | nil => simp at g5
      | cons z rest =>
        have hz : z = vLs1 s := by simpa using g5
        subst hz
        simp only [wk,eq_self,Nat.reduceEqDiff,Int.reduceLE,reduceCtorEq,↓reduceIte, J_norm_Run_j1, g1, vLs1]
        refine ⟨by omega, ?_⟩
        rfl
end Go.Proofs.YtedaffmkpljlnaaGreat

/- Norm: what an expression means: the document's Run. -/
-- fast
namespace Go.Proofs.YtedaffmkpljlnaaGreat
set_option linter.unusedSimpArgs false
set_option linter.unusedVariables false
open Go.RowKit Go.Lib

end Go.Proofs.YtedaffmkpljlnaaGreat

/- Norm: what a text means, and a set's text: Read and Show, the program's and the document's. -/
-- fast
namespace Go.Proofs.YtedaffmkpljlnaaGreat
set_option linter.unusedSimpArgs false
set_option linter.unusedVariables false
open Go.RowKit Go.Lib Go.Shelf

theorem p_kind06 (a : Nat) (h : a < 65536) : PCalls Tryz.prog 42 [.int .u16 a] (.int .i64 ((a / 8192 : Nat) : Int)) := by
  refine pcalls_of (by first | rfl | simp [free, free.frees, frees_str, frees_u8, frees_u16]) (by first | rfl | simp [free, free.frees, frees_str, frees_u8, frees_u16]) (acalls_of mixed J_ref01_Kind_ok (Nat.le_of_ble_eq_true rfl) ?_); simp only [J_ref01_Kind, wk,ne_eq,eq_self,Nat.reduceEqDiff,Int.reduceEq,reduceCtorEq,↓reduceIte]
  have hw : IntKind.wrap .i64 (a : Int) = a := by rw [IntKind.wrap_i64]; omega
  have hm : (a : Int).tmod 8192 = ((a % 8192 : Nat) : Int) := by rw [Int.tmod_eq_emod_of_nonneg (by omega)]; omega
  have hd : ((a : Int) - ((a % 8192 : Nat) : Int)).tdiv 8192 = ((a / 8192 : Nat) : Int) := by rw [Int.tdiv_eq_ediv_of_nonneg (by omega)]; omega
  rw [hw, hm, hd]
  exact ⟨inR_of (by omega) (by omega), inR_of (by omega) (by omega), rfl⟩
def vRead (r : List ByteArray × Int × Int) : AV := .tup [vLs1 r.1, .int .i64 r.2.1, .int .i64 r.2.2]
theorem free_vRead (r : List ByteArray × Int × Int) : free (vRead r) = true := by simp [vRead, vLs1, free, free.frees, frees_str]
theorem parse_names {s : ByteArray} (hs : s.size ≤ 1000000) : ∀ t ∈ (parseR s).1, t.name.size ≤ 1000000 := by
  by_cases h0 : (parseR s).2.2 = 0
  · obtain ⟨_, k2, k3⟩ := parse_ok h0
    rw [k3]
    obtain ⟨_, _, _, w4⟩ := readR_ok k2
    rw [w4]
    exact readD_names (allT_name hs)
  · have : (parseR s).1 = [] := by
      unfold parseR at h0 ⊢
      split
      · rfl
      · next h1 =>
        rw [if_neg h1] at h0
        split
        · next h2 => rw [if_pos h2] at h0; exact absurd rfl h0
        · split
          · rfl
          · split <;> rfl
    rw [this]; simp
theorem p_nread (L : Nat → List ByteArray) (s : ByteArray) (hm : Few L) (hs : s.size ≤ 1000000) : PCalls Tryz.prog 15 [.frn (TabQ L), .str s] (vRead (readE L s)) := by
  have q1 := p_parse s hs
  have hl := parseR_len s
  have hn := parse_names hs
  have q2 := p_run L (parseR s).1 hm (by omega) hn
  unfold readE
  generalize parseR s = R at *
  simp only [resI, vTrs] at q1
  simp only [vTrs, vRun, vLs1] at q2
  refine pcalls_of (by simp [free, free.frees]) (free_vRead _) (ACalls.weak (acalls_of mixed J_norm_Read_ok (Nat.le_of_ble_eq_true rfl) ?_)); simp only [J_norm_Read, wk,eq_self,Nat.reduceEqDiff,Nat.reduceAdd,reduceCtorEq,↓reduceIte]
  refine PCalls.use (q1) ?_; simp only [wk,ne_eq,eq_self,Nat.reduceEqDiff,reduceCtorEq,↓reduceIte]
  refine ⟨fun h0 => ?_, fun h0 => ?_⟩
  · rw [if_neg h0]; rfl
  · refine PCalls.use (q2) ?_; simp only [wk,eq_self,Nat.reduceEqDiff,↓reduceIte]
    rw [if_pos h0]; rfl
theorem join_conv (x : List UInt8) (l : List (List UInt8)) (sep : List UInt8) : Lib.join (x :: l) sep = x ++ l.flatMap fun y => sep ++ y := by
  induction l generalizing x with
  | nil => simp [Lib.join]
  | cons y l ih =>
    have := ih y
    simp only [Lib.join] at this ⊢
    rw [List.intercalate_cons_cons, this, List.flatMap_cons, List.append_assoc]
    simp [List.append_assoc]
theorem join_bound (sep : List UInt8) (c : Nat) (l : List (List UInt8)) (h : ∀ x ∈ l, x.length ≤ c) : (Lib.join l sep).length ≤ l.length * (c + sep.length) := by
  cases l with
  | nil => simp [Lib.join]
  | cons x l =>
    have gen : ∀ l : List (List UInt8), (∀ x ∈ l, x.length ≤ c) → (l.flatMap fun y => sep ++ y).length ≤ l.length * (c + sep.length) := by
      intro l
      induction l with
      | nil => intro _; simp
      | cons y l ih =>
        intro h
        have h1 := h y (by simp)
        have h2 := ih (fun z hz => h z (by simp [hz]))
        rw [List.flatMap_cons, List.length_append, List.length_append, List.length_cons, Nat.add_mul]
        omega
    have h1 := h x (by simp)
    have h2 := gen l (fun z hz => h z (by simp [hz]))
    rw [join_conv, List.length_append, List.length_cons, Nat.add_mul]
    omega
theorem join_snoc (l : List (List UInt8)) (x : List UInt8) (sep : List UInt8) : Lib.join (l ++ [x]) sep = (if l.length = 0 then [] else Lib.join l sep ++ sep) ++ x := by
  cases l with
  | nil => simp [Lib.join]
  | cons y l =>
    rw [List.cons_append, join_conv, join_conv, List.flatMap_append, if_neg (by simp)]
    simp
theorem p_joinG (sep : ByteArray) (l : List ByteArray) (hl : l.length ≤ 1000000) (hs : (ba (Lib.join (l.map (·.data.toList)) sep.data.toList)).size ≤ 140737488355328) : PCalls Tryz.prog 37 [.lst .ro l.length (l.map .str), .str sep] (.str (ba (Lib.join (l.map (·.data.toList)) sep.data.toList))) := by
  refine pcalls_calls (by simp [free, free.frees, frees_str]) rfl rfl (by kernel_rfl) ?_
  intro g w vargs hsim hr
  obtain ⟨v, vs, rfl, hv, hvs⟩ : ∃ v vs, vargs = v :: vs ∧ Rep g v (.lst .ro l.length (l.map .str)) ∧ RepL g vs [.str sep] := by
    cases hr with
    | cons h1 h2 => exact ⟨_, _, rfl, h1, h2⟩
  cases hvs with
  | cons h1 h2 =>
  cases h1
  cases h2
  obtain ⟨a, c, rfl, hrow⟩ := rep_strs hsim hv
  have hm : ∀ (e : Ending) (w' : World), e = .returned (.string ⟨(Lib.join (l.map (·.data.toList)) sep.data.toList).toArray⟩) ∧ Below w.heap.size w w' → ∃ x, e = .returned x ∧ Below w.heap.size w w' ∧ Rep (g.news w w') x (.str (ba (Lib.join (l.map (·.data.toList)) sep.data.toList))) := by
    rintro e w' ⟨rfl, hb⟩
    exact ⟨_, rfl, hb, .str _⟩
  have hcap : l.length ≤ c := rep_cap hv _ _ _ _ _ _ rfl rfl
  by_cases h0 : l = []
  · subst h0
    exact (Any.strings_Join_none (P := Tryz.prog) lJoin xJoin a c sep w).mono fun e w' h => hm e w' ⟨by rw [h.1]; rfl, h.2 ▸ Below.refl _ _⟩
  · rcases hrow with h1 | ⟨b, off, rfl, hcells⟩
    · exact absurd (by simpa using h1) h0
    · have hc2 : ∀ (j : Nat) x, l[j]? = some x → w.cell? ⟨b, off + j, none⟩ = some (.string x) := fun j x hj => hcells j (.string x) (by rw [List.getElem?_map, hj]; rfl)
      obtain ⟨y, r, hyr⟩ := List.exists_cons_of_ne_nil h0
      have hbk : b < w.heap.size := World.block_lt_of_cell? w ⟨b, off + 0, none⟩ (hc2 0 y (by rw [hyr]; rfl))
      exact (Any.strings_Join (P := Tryz.prog) lJoin xJoin b off c l sep w hc2 hbk (by omega) hcap (by rw [ba_len2] at hs; exact hs)).mono hm
def textsC (l : List ByteArray) (n : Nat) : List AV := l.map AV.str ++ List.replicate n (.str ⟨#[]⟩)
theorem textsC_0 (n : Nat) : ((List.range n).map fun i => [AV.str ⟨#[]⟩].getD (i % 1) .nilp) = textsC [] n := by
  unfold textsC
  apply List.ext_getElem
  · simp
  · intro i h1 h2
    simp [Nat.mod_one]
theorem textsC_len (l : List ByteArray) (n : Nat) : (textsC l n).length = l.length + n := by simp [textsC]
theorem textsC_set {s : List ByteArray} {i : Nat} (T : ByteArray → ByteArray) (h : i < s.length) : (textsC ((s.take i).map T) (s.length - i)).set i (.str (T s[i])) = textsC ((s.take (i + 1)).map T) (s.length - (i + 1)) := by
  unfold textsC
  rw [List.set_append_right _ _ (by simp; omega), show i - (((s.take i).map T).map AV.str).length = 0 by simp; omega]
  rw [show s.length - i = (s.length - (i + 1)) + 1 by omega, List.replicate_succ, List.set_cons_zero, List.take_succ_eq_append_getElem h]
  simp only [List.map_append, List.map_cons, List.map_nil, List.append_assoc, List.singleton_append]
def vShow (r : ByteArray × Int) : AV := .tup [.str r.1, .int .i64 r.2]
theorem showW_len {L : Nat → List ByteArray} (hn : ∀ a, (nameS L a).size ≤ 1000) {w : ByteArray} (h : w.size ≤ 100) : (showW L w).length ≤ 60000 := by
  have := txtW_len hn (atomNs w) (w.size / 2)
  unfold showW
  omega
theorem any_take {p : ByteArray → Bool} {s : List ByteArray} (h : ∀ w ∈ s, p w = false) : s.any p = false := by
  rw [List.any_eq_false]; intro w hw; rw [h w hw]; simp
theorem any_at {p : ByteArray → Bool} {s : List ByteArray} {i : Nat} (hi : i < s.length) (h : p s[i] = true) : s.any p = true := List.any_eq_true.2 ⟨_, List.getElem_mem hi, h⟩
theorem p_nshow (L : Nat → List ByteArray) (s : List ByteArray) (hnm : ∀ a, (nameS L a).size ≤ 1000) (hl : s.length ≤ 9223372036854775807) (hs : ∀ x ∈ s, x.size ≤ 1000000) : PCalls Tryz.prog 17 [.frn (TabQ L), .lst .ro s.length (s.map .str)] (vShow (showE L s)) := by
  have q1 := p_smay s hl (fun x hx => by have := hs x hx; omega)
  refine pcalls_of (by simp [free, free.frees, frees_str]) rfl (ACalls.weak (acalls_of mixed J_norm_Show_ok (Nat.le_of_ble_eq_true rfl) ?_)); simp only [J_norm_Show, wk,eq_self,Nat.reduceEqDiff,Nat.reduceAdd,reduceCtorEq,↓reduceIte]
  refine PCalls.use (q1) ?_; simp only [wk,eq_self,Nat.reduceEqDiff,reduceCtorEq,↓reduceIte]
  cases hm : setMay s with
  | false =>
    try simp only [wk,forall_const,eq_self]
    unfold showE
    rw [if_pos hm]
    rfl
  | true =>
    try simp only [wk,forall_const,eq_self]
    have hsm := may_small hm
    refine ⟨⟨by omega, by omega, by omega⟩, ?_⟩
    rw [Int.toNat_natCast, textsC_0]
    obtain ⟨T, hT⟩ : ∃ T : ByteArray → ByteArray, T = fun w => ba (showW L w) := ⟨_, rfl⟩
    refine W_loop (fun n fr h' => ∃ (i : Nat) (ex : Hp), i ≤ s.length ∧ n = s.length - i ∧ h' = some (false, textsC ((s.take i).map T) (s.length - i)) :: ex ∧ fr = [(0, .frn (TabQ L)), (6, .hs 0 s.length), (21, .lst .ro s.length (s.map .str)), (22, .int .i64 s.length), (23, .int .i64 i)] ∧ ∀ w ∈ s.take i, noText L w = false) s.length ⟨0, [], by omega, by omega, by simp, rfl, by simp⟩ ?_
    rintro n fr h' ⟨i, ex, hi, rfl, rfl, rfl, hall⟩
    simp only [J_norm_Show_j2, wk,eq_self,Nat.reduceEqDiff,reduceCtorEq,↓reduceIte]
    refine ⟨fun hlt => ?_, fun hge => ?_⟩
    · have hil : i < s.length := by omega
      have hd : (s.map AV.str).drop (i : Int).toNat = .str s[i] :: (s.map AV.str).drop (i + 1) := by rw [Int.toNat_natCast, drop_str hil]
      have qs := p_show L s[i] (hs _ (List.getElem_mem hil)) hnm
      unfold showV at qs
      refine ⟨⟨by omega, by omega⟩, ?_⟩
      simp only [wk,eq_self,Nat.reduceEqDiff,reduceCtorEq,↓reduceIte, hd]
      cases hn : noText L s[i] with
      | true =>
        rw [if_pos hn] at qs
        refine PCalls.use (qs) ?_; simp only [wk,eq_self,Nat.reduceEqDiff,reduceCtorEq,↓reduceIte]
        unfold showE
        rw [if_neg (by simp [hm]), if_pos (any_at hil hn)]
        rfl
      | false =>
        rw [if_neg (by rw [hn]; simp)] at qs
        refine PCalls.use (qs) ?_; simp only [wk,eq_self,Nat.reduceEqDiff,reduceCtorEq,↓reduceIte]
        have hset : (textsC ((s.take i).map T) (s.length - i)).set i (.str (ba (showW L s[i]))) = textsC ((s.take (i + 1)).map T) (s.length - (i + 1)) := by
          have := textsC_set T hil
          rw [show T s[i] = ba (showW L s[i]) by rw [hT]] at this
          exact this
        have hlen := textsC_len ((s.take i).map T) (s.length - i)
        rw [List.length_map, List.length_take] at hlen
        rw [Int.toNat_natCast, hset]
        refine ⟨⟨by omega, by omega⟩, by omega, inR_of (by omega) (by omega), s.length - (i + 1), by omega, i + 1, _, by omega, rfl, rfl, rfl, ?_⟩
        intro w hw
        rw [List.take_succ_eq_append_getElem hil] at hw
        rcases List.mem_append.1 hw with hw | hw
        · exact hall w hw
        · simp at hw; subst hw; exact hn
    · have : i = s.length := by omega
      subst this
      rw [List.take_length] at hall ⊢
      rw [Nat.sub_self]
      have hw : (textsC (s.map T) 0).map deg = (s.map T).map AV.str := by
        unfold textsC
        simp [deg]
      have hmap : (s.map T).map (·.data.toList) = s.map (showW L) := by
        rw [List.map_map, hT]
        refine List.map_congr_left fun w _ => ?_
        exact ba_list _
      have hb := join_bound andB 60000 (s.map (showW L)) (fun x hx => by
        obtain ⟨w, hw, rfl⟩ := List.mem_map.1 hx
        exact showW_len hnm (by have := (hsm.2.2 w hw).2.2; omega))
      have h5 : andB.length = 5 := rfl
      rw [List.length_map] at hb
      have qj := p_joinG ⟨#[32, 97, 110, 100, 32]⟩ (s.map T) (by rw [List.length_map]; omega) (by
        rw [ba_len2, hmap]
        have : s.length * (60000 + andB.length) ≤ 16 * (60000 + andB.length) := Nat.mul_le_mul_right _ hsm.2.1
        have e : (⟨#[32, 97, 110, 100, 32]⟩ : ByteArray).data.toList = andB := rfl
        rw [e]; omega)
      rw [List.length_map, hmap] at qj
      simp only [J_norm_Show_j1, wk,eq_self,reduceCtorEq,↓reduceIte]
      refine ACalls.use (PCalls.iced qj _ (by simp only [fzs_cons, fzs_nil, fz_str]; rw [fz_hs (s := false) (l := textsC (s.map T) 0) rfl, hw])) ?_
      rintro _ _ ⟨rfl, rfl⟩
      simp only [fgt_str, wk,eq_self,↓reduceIte]
      unfold showE
      rw [if_neg (by simp [hm]), if_neg (by rw [any_take hall]; simp)]
      rfl
end Go.Proofs.YtedaffmkpljlnaaGreat

/- Norm: a set's text: the document's Show. -/
-- fast
namespace Go.Proofs.YtedaffmkpljlnaaGreat
set_option linter.unusedSimpArgs false
set_option linter.unusedVariables false
open Go.RowKit Go.Lib Go.Shelf

theorem txt_step (L : Nat → List ByteArray) (s : ByteArray) (k : Nat) (h : k < s.size / 2) {P : List UInt8} {o o2 : ByteArray} {sep : List UInt8} (ho : o.data.toList = P ++ txtW L (atomNs s) k) (hs : (if k = 0 then [] else if rolesTo (atomNs s) (k + 1) = true then [32, 97, 115, 32] else [32, 124, 32]) = sep) (h2 : o2.data.toList = o.data.toList ++ (sep ++ (wordA L (atomAt s k)).data.toList)) :
    o2.data.toList = P ++ txtW L (atomNs s) (k + 1) := by
  rw [h2, ho, txtW_succ L s k h, hs]
  simp only [List.append_assoc]
theorem size_list (o : ByteArray) : o.size = o.data.toList.length := (len_size o).symm
theorem p_rshow (L : Nat → List ByteArray) (s : List ByteArray) (hnm : ∀ a, (nameS L a).size ≤ 1000) (hl : s.length ≤ 9223372036854775807) (hs : ∀ x ∈ s, x.size ≤ 1000000) : PCalls Tryz.prog 18 [.frn (RTabQ L), .lst .ro s.length (s.map .str)] (vShow (showE L s)) := by
  have q1 := p_rsmay s hl (fun x hx => by have := hs x hx; omega)
  refine pcalls_of (by simp [free, free.frees, frees_str]) rfl (ACalls.weak (acalls_of mixed J_ref06_Show_ok (Nat.le_of_ble_eq_true rfl) ?_)); simp only [J_ref06_Show, wk,eq_self,Nat.reduceEqDiff,Nat.reduceAdd,reduceCtorEq,↓reduceIte]
  refine PCalls.use (q1) ?_; simp only [wk,eq_self,Nat.reduceEqDiff,reduceCtorEq,↓reduceIte]
  cases hm : setMay s with
  | false =>
    try simp only [wk,forall_const,eq_self]
    unfold showE
    rw [if_pos hm]
    rfl
  | true =>
    try simp only [wk,forall_const,eq_self]
    have hsm := may_small hm
    refine W_loop (fun n fr h' => ∃ (i : Nat) (o : ByteArray), i ≤ s.length ∧ n = s.length - i ∧ o.data.toList = Lib.join ((s.take i).map (showW L)) andB ∧ fr = [(0, .frn (RTabQ L)), (1, .lst .ro s.length (s.map .str)), (6, .str o), (7, .int .i64 i)] ∧ ∀ w ∈ s.take i, noText L w = false) s.length ⟨0, ⟨#[]⟩, by omega, by omega, rfl, rfl, by simp⟩ ?_
    rintro n fr h' ⟨i, o, hi, rfl, ho, rfl, hall⟩
    have hob : o.size ≤ 2000000 := by
      have hb := join_bound andB 60000 ((s.take i).map (showW L)) (fun x hx => by
        obtain ⟨w, hw, rfl⟩ := List.mem_map.1 hx
        exact showW_len hnm (by have := (hsm.2.2 w (List.mem_of_mem_take hw)).2.2; omega))
      have h5 : andB.length = 5 := rfl
      rw [List.length_map, List.length_take] at hb
      have : (min i s.length) * (60000 + andB.length) ≤ 16 * (60000 + andB.length) := Nat.mul_le_mul_right _ (by omega)
      rw [size_list, ho]; omega
    simp only [J_ref06_Show_j7, wk,eq_self,Nat.reduceEqDiff,reduceCtorEq,↓reduceIte]
    refine ⟨fun hlt => ?_, fun hge => ?_⟩
    · have hil : i < s.length := by omega
      have hd : (s.map AV.str).drop (i : Int).toNat = .str s[i] :: (s.map AV.str).drop (i + 1) := by rw [Int.toNat_natCast, drop_str hil]
      have hw17 := (hsm.2.2 s[i] (List.getElem_mem hil)).2.2
      have hwm := (hsm.2.2 s[i] (List.getElem_mem hil)).1
      have qa := p_ratoms s[i] (by omega)
      have hany := fun h => any_at (p := noText L) hil h
      have hnext : Lib.join ((s.take (i + 1)).map (showW L)) andB = (if i = 0 then [] else Lib.join ((s.take i).map (showW L)) andB ++ andB) ++ showW L s[i] := by
        rw [List.take_succ_eq_append_getElem hil, List.map_append, List.map_cons, List.map_nil, join_snoc, List.length_map, List.length_take, Nat.min_eq_left (by omega)]
      have hall2 : noText L s[i] = false → ∀ w ∈ s.take (i + 1), noText L w = false := fun h w hw => by
        rw [List.take_succ_eq_append_getElem hil] at hw
        rcases List.mem_append.1 hw with hw | hw
        · exact hall w hw
        · simp at hw; subst hw; exact h
      obtain ⟨P, hP⟩ : ∃ P, P = (if i = 0 then [] else Lib.join ((s.take i).map (showW L)) andB ++ andB) := ⟨_, rfl⟩
      rw [← hP] at hnext
      have hin1 : (0 ≤ (i : Int)) = True := eqTrue (by omega)
      have hin2 : ((i : Int) < (s.length : Int)) = True := eqTrue (by omega)
      obtain ⟨w, hw⟩ : ∃ w, w = s[i] := ⟨_, rfl⟩
      rw [← hw] at hd hw17 hwm qa hany hnext hall2
      obtain ⟨z, hz⟩ : ∃ z, z = w.size / 2 := ⟨_, rfl⟩
      by_cases h0 : i = 0
      case' pos =>
        have hi0 : ((0 : Int) < (i : Int)) = False := eqFalse (by omega)
        have hPo : P = [] := by rw [hP, if_pos h0]
        obtain ⟨o1, e1⟩ : ∃ o1 : ByteArray, o1 = o := ⟨_, rfl⟩
        have hoe : o1.data.toList = P := by rw [e1, ho, h0, hPo]; rfl
        have hob1 : o1.size ≤ 2000005 := by rw [e1]; omega
        simp only [wk,forall_const,eq_self,Nat.reduceEqDiff,reduceCtorEq,↓reduceIte, hi0, hd, hin1, hin2, J_ref06_Show_j6]
        refine PCalls.use (qa) ?_; simp only [wk,eq_self,Nat.reduceEqDiff,reduceCtorEq,↓reduceIte]
        rw [← e1]
      case' neg =>
        have hi0 : ((0 : Int) < (i : Int)) = True := eqTrue (by omega)
        have hPo : P = Lib.join ((s.take i).map (showW L)) andB ++ andB := by rw [hP, if_neg h0]
        obtain ⟨o1, e1⟩ : ∃ o1 : ByteArray, o1 = o ++ ⟨#[32, 97, 110, 100, 32]⟩ := ⟨_, rfl⟩
        have hsz5 : (⟨#[32, 97, 110, 100, 32]⟩ : ByteArray).size = 5 := rfl
        have hoe : o1.data.toList = P := by rw [e1, hPo, ByteArray.data_append, Array.toList_append, ho]; rfl
        have hob1 : o1.size ≤ 2000005 := by rw [e1, ByteArray.size_append, hsz5]; omega
        simp only [wk,forall_const,eq_self,Nat.reduceEqDiff,reduceCtorEq,↓reduceIte, hi0, hd, hin1, hin2, J_ref06_Show_j6]
        refine ⟨by rw [hsz5]; omega, ?_⟩
        refine PCalls.use (qa) ?_; simp only [wk,eq_self,Nat.reduceEqDiff,reduceCtorEq,↓reduceIte]
        rw [← e1]
      all_goals
        clear hPo hi0
        try clear hsz5
        clear e1
        refine W_loop (fun n fr h' => ∃ (k : Nat) (q : ByteArray), k ≤ w.size / 2 ∧ n = w.size / 2 - k ∧ q.data.toList = P ++ txtW L (atomNs w) k ∧ fr = [(0, .frn (RTabQ L)), (1, .lst .ro s.length (s.map .str)), (6, .str q), (7, .int .i64 i), (8, .lst .ro (w.size / 2) (atomsL w (w.size / 2))), (9, .bool (rolesTo (atomNs w) k)), (10, .int .i64 k)] ∧ ∀ j, j < k → wordA L (atomAt w j) ≠ ⟨#[]⟩) (w.size / 2) ⟨0, o1, by omega, by omega, by rw [hoe]; simp [txtW], rfl, fun j hj => by omega⟩ ?_
        rintro n fr h' ⟨k, q, hk, rfl, hq, rfl, hkn⟩
        have hqb : q.size ≤ 3000000 := by
          have h1 := txtW_len hnm (atomNs w) k
          have h2 := size_list o1
          rw [size_list, hq, List.length_append, ← hoe]
          omega
        simp only [J_ref06_Show_j5, wk,ne_eq,eq_self,Nat.reduceEqDiff,reduceCtorEq,↓reduceIte]
        refine ⟨fun hlt2 => ?_, fun hge2 => ?_⟩
        · have hkz : k < w.size / 2 := by omega
          have hdk : (atomsL w (w.size / 2)).drop (k : Int).toNat = .int .u16 (atomAt w k) :: (atomsL w (w.size / 2)).drop (k + 1) := by rw [Int.toNat_natCast]; exact atomsL_drop hkz
          have a6 := atomAt_lt w k
          have qn := p_trname L (atomAt w k) a6
          have qk := p_kind06 (atomAt w k) a6
          have qw := p_rword04 1 (nameS L (atomAt w k)) ((atomAt w k / 8192 : Nat) : Int) 0 (by have := hnm (atomAt w k); omega)
          have hwa : wordT 1 (nameS L (atomAt w k)) ((atomAt w k / 8192 : Nat) : Int) = wordA L (atomAt w k) := by unfold wordA; rw [kind_int]
          rw [hwa] at qw
          have hst := fun o2 sep => @txt_step L w k hkz P q o2 sep hq
          have hr := rolesTo_succ w k hkz
          have hkn2 : wordA L (atomAt w k) ≠ ⟨#[]⟩ → ∀ j, j < k + 1 → wordA L (atomAt w j) ≠ ⟨#[]⟩ := fun h j hj => by
            by_cases e : j = k
            · rw [e]; exact h
            · exact hkn j (by omega)
          have hno := fun h => hany (noText_yes (L := L) hkz h)
          have htx : (wordA L (atomAt w k)).size ≤ 1006 := by
            have h1 := wordT_size 1 (nameS L (atomAt w k)) ((atomAt w k : Nat) / 8192)
            have h2 := hnm (atomAt w k)
            unfold wordA; omega
          have hi1 : (0 ≤ (k : Int)) = True := eqTrue (by omega)
          have hi2 : ((k : Int) < ((w.size / 2 : Nat) : Int)) = True := eqTrue (by omega)
          simp only [wk,eq_self,Nat.reduceEqDiff,↓reduceIte, hdk, hi1, hi2]
          refine PCalls.use qn ?_
          simp only [wk,eq_self,Nat.reduceEqDiff,reduceCtorEq,↓reduceIte, hdk, hi1, hi2]
          refine PCalls.use qk ?_
          simp only [wk,eq_self,Nat.reduceEqDiff,Nat.reduceAdd,Nat.reduceLeDiff,↓reduceIte]
          refine PCalls.use qw ?_
          simp only [wk,eq_self,Nat.reduceEqDiff,reduceCtorEq,↓reduceIte, hdk, hi1, hi2]
          obtain ⟨tx, htxe⟩ : ∃ tx, tx = wordA L (atomAt w k) := ⟨_, rfl⟩
          rw [← htxe] at htx hno hkn2 hst
          rw [← htxe]
          have s4a : (⟨#[32, 97, 115, 32]⟩ : ByteArray).size = 4 := rfl
          have s4b : (⟨#[32, 124, 32]⟩ : ByteArray).size = 3 := rfl
          have l4a : (⟨#[32, 97, 115, 32]⟩ : ByteArray).data.toList = [32, 97, 115, 32] := rfl
          have l4b : (⟨#[32, 124, 32]⟩ : ByteArray).data.toList = [32, 124, 32] := rfl
          by_cases hwe : tx = ⟨#[]⟩
          · simp only [wk,forall_const,eqTrue hwe]
            unfold showE
            rw [if_neg (by simp [hm]), if_pos (hno hwe)]
            rfl
          · have hne : (tx = ⟨#[]⟩) = False := eqFalse hwe
            have hk1' := hkn2 hwe
            -- what goes on
            have nxt : ∀ (q2 : ByteArray) (b : Bool), q2.data.toList = P ++ txtW L (atomNs w) (k + 1) → b = rolesTo (atomNs w) (k + 1) → inR ((k : Int) + 1) ∧ ∃ m, m < w.size / 2 - k ∧ ∃ (k2 : Nat) (q3 : ByteArray), k2 ≤ w.size / 2 ∧ m = w.size / 2 - k2 ∧ q3.data.toList = P ++ txtW L (atomNs w) k2 ∧ [(0, AV.frn (RTabQ L)), (1, .lst .ro s.length (s.map .str)), (6, .str q2), (7, .int .i64 i), (8, .lst .ro (w.size / 2) (atomsL w (w.size / 2))), (9, .bool b), (10, .int .i64 ((k : Int) + 1))] = [(0, .frn (RTabQ L)), (1, .lst .ro s.length (s.map .str)), (6, .str q3), (7, .int .i64 i), (8, .lst .ro (w.size / 2) (atomsL w (w.size / 2))), (9, .bool (rolesTo (atomNs w) k2)), (10, .int .i64 k2)] ∧ ∀ j, j < k2 → wordA L (atomAt w j) ≠ ⟨#[]⟩ := fun q2 b e1 e2 =>
              ⟨inR_of (by omega) (by omega), w.size / 2 - (k + 1), by omega, k + 1, q2, by omega, rfl, e1, by rw [e2]; rfl, hk1'⟩
            by_cases hk0 : k = 0
            · have f1 : ((k : Int) = 0) = True := eqTrue (by omega)
              have f2 : ((0 : Int) < (k : Int)) = False := eqFalse (by omega)
              rw [if_pos hk0] at hr
              have hr0 : rolesTo (atomNs w) k = true := by rw [hk0]; rfl
              have hfin : (q ++ tx).data.toList = P ++ txtW L (atomNs w) (k + 1) := hst (q ++ tx) [] (by rw [if_pos hk0]) (by rw [ByteArray.data_append, Array.toList_append]; rfl)
              simp only [wk,forall_const,eq_self,Nat.reduceEqDiff,reduceCtorEq,↓reduceIte, hne, f1, f2, hr0, J_ref06_Show_j4, J_ref06_Show_j3]
              exact ⟨by omega, nxt _ _ hfin hr.symm⟩
            · have f1 : ((k : Int) = 0) = False := eqFalse (by omega)
              have f2 : ((0 : Int) < (k : Int)) = True := eqTrue (by omega)
              rw [if_neg hk0] at hr
              have hst2 := hst
              simp only [if_neg hk0] at hst2
              cases hr0 : rolesTo (atomNs w) k with
              | false =>
                rw [hr0, Bool.false_and] at hr
                have hfin : (q ++ ⟨#[32, 124, 32]⟩ ++ tx).data.toList = P ++ txtW L (atomNs w) (k + 1) := hst2 _ _ (by rw [if_neg (by rw [hr]; simp)]) (by simp only [ByteArray.data_append, Array.toList_append, List.append_assoc])
                simp only [wk,forall_const,eq_self,Nat.reduceEqDiff,reduceCtorEq,↓reduceIte, hne, f1, f2, J_ref06_Show_j4, J_ref06_Show_j3]
                exact ⟨by rw [s4b]; omega, by simp only [ByteArray.size_append, s4b]; omega, nxt _ _ hfin hr.symm⟩
              | true =>
                rw [hr0, Bool.true_and] at hr
                by_cases h5 : atomAt w k / 8192 = 5
                · have f3 : (((atomAt w k / 8192 : Nat) : Int) = 5) = True := eqTrue (by omega)
                  rw [decide_eq_true h5] at hr
                  have hfin : (q ++ ⟨#[32, 97, 115, 32]⟩ ++ tx).data.toList = P ++ txtW L (atomNs w) (k + 1) := hst2 _ _ (by rw [if_pos hr]) (by simp only [ByteArray.data_append, Array.toList_append, List.append_assoc])
                  simp only [wk,forall_const,eq_self,Nat.reduceEqDiff,reduceCtorEq,↓reduceIte, hne, f1, f2, J_ref06_Show_j4, J_ref06_Show_j3]
                  refine PCalls.use qk ?_
                  simp only [wk,eq_self,Nat.reduceEqDiff,reduceCtorEq,↓reduceIte, f3, f2]
                  exact ⟨by rw [s4a]; omega, by simp only [ByteArray.size_append, s4a]; omega, nxt _ _ hfin hr.symm⟩
                · have f3 : (((atomAt w k / 8192 : Nat) : Int) = 5) = False := eqFalse (by omega)
                  rw [decide_eq_false h5] at hr
                  have hfin : (q ++ ⟨#[32, 124, 32]⟩ ++ tx).data.toList = P ++ txtW L (atomNs w) (k + 1) := hst2 _ _ (by rw [if_neg (by rw [hr]; simp)]) (by simp only [ByteArray.data_append, Array.toList_append, List.append_assoc])
                  simp only [wk,forall_const,eq_self,Nat.reduceEqDiff,reduceCtorEq,↓reduceIte, hne, f1, f2, J_ref06_Show_j4, J_ref06_Show_j3]
                  refine PCalls.use qk ?_
                  simp only [wk,eq_self,Nat.reduceEqDiff,reduceCtorEq,↓reduceIte, f3, f2]
                  exact ⟨by rw [s4b]; omega, by simp only [ByteArray.size_append, s4b]; omega, nxt _ _ hfin hr.symm⟩
        · have hkz : k = w.size / 2 := by omega
          have hnt : noText L w = false := noText_no (fun j hj => hkn j (by omega))
          simp only [J_ref06_Show_j2, wk,eq_self,Nat.reduceEqDiff,reduceCtorEq,↓reduceIte]
          refine ⟨inR_of (by omega) (by omega), s.length - (i + 1), by omega, i + 1, q, by omega, rfl, ?_, rfl, hall2 hnt⟩
          rw [hnext, hq, hkz]
          rfl
    · have hil : i = s.length := by omega
      rw [hil, List.take_length] at ho hall
      simp only [J_ref06_Show_j1, wk,eq_self,Nat.reduceEqDiff,reduceCtorEq,↓reduceIte]
      unfold showE
      rw [if_neg (by simp [hm]), if_neg (by rw [any_take hall]; simp), ← ho, ba_eta]
      rfl
end Go.Proofs.YtedaffmkpljlnaaGreat

/- Norm: the laws' own functions: tables, large, small, awake. -/
-- fast
namespace Go.Proofs.YtedaffmkpljlnaaGreat
set_option linter.unusedSimpArgs false
set_option linter.unusedVariables false
open Go.RowKit Go.Lib Go.Shelf

def tabsOk (ls : Nat → List ByteArray) : Prop := (∀ k, k < 6 → (ls k).length ≤ 100) ∧ tabErr ls = 0
theorem nread_nil (s : ByteArray) : PCalls Tryz.prog 15 [.nilp, .str s] (vRead ([], 0, 2)) := by
  refine pcalls_of (by simp [free, free.frees]) (free_vRead _) (ACalls.weak (acalls_of mixed J_norm_Read_ok (Nat.le_of_ble_eq_true rfl) ?_)); simp only [J_norm_Read, wk,eq_self,Nat.reduceEqDiff,Nat.reduceAdd,reduceCtorEq,↓reduceIte]
  rfl
instance (ls : Nat → List ByteArray) : Decidable (tabsOk ls) := by unfold tabsOk; infer_instance
def tabsV (ls : Nat → List ByteArray) : AV := if tabsOk ls then .tup [.frn (TabQ (tabL ls)), .frn (RTabQ (tabL ls))] else .tup [.nilp, .nilp]
theorem p_tabs (ls : Nat → List ByteArray) (hz : smallN ls) : PCalls Tryz.prog 10 [vNames ls] (tabsV ls) := by
  refine pcalls_of (frees_names ls) (by unfold tabsV; split <;> simp [free, free.frees]) (ACalls.weak (acalls_of mixed J_law06_tables_ok (Nat.le_of_ble_eq_true rfl) ?_)); simp only [J_law06_tables, vNames, vLs, wk,eq_self,Nat.reduceEqDiff,↓reduceIte]
  have z0 := (hz 0 (by omega)).1
  have z1 := (hz 1 (by omega)).1
  have z2 := (hz 2 (by omega)).1
  have z3 := (hz 3 (by omega)).1
  have z4 := (hz 4 (by omega)).1
  have z5 := (hz 5 (by omega)).1
  refine W_loop (fun n fr h' => ∃ i : Nat, i ≤ 6 ∧ n = 6 - i ∧ (∀ k, k < i → (ls k).length ≤ 100) ∧ fr = [(1, .ptr 0 0), (9, .int .i64 i)] ∧ h' = [some (false, [.lst .ro (ls 0).length ((ls 0).map .str), .lst .ro (ls 1).length ((ls 1).map .str), .lst .ro (ls 2).length ((ls 2).map .str), .lst .ro (ls 3).length ((ls 3).map .str), .lst .ro (ls 4).length ((ls 4).map .str), .lst .ro (ls 5).length ((ls 5).map .str)])]) 6 ⟨0, by omega, by omega, by omega, rfl, rfl⟩ ?_
  rintro n fr h' ⟨i, hi, rfl, hall, rfl, rfl⟩
  simp only [J_law06_tables_j2, wk,eq_self,Nat.reduceEqDiff,↓reduceIte]
  refine ⟨fun hlt => ?_, fun hge => ?_⟩
  · have hin : (0 ≤ (i : Int) ∧ (i : Int) < ((6 : Nat) : Int)) = True := eqTrue ⟨by omega, by omega⟩
    have big : 100 < (ls i).length → AV.tup [.nilp, .nilp] = tabsV ls := fun h => by
      unfold tabsV; rw [if_neg]; rintro ⟨h1, _⟩; have := h1 i (by omega); omega
    have nxt : ¬ 100 < (ls i).length → ∀ k, k < i + 1 → (ls k).length ≤ 100 := fun h k hk => by
      by_cases e : k = i
      · rw [e]; omega
      · exact hall k (by omega)
    obtain ⟨rest, hd⟩ : ∃ rest, ([.lst .ro (ls 0).length ((ls 0).map .str), .lst .ro (ls 1).length ((ls 1).map .str), .lst .ro (ls 2).length ((ls 2).map .str), .lst .ro (ls 3).length ((ls 3).map .str), .lst .ro (ls 4).length ((ls 4).map .str), .lst .ro (ls 5).length ((ls 5).map .str)] : List AV).drop i = .lst .ro (ls i).length ((ls i).map .str) :: rest := by
      rcases (show i = 0 ∨ i = 1 ∨ i = 2 ∨ i = 3 ∨ i = 4 ∨ i = 5 by omega) with rfl | rfl | rfl | rfl | rfl | rfl <;> exact ⟨_, rfl⟩
    simp only [wk,eq_self,Nat.reduceEqDiff,↓reduceIte, idpF, hin, hd, Int.toNat_natCast]
    refine ⟨fun hbig => ?_, fun hbig => ?_⟩
    · rw [← big (by omega)]
      rfl
    · exact ⟨inR_of (by omega) (by omega), 6 - (i + 1), by omega, i + 1, by omega, rfl, nxt (by omega), rfl⟩
  · have h6 : i = 6 := by omega
    subst h6
    simp only [J_law06_tables_j1, wk,eq_self,Nat.reduceAdd,Nat.reduceLeDiff,↓reduceIte]
    by_cases h0 : tabErr ls = 0
    · have q1 := p_tload ls hz h0
      have q2 := p_trload ls hz h0
      simp only [vNames, vLs] at q1 q2
      refine PCalls.use (q1) ?_; simp only [wk,eq_self,Nat.reduceEqDiff,Nat.reduceAdd,Nat.reduceLeDiff,↓reduceIte]
      refine PCalls.use (q2) ?_; simp only [wk,ne_eq,eq_self,Nat.reduceEqDiff,↓reduceIte]
      unfold tabsV
      rw [if_pos ⟨hall, h0⟩]
      rfl
    · have q1 := p_tload_no ls hz h0
      have q2 := p_trload_no ls hz h0
      simp only [vNames, vLs] at q1 q2
      have hne : (tabErr ls = 0) = False := eqFalse h0
      refine PCalls.use q1 ?_
      simp only [wk,eq_self,Nat.reduceEqDiff,Nat.reduceAdd,Nat.reduceLeDiff,↓reduceIte]
      refine PCalls.use q2 ?_
      simp only [wk,ne_eq,eq_self,Nat.reduceEqDiff,↓reduceIte, hne]
      unfold tabsV
      rw [if_neg (fun h => h0 h.2)]
      rfl
theorem p_tables (ls : Nat → List ByteArray) (hz : smallN ls) (h : tabsOk ls) : PCalls Tryz.prog 10 [vNames ls] (.tup [.frn (TabQ (tabL ls)), .frn (RTabQ (tabL ls))]) := by
  have := p_tabs ls hz
  unfold tabsV at this
  rwa [if_pos h] at this
theorem p_tables_no (ls : Nat → List ByteArray) (hz : smallN ls) (h : ¬ tabsOk ls) : PCalls Tryz.prog 10 [vNames ls] (.tup [.nilp, .nilp]) := by
  have := p_tabs ls hz
  unfold tabsV at this
  rwa [if_neg h] at this
end Go.Proofs.YtedaffmkpljlnaaGreat

/- Norm, plain: what a tree means; what is said with a sign between; parentheses. No program in sight. -/
namespace Go.Proofs.YtedaffmkpljlnaaGreat
set_option linter.unusedSimpArgs false
set_option linter.unusedVariables false
open Go.RowKit Go.Lib

def Xp.only (k : Int) : Xp → Prop
  | .atm _ => True
  | .op j a b => j = k ∧ a.only k ∧ b.only k
def Xp.leaves : Xp → List Trm
  | .atm t => [t]
  | .op _ a b => a.leaves ++ b.leaves
end Go.Proofs.YtedaffmkpljlnaaGreat

/- Norm, plain: a set's text is an expression that means that set; what is read has a text. No program in sight. -/
namespace Go.Proofs.YtedaffmkpljlnaaGreat
set_option linter.unusedSimpArgs false
set_option linter.unusedVariables false
open Go.RowKit Go.Lib

theorem name_small {L : Nat → List ByteArray} (hy : AllMay L) (a : Nat) : (nameS L a).size ≤ 24 := by
  unfold nameS
  split
  · show (1 : Nat) ≤ 24; omega
  · split
    · rw [List.getD_eq_getElem?_getD]
      cases h : (L (a / 8192))[a % 8192 - 1]? with
      | none => show (0 : Nat) ≤ 24; omega
      | some s =>
        have := hy _ s (List.mem_of_getElem? h)
        simp only [mayB, decide_eq_true_eq] at this
        exact this.2.1
    · show (0 : Nat) ≤ 24; omega
end Go.Proofs.YtedaffmkpljlnaaGreat

/- Norm: awake; what is small. -/
-- fast
namespace Go.Proofs.YtedaffmkpljlnaaGreat
set_option linter.unusedSimpArgs false
set_option linter.unusedVariables false
open Go.RowKit Go.Lib Go.Shelf

def awLs : Nat → List ByteArray := fun k => if k = 1 then [⟨#[107]⟩] else if k = 3 then [⟨#[97]⟩, ⟨#[98]⟩] else if k = 5 then [⟨#[114]⟩] else []
def awT1 : ByteArray := ⟨#[97, 32, 102, 111, 114, 32, 98, 32, 97, 110, 100, 32, 97]⟩
def awT2 : ByteArray := ⟨#[97, 32, 97, 115, 32, 114, 111, 108, 101, 58, 114, 124, 98]⟩
def awT3 : ByteArray := ⟨#[97, 32, 97, 110, 100]⟩
def awX : List Trm := [⟨1, 3, ⟨#[97]⟩⟩, ⟨1, 3, ⟨#[122]⟩⟩, ⟨2, 0, ⟨#[]⟩⟩]
def awS1 : List ByteArray := [⟨#[96, 1]⟩, ⟨#[0, 1, 96, 2]⟩, ⟨#[96, 1, 96, 2]⟩]
def awS2 : List ByteArray := [⟨#[96, 1, 160, 1, 96, 2]⟩]
theorem aw_tab : tabErr awLs = 0 := by kernel_rfl
theorem aw_r1 : readE (tabL awLs) awT1 = (awS1, 0, 0) := by kernel_rfl
theorem aw_r2 : readE (tabL awLs) awT2 = (awS2, 0, 0) := by kernel_rfl
theorem aw_r3 : readE (tabL awLs) awT3 = ([], 5, 2) := by kernel_rfl
theorem aw_x : runE (tabL awLs) awX = ([], 1, 10) := by kernel_rfl
theorem aw_s1 : showE (tabL awLs) awS1 = (⟨#[97, 32, 97, 110, 100, 32, 68, 32, 124, 32, 98, 32, 97, 110, 100, 32, 97, 32, 124, 32, 98]⟩, 0) := by kernel_rfl
theorem aw_s2 : showE (tabL awLs) awS2 = (⟨#[97, 32, 97, 115, 32, 114, 111, 108, 101, 58, 114, 32, 124, 32, 98]⟩, 0) := by kernel_rfl
theorem aw_small : smallN awLs := by
  intro k hk
  have : k = 0 ∨ k = 1 ∨ k = 2 ∨ k = 3 ∨ k = 4 ∨ k = 5 := by omega
  rcases this with rfl | rfl | rfl | rfl | rfl | rfl <;> exact ⟨by decide, by decide⟩
theorem p_awake06 : PCalls Tryz.prog 9 [] (.bool true) := by
  have q0 := p_tload awLs aw_small aw_tab
  have q1 := p_nread (tabL awLs) awT1 (tab_few _) (by decide)
  have q2 := p_nread (tabL awLs) awT2 (tab_few _) (by decide)
  have q3 := p_nread (tabL awLs) awT3 (tab_few _) (by decide)
  have q4 := p_run (tabL awLs) awX (tab_few _) (by decide) (by decide)
  have hnm : ∀ a, (nameS (tabL awLs) a).size ≤ 1000 := fun a => Nat.le_trans (name_small (tab_may awLs) a) (by decide)
  have q5 := p_nshow (tabL awLs) awS1 hnm (by decide) (by decide)
  have q6 := p_nshow (tabL awLs) awS2 hnm (by decide) (by decide)
  rw [aw_r1] at q1
  rw [aw_r2] at q2
  rw [aw_r3] at q3
  rw [aw_x] at q4
  rw [aw_s1] at q5
  rw [aw_s2] at q6
  have e0 : vNames awLs = .agg [.lst .ro 0 [], .lst .ro 1 [.str ⟨#[107]⟩], .lst .ro 0 [], .lst .ro 2 [.str ⟨#[97]⟩, .str ⟨#[98]⟩], .lst .ro 0 [], .lst .ro 1 [.str ⟨#[114]⟩]] := rfl
  have e1 : vRead (awS1, 0, 0) = .tup [.lst .ro 3 [.str ⟨#[96, 1]⟩, .str ⟨#[0, 1, 96, 2]⟩, .str ⟨#[96, 1, 96, 2]⟩], .int .i64 0, .int .i64 0] := rfl
  have e2 : vRead (awS2, 0, 0) = .tup [.lst .ro 1 [.str ⟨#[96, 1, 160, 1, 96, 2]⟩], .int .i64 0, .int .i64 0] := rfl
  have e3 : vRead ([], 5, 2) = .tup [.lst .ro 0 [], .int .i64 5, .int .i64 2] := rfl
  have e4 : vRun ([], 1, 10) = .tup [.lst .ro 0 [], .int .i64 1, .int .i64 10] := rfl
  have e5 : vRead ([], 0, 2) = .tup [.lst .ro 0 [], .int .i64 0, .int .i64 2] := rfl
  have e6 : vTrs awX = .lst .ro 3 [.int .i64 1, .int .i64 3, .str ⟨#[97]⟩, .int .i64 1, .int .i64 3, .str ⟨#[122]⟩, .int .i64 2, .int .i64 0, .str ⟨#[]⟩] := rfl
  have q7 := nread_nil ⟨#[97]⟩
  rw [e0] at q0
  rw [e1] at q1
  rw [e2] at q2
  rw [e3] at q3
  rw [e6, e4] at q4
  rw [e5] at q7
  simp only [vShow, awS1, awS2, List.length_cons, List.length_nil, List.map_cons, List.map_nil, Nat.zero_add, Nat.reduceAdd] at q5 q6
  refine pcalls_of rfl rfl (ACalls.weak (acalls_of mixed J_law06_awake_ok (Nat.le_of_ble_eq_true rfl) ?_)); simp only [J_law06_awake, wk,eq_self,Nat.reduceEqDiff,Nat.reduceAdd,Nat.reduceLeDiff,↓reduceIte]
  refine PCalls.use (q0) ?_; simp only [wk,ne_eq,eq_self,Nat.reduceEqDiff,↓reduceIte]
  refine PCalls.use (q1) ?_; simp only [wk,eq_self,Nat.reduceEqDiff,↓reduceIte]
  refine PCalls.use (q5) ?_; simp only [wk,eq_self,Nat.reduceEqDiff,↓reduceIte]
  refine PCalls.use (q2) ?_; simp only [wk,eq_self,Nat.reduceEqDiff,↓reduceIte]
  refine PCalls.use (q6) ?_; simp only [wk,eq_self,Nat.reduceEqDiff,Nat.reduceAdd,Nat.reduceLeDiff,↓reduceIte]
  refine PCalls.use (q4) ?_; simp only [wk,eq_self,Nat.reduceEqDiff,↓reduceIte]
  refine PCalls.use (q3) ?_; simp only [wk,eq_self,Nat.reduceEqDiff,↓reduceIte]
  have c3 : (((3 : Nat) : Int) = 3) = True := eqTrue rfl
  have c1 : (((1 : Nat) : Int) = 1) = True := eqTrue rfl
  refine PCalls.use q7 ?_
  simp only [wk,eq_self,Nat.reduceEqDiff,↓reduceIte, c3, c1]
  try rfl
end Go.Proofs.YtedaffmkpljlnaaGreat

/- NormRuns, NormReads, NormShows, NormBack, over the abstract code. -/
-- fast
namespace Go.Proofs.YtedaffmkpljlnaaGreat
set_option linter.unusedSimpArgs false
set_option linter.unusedVariables false
open Go.RowKit Go.Lib Go.Shelf

theorem a_nshows (ls : Nat → List ByteArray) (s : List ByteArray) (hz : smallN ls) (hl : s.length ≤ 9223372036854775807) : ACalls Tryz.prog 5 [vNames ls, .lst .ro s.length (s.map .str)] [] (fun a _ => a = .bool true) := by
  refine acalls_of mixed J_law06_NormShows_ok (Nat.le_of_ble_eq_true rfl) ?_; simp only [J_law06_NormShows, vNames, vLs, wk,eq_self,Nat.reduceEqDiff,Nat.reduceAdd,↓reduceIte]
  refine PCalls.use (p_awake06) ?_; simp only [wk,eq_self,Nat.reduceEqDiff,Nat.reduceAdd,Nat.reduceLeDiff,↓reduceIte]
  by_cases h : tabsOk ls
  · have q := p_tables ls hz h
    simp only [vNames, vLs] at q
    refine PCalls.use (q) ?_; simp only [wk,implies_true,eq_self,Nat.reduceEqDiff,↓reduceIte]
    intro hlen
    refine W_loop (fun n fr h' => ∃ i : Nat, i ≤ s.length ∧ n = s.length - i ∧ (∀ w ∈ s.take i, w.size ≤ 100) ∧ fr = [(1, .lst .ro s.length (s.map .str)), (5, .frn (TabQ (tabL ls))), (6, .frn (RTabQ (tabL ls))), (28, .int .i64 s.length), (29, .int .i64 i)]) s.length ⟨0, by omega, by omega, by simp, rfl⟩ ?_
    rintro n fr h' ⟨i, hi, rfl, hall, rfl⟩
    simp only [J_law06_NormShows_j2, wk,eq_self,Nat.reduceEqDiff,↓reduceIte]
    refine ⟨fun hlt => ?_, fun hge => ?_⟩
    · have hil : i < s.length := by omega
      have hd : (s.map AV.str).drop (i : Int).toNat = .str s[i] :: (s.map AV.str).drop (i + 1) := by rw [Int.toNat_natCast, drop_str hil]
      refine ⟨⟨by omega, by omega⟩, ?_⟩
      simp only [wk,implies_true,eq_self,Nat.reduceEqDiff,↓reduceIte, hd]
      refine fun hbig => ⟨inR_of (by omega) (by omega), s.length - (i + 1), by omega, i + 1, by omega, rfl, ?_, rfl⟩
      intro w hw
      rw [List.take_succ_eq_append_getElem hil] at hw
      rcases List.mem_append.1 hw with hw | hw
      · exact hall w hw
      · simp at hw; subst hw; omega
    · rw [List.take_of_length_le (by omega)] at hall
      have hnm : ∀ a, (nameS (tabL ls) a).size ≤ 1000 := fun a => Nat.le_trans (name_small (tab_may ls) a) (by decide)
      have q2 := p_nshow (tabL ls) s hnm hl (fun x hx => by have := hall x hx; omega)
      have q3 := p_rshow (tabL ls) s hnm hl (fun x hx => by have := hall x hx; omega)
      have q4 := p_requal s s (by omega)
      simp only [vShow, decide_true] at q2 q3 q4
      generalize showE (tabL ls) s = r at *
      simp only [J_law06_NormShows_j1, wk,eq_self,Nat.reduceEqDiff,↓reduceIte]
      refine ⟨⟨by simp, by omega, by omega⟩, ?_⟩
      refine PCalls.use (q2) ?_; simp only [wk,eq_self,Nat.reduceEqDiff,↓reduceIte]
      refine PCalls.use (q3) ?_; simp only [wk,eq_self,Nat.reduceEqDiff,↓reduceIte]
      refine PCalls.use (q4) ?_; simp only [wk,eq_self,Nat.reduceEqDiff,↓reduceIte]
  · have q := p_tables_no ls hz h
    simp only [vNames, vLs] at q
    refine PCalls.use (q) ?_; simp only [wk,eq_self,Nat.reduceEqDiff,↓reduceIte]
end Go.Proofs.YtedaffmkpljlnaaGreat

/- Norm: opening names that came in; the laws' calls. -/
namespace Go.Proofs.YtedaffmkpljlnaaGreat
set_option linter.unusedSimpArgs false
set_option linter.unusedVariables false
open Go.RowKit Go.Lib Go.ChangeShapes Go.WideShapes Go.ChangeAt

theorem wide_arr {P : Program} {w : World} {r : Reach} {base : Nat} {t e : TypeId} {v : Value} {n : Nat} (ht : P.underlying t = some (.array n e)) (h : Value.okWide P w r base t v) : ∃ cs, v = .agg cs ∧ cs.size = P.cellsOf t := by
  simp only [Value.okWide, ht] at h
  obtain ⟨cs, h1, h2, _⟩ := h
  exact ⟨cs, h1, h2⟩
theorem arr6 {α : Type} {cs : Array α} (h : cs.size = 6) : ∃ f : Nat → α, cs = #[f 0, f 1, f 2, f 3, f 4, f 5] := by
  obtain ⟨l⟩ := cs
  match l, h with
  | [c0, c1, c2, c3, c4, c5], _ => exact ⟨fun k => if k = 0 then c0 else if k = 1 then c1 else if k = 2 then c2 else if k = 3 then c3 else if k = 4 then c4 else c5, rfl⟩
theorem pick6 {α : Type} [Inhabited α] {Q : Nat → α → Prop} (h : ∀ k, k < 6 → ∃ x, Q k x) : ∃ f : Nat → α, ∀ k, k < 6 → Q k (f k) := Deep.choose_lt h
theorem open_strsN {H : Type} {enc : TypeId × Value → H} {W : World} {fuel : Nat} {v : Value} {x : DataW H × List MemPlace} (h : DataW.trod enc Tryz.prog W 0 (fun _ => true) true fuel 22 [v] = some x) :
    ∃ l : List ByteArray, l.length ≤ 9223372036854775807 ∧ (∀ s ∈ l, s.size ≤ maxLen) ∧ Rep (gW W) v (vLs l) := by
  obtain ⟨a, cap, l, e, h3, _, h5, h6⟩ := open_strs Tryz.underlying22 Tryz.underlying9 (by kernel_rfl) h
  obtain ⟨l2, h7, h8⟩ := open_strsR Tryz.underlying22 Tryz.underlying9 (by kernel_rfl) h
  obtain ⟨a2, c2, e2, hr⟩ := rep_strs (gW_sim Tryz.prog W) h8
  rw [e] at e2
  injection e2 with e3 e4 e5
  subst e3
  have hll : l = l2 := by
    apply List.ext_getElem e4
    intro i h1 h2
    rcases h5 with h5 | ⟨b, off, ha, hc⟩
    · have := congrArg List.length h5
      simp at this
      subst this
      simp at h1
    · rcases hr with hr | ⟨b', off', ha', hc'⟩
      · have := congrArg List.length hr
        simp at this
        subst this
        simp at h2
      · rw [ha] at ha'
        injection ha' with ha'
        injection ha' with hb ho
        subst hb
        subst ho
        have q1 := hc i (.string l[i]) (by simp [h1])
        have q2 := hc' i (.string l2[i]) (by simp [h2])
        rw [q1] at q2
        injection q2 with q2
        injection q2
  subst hll
  exact ⟨l, h7, h6, h8⟩
theorem open_names {H : Type} {enc : TypeId × Value → H} {W : World} {base : Nat} {v : Value} {d : DataW H} {p : List MemPlace} (hv : Value.okWide Tryz.prog W .any base 24 v)
    (h : DataW.Trod enc Tryz.prog W 0 (fun _ => true) true 24 v d p) : ∃ ls : Nat → List ByteArray, smallN ls ∧ Rep (gW W) v (vNames ls) := by
  obtain ⟨cs, rfl, hsz⟩ := wide_arr Tryz.underlying24 hv
  rw [show Tryz.prog.cellsOf 24 = 6 by kernel_rfl] at hsz
  obtain ⟨f, rfl⟩ := arr6 hsz
  obtain ⟨fuel, hf⟩ := h
  obtain ⟨xs, m, _, _, _, hlen, hx⟩ := DataW.trod_array Tryz.underlying24 hf
  rw [show Tryz.prog.cellsOf 22 = 1 by kernel_rfl] at hx
  have hk : ∀ k, k < 6 → ∃ l : List ByteArray, l.length ≤ 9223372036854775807 ∧ (∀ s ∈ l, s.size ≤ maxLen) ∧ Rep (gW W) (f k) (vLs l) := by
    intro k hk
    have h1 := hx k hk
    rw [List.getElem?_eq_getElem (by omega)] at h1
    have h2 : ((Value.agg #[f 0, f 1, f 2, f 3, f 4, f 5]).cells.toList.drop (k * 1)).take 1 = [f k] := by
      have : k = 0 ∨ k = 1 ∨ k = 2 ∨ k = 3 ∨ k = 4 ∨ k = 5 := by omega
      rcases this with rfl | rfl | rfl | rfl | rfl | rfl <;> rfl
    rw [h2] at h1
    exact open_strsN h1
  obtain ⟨ls, hls⟩ := pick6 hk
  have one : ∀ k, k < 6 → (f k).oneCell' = true := fun k hk => by
    obtain ⟨a, c, e, _⟩ := rep_strs (gW_sim Tryz.prog W) (hls k hk).2.2
    rw [e]; rfl
  refine ⟨ls, fun k hk => ⟨(hls k hk).1, (hls k hk).2.1⟩, ?_⟩
  refine Rep.agg [f 0, f 1, f 2, f 3, f 4, f 5] _ ?_ ?_ ?_
  · intro u hu
    simp only [List.mem_cons, List.not_mem_nil, or_false] at hu
    rcases hu with rfl | rfl | rfl | rfl | rfl | rfl <;> exact one _ (by omega)
  · intro u hu
    simp only [List.mem_cons, List.not_mem_nil, or_false] at hu
    rcases hu with rfl | rfl | rfl | rfl | rfl | rfl <;> rfl
  · exact .cons (hls 0 (by omega)).2.2 (.cons (hls 1 (by omega)).2.2 (.cons (hls 2 (by omega)).2.2 (.cons (hls 3 (by omega)).2.2 (.cons (hls 4 (by omega)).2.2 (.cons (hls 5 (by omega)).2.2 .nil)))))
theorem chk_set06 : chkSh Tryz.prog 3 33 [.slice [.str]] = true := by kernel_rfl
theorem open_set06 {H : Type} {enc : TypeId × Value → H} {W : World} {base : Nat} {v : Value} {d : DataW H} {p : List MemPlace} (hv : Value.okWide Tryz.prog W .any base 33 v) (h : DataW.Trod enc Tryz.prog W 0 (fun _ => true) true 33 v d p) :
    ∃ l : List ByteArray, l.length ≤ 9223372036854775807 ∧ Rep (gW W) v (.lst .ro l.length (l.map .str)) := by
  obtain ⟨a, hr, hs⟩ := open_arg1 (n := 3) (sh := .slice [.str]) chk_set06 hv h (by rw [Tryz.underlying33]; intro fs hf; cases hf) (by rw [Tryz.underlying33]; intro k e hf; cases hf)
  obtain ⟨l, hl, rfl, _⟩ := sh_strs hs
  exact ⟨l, hl, hr⟩
theorem normShows_calls {H : Type} {enc : TypeId × Value → H} (W : World) {base0 base1 : Nat} {v0 v1 : Value} {d0 d1 : DataW H} {p0 p1 : List MemPlace} (hv0 : Value.okWide Tryz.prog W .any base0 24 v0) (h0 : DataW.Trod enc Tryz.prog W 0 (fun _ => true) true 24 v0 d0 p0) (hv1 : Value.okWide Tryz.prog W .any base1 33 v1) (h1 : DataW.Trod enc Tryz.prog W 0 (fun _ => true) true 33 v1 d1 p1) :
    Calls Tryz.prog 5 #[v0, v1] W fun e w' => e = .returned (.bool true) ∧ Below W.heap.size W w' := by
  obtain ⟨ls, hz, r0⟩ := open_names hv0 h0
  obtain ⟨s, hs, r1⟩ := open_set06 hv1 h1
  exact calls_true (vargs := [v0, v1]) (a_nshows ls s hz hs) (.cons r0 (.cons r1 .nil)) (fun a ha => by simp at ha; rcases ha with rfl | rfl <;> rfl)
end Go.Proofs.YtedaffmkpljlnaaGreat
