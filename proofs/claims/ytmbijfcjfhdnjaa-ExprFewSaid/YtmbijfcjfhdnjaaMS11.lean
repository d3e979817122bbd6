/- Texts of one proof, laid together: Kc Kd Ea Eb FnE Al Ke Kf Ec Ed. -/
import Derived.Test.YtmbijfcjfhdnjaaMS10
import Derived.Test.YtmbijfcjfhdnjaaProg
import Derived.Test.YtmbijfcjfhdnjaaMS9

/- The token at a place: the plain function; the reference's sign. -/
namespace Go.Proofs.Ytmbijfcjfhdnjaa
set_option linter.unusedSimpArgs false
set_option linter.unusedVariables false
open Go.RowKit Go.Lib

def ba (l : List UInt8) : ByteArray := ⟨l.toArray⟩
theorem ba_list (l : List UInt8) : (ba l).data.toList = l := by simp [ba]
theorem ba_len2 (l : List UInt8) : (ba l).size = l.length := by show l.toArray.size = _; simp
theorem ba_eta (s : ByteArray) : ba s.data.toList = s := by apply ByteArray.ext; apply Array.ext'; simp [ba]
theorem ba_inj {a b : List UInt8} : ba a = ba b ↔ a = b := ⟨fun h => by rw [← ba_list a, h, ba_list], fun h => by rw [h]⟩
theorem ext_ba (s : ByteArray) (a n : Nat) : s.extract a (a + n) = ba ((s.data.toList.drop a).take n) := by
  apply ByteArray.ext; apply Array.ext'
  simp [ba, List.extract_eq_take_drop]
/-- does a text stand at the beginning? -/
def begL (p : ByteArray) (l : List UInt8) : Bool := decide (l.take p.size = p.data.toList)
theorem begW_eq (s p : ByteArray) (a : Nat) (ha : a ≤ s.size) : begW s a p = begL p (s.data.toList.drop a) := by
  have hl := len_size s
  have hp := len_size p
  unfold begW begL
  rw [ext_ba]
  by_cases h : a + p.size ≤ s.size
  · simp only [h, decide_true, Bool.true_and]
    congr 1
    rw [← ba_eta p, ba_inj]
    simp [ba_eta]
  · simp only [h, decide_false, Bool.false_and]
    symm
    rw [decide_eq_false_iff_not]
    intro h2
    have := congrArg List.length h2
    rw [List.length_take, List.length_drop] at this
    omega
abbrev Sig := Int × ByteArray × Int × Nat
def atomL (k : Int) (skip : Nat) (l : List UInt8) : Option Sig := match nameL l with
  | none => none
  | some n => some (1, ba (l.take n), k, skip + n)
/-- what stands at the beginning of bytes, without a kind ahead -/
def plainL : List UInt8 → Option Sig
  | [] => none
  | b :: r =>
    if lttI b.toNat = true then (match nameL (b :: r) with
      | none => none
      | some n => if keyW (ba ((b :: r).take n)) = 0 then some (1, ba ((b :: r).take n), 3, n) else some (keyW (ba ((b :: r).take n)), ba [], 0, n))
    else if b.toNat = 68 then (if fineL r = true then some (1, ba [68], 0, 1) else none)
    else if b.toNat = 124 then some (4, ba [], 0, 1)
    else if b.toNat = 40 then some (6, ba [], 0, 1)
    else if b.toNat = 41 then some (7, ba [], 0, 1)
    else if digI b.toNat = true then (if numW (ba ((b :: r).take (stopN digI (b :: r)))) = true ∧ fineL ((b :: r).drop (stopN digI (b :: r))) = true then some (8, ba ((b :: r).take (stopN digI (b :: r))), 0, stopN digI (b :: r)) else none)
    else if sigB b.toNat = true then some (9, ba [b], 0, 1)
    else none
/-- which kind of atoms is said ahead; 0: none -/
def kindL (l : List UInt8) : Int := if begL (preW 1) l = true then 1 else if begL (preW 2) l = true then 2 else if begL (preW 4) l = true then 4 else if begL (preW 5) l = true then 5 else 0
/-- THE TOKEN at the beginning of bytes: its kind, name, kind of atom, length -/
def signL (l : List UInt8) : Option Sig := if kindL l = 0 then plainL l else atomL (kindL l) (preW (kindL l)).size (l.drop (preW (kindL l)).size)
/-- as the reference tells it -/
def signRV (s : ByteArray) (a : Nat) : AV := match signL (s.data.toList.drop a) with
  | some (k, w, o, n) => .tup [.agg [.int .i64 k, .str w, .int .i64 o, .int .i64 a], .int .i64 (a + n : Nat)]
  | none => .tup [.agg [.int .i64 (if kindL (s.data.toList.drop a) = 0 then 0 else 1), .str ⟨#[]⟩, .int .i64 (kindL (s.data.toList.drop a)), .int .i64 a], .int .i64 (-1)]
theorem free_signRV (s : ByteArray) (a : Nat) : free (signRV s a) = true := by unfold signRV; split <;> rfl
/-- behind a text that ends in ASCII a rune may begin -/
theorem atB_beg {s p : ByteArray} {a : Nat} (ha : a ≤ s.size) (h : begL p (s.data.toList.drop a) = true) (hp : 0 < p.size) (hc : ∀ b ∈ p.data.toList, b.toNat < 128) : a + p.size ≤ s.size ∧ atB s (a + p.size) := by
  have hl := len_size s
  have hpl := len_size p
  unfold begL at h
  have h2 := of_decide_eq_true h
  have h3 := congrArg List.length h2
  rw [List.length_take, List.length_drop] at h3
  refine ⟨by omega, .inr ⟨by omega, ?_⟩⟩
  have h4 : s.data.toList[a + p.size - 1]'(by omega) ∈ p.data.toList := by
    rw [← h2, List.mem_iff_getElem]
    refine ⟨p.size - 1, by rw [List.length_take, List.length_drop]; omega, ?_⟩
    rw [List.getElem_take, List.getElem_drop]
    congr 1; omega
  exact hc _ h4
def kinds : List Int := [1, 2, 4, 5]
theorem kind_at {l : List UInt8} {i : Nat} (hi : i < kinds.length) (hall : ∀ (j : Nat) (hj : j < kinds.length), j < i → begL (preW (kinds[j])) l = false) (h : begL (preW (kinds[i])) l = true) : kindL l = kinds[i] := by
  unfold kinds at hi hall h ⊢
  unfold kindL
  rcases (show i = 0 ∨ i = 1 ∨ i = 2 ∨ i = 3 by simp at hi; omega) with rfl | rfl | rfl | rfl
  · rw [if_pos (show begL (preW 1) l = true from h)]; rfl
  · rw [if_neg (by rw [show begL (preW 1) l = false from hall 0 (by simp) (by omega)]; simp), if_pos (show begL (preW 2) l = true from h)]; rfl
  · rw [if_neg (by rw [show begL (preW 1) l = false from hall 0 (by simp) (by omega)]; simp), if_neg (by rw [show begL (preW 2) l = false from hall 1 (by simp) (by omega)]; simp), if_pos (show begL (preW 4) l = true from h)]; rfl
  · rw [if_neg (by rw [show begL (preW 1) l = false from hall 0 (by simp) (by omega)]; simp), if_neg (by rw [show begL (preW 2) l = false from hall 1 (by simp) (by omega)]; simp), if_neg (by rw [show begL (preW 4) l = false from hall 2 (by simp) (by omega)]; simp), if_pos (show begL (preW 5) l = true from h)]; rfl
theorem kind_no {l : List UInt8} (hall : ∀ (j : Nat) (hj : j < kinds.length), begL (preW (kinds[j])) l = false) : kindL l = 0 := by
  unfold kindL
  rw [if_neg (by rw [show begL (preW 1) l = false from hall 0 (by simp [kinds])]; simp), if_neg (by rw [show begL (preW 2) l = false from hall 1 (by simp [kinds])]; simp), if_neg (by rw [show begL (preW 4) l = false from hall 2 (by simp [kinds])]; simp), if_neg (by rw [show begL (preW 5) l = false from hall 3 (by simp [kinds])]; simp)]
theorem pre_ok {k : Int} (h : k ∈ kinds) : 0 < (preW k).size ∧ (preW k).size ≤ 6 ∧ ∀ b ∈ (preW k).data.toList, b.toNat < 128 := by
  unfold kinds at h
  simp only [List.mem_cons, List.not_mem_nil, or_false] at h
  rcases h with rfl | rfl | rfl | rfl <;> exact ⟨by decide, by decide, by decide⟩
theorem kinds_nz {k : Int} (h : k ∈ kinds) : k ≠ 0 := by
  unfold kinds at h
  simp only [List.mem_cons, List.not_mem_nil, or_false] at h
  omega
set_option maxRecDepth 100000 in
set_option maxHeartbeats 4000000 in
theorem p_rsign (s : ByteArray) (a : Nat) (hs : s.size ≤ 1000000) (ha : a < s.size) (hb : atB s a) :
    PCalls Try.prog 48 [.str s, .int .i64 a] (signRV s a) := by
  have hl := len_size s
  refine pcalls_of rfl (free_signRV s a) (acalls_of mixed J_ref04_sign_ok (Nat.le_of_ble_eq_true rfl) ?_); simp only [J_ref04_sign, wk,if_true,if_false,forall_const,implies_true,ne_eq,eq_self,Nat.reduceEqDiff,Nat.reduceAdd,Nat.reduceMul,Nat.reduceSub,Nat.reduceLeDiff,Nat.reduceLT,Int.reduceEq,Int.reduceLT,Int.reduceLE,Int.reduceAdd,Int.reduceSub,Int.reduceMul,Int.reduceNeg,Int.reduceNe,reduceCtorEq,Int.reduceToNat,↓reduceIte]
  refine W_loop (fun m fr h' => ∃ i : Nat, i ≤ 4 ∧ m = 4 - i ∧ h' = [some (false, [.int .i64 0, .str ⟨#[]⟩, .int .i64 0, .int .i64 0]), some (false, [.int .i64 0, .str ⟨#[]⟩, .int .i64 0, .int .i64 a])] ∧ fr = [(0, .str s), (1, .int .i64 a), (4, .ptr 0 0), (6, .ptr 1 0), (7, .lst (.own 3) 4 [.int .i64 1, .int .i64 2, .int .i64 4, .int .i64 5]), (8, .int .i64 i)] ∧ ∀ (j : Nat) (hj : j < kinds.length), j < i → begL (preW (kinds[j])) (s.data.toList.drop a) = false) 4 ⟨0, by omega, by omega, rfl, rfl, fun j _ h => by omega⟩ ?_
  rintro m fr h' ⟨i, hi, rfl, rfl, rfl, hall⟩
  simp only [J_ref04_sign_j8, wk,if_true,if_false,forall_const,implies_true,ne_eq,eq_self,Nat.reduceEqDiff,Nat.reduceAdd,Nat.reduceMul,Nat.reduceSub,Nat.reduceLeDiff,Nat.reduceLT,Int.reduceEq,Int.reduceLT,Int.reduceLE,Int.reduceAdd,Int.reduceSub,Int.reduceMul,Int.reduceNeg,Int.reduceNe,reduceCtorEq,Int.reduceToNat,↓reduceIte]
  have hkl : kinds.length = 4 := rfl
  refine ⟨fun hlt => ⟨⟨by omega, by omega⟩, ?_⟩, fun hge => ?_⟩
  · have hi4 : i < kinds.length := by omega
    have hd : List.drop (i : Int).toNat [AV.int .i64 1, .int .i64 2, .int .i64 4, .int .i64 5] = .int .i64 kinds[i] :: (kinds.drop (i + 1)).map (AV.int .i64) := by
      rw [Int.toNat_natCast, show [AV.int .i64 1, .int .i64 2, .int .i64 4, .int .i64 5] = kinds.map (AV.int .i64) from rfl, ← List.map_drop, List.drop_eq_getElem_cons hi4]
      rfl
    obtain ⟨g1, g2, g3⟩ := pre_ok (List.getElem_mem hi4)
    simp only [hd, wk,if_true,if_false,forall_const,implies_true,ne_eq,eq_self,Nat.reduceEqDiff,Nat.reduceAdd,Nat.reduceMul,Nat.reduceSub,Nat.reduceLeDiff,Nat.reduceLT,Int.reduceEq,Int.reduceLT,Int.reduceLE,Int.reduceAdd,Int.reduceSub,Int.reduceMul,Int.reduceNeg,Int.reduceNe,reduceCtorEq,Int.reduceToNat,↓reduceIte]
    refine PCalls.use (p_prefix kinds[i]) ?_; simp only [wk,if_true,if_false,forall_const,implies_true,ne_eq,eq_self,Nat.reduceEqDiff,Nat.reduceAdd,Nat.reduceMul,Nat.reduceSub,Nat.reduceLeDiff,Nat.reduceLT,Int.reduceEq,Int.reduceLT,Int.reduceLE,Int.reduceAdd,Int.reduceSub,Int.reduceMul,Int.reduceNeg,Int.reduceNe,reduceCtorEq,Int.reduceToNat,↓reduceIte]
    have hbg := p_begins s (preW kinds[i]) a hs (by omega) (by omega)
    rw [begW_eq s _ a (by omega)] at hbg
    refine PCalls.use (hbg) ?_; simp only [wk,if_true,if_false,forall_const,implies_true,ne_eq,eq_self,Nat.reduceEqDiff,Nat.reduceAdd,Nat.reduceMul,Nat.reduceSub,Nat.reduceLeDiff,Nat.reduceLT,Int.reduceEq,Int.reduceLT,Int.reduceLE,Int.reduceAdd,Int.reduceSub,Int.reduceMul,Int.reduceNeg,Int.reduceNe,reduceCtorEq,Int.reduceToNat,↓reduceIte]
    refine ⟨fun e => ?_, fun e => ?_⟩
    · obtain ⟨b1, b2⟩ := atB_beg (by omega) e g1 g3
      have hkk := kind_at hi4 hall e
      have hnz := kinds_nz (List.getElem_mem hi4)
      have qn := p_rname s (a + (preW kinds[i]).size) hs b1 b2
      have hsg : signL (s.data.toList.drop a) = atomL kinds[i] (preW kinds[i]).size (s.data.toList.drop (a + (preW kinds[i]).size)) := by
        unfold signL
        rw [hkk, if_neg hnz, List.drop_drop]
      rw [show (a : Int) + (preW kinds[i]).size = ((a + (preW kinds[i]).size : Nat) : Int) by omega]
      refine ⟨inR_of (by omega) (by omega), ?_⟩
      unfold rnameV at qn
      unfold signRV
      rw [hsg]
      unfold atomL
      cases hn : nameL (s.data.toList.drop (a + (preW kinds[i]).size)) with
      | none =>
        rw [hn] at qn
        refine PCalls.use (qn) ?_; simp only [wk,if_true,if_false,forall_const,implies_true,ne_eq,eq_self,Nat.reduceEqDiff,Nat.reduceAdd,Nat.reduceMul,Nat.reduceSub,Nat.reduceLeDiff,Nat.reduceLT,Int.reduceEq,Int.reduceLT,Int.reduceLE,Int.reduceAdd,Int.reduceSub,Int.reduceMul,Int.reduceNeg,Int.reduceNe,reduceCtorEq,Int.reduceToNat,↓reduceIte]
        refine ⟨⟨by omega, by omega⟩, ?_⟩
        simp only [hd, hkk, hnz, valL, if_false, wk,if_true,if_false,forall_const,implies_true,ne_eq,eq_self,Nat.reduceEqDiff,Nat.reduceAdd,Nat.reduceMul,Nat.reduceSub,Nat.reduceLeDiff,Nat.reduceLT,Int.reduceEq,Int.reduceLT,Int.reduceLE,Int.reduceAdd,Int.reduceSub,Int.reduceMul,Int.reduceNeg,Int.reduceNe,reduceCtorEq,Int.reduceToNat,↓reduceIte]
      | some n =>
        rw [hn] at qn
        refine PCalls.use (qn) ?_; simp only [wk,if_true,if_false,forall_const,implies_true,ne_eq,eq_self,Nat.reduceEqDiff,Nat.reduceAdd,Nat.reduceMul,Nat.reduceSub,Nat.reduceLeDiff,Nat.reduceLT,Int.reduceEq,Int.reduceLT,Int.reduceLE,Int.reduceAdd,Int.reduceSub,Int.reduceMul,Int.reduceNeg,Int.reduceNe,reduceCtorEq,Int.reduceToNat,↓reduceIte]
        refine ⟨⟨by omega, by omega⟩, ?_⟩
        simp only [hd, hkk, hnz, valL, if_false, ext_ba, wk,if_true,if_false,forall_const,implies_true,ne_eq,eq_self,Nat.reduceEqDiff,Nat.reduceAdd,Nat.reduceMul,Nat.reduceSub,Nat.reduceLeDiff,Nat.reduceLT,Int.reduceEq,Int.reduceLT,Int.reduceLE,Int.reduceAdd,Int.reduceSub,Int.reduceMul,Int.reduceNeg,Int.reduceNe,reduceCtorEq,Int.reduceToNat,↓reduceIte]
        rw [Nat.add_assoc]
    · refine ⟨inR_of (by omega) (by omega), 4 - (i + 1), by omega, i + 1, by omega, rfl, by simp, fun j hj hji => ?_⟩
      rcases Nat.lt_or_ge j i with h1 | h1
      · exact hall j hj h1
      · have h2 : j = i := by omega
        subst h2; exact e
  · have hk0 : kindL (s.data.toList.drop a) = 0 := kind_no (fun j hj => hall j hj (by omega))
    have hsg : signL (s.data.toList.drop a) = plainL (s.data.toList.drop a) := by unfold signL; rw [if_pos hk0]
    have hal : a < s.data.toList.length := by omega
    have hd : s.data.toList.drop a = s.data.toList[a] :: s.data.toList.drop (a + 1) := List.drop_eq_getElem_cons hal
    obtain ⟨b, hb1⟩ : ∃ b, b = s.data.toList[a] := ⟨_, rfl⟩
    rw [← hb1] at hd
    have hr1 : lttI (runeR s a) = lttI b.toNat := by rw [rune_fre hi_ltt hal, hb1]
    have hr2 : digI (runeR s a) = digI b.toNat := by rw [rune_fre hi_dig hal, hb1]
    have hr3 : ∀ k : Int, k < 128 → (runeR s a = k ↔ (b.toNat : Int) = k) := fun k hk => by
      have hq : ∀ r : Int, 128 ≤ r → decide (r = k) = decide ((128 : Int) = k) := fun r hr => by
        rw [decide_eq_decide]; omega
      have := rune_fre (q := fun r => decide (r = k)) hq hal
      rw [← hb1] at this
      simpa using this
    have hn1 : b.toNat < 128 → runeN s a = a + 1 := fun h => by
      unfold runeN
      rw [if_pos ha, dec_lt hal (by rw [← hb1]; exact h)]
    unfold signRV
    rw [hsg, hk0, hd]
    have qlet := p_rletter (runeR s a)
    have qdig := p_rdigit (runeR s a)
    rw [hr1] at qlet
    rw [hr2] at qdig
    have n68 := hr3 68 (by omega)
    have n124 := hr3 124 (by omega)
    have n40 := hr3 40 (by omega)
    have n41 := hr3 41 (by omega)
    simp only [J_ref04_sign_j7, wk,if_true,if_false,forall_const,implies_true,ne_eq,eq_self,Nat.reduceEqDiff,Nat.reduceAdd,Nat.reduceMul,Nat.reduceSub,Nat.reduceLeDiff,Nat.reduceLT,Int.reduceEq,Int.reduceLT,Int.reduceLE,Int.reduceAdd,Int.reduceSub,Int.reduceMul,Int.reduceNeg,Int.reduceNe,reduceCtorEq,Int.reduceToNat,↓reduceIte]
    refine PCalls.use (p_rune s a hs (by omega) hb) ?_; simp only [wk,if_true,if_false,forall_const,implies_true,ne_eq,eq_self,Nat.reduceEqDiff,Nat.reduceAdd,Nat.reduceMul,Nat.reduceSub,Nat.reduceLeDiff,Nat.reduceLT,Int.reduceEq,Int.reduceLT,Int.reduceLE,Int.reduceAdd,Int.reduceSub,Int.reduceMul,Int.reduceNeg,Int.reduceNe,reduceCtorEq,Int.reduceToNat,↓reduceIte]
    by_cases hlet : lttI b.toNat = true
    · rw [hlet] at qlet
      refine PCalls.use (qlet) ?_; simp only [wk,if_true,if_false,forall_const,implies_true,ne_eq,eq_self,Nat.reduceEqDiff,Nat.reduceAdd,Nat.reduceMul,Nat.reduceSub,Nat.reduceLeDiff,Nat.reduceLT,Int.reduceEq,Int.reduceLT,Int.reduceLE,Int.reduceAdd,Int.reduceSub,Int.reduceMul,Int.reduceNeg,Int.reduceNe,reduceCtorEq,Int.reduceToNat,↓reduceIte]
      have qn := p_rname s a hs (by omega) hb
      unfold rnameV at qn
      rw [hd] at qn
      simp only [plainL, hlet, if_true]
      cases hn : nameL (b :: s.data.toList.drop (a + 1)) with
      | none =>
        rw [hn] at qn
        refine PCalls.use (qn) ?_; simp only [wk,if_true,if_false,forall_const,implies_true,ne_eq,eq_self,Nat.reduceEqDiff,Nat.reduceAdd,Nat.reduceMul,Nat.reduceSub,Nat.reduceLeDiff,Nat.reduceLT,Int.reduceEq,Int.reduceLT,Int.reduceLE,Int.reduceAdd,Int.reduceSub,Int.reduceMul,Int.reduceNeg,Int.reduceNe,reduceCtorEq,Int.reduceToNat,↓reduceIte]
        simp only [valL, wk,if_true,if_false,forall_const,implies_true,ne_eq,eq_self,Nat.reduceEqDiff,Nat.reduceAdd,Nat.reduceMul,Nat.reduceSub,Nat.reduceLeDiff,Nat.reduceLT,Int.reduceEq,Int.reduceLT,Int.reduceLE,Int.reduceAdd,Int.reduceSub,Int.reduceMul,Int.reduceNeg,Int.reduceNe,reduceCtorEq,Int.reduceToNat,↓reduceIte]
      | some n =>
        rw [hn] at qn
        refine PCalls.use (qn) ?_; simp only [wk,if_true,if_false,forall_const,implies_true,ne_eq,eq_self,Nat.reduceEqDiff,Nat.reduceAdd,Nat.reduceMul,Nat.reduceSub,Nat.reduceLeDiff,Nat.reduceLT,Int.reduceEq,Int.reduceLT,Int.reduceLE,Int.reduceAdd,Int.reduceSub,Int.reduceMul,Int.reduceNeg,Int.reduceNe,reduceCtorEq,Int.reduceToNat,↓reduceIte]
        have hw : s.extract a (a + n) = ba ((b :: s.data.toList.drop (a + 1)).take n) := by rw [ext_ba, hd]
        rw [hw]
        refine ⟨fun h => by omega, fun _ => ?_⟩
        refine PCalls.use (p_rkeyword (ba ((b :: s.data.toList.drop (a + 1)).take n))) ?_; simp only [wk,if_true,if_false,forall_const,implies_true,ne_eq,eq_self,Nat.reduceEqDiff,Nat.reduceAdd,Nat.reduceMul,Nat.reduceSub,Nat.reduceLeDiff,Nat.reduceLT,Int.reduceEq,Int.reduceLT,Int.reduceLE,Int.reduceAdd,Int.reduceSub,Int.reduceMul,Int.reduceNeg,Int.reduceNe,reduceCtorEq,Int.reduceToNat,↓reduceIte]
        refine ⟨fun h0 => ?_, fun h0 => ?_⟩
        · simp only [h0, J_ref04_sign_j6, valL, if_true, if_false, wk,if_true,if_false,forall_const,implies_true,ne_eq,eq_self,Nat.reduceEqDiff,Nat.reduceAdd,Nat.reduceMul,Nat.reduceSub,Nat.reduceLeDiff,Nat.reduceLT,Int.reduceEq,Int.reduceLT,Int.reduceLE,Int.reduceAdd,Int.reduceSub,Int.reduceMul,Int.reduceNeg,Int.reduceNe,reduceCtorEq,Int.reduceToNat,↓reduceIte]
          try rfl
        · simp only [h0, J_ref04_sign_j6, valL, if_true, if_false, wk,if_true,if_false,forall_const,implies_true,ne_eq,eq_self,Nat.reduceEqDiff,Nat.reduceAdd,Nat.reduceMul,Nat.reduceSub,Nat.reduceLeDiff,Nat.reduceLT,Int.reduceEq,Int.reduceLT,Int.reduceLE,Int.reduceAdd,Int.reduceSub,Int.reduceMul,Int.reduceNeg,Int.reduceNe,reduceCtorEq,Int.reduceToNat,↓reduceIte]
          try rfl
    · rw [show lttI b.toNat = false by simpa using hlet] at qlet
      refine PCalls.use (qlet) ?_; simp only [wk,if_true,if_false,forall_const,implies_true,ne_eq,eq_self,Nat.reduceEqDiff,Nat.reduceAdd,Nat.reduceMul,Nat.reduceSub,Nat.reduceLeDiff,Nat.reduceLT,Int.reduceEq,Int.reduceLT,Int.reduceLE,Int.reduceAdd,Int.reduceSub,Int.reduceMul,Int.reduceNeg,Int.reduceNe,reduceCtorEq,Int.reduceToNat,↓reduceIte]
      by_cases h68 : b.toNat = 68
      · have e : runeR s a = 68 := n68.2 (by omega)
        simp only [e, plainL, show ((68 : Nat) : Int) = 68 from rfl, h68, show lttI 68 = false from rfl, Bool.false_eq_true, if_true, if_false, wk,if_true,if_false,forall_const,implies_true,ne_eq,eq_self,Nat.reduceEqDiff,Nat.reduceAdd,Nat.reduceMul,Nat.reduceSub,Nat.reduceLeDiff,Nat.reduceLT,Int.reduceEq,Int.reduceLT,Int.reduceLE,Int.reduceAdd,Int.reduceSub,Int.reduceMul,Int.reduceNeg,Int.reduceNe,reduceCtorEq,Int.reduceToNat,↓reduceIte]
        rw [hn1 (by omega)]
        refine PCalls.use (p_fine s (a + 1) hs (by omega) (.inr ⟨by omega, by simp only [Nat.add_sub_cancel, ← hb1]; omega⟩)) ?_; simp only [wk,if_true,if_false,forall_const,implies_true,ne_eq,eq_self,Nat.reduceEqDiff,Nat.reduceAdd,Nat.reduceMul,Nat.reduceSub,Nat.reduceLeDiff,Nat.reduceLT,Int.reduceEq,Int.reduceLT,Int.reduceLE,Int.reduceAdd,Int.reduceSub,Int.reduceMul,Int.reduceNeg,Int.reduceNe,reduceCtorEq,Int.reduceToNat,↓reduceIte]
        refine ⟨fun h0 => ?_, fun h0 => ?_⟩
        · simp only [h0, valL, Bool.false_eq_true, if_true, if_false, wk,if_true,if_false,forall_const,implies_true,ne_eq,eq_self,Nat.reduceEqDiff,Nat.reduceAdd,Nat.reduceMul,Nat.reduceSub,Nat.reduceLeDiff,Nat.reduceLT,Int.reduceEq,Int.reduceLT,Int.reduceLE,Int.reduceAdd,Int.reduceSub,Int.reduceMul,Int.reduceNeg,Int.reduceNe,reduceCtorEq,Int.reduceToNat,↓reduceIte]
          try rfl
        · simp only [h0, valL, if_true, if_false, wk,if_true,if_false,forall_const,implies_true,ne_eq,eq_self,Nat.reduceEqDiff,Nat.reduceAdd,Nat.reduceMul,Nat.reduceSub,Nat.reduceLeDiff,Nat.reduceLT,Int.reduceEq,Int.reduceLT,Int.reduceLE,Int.reduceAdd,Int.reduceSub,Int.reduceMul,Int.reduceNeg,Int.reduceNe,reduceCtorEq,Int.reduceToNat,↓reduceIte]
          try rfl
      · by_cases h124 : b.toNat = 124
        · have e : runeR s a = 124 := n124.2 (by omega)
          simp only [e, plainL, show ((124 : Nat) : Int) = 124 from rfl, h124, show lttI 124 = false from rfl, Bool.false_eq_true, if_true, if_false, J_ref04_sign_j5, J_ref04_sign_j4, valL, wk,if_true,if_false,forall_const,implies_true,ne_eq,eq_self,Nat.reduceEqDiff,Nat.reduceAdd,Nat.reduceMul,Nat.reduceSub,Nat.reduceLeDiff,Nat.reduceLT,Int.reduceEq,Int.reduceLT,Int.reduceLE,Int.reduceAdd,Int.reduceSub,Int.reduceMul,Int.reduceNeg,Int.reduceNe,reduceCtorEq,Int.reduceToNat,↓reduceIte]
          rw [hn1 (by omega)]
          rfl
        · by_cases h40 : b.toNat = 40
          · have e : runeR s a = 40 := n40.2 (by omega)
            simp only [e, plainL, show ((40 : Nat) : Int) = 40 from rfl, h40, show lttI 40 = false from rfl, Bool.false_eq_true, if_true, if_false, J_ref04_sign_j5, J_ref04_sign_j4, valL, wk,if_true,if_false,forall_const,implies_true,ne_eq,eq_self,Nat.reduceEqDiff,Nat.reduceAdd,Nat.reduceMul,Nat.reduceSub,Nat.reduceLeDiff,Nat.reduceLT,Int.reduceEq,Int.reduceLT,Int.reduceLE,Int.reduceAdd,Int.reduceSub,Int.reduceMul,Int.reduceNeg,Int.reduceNe,reduceCtorEq,Int.reduceToNat,↓reduceIte]
            rw [hn1 (by omega)]
            rfl
          · by_cases h41 : b.toNat = 41
            · have e : runeR s a = 41 := n41.2 (by omega)
              simp only [e, plainL, show ((41 : Nat) : Int) = 41 from rfl, h41, show lttI 41 = false from rfl, Bool.false_eq_true, if_true, if_false, J_ref04_sign_j5, J_ref04_sign_j4, valL, wk,if_true,if_false,forall_const,implies_true,ne_eq,eq_self,Nat.reduceEqDiff,Nat.reduceAdd,Nat.reduceMul,Nat.reduceSub,Nat.reduceLeDiff,Nat.reduceLT,Int.reduceEq,Int.reduceLT,Int.reduceLE,Int.reduceAdd,Int.reduceSub,Int.reduceMul,Int.reduceNeg,Int.reduceNe,reduceCtorEq,Int.reduceToNat,↓reduceIte]
              rw [hn1 (by omega)]
              rfl
            · have e1 : (runeR s a = 68) = False := by rw [n68]; simp; omega
              have e2 : (runeR s a = 124) = False := by rw [n124]; simp; omega
              have e3 : (runeR s a = 40) = False := by rw [n40]; simp; omega
              have e4 : (runeR s a = 41) = False := by rw [n41]; simp; omega
              simp only [e1, e2, e3, e4, not_false_eq_true, true_implies, false_implies, wk,if_true,if_false,forall_const,implies_true,ne_eq,eq_self,Nat.reduceEqDiff,Nat.reduceAdd,Nat.reduceMul,Nat.reduceSub,Nat.reduceLeDiff,Nat.reduceLT,Int.reduceEq,Int.reduceLT,Int.reduceLE,Int.reduceAdd,Int.reduceSub,Int.reduceMul,Int.reduceNeg,Int.reduceNe,reduceCtorEq,Int.reduceToNat,↓reduceIte]
              refine PCalls.use (qdig) ?_; simp only [wk,if_true,if_false,forall_const,implies_true,ne_eq,eq_self,Nat.reduceEqDiff,Nat.reduceAdd,Nat.reduceMul,Nat.reduceSub,Nat.reduceLeDiff,Nat.reduceLT,Int.reduceEq,Int.reduceLT,Int.reduceLE,Int.reduceAdd,Int.reduceSub,Int.reduceMul,Int.reduceNeg,Int.reduceNe,reduceCtorEq,Int.reduceToNat,↓reduceIte]
              simp only [plainL, show lttI b.toNat = false by simpa using hlet, h68, h124, h40, h41, Bool.false_eq_true, if_false]
              refine ⟨fun hdg => ?_, fun hdg => ?_⟩
              · rw [if_pos hdg]
                obtain ⟨L, hL⟩ : ∃ L, L = b :: s.data.toList.drop (a + 1) := ⟨_, rfl⟩
                rw [← hL] at hd ⊢
                have hLl : L.length = s.size - a := by rw [← hd, List.length_drop]; omega
                have hLg : ∀ (n : Nat) (h : n < L.length), byteAt s (a + n) = (L[n]).toNat := fun n h => by
                  rw [byte_at (show a + n < s.data.toList.length by omega)]
                  simp only [← hd, List.getElem_drop]
                have hsl := stopN_le digI L
                refine W_loop (fun m fr h' => ∃ n : Nat, n ≤ stopN digI L ∧ m = L.length - n ∧ h' = [some (false, [.int .i64 0, .str ⟨#[]⟩, .int .i64 0, .int .i64 0]), some (false, [.int .i64 0, .str ⟨#[]⟩, .int .i64 0, .int .i64 a])] ∧ fr = [(0, .str s), (1, .int .i64 a), (4, .ptr 0 0), (6, .ptr 1 0), (16, .int .i64 (a + n : Nat))]) L.length ⟨0, by omega, by omega, rfl, rfl⟩ ?_
                rintro m fr h' ⟨n, hn, rfl, rfl, rfl⟩
                simp only [J_ref04_sign_j3, wk,if_true,if_false,forall_const,implies_true,ne_eq,eq_self,Nat.reduceEqDiff,Nat.reduceAdd,Nat.reduceMul,Nat.reduceSub,Nat.reduceLeDiff,Nat.reduceLT,Int.reduceEq,Int.reduceLT,Int.reduceLE,Int.reduceAdd,Int.reduceSub,Int.reduceMul,Int.reduceNeg,Int.reduceNe,reduceCtorEq,Int.reduceToNat,↓reduceIte]
                have hj : stopN digI L = n → ∀ x, W Try.prog J_ref04_sign_j2 [(0, .str s), (1, .int .i64 a), (4, .ptr 0 0), (6, .ptr 1 0), (16, .int .i64 (a + n : Nat)), (124, x)] [some (false, [.int .i64 0, .str ⟨#[]⟩, .int .i64 0, .int .i64 0]), some (false, [.int .i64 0, .str ⟨#[]⟩, .int .i64 0, .int .i64 a])] (kseq Try.prog J_ref04_sign_j1 (kret [.c 4 (some 4), .t 5] (fun v _ => v = (match (if numW (ba (L.take (stopN digI L))) = true ∧ fineL (L.drop (stopN digI L)) = true then some (8, ba (L.take (stopN digI L)), 0, stopN digI L) else none : Option Sig) with
                    | some (k, w, o, n) => .tup [.agg [.int .i64 k, .str w, .int .i64 o, .int .i64 a], .int .i64 (a + n : Nat)]
                    | none => .tup [.agg [.int .i64 (if (0 : Int) = 0 then 0 else 1), .str ⟨#[]⟩, .int .i64 0, .int .i64 a], .int .i64 (-1)])))) := by
                  intro hst x
                  simp only [J_ref04_sign_j2, Int.toNat_natCast, ext_ba, hd, hst, wk,if_true,if_false,forall_const,implies_true,ne_eq,eq_self,Nat.reduceEqDiff,Nat.reduceAdd,Nat.reduceMul,Nat.reduceSub,Nat.reduceLeDiff,Nat.reduceLT,Int.reduceEq,Int.reduceLT,Int.reduceLE,Int.reduceAdd,Int.reduceSub,Int.reduceMul,Int.reduceNeg,Int.reduceNe,reduceCtorEq,Int.reduceToNat,↓reduceIte]
                  have qn := p_rnumber (ba (L.take n)) (by rw [ba_len2, List.length_take]; omega)
                  have hbn := atB_stop lo_dig (show a ≤ s.size by omega) hb n (by rw [hd]; omega)
                  have qf := p_fine s (a + n) hs (by omega) hbn
                  rw [← List.drop_drop, hd] at qf
                  refine ⟨⟨by omega, by omega, by omega⟩, ?_⟩
                  refine PCalls.use (qn) ?_; simp only [wk,if_true,if_false,forall_const,implies_true,ne_eq,eq_self,Nat.reduceEqDiff,Nat.reduceAdd,Nat.reduceMul,Nat.reduceSub,Nat.reduceLeDiff,Nat.reduceLT,Int.reduceEq,Int.reduceLT,Int.reduceLE,Int.reduceAdd,Int.reduceSub,Int.reduceMul,Int.reduceNeg,Int.reduceNe,reduceCtorEq,Int.reduceToNat,↓reduceIte]
                  refine ⟨fun h1 => ?_, fun h1 => ?_⟩
                  · refine PCalls.use (qf) ?_; simp only [wk,if_true,if_false,forall_const,implies_true,ne_eq,eq_self,Nat.reduceEqDiff,Nat.reduceAdd,Nat.reduceMul,Nat.reduceSub,Nat.reduceLeDiff,Nat.reduceLT,Int.reduceEq,Int.reduceLT,Int.reduceLE,Int.reduceAdd,Int.reduceSub,Int.reduceMul,Int.reduceNeg,Int.reduceNe,reduceCtorEq,Int.reduceToNat,↓reduceIte]
                    refine ⟨fun h2 => ?_, fun h2 => ?_⟩
                    · simp only [h1, h2, valL, Bool.false_eq_true, and_false, if_false, if_true, wk,if_true,if_false,forall_const,implies_true,ne_eq,eq_self,Nat.reduceEqDiff,Nat.reduceAdd,Nat.reduceMul,Nat.reduceSub,Nat.reduceLeDiff,Nat.reduceLT,Int.reduceEq,Int.reduceLT,Int.reduceLE,Int.reduceAdd,Int.reduceSub,Int.reduceMul,Int.reduceNeg,Int.reduceNe,reduceCtorEq,Int.reduceToNat,↓reduceIte]
                      try rfl
                    · simp only [h1, h2, valL, Bool.false_eq_true, and_self, if_false, if_true, Int.toNat_natCast, ext_ba, hd, wk,if_true,if_false,forall_const,implies_true,ne_eq,eq_self,Nat.reduceEqDiff,Nat.reduceAdd,Nat.reduceMul,Nat.reduceSub,Nat.reduceLeDiff,Nat.reduceLT,Int.reduceEq,Int.reduceLT,Int.reduceLE,Int.reduceAdd,Int.reduceSub,Int.reduceMul,Int.reduceNeg,Int.reduceNe,reduceCtorEq,Int.reduceToNat,↓reduceIte]
                      first
                        | rfl
                        | exact ⟨⟨by omega, by omega, by omega⟩, rfl⟩
                        | exact ⟨by omega, by omega, by omega⟩
                  · simp only [h1, valL, Bool.false_eq_true, false_and, if_false, if_true, wk,if_true,if_false,forall_const,implies_true,ne_eq,eq_self,Nat.reduceEqDiff,Nat.reduceAdd,Nat.reduceMul,Nat.reduceSub,Nat.reduceLeDiff,Nat.reduceLT,Int.reduceEq,Int.reduceLT,Int.reduceLE,Int.reduceAdd,Int.reduceSub,Int.reduceMul,Int.reduceNeg,Int.reduceNe,reduceCtorEq,Int.reduceToNat,↓reduceIte]
                    try rfl
                refine ⟨fun hlt => ⟨⟨by omega, by omega⟩, ?_⟩, fun hge => hj (by omega) _⟩
                have hnl : n < L.length := by omega
                rw [Int.toNat_natCast, hLg n hnl, conv_u8]
                refine PCalls.use (p_rdigit (L[n]).toNat) ?_; simp only [wk,if_true,if_false,forall_const,implies_true,ne_eq,eq_self,Nat.reduceEqDiff,Nat.reduceAdd,Nat.reduceMul,Nat.reduceSub,Nat.reduceLeDiff,Nat.reduceLT,Int.reduceEq,Int.reduceLT,Int.reduceLE,Int.reduceAdd,Int.reduceSub,Int.reduceMul,Int.reduceNeg,Int.reduceNe,reduceCtorEq,Int.reduceToNat,↓reduceIte]
                refine ⟨fun hin => ⟨inR_of (by omega) (by omega), L.length - (n + 1), by omega, n + 1, stop_more hnl hn hin, rfl, by simp; omega⟩, fun hin => hj (stop_done hnl hn hin) _⟩
              · rw [if_neg (by simp [hdg])]
                have hsb : sigW (s.extract a (runeN s a)) = sigB b.toNat := by
                  by_cases hc : b.toNat < 128
                  · rw [hn1 hc, ext_ba, hd]
                    unfold sigW
                    rw [ba_len2, byte_at (by rw [ba_list]; simp)]
                    simp [ba_list]
                  · have hk : sigB b.toNat = false := by
                      simp [sigB]; omega
                    rw [hk]
                    unfold runeN
                    obtain ⟨d1, d2, d3, _⟩ := dec_ge hal (by rw [← hb1]; exact hc)
                    rw [if_pos ha, ext_ba, hd]
                    unfold sigW
                    obtain ⟨w, hw⟩ : ∃ w, (Utf8.decode s a).2 = w + 1 := ⟨(Utf8.decode s a).2 - 1, by omega⟩
                    rw [hw, List.take_succ_cons, byte_at (by rw [ba_list]; simp)]
                    simp only [ba_list, List.getElem_cons_zero, hk, Bool.and_false]
                have hrn : a ≤ runeN s a ∧ runeN s a ≤ s.size := by
                  unfold runeN
                  rw [if_pos ha]
                  have := step_one ha
                  omega
                simp only [J_ref04_sign_j1, Int.toNat_natCast, wk,if_true,if_false,forall_const,implies_true,ne_eq,eq_self,Nat.reduceEqDiff,Nat.reduceAdd,Nat.reduceMul,Nat.reduceSub,Nat.reduceLeDiff,Nat.reduceLT,Int.reduceEq,Int.reduceLT,Int.reduceLE,Int.reduceAdd,Int.reduceSub,Int.reduceMul,Int.reduceNeg,Int.reduceNe,reduceCtorEq,Int.reduceToNat,↓reduceIte]
                refine ⟨⟨by omega, by omega, by omega⟩, ?_⟩
                have qs := p_isSign (s.extract a (runeN s a))
                rw [hsb] at qs
                refine PCalls.use (qs) ?_; simp only [wk,if_true,if_false,forall_const,implies_true,ne_eq,eq_self,Nat.reduceEqDiff,Nat.reduceAdd,Nat.reduceMul,Nat.reduceSub,Nat.reduceLeDiff,Nat.reduceLT,Int.reduceEq,Int.reduceLT,Int.reduceLE,Int.reduceAdd,Int.reduceSub,Int.reduceMul,Int.reduceNeg,Int.reduceNe,reduceCtorEq,Int.reduceToNat,↓reduceIte]
                refine ⟨fun h1 => ?_, fun h1 => ?_⟩
                · simp only [h1, valL, Bool.false_eq_true, if_false, if_true, wk,if_true,if_false,forall_const,implies_true,ne_eq,eq_self,Nat.reduceEqDiff,Nat.reduceAdd,Nat.reduceMul,Nat.reduceSub,Nat.reduceLeDiff,Nat.reduceLT,Int.reduceEq,Int.reduceLT,Int.reduceLE,Int.reduceAdd,Int.reduceSub,Int.reduceMul,Int.reduceNeg,Int.reduceNe,reduceCtorEq,Int.reduceToNat,↓reduceIte]
                  try rfl
                · have hc : b.toNat < 128 := by
                    simp [sigB] at h1; omega
                  simp only [h1, hn1 hc, ext_ba, hd, valL, Int.toNat_natCast, if_true, List.take_succ_cons, List.take_zero, wk,if_true,if_false,forall_const,implies_true,ne_eq,eq_self,Nat.reduceEqDiff,Nat.reduceAdd,Nat.reduceMul,Nat.reduceSub,Nat.reduceLeDiff,Nat.reduceLT,Int.reduceEq,Int.reduceLT,Int.reduceLE,Int.reduceAdd,Int.reduceSub,Int.reduceMul,Int.reduceNeg,Int.reduceNe,reduceCtorEq,Int.reduceToNat,↓reduceIte]
                  first
                    | exact ⟨⟨by omega, by omega, by omega⟩, rfl⟩
                    | exact ⟨by omega, by omega, by omega⟩
end Go.Proofs.Ytmbijfcjfhdnjaa

/- All tokens of a text: the plain function; the reference's All. -/
namespace Go.Proofs.Ytmbijfcjfhdnjaa
set_option linter.unusedSimpArgs false
set_option linter.unusedVariables false
open Go.RowKit Go.Lib

structure Tok where
  kind : Int
  name : ByteArray
  of : Int
  at_ : Int
def tC (t : Tok) : List AV := [.int .i64 t.kind, .str t.name, .int .i64 t.of, .int .i64 t.at_]
def toksC (l : List Tok) : List AV := l.flatMap tC
def vToks (l : List Tok) : AV := .lst .ro l.length (toksC l)
theorem frees_toks (l : List Tok) : free.frees (toksC l) = true := by
  induction l with
  | nil => rfl
  | cons x l ih => simp only [toksC, List.flatMap_cons, tC, List.cons_append, List.nil_append, free.frees, free, Bool.true_and] at ih ⊢; exact ih
theorem rdps_toks : ∀ l : List Tok, rdps (toksC l) = toksC l
  | [] => rdps_nil
  | x :: l => by
    have := rdps_toks l
    simp only [toksC, List.flatMap_cons, tC, List.cons_append, List.nil_append, rdpw] at this ⊢
    rw [this]
theorem toksC_sn (l : List Tok) (t : Tok) : toksC (l ++ [t]) = toksC l ++ [.int .i64 t.kind, .str t.name, .int .i64 t.of, .int .i64 t.at_] := by
  simp [toksC, tC]
theorem toksC_drop : ∀ {l : List Tok} {i : Nat} (h : i < l.length), (toksC l).drop (i * 4) = .int .i64 l[i].kind :: .str l[i].name :: .int .i64 l[i].of :: .int .i64 l[i].at_ :: (toksC l).drop ((i + 1) * 4)
  | [], _, h => by simp at h
  | w :: l, 0, h => by simp [toksC, tC]
  | w :: l, i + 1, h => by
    have := toksC_drop (l := l) (i := i) (by simpa using h)
    simp only [toksC, List.flatMap_cons, tC, List.cons_append, List.nil_append] at this ⊢
    rw [show (i + 1) * 4 = i * 4 + 1 + 1 + 1 + 1 by omega, show (i + 1 + 1) * 4 = (i + 1) * 4 + 1 + 1 + 1 + 1 by omega]
    simp only [List.drop_succ_cons, List.getElem_cons_succ]
    exact this
/-- what a name's length says -/
theorem nameL_ok {l : List UInt8} {n : Nat} (h : nameL l = some n) : n = stopN innI l ∧ 1 ≤ n ∧ n ≤ 24 ∧ n ≤ l.length ∧ ∃ b r, l = b :: r ∧ lttI b.toNat = true := by
  unfold nameL at h
  split at h
  · cases h
  · next b r =>
    split at h
    · next hc =>
      simp only [Option.some.injEq] at h
      subst h
      have hle := stopN_le innI (b :: r)
      refine ⟨rfl, ?_, hc.2.1, hle, b, r, rfl, hc.1⟩
      have hi : innI b.toNat = true := by unfold innI; rw [hc.1]; rfl
      have := stop_more (q := innI) (l := b :: r) (n := 0) (by simp) (by omega) hi
      omega
    · cases h
/-- what is a token's is ASCII -/
def ascii (l : List UInt8) (n : Nat) : Prop := 1 ≤ n ∧ n ≤ l.length ∧ ∀ (i : Nat) (h : i < l.length), i < n → (l[i]).toNat < 128
theorem ascii_one {b : UInt8} {r : List UInt8} (h : b.toNat < 128) : ascii (b :: r) 1 := by
  refine ⟨Nat.le_refl _, by simp, fun i hi h1 => ?_⟩
  obtain rfl : i = 0 := by omega
  exact h
theorem ascii_stop {q : Int → Bool} (hq : ∀ r, 128 ≤ r → q r = false) {l : List UInt8} (h : 1 ≤ stopN q l) : ascii l (stopN q l) := by
  refine ⟨h, stopN_le q l, fun i hi h1 => ?_⟩
  have := stopN_at hi h1
  by_cases hc : (l[i]).toNat < 128
  · exact hc
  · rw [hq _ (by omega)] at this; cases this
theorem plainL_ascii {l : List UInt8} {k : Int} {w : ByteArray} {o : Int} {n : Nat} (h : plainL l = some (k, w, o, n)) : ascii l n := by
  unfold plainL at h
  split at h
  · cases h
  · next b r =>
    have one : ∀ k' : Sig, some k' = some (k, w, o, n) → k'.2.2.2 = n := fun k' e => by simp only [Option.some.injEq] at e; rw [e]
    split at h
    · next hlet =>
      split at h
      · cases h
      · next m hm =>
        obtain ⟨e1, e2, _⟩ := nameL_ok hm
        have : m = n := by
          split at h <;> exact one _ h
        subst this
        rw [e1] at e2 ⊢
        exact ascii_stop lo_inn e2
    · split at h
      · next h68 =>
        split at h
        · rw [← one _ h]; exact ascii_one (by omega)
        · cases h
      · split at h
        · next hc => rw [← one _ h]; exact ascii_one (by omega)
        · split at h
          · next hc => rw [← one _ h]; exact ascii_one (by omega)
          · split at h
            · next hc => rw [← one _ h]; exact ascii_one (by omega)
            · split at h
              · next hc =>
                split at h
                · next hn =>
                  rw [← one _ h]
                  refine ascii_stop lo_dig ?_
                  exact stop_more (q := digI) (l := b :: r) (n := 0) (by simp) (by omega) hc
                · cases h
              · split at h
                · next hc => rw [← one _ h]; exact ascii_one (by simp [sigB] at hc; omega)
                · cases h
theorem kindL_cases (l : List UInt8) : kindL l = 0 ∨ (kindL l ∈ kinds ∧ begL (preW (kindL l)) l = true) := by
  unfold kindL kinds
  split
  · next h => right; exact ⟨by simp, h⟩
  · split
    · next h => right; exact ⟨by simp, h⟩
    · split
      · next h => right; exact ⟨by simp, h⟩
      · split
        · next h => right; exact ⟨by simp, h⟩
        · exact .inl rfl
theorem signL_ascii {l : List UInt8} {k : Int} {w : ByteArray} {o : Int} {n : Nat} (h : signL l = some (k, w, o, n)) : ascii l n := by
  unfold signL at h
  split at h
  · exact plainL_ascii h
  · next hk =>
    rcases kindL_cases l with h0 | ⟨hm, hbg⟩
    · exact absurd h0 hk
    · obtain ⟨g1, g2, g3⟩ := pre_ok hm
      unfold atomL at h
      split at h
      · cases h
      · next m hn =>
        simp only [Option.some.injEq, Prod.mk.injEq] at h
        obtain ⟨_, _, _, rfl⟩ := h
        obtain ⟨e1, e2, _, e3, _⟩ := nameL_ok hn
        rw [List.length_drop] at e3
        refine ⟨by omega, by omega, fun i hi h1 => ?_⟩
        rcases Nat.lt_or_ge i (preW (kindL l)).size with h2 | h2
        · unfold begL at hbg
          have h3 := of_decide_eq_true hbg
          refine g3 _ ?_
          rw [← h3, List.mem_iff_getElem]
          exact ⟨i, by rw [List.length_take]; omega, by rw [List.getElem_take]⟩
        · obtain ⟨j, rfl⟩ : ∃ j, i = (preW (kindL l)).size + j := ⟨i - (preW (kindL l)).size, by omega⟩
          have hj : j < (l.drop (preW (kindL l)).size).length := by rw [List.length_drop]; omega
          have := stopN_at (q := innI) hj (by omega)
          rw [List.getElem_drop] at this
          by_cases hc : (l[(preW (kindL l)).size + j]).toNat < 128
          · exact hc
          · rw [lo_inn _ (by omega)] at this; cases this
abbrev Res := List Tok × Nat × Int
def blankB (b : UInt8) : Bool := b.toNat == 32 || b.toNat == 9 || b.toNat == 10
def scanF : Nat → List UInt8 → Nat → List Tok → Res
  | 0, _, _, acc => (acc, 0, 0)
  | _ + 1, [], _, acc => (acc, 0, 0)
  | f + 1, b :: r, a, acc =>
    if blankB b = true then scanF f r (a + 1) acc
    else if b.toNat = 35 then scanF f ((b :: r).drop (stopN notI (b :: r))) (a + stopN notI (b :: r)) acc
    else match signL (b :: r) with
      | none => ([], a, 2)
      | some (k, w, o, n) => if acc.length = 1000 then ([], a, 3) else scanF f ((b :: r).drop n) (a + n) (acc ++ [⟨k, w, o, a⟩])
theorem note_one {b : UInt8} {r : List UInt8} (h : b.toNat = 35) : 1 ≤ stopN notI (b :: r) := stop_more (q := notI) (l := b :: r) (n := 0) (by simp) (by omega) (by show notI b.toNat = true; rw [h]; rfl)
theorem scanF_more : ∀ (f g : Nat) (l : List UInt8) (a : Nat) (acc : List Tok), l.length ≤ f → l.length ≤ g → scanF f l a acc = scanF g l a acc
  | 0, 0, _, _, _, _, _ => rfl
  | 0, g + 1, l, a, acc, h, _ => by
    have : l = [] := List.eq_nil_of_length_eq_zero (by omega)
    subst this; rfl
  | f + 1, 0, l, a, acc, _, h => by
    have : l = [] := List.eq_nil_of_length_eq_zero (by omega)
    subst this; rfl
  | f + 1, g + 1, [], a, acc, _, _ => rfl
  | f + 1, g + 1, b :: r, a, acc, h1, h2 => by
    simp only [List.length_cons] at h1 h2
    simp only [scanF]
    split
    · exact scanF_more f g r _ _ (by omega) (by omega)
    · split
      · next h => have := note_one (r := r) h; exact scanF_more f g _ _ _ (by simp; omega) (by simp; omega)
      · split
        · rfl
        · next k w o n hs =>
          split
          · rfl
          · have := (signL_ascii hs).1
            exact scanF_more f g _ _ _ (by simp; omega) (by simp; omega)
def scan (l : List UInt8) (a : Nat) (acc : List Tok) : Res := scanF l.length l a acc
theorem scan_nil (a : Nat) (acc : List Tok) : scan [] a acc = (acc, 0, 0) := rfl
theorem scan_cons (b : UInt8) (r : List UInt8) (a : Nat) (acc : List Tok) : scan (b :: r) a acc =
    if blankB b = true then scan r (a + 1) acc
    else if b.toNat = 35 then scan ((b :: r).drop (stopN notI (b :: r))) (a + stopN notI (b :: r)) acc
    else match signL (b :: r) with
      | none => ([], a, 2)
      | some (k, w, o, n) => if acc.length = 1000 then ([], a, 3) else scan ((b :: r).drop n) (a + n) (acc ++ [⟨k, w, o, a⟩]) := by
  unfold scan
  simp only [List.length_cons, scanF]
  split
  · rfl
  · split
    · next h => have := note_one (r := r) h; exact scanF_more _ _ _ _ _ (by simp; omega) (by simp)
    · split
      · rfl
      · next k w o n hs =>
        split
        · rfl
        · have := (signL_ascii hs).1
          exact scanF_more _ _ _ _ _ (by simp; omega) (by simp)
/-- ALL TOKENS of a text -/
def allT (s : ByteArray) : Res := if 4000 < s.size then ([], 0, 3) else scan s.data.toList 0 []
def resV (r : Res) : AV := .tup [vToks r.1, .int .i64 r.2.1, .int .i64 r.2.2]
theorem ascii_at {s : ByteArray} {a n : Nat} (ha : a ≤ s.size) (h : ascii (s.data.toList.drop a) n) : a + n ≤ s.size ∧ atB s (a + n) := by
  have hl := len_size s
  obtain ⟨h1, h2, h3⟩ := h
  rw [List.length_drop] at h2
  refine ⟨by omega, .inr ⟨by omega, ?_⟩⟩
  have := h3 (n - 1) (by rw [List.length_drop]; omega) (by omega)
  rw [List.getElem_drop] at this
  have e : a + n - 1 = a + (n - 1) := by omega
  simp only [e]; exact this
theorem free_resV (r : Res) : free (resV r) = true := by simp [resV, vToks, free, free.frees, frees_toks]
/-- where the rest of a note is passed over -/
def restN (s : ByteArray) (a : Nat) (note : Bool) (acc : List Tok) : Res :=
  if note = true then scan (s.data.toList.drop (a + stopN notI (s.data.toList.drop a))) (a + stopN notI (s.data.toList.drop a)) acc else scan (s.data.toList.drop a) a acc
theorem stopN_cons {q : Int → Bool} {b : UInt8} {r : List UInt8} (h : q b.toNat = true) : stopN q (b :: r) = stopN q r + 1 := by unfold stopN; simp [List.takeWhile_cons, h]
theorem stopN_zero {q : Int → Bool} {b : UInt8} {r : List UInt8} (h : q b.toNat = false) : stopN q (b :: r) = 0 := by unfold stopN; simp [List.takeWhile_cons, h]
set_option maxRecDepth 100000 in
set_option maxHeartbeats 4000000 in
theorem p_rall (s : ByteArray) (hs : s.size ≤ 1000000) : PCalls Try.prog 29 [.str s] (resV (allT s)) := by
  have hl := len_size s
  refine pcalls_of rfl (free_resV _) (ACalls.deep (acalls_of mixed J_ref04_All_ok (Nat.le_of_ble_eq_true rfl) ?_)); simp only [J_ref04_All, wk,if_true,if_false,forall_const,implies_true,ne_eq,eq_self,Nat.reduceEqDiff,Nat.reduceAdd,Nat.reduceMul,Nat.reduceSub,Nat.reduceLeDiff,Nat.reduceLT,Int.reduceEq,Int.reduceLT,Int.reduceLE,Int.reduceAdd,Int.reduceSub,Int.reduceMul,Int.reduceNeg,Int.reduceNe,reduceCtorEq,Int.reduceToNat,↓reduceIte]
  unfold allT
  refine ⟨fun hbig => ?_, fun hbig => ?_⟩
  · rw [if_pos (by omega)]
    simp only [rdpw, resV, vToks, toksC]
    rfl
  rw [if_neg (by omega)]
  refine W_loop (fun m fr h' => ∃ (a : Nat) (note : Bool) (acc : List Tok), a ≤ s.size ∧ m = s.size - a ∧ acc.length ≤ 1000 ∧ (note = false → atB s a) ∧ scan s.data.toList 0 [] = restN s a note acc ∧ fr = [(0, .str s), (5, .lst (.own 28) acc.length (toksC acc)), (6, .int .i64 a), (7, .bool note)]) s.size ⟨0, false, [], by omega, by omega, by simp, fun _ => .inl rfl, by unfold restN; simp, rfl⟩ ?_
  rintro m fr h' ⟨a, note, acc, ha, rfl, hacc, hnb, hscan, rfl⟩
  simp only [J_ref04_All_j4, wk,if_true,if_false,forall_const,implies_true,ne_eq,eq_self,Nat.reduceEqDiff,Nat.reduceAdd,Nat.reduceMul,Nat.reduceSub,Nat.reduceLeDiff,Nat.reduceLT,Int.reduceEq,Int.reduceLT,Int.reduceLE,Int.reduceAdd,Int.reduceSub,Int.reduceMul,Int.reduceNeg,Int.reduceNe,reduceCtorEq,Int.reduceToNat,↓reduceIte]
  refine ⟨fun hlt => ⟨⟨by omega, by omega⟩, ?_⟩, fun hge => ?_⟩
  · have hal : a < s.data.toList.length := by omega
    have hd : s.data.toList.drop a = s.data.toList[a] :: s.data.toList.drop (a + 1) := List.drop_eq_getElem_cons hal
    obtain ⟨b, hb1⟩ : ∃ b, b = s.data.toList[a] := ⟨_, rfl⟩
    rw [← hb1] at hd
    rw [Int.toNat_natCast, byte_at hal, ← hb1]
    -- behind a byte that is passed over
    have next : ∀ (note' : Bool), (note' = false → atB s (a + 1)) → restN s a note acc = restN s (a + 1) note' acc → ∃ m, m < s.size - a ∧ ∃ (a' : Nat) (n' : Bool) (acc' : List Tok), a' ≤ s.size ∧ m = s.size - a' ∧ acc'.length ≤ 1000 ∧ (n' = false → atB s a') ∧ scan s.data.toList 0 [] = restN s a' n' acc' ∧ [(0, AV.str s), (5, .lst (.own 28) acc.length (toksC acc)), (6, .int .i64 (a + 1)), (7, .bool note')] = [(0, .str s), (5, .lst (.own 28) acc'.length (toksC acc')), (6, .int .i64 a'), (7, .bool n')] := fun note' h1 h2 =>
      ⟨s.size - (a + 1), by omega, a + 1, note', acc, by omega, rfl, hacc, h1, hscan.trans h2, by simp⟩
    have hab : b.toNat < 128 → atB s (a + 1) := fun h => .inr ⟨by omega, by simp only [Nat.add_sub_cancel, ← hb1]; exact h⟩
    have r_note : ∀ acc', notI b.toNat = true → restN s a true acc' = restN s (a + 1) true acc' := fun acc' hq => by
      unfold restN
      rw [if_pos rfl, if_pos rfl, hd, stopN_cons hq]
      rw [show a + (stopN notI (s.data.toList.drop (a + 1)) + 1) = a + 1 + stopN notI (s.data.toList.drop (a + 1)) by omega]
    have r_end : ∀ nt : Bool, b.toNat = 10 → restN s a nt acc = restN s (a + 1) false acc := fun nt h => by
      have hz : stopN notI (b :: s.data.toList.drop (a + 1)) = 0 := stopN_zero (by rw [h]; rfl)
      have hs1 : scan (b :: s.data.toList.drop (a + 1)) a acc = scan (s.data.toList.drop (a + 1)) (a + 1) acc := by rw [scan_cons, if_pos (by simp [blankB, h])]
      unfold restN
      cases nt with
      | true => rw [if_pos rfl, if_neg (by simp), hd, hz, Nat.add_zero, hd, hs1]
      | false => rw [if_neg (by simp), if_neg (by simp), hd, hs1]
    have r_blank : blankB b = true → restN s a false acc = restN s (a + 1) false acc := fun h => by
      unfold restN
      rw [if_neg (by simp), if_neg (by simp), hd, scan_cons, if_pos h]
    have r_hash : b.toNat = 35 → restN s a false acc = restN s (a + 1) true acc := fun h => by
      have hq : notI b.toNat = true := by rw [h]; rfl
      unfold restN
      rw [if_neg (by simp), if_pos rfl, hd, scan_cons, if_neg (by simp [blankB, h]), if_pos h, stopN_cons hq, List.drop_succ_cons, List.drop_drop]
      rw [show a + (stopN notI (s.data.toList.drop (a + 1)) + 1) = a + 1 + stopN notI (s.data.toList.drop (a + 1)) by omega]
    refine ⟨fun e10 => ?_, fun e10 => ?_⟩
    · have h10 : b.toNat = 10 := by omega
      simp only [J_ref04_All_j3, J_ref04_All_j2, e10, wk,if_true,if_false,forall_const,implies_true,ne_eq,eq_self,Nat.reduceEqDiff,Nat.reduceAdd,Nat.reduceMul,Nat.reduceSub,Nat.reduceLeDiff,Nat.reduceLT,Int.reduceEq,Int.reduceLT,Int.reduceLE,Int.reduceAdd,Int.reduceSub,Int.reduceMul,Int.reduceNeg,Int.reduceNe,reduceCtorEq,Int.reduceToNat,↓reduceIte]
      exact ⟨inR_of (by omega) (by omega), next false (fun _ => hab (by omega)) (r_end note h10)⟩
    · have hq : notI b.toNat = true := by simp [notI]; omega
      simp only [J_ref04_All_j3, wk,if_true,if_false,forall_const,implies_true,ne_eq,eq_self,Nat.reduceEqDiff,Nat.reduceAdd,Nat.reduceMul,Nat.reduceSub,Nat.reduceLeDiff,Nat.reduceLT,Int.reduceEq,Int.reduceLT,Int.reduceLE,Int.reduceAdd,Int.reduceSub,Int.reduceMul,Int.reduceNeg,Int.reduceNe,reduceCtorEq,Int.reduceToNat,↓reduceIte]
      refine ⟨fun e35 => ?_, fun e35 => ?_⟩
      · simp only [J_ref04_All_j2, e35, wk,if_true,if_false,forall_const,implies_true,ne_eq,eq_self,Nat.reduceEqDiff,Nat.reduceAdd,Nat.reduceMul,Nat.reduceSub,Nat.reduceLeDiff,Nat.reduceLT,Int.reduceEq,Int.reduceLT,Int.reduceLE,Int.reduceAdd,Int.reduceSub,Int.reduceMul,Int.reduceNeg,Int.reduceNe,reduceCtorEq,Int.reduceToNat,↓reduceIte]
        refine ⟨inR_of (by omega) (by omega), next true (fun h => by cases h) ?_⟩
        cases note with
        | true => exact r_note acc hq
        | false => exact r_hash (by omega)
      · cases note with
        | true =>
          simp only [J_ref04_All_j2, wk,if_true,if_false,forall_const,implies_true,ne_eq,eq_self,Nat.reduceEqDiff,Nat.reduceAdd,Nat.reduceMul,Nat.reduceSub,Nat.reduceLeDiff,Nat.reduceLT,Int.reduceEq,Int.reduceLT,Int.reduceLE,Int.reduceAdd,Int.reduceSub,Int.reduceMul,Int.reduceNeg,Int.reduceNe,reduceCtorEq,Int.reduceToNat,↓reduceIte]
          exact ⟨inR_of (by omega) (by omega), next true (fun h => by cases h) (r_note acc hq)⟩
        | false =>
          have hba := hnb rfl
          have e10f : ((b.toNat : Int) = 10) = False := by simpa using e10
          by_cases hbl : blankB b = true
          · have h2 : b.toNat = 32 ∨ b.toNat = 9 := by simp [blankB] at hbl; omega
            have hn := next false (fun _ => hab (by omega)) (r_blank hbl)
            simp only [J_ref04_All_j2, wk,if_true,if_false,forall_const,implies_true,ne_eq,eq_self,Nat.reduceEqDiff,Nat.reduceAdd,Nat.reduceMul,Nat.reduceSub,Nat.reduceLeDiff,Nat.reduceLT,Int.reduceEq,Int.reduceLT,Int.reduceLE,Int.reduceAdd,Int.reduceSub,Int.reduceMul,Int.reduceNeg,Int.reduceNe,reduceCtorEq,Int.reduceToNat,↓reduceIte]
            refine ⟨fun e32 => ?_, fun e32 => ?_⟩
            · exact ⟨fun e9 => ⟨fun _ => ⟨inR_of (by omega) (by omega), hn⟩, fun n10 => by omega⟩, fun _ => ⟨inR_of (by omega) (by omega), hn⟩⟩
            · exact ⟨inR_of (by omega) (by omega), hn⟩
          · have b1 : ((b.toNat : Int) = 32) = False := by simp [blankB] at hbl ⊢; omega
            have b2 : ((b.toNat : Int) = 9) = False := by simp [blankB] at hbl ⊢; omega
            simp only [J_ref04_All_j2, e10f, b1, b2, not_false_eq_true, true_implies, false_implies, wk,if_true,if_false,forall_const,implies_true,ne_eq,eq_self,Nat.reduceEqDiff,Nat.reduceAdd,Nat.reduceMul,Nat.reduceSub,Nat.reduceLeDiff,Nat.reduceLT,Int.reduceEq,Int.reduceLT,Int.reduceLE,Int.reduceAdd,Int.reduceSub,Int.reduceMul,Int.reduceNeg,Int.reduceNe,reduceCtorEq,Int.reduceToNat,↓reduceIte]
            have qs := p_rsign s a hs (by omega) hba
            unfold signRV at qs
            rw [hd] at qs
            have hrest : scan s.data.toList 0 [] = match signL (b :: s.data.toList.drop (a + 1)) with
                | none => ([], a, 2)
                | some (k, w, o, n) => if acc.length = 1000 then ([], a, 3) else scan ((b :: s.data.toList.drop (a + 1)).drop n) (a + n) (acc ++ [⟨k, w, o, a⟩]) := by
              rw [hscan]
              unfold restN
              rw [if_neg (by simp), hd, scan_cons, if_neg hbl, if_neg (by omega)]
            cases hsg : signL (b :: s.data.toList.drop (a + 1)) with
            | none =>
              rw [hsg] at qs hrest
              refine PCalls.use (qs) ?_; simp only [wk,if_true,if_false,forall_const,implies_true,ne_eq,eq_self,Nat.reduceEqDiff,Nat.reduceAdd,Nat.reduceMul,Nat.reduceSub,Nat.reduceLeDiff,Nat.reduceLT,Int.reduceEq,Int.reduceLT,Int.reduceLE,Int.reduceAdd,Int.reduceSub,Int.reduceMul,Int.reduceNeg,Int.reduceNe,reduceCtorEq,Int.reduceToNat,↓reduceIte]
              simp only [hrest, resV, vToks, toksC, rdpw, wk,if_true,if_false,forall_const,implies_true,ne_eq,eq_self,Nat.reduceEqDiff,Nat.reduceAdd,Nat.reduceMul,Nat.reduceSub,Nat.reduceLeDiff,Nat.reduceLT,Int.reduceEq,Int.reduceLT,Int.reduceLE,Int.reduceAdd,Int.reduceSub,Int.reduceMul,Int.reduceNeg,Int.reduceNe,reduceCtorEq,Int.reduceToNat,↓reduceIte]
              rfl
            | some x =>
              obtain ⟨k, w, o, n⟩ := x
              rw [hsg] at qs hrest
              refine PCalls.use (qs) ?_; simp only [wk,if_true,if_false,forall_const,implies_true,ne_eq,eq_self,Nat.reduceEqDiff,Nat.reduceAdd,Nat.reduceMul,Nat.reduceSub,Nat.reduceLeDiff,Nat.reduceLT,Int.reduceEq,Int.reduceLT,Int.reduceLE,Int.reduceAdd,Int.reduceSub,Int.reduceMul,Int.reduceNeg,Int.reduceNe,reduceCtorEq,Int.reduceToNat,↓reduceIte]
              have hasc := signL_ascii hsg
              rw [← hd] at hasc
              obtain ⟨k1, k2⟩ := ascii_at (by omega) hasc
              have hn1 := hasc.1
              refine ⟨fun h => by omega, fun _ => ⟨fun h => ?_, fun h => ?_⟩⟩
              · simp only [hrest, show acc.length = 1000 by omega, if_true, resV, vToks, toksC, rdpw]
                rfl
              · refine ⟨⟨by omega, by omega⟩, s.size - (a + n), by omega, a + n, false, acc ++ [⟨k, w, o, a⟩], by omega, rfl, by simp; omega, fun _ => k2, ?_, ?_⟩
                · rw [hrest]
                  simp only
                  rw [if_neg (by omega), ← hd, List.drop_drop]
                  unfold restN
                  rw [if_neg (by simp)]
                · simp [toksC_sn]
  · have hn : scan s.data.toList 0 [] = (acc, 0, 0) := by
      rw [hscan]
      unfold restN
      rw [List.drop_of_length_le (by omega), List.drop_of_length_le (by omega)]
      split <;> rfl
    simp only [J_ref04_All_j1, hn, resV, vToks, rdpw, rdps_toks, wk,if_true,if_false,forall_const,implies_true,ne_eq,eq_self,Nat.reduceEqDiff,Nat.reduceAdd,Nat.reduceMul,Nat.reduceSub,Nat.reduceLeDiff,Nat.reduceLT,Int.reduceEq,Int.reduceLT,Int.reduceLE,Int.reduceAdd,Int.reduceSub,Int.reduceMul,Int.reduceNeg,Int.reduceNe,reduceCtorEq,Int.reduceToNat,↓reduceIte]
    rfl
end Go.Proofs.Ytmbijfcjfhdnjaa

/- Expressions: plain laws: what the reader's stack reads of tokens is what the document's way, by the last sign that binds least, reads; what is written is read; terms as trees, told from the front and from behind; texts; what is read, written, has no more parentheses; what tokens are read as, and where they are wrong. No program in sight. -/
namespace Go.Proofs.Ytmbijfcjfhdnjaa
set_option linter.unusedSimpArgs false
set_option linter.unusedVariables false
open Go.RowKit Go.Lib

structure Trm where
  op : Int
  of : Int
  name : ByteArray
def sgn (k : Int) : Trm := ⟨k, 0, ⟨#[]⟩⟩
def leaf (t : Tok) : Trm := ⟨1, t.of, t.name⟩
/-- how closely a sign binds; 0: it is none -/
def bindK (k : Int) : Int := if k = 2 then 1 else if k = 3 then 2 else if k = 4 then 3 else if k = 5 then 4 else 0
/-- which signs that wait are laid, and which wait on (the last one ahead) -/
def popL (m : Int) (w : List Int) : List Int := w.takeWhile fun k => decide (m ≤ bindK k)
def popR (m : Int) (w : List Int) : List Int := w.dropWhile fun k => decide (m ≤ bindK k)
/-- what the reader does with a token that may stand there -/
def sstep (s : List Trm × List Int) (t : Tok) : List Trm × List Int :=
  if t.kind = 1 then (s.1 ++ [leaf t], s.2)
  else if t.kind = 6 then (s.1, 6 :: s.2)
  else if t.kind = 7 then (s.1 ++ (popL 1 s.2).map sgn, (popR 1 s.2).tail)
  else (s.1 ++ (popL (bindK t.kind) s.2).map sgn, t.kind :: popR (bindK t.kind) s.2)
def srun (l : List Tok) (s : List Trm × List Int) : List Trm × List Int := l.foldl sstep s
/-- the terms that are read -/
def readD (l : List Tok) : List Trm := (srun l ([], [])).1 ++ (popL 1 (srun l ([], [])).2).map sgn
/-- may a token stand there? whether a part stands behind, and how many parentheses are open -/
def cstep (M : Nat) (b : Bool) (n : Nat) (az : Bool) (t : Tok) : Option (Bool × Nat) :=
  if b = false then
    (if t.kind = 1 ∧ (az = false ∨ t.of = 5) then some (true, n)
    else if t.kind = 6 ∧ az = false then (if n = M then none else some (false, n + 1))
    else none)
  else if t.kind = 7 then (if 0 < n then some (true, n - 1) else none)
  else if 0 < bindK t.kind then some (false, n)
  else none
def ctl (M : Nat) (b : Bool) (n : Nat) (az : Bool) : List Tok → Option (Bool × Nat)
  | [] => some (b, n)
  | t :: l => match cstep M b n az t with
    | none => none
    | some (b', n') => ctl M b' n' (decide (t.kind = 5)) l
def accT (M : Nat) (l : List Tok) : Prop := ctl M false 0 false l = some (true, 0)
theorem bind6 : bindK 6 = 0 := by decide
theorem bind7 : bindK 7 = 0 := by decide
theorem bind1 : bindK 1 = 0 := by decide
theorem bind_pos {k : Int} (h : 0 < bindK k) : k = 2 ∨ k = 3 ∨ k = 4 ∨ k = 5 := by
  unfold bindK at h
  split at h <;> (try split at h) <;> (try split at h) <;> (try split at h) <;> omega
theorem bind_le (k : Int) : bindK k ≤ 4 := by
  unfold bindK
  split <;> (try split) <;> (try split) <;> (try split) <;> omega
theorem bind_ge (k : Int) : 0 ≤ bindK k := by
  unfold bindK
  split <;> (try split) <;> (try split) <;> (try split) <;> omega
theorem bind_ne {k : Int} (h : 0 < bindK k) : k ≠ 1 ∧ k ≠ 6 ∧ k ≠ 7 := by have := bind_pos h; omega
/-- what is accepted, by kind -/
theorem cstep_cases {M : Nat} {b : Bool} {n : Nat} {az : Bool} {t : Tok} {b' : Bool} {n' : Nat} (h : cstep M b n az t = some (b', n')) :
    (b = false ∧ t.kind = 1 ∧ (az = false ∨ t.of = 5) ∧ b' = true ∧ n' = n) ∨ (b = false ∧ t.kind = 6 ∧ az = false ∧ n ≠ M ∧ b' = false ∧ n' = n + 1) ∨
    (b = true ∧ t.kind = 7 ∧ 0 < n ∧ b' = true ∧ n' = n - 1) ∨ (b = true ∧ 0 < bindK t.kind ∧ b' = false ∧ n' = n) := by
  unfold cstep at h
  by_cases hb : b = false
  · rw [if_pos hb] at h
    by_cases h1 : t.kind = 1 ∧ (az = false ∨ t.of = 5)
    · rw [if_pos h1] at h
      simp only [Option.some.injEq, Prod.mk.injEq] at h
      exact .inl ⟨hb, h1.1, h1.2, h.1.symm, h.2.symm⟩
    · rw [if_neg h1] at h
      by_cases h2 : t.kind = 6 ∧ az = false
      · rw [if_pos h2] at h
        by_cases h3 : n = M
        · rw [if_pos h3] at h; cases h
        · rw [if_neg h3] at h
          simp only [Option.some.injEq, Prod.mk.injEq] at h
          exact .inr (.inl ⟨hb, h2.1, h2.2, h3, h.1.symm, h.2.symm⟩)
      · rw [if_neg h2] at h; cases h
  · rw [if_neg hb] at h
    have hb : b = true := by simpa using hb
    by_cases h1 : t.kind = 7
    · rw [if_pos h1] at h
      by_cases h2 : 0 < n
      · rw [if_pos h2] at h
        simp only [Option.some.injEq, Prod.mk.injEq] at h
        exact .inr (.inr (.inl ⟨hb, h1, h2, h.1.symm, h.2.symm⟩))
      · rw [if_neg h2] at h; cases h
    · rw [if_neg h1] at h
      by_cases h2 : 0 < bindK t.kind
      · rw [if_pos h2] at h
        simp only [Option.some.injEq, Prod.mk.injEq] at h
        exact .inr (.inr (.inr ⟨hb, h2, h.1.symm, h.2.symm⟩))
      · rw [if_neg h2] at h; cases h
theorem ctl_cons {M : Nat} {b : Bool} {n : Nat} {az : Bool} {t : Tok} {l : List Tok} {r : Bool × Nat} (h : ctl M b n az (t :: l) = some r) : ∃ b' n', cstep M b n az t = some (b', n') ∧ ctl M b' n' (decide (t.kind = 5)) l = some r := by
  simp only [ctl] at h
  cases hc : cstep M b n az t with
  | none => rw [hc] at h; cases h
  | some x => obtain ⟨b', n'⟩ := x; rw [hc] at h; exact ⟨b', n', rfl, h⟩
/-- signs outside of all parentheses bind at least so closely -/
def lowsOk (m : Int) : Nat → List Tok → Prop
  | _, [] => True
  | n, t :: l => if t.kind = 6 then lowsOk m (n + 1) l else if t.kind = 7 then lowsOk m (n - 1) l else (n = 0 → 0 < bindK t.kind → m ≤ bindK t.kind) ∧ lowsOk m n l
/-- of what waits, what no parenthesis is beneath binds at least so closely -/
def geOk (m : Int) : List Int → Prop
  | [] => True
  | k :: P => (P.count 6 = 0 → k ≠ 6 → m ≤ bindK k) ∧ geOk m P
theorem geOk_all {m : Int} : ∀ {P : List Int}, geOk m P → P.count 6 = 0 → ∀ k ∈ P, m ≤ bindK k
  | [], _, _, k, hk => by simp at hk
  | a :: P, ⟨h1, h2⟩, hc, k, hk => by
    rw [List.count_cons] at hc
    have hc1 : P.count 6 = 0 := by omega
    have ha : a ≠ 6 := fun e => by subst e; simp at hc
    rcases List.mem_cons.1 hk with rfl | hk
    · exact h1 hc1 ha
    · exact geOk_all h2 hc1 k hk
theorem geOk_popR {m q : Int} : ∀ {P : List Int}, geOk m P → geOk m (popR q P)
  | [], _ => trivial
  | a :: P, ⟨h1, h2⟩ => by
    unfold popR
    rw [List.dropWhile_cons]
    split
    · exact geOk_popR h2
    · exact ⟨h1, h2⟩
theorem pop_app {q : Int} (hq : 0 < q) : ∀ (P : List Int) (base : List Int), (6 ∈ P ∨ ∀ k ∈ base.head?, bindK k < q) → popL q (P ++ base) = popL q P ∧ popR q (P ++ base) = popR q P ++ base
  | [], base, h => by
    rcases h with h | h
    · simp at h
    · cases base with
      | nil => simp [popL, popR]
      | cons a r =>
        have : ¬ q ≤ bindK a := by have := h a (by simp); omega
        simp [popL, popR, this]
  | a :: P, base, h => by
    by_cases ha : q ≤ bindK a
    · have h' : 6 ∈ P ∨ ∀ k ∈ base.head?, bindK k < q := by
        rcases h with h | h
        · rcases List.mem_cons.1 h with rfl | h
          · rw [bind6] at ha; omega
          · exact .inl h
        · exact .inr h
      obtain ⟨i1, i2⟩ := pop_app hq P base h'
      simp only [popL, popR] at i1 i2 ⊢
      simp [List.takeWhile_cons, List.dropWhile_cons, ha, i1, i2]
    · simp [popL, popR, ha]
theorem popR_count {q : Int} (hq : 0 < q) : ∀ P : List Int, (popR q P).count 6 = P.count 6
  | [] => rfl
  | a :: P => by
    unfold popR
    rw [List.dropWhile_cons]
    split
    · next h =>
      have : a ≠ 6 := fun e => by subst e; simp [bind6] at h; omega
      rw [List.count_cons, if_neg (by simpa using this)]
      exact popR_count hq P
    · rfl
/-- what waits behind a parenthesis's close -/
theorem popR_close : ∀ {P : List Int}, 0 < P.count 6 → (∀ k ∈ P, k = 6 ∨ 0 < bindK k) → ∃ R, popR 1 P = 6 :: R ∧ R.count 6 + 1 = P.count 6
  | [], h, _ => by simp at h
  | a :: P, h, hs => by
    unfold popR
    rw [List.dropWhile_cons]
    by_cases ha : a = 6
    · subst ha
      rw [if_neg (by simp [bind6])]
      exact ⟨P, rfl, by rw [List.count_cons]; simp⟩
    · have hb : 0 < bindK a := (hs a (by simp)).resolve_left ha
      rw [if_pos (by simp; omega)]
      rw [List.count_cons, if_neg (by simpa using ha)] at h ⊢
      exact popR_close h (fun k hk => hs k (by simp [hk]))
theorem popR_mem {q : Int} {P : List Int} {k : Int} (h : k ∈ popR q P) : k ∈ P := (List.dropWhile_suffix _).subset h
/-- what is done on top of what waited before does not touch it -/
theorem frame {M : Nat} {base : List Int} {m : Int} (hm : 0 < m) (hb : ∀ k ∈ base.head?, bindK k < m) : ∀ (l : List Tok) (b : Bool) (n : Nat) (az : Bool) (r : Bool × Nat) (out A : List Trm) (P : List Int), ctl M b n az l = some r → lowsOk m n l → P.count 6 = n → (∀ k ∈ P, k = 6 ∨ 0 < bindK k) → geOk m P →
    srun l (out ++ A, P ++ base) = (out ++ (srun l (A, P)).1, (srun l (A, P)).2 ++ base) ∧ (srun l (A, P)).2.count 6 = r.2 ∧ (∀ k ∈ (srun l (A, P)).2, k = 6 ∨ 0 < bindK k) ∧ geOk m (srun l (A, P)).2
  | [], b, n, az, r, out, A, P, hc, _, hn, hs, hg => by
    simp only [ctl, Option.some.injEq] at hc
    subst hc
    exact ⟨rfl, hn, hs, hg⟩
  | t :: l, b, n, az, r, out, A, P, hc, hl, hn, hs, hg => by
    obtain ⟨b', n', h1, h2⟩ := ctl_cons hc
    have go : ∀ (A' : List Trm) (P' : List Int), sstep (A, P) t = (A', P') → sstep (out ++ A, P ++ base) t = (out ++ A', P' ++ base) → lowsOk m n' l → P'.count 6 = n' → (∀ k ∈ P', k = 6 ∨ 0 < bindK k) → geOk m P' →
        srun (t :: l) (out ++ A, P ++ base) = (out ++ (srun (t :: l) (A, P)).1, (srun (t :: l) (A, P)).2 ++ base) ∧ (srun (t :: l) (A, P)).2.count 6 = r.2 ∧ (∀ k ∈ (srun (t :: l) (A, P)).2, k = 6 ∨ 0 < bindK k) ∧ geOk m (srun (t :: l) (A, P)).2 := by
      intro A' P' e1 e2 q1 q2 q3 q4
      have := frame hm hb l b' n' _ r out A' P' h2 q1 q2 q3 q4
      simp only [srun, List.foldl_cons, e1, e2] at this ⊢
      exact this
    simp only [lowsOk] at hl
    rcases cstep_cases h1 with ⟨_, k1, _, _, rfl⟩ | ⟨_, k1, _, _, _, rfl⟩ | ⟨_, k1, hpos, _, rfl⟩ | ⟨_, k1, _, rfl⟩
    · rw [k1, if_neg (by decide), if_neg (by decide)] at hl
      refine go (A ++ [leaf t]) P ?_ ?_ hl.2 hn hs hg
      · unfold sstep; rw [if_pos k1]
      · unfold sstep; rw [if_pos k1]; simp
    · rw [if_pos k1] at hl
      refine go A (6 :: P) ?_ ?_ hl ?_ ?_ ⟨fun _ h => absurd rfl h, hg⟩
      · unfold sstep; rw [if_neg (by omega), if_pos k1]
      · unfold sstep; rw [if_neg (by omega), if_pos k1]; rfl
      · rw [List.count_cons, hn]; simp
      · intro k hk
        rcases List.mem_cons.1 hk with rfl | hk
        · exact .inl rfl
        · exact hs k hk
    · rw [if_neg (by omega), if_pos k1] at hl
      obtain ⟨R, e1, e2⟩ := popR_close (P := P) (by omega) hs
      have h6 : 6 ∈ P := List.count_pos_iff.1 (by omega)
      obtain ⟨p1, p2⟩ := pop_app (q := 1) (by decide) P base (.inl h6)
      refine go (A ++ (popL 1 P).map sgn) R ?_ ?_ hl (by omega) ?_ ?_
      · unfold sstep; rw [if_neg (by omega), if_neg (by omega), if_pos k1]; simp [e1]
      · unfold sstep; rw [if_neg (by omega), if_neg (by omega), if_pos k1, p1, p2]; simp [e1]
      · intro k hk
        exact hs k (popR_mem (q := 1) (by rw [e1]; simp [hk]))
      · have := geOk_popR (q := 1) hg
        rw [e1] at this
        exact this.2
    · obtain ⟨n1, n6, n7⟩ := bind_ne k1
      rw [if_neg n6, if_neg n7] at hl
      have hor : 6 ∈ P ∨ ∀ k ∈ base.head?, bindK k < bindK t.kind := by
        by_cases h0 : P.count 6 = 0
        · exact .inr fun k hk => by have := hb k hk; have := hl.1 (by omega) k1; omega
        · exact .inl (List.count_pos_iff.1 (by omega))
      obtain ⟨p1, p2⟩ := pop_app (q := bindK t.kind) k1 P base hor
      refine go (A ++ (popL (bindK t.kind) P).map sgn) (t.kind :: popR (bindK t.kind) P) ?_ ?_ hl.2 ?_ ?_ ⟨fun h0 _ => ?_, geOk_popR hg⟩
      · unfold sstep; rw [if_neg n1, if_neg n6, if_neg n7]
      · unfold sstep; rw [if_neg n1, if_neg n6, if_neg n7, p1, p2]; simp
      · rw [List.count_cons, popR_count k1, if_neg (by simpa using n6)]; omega
      · intro k hk
        rcases List.mem_cons.1 hk with rfl | hk
        · exact .inr k1
        · exact hs k (popR_mem hk)
      · rw [popR_count k1] at h0
        exact hl.1 (by omega) k1

theorem popL_all {q : Int} : ∀ {P : List Int}, (∀ k ∈ P, q ≤ bindK k) → popL q P = P ∧ popR q P = []
  | [], _ => ⟨rfl, rfl⟩
  | a :: P, h => by
    have ha := h a (by simp)
    obtain ⟨i1, i2⟩ := popL_all (P := P) (fun k hk => h k (by simp [hk]))
    simp only [popL, popR] at i1 i2 ⊢
    simp [List.takeWhile_cons, List.dropWhile_cons, ha, i1, i2]
theorem lowsOk_one {n : Nat} : ∀ (l : List Tok), lowsOk 1 n l := by
  intro l
  induction l generalizing n with
  | nil => trivial
  | cons t l ih =>
    simp only [lowsOk]
    split
    · exact ih
    · split
      · exact ih
      · exact ⟨fun _ h => by omega, ih⟩
/-- what waits behind an expression -/
theorem readD_state {M : Nat} {l : List Tok} {m : Int} (hm : 0 < m) (ha : accT M l) (hl : lowsOk m 0 l) : (∀ k ∈ (srun l ([], [])).2, m ≤ bindK k) ∧ readD l = (srun l ([], [])).1 ++ (srun l ([], [])).2.map sgn := by
  have h := frame (base := []) (m := m) hm (by simp) l false 0 false (true, 0) [] [] [] ha hl rfl (by simp) trivial
  obtain ⟨_, h2, h3, h4⟩ := h
  have h5 := geOk_all h4 h2
  refine ⟨h5, ?_⟩
  unfold readD
  rw [(popL_all (q := 1) (fun k hk => by have := h5 k hk; omega)).1]
theorem srun_app (a b : List Tok) (s : List Trm × List Int) : srun (a ++ b) s = srun b (srun a s) := List.foldl_append
/-- a sign outside of all parentheses, the last one that binds least -/
theorem readD_sign {M : Nat} {l1 l2 : List Tok} {s : Tok} (h1 : accT M l1) (h2 : accT M l2) (hs : 0 < bindK s.kind) (hl1 : lowsOk (bindK s.kind) 0 l1) (hl2 : lowsOk (bindK s.kind + 1) 0 l2) : readD (l1 ++ s :: l2) = readD l1 ++ (readD l2 ++ [sgn s.kind]) := by
  obtain ⟨a1, a2⟩ := readD_state hs h1 hl1
  obtain ⟨b1, b2⟩ := readD_state (m := bindK s.kind + 1) (by omega) h2 hl2
  obtain ⟨n1, n6, n7⟩ := bind_ne hs
  have e1 : sstep (srun l1 ([], [])) s = (readD l1, [s.kind]) := by
    unfold sstep
    rw [if_neg n1, if_neg n6, if_neg n7, (popL_all a1).1, (popL_all a1).2, a2]
  have e2 := (frame (base := [s.kind]) (m := bindK s.kind + 1) (by omega) (by intro k hk; simp at hk; subst hk; omega) l2 false 0 false (true, 0) (readD l1) [] [] h2 hl2 rfl (by simp) trivial).1
  have e3 : srun (l1 ++ s :: l2) ([], []) = (readD l1 ++ (srun l2 ([], [])).1, (srun l2 ([], [])).2 ++ [s.kind]) := by
    rw [srun_app]
    show srun l2 (sstep (srun l1 ([], [])) s) = _
    rw [e1]
    simpa using e2
  unfold readD at b2 ⊢
  rw [e3]
  have : ∀ k ∈ (srun l2 ([], [])).2 ++ [s.kind], (1 : Int) ≤ bindK k := by
    intro k hk
    rcases List.mem_append.1 hk with hk | hk
    · have := b1 k hk; omega
    · simp at hk; subst hk; omega
  rw [(popL_all this).1, b2]
  simp [readD]
/-- parentheses around a whole expression -/
theorem readD_open {M : Nat} {m : List Tok} {o c : Tok} (ho : o.kind = 6) (hc : c.kind = 7) (h : accT M m) : readD (o :: (m ++ [c])) = readD m := by
  obtain ⟨a1, a2⟩ := readD_state (m := 1) (by decide) h (lowsOk_one m)
  have e1 : sstep ([], []) o = ([], [6]) := by
    unfold sstep; rw [if_neg (by omega), if_pos ho]
  have e2 := (frame (base := [6]) (m := 1) (by decide) (by intro k hk; simp at hk; subst hk; decide) m false 0 false (true, 0) [] [] [] h (lowsOk_one m) rfl (by simp) trivial).1
  have e3 : srun (o :: (m ++ [c])) ([], []) = sstep (srun m ([], [6])) c := by
    show srun (m ++ [c]) (sstep ([], []) o) = _
    rw [e1, srun_app]; rfl
  simp only [List.nil_append] at e2
  have e4 : sstep (srun m ([], [6])) c = (readD m, []) := by
    rw [e2]
    unfold sstep
    rw [if_neg (by omega), if_neg (by omega), if_pos hc]
    obtain ⟨p1, p2⟩ := pop_app (q := 1) (by decide) (srun m ([], [])).2 [6] (.inr (by intro k hk; simp at hk; subst hk; decide))
    simp only [p1, p2, (popL_all a1).1, (popL_all a1).2, a2]
    simp
  unfold readD at e4 ⊢
  rw [e3, e4]
  simp [popL]
theorem readD_one (t : Tok) (h : t.kind = 1) : readD [t] = [leaf t] := by
  simp [readD, srun, sstep, h, popL]
/-- is the last token a sign of a role? -/
def lastAs (az : Bool) (l : List Tok) : Bool := match l.getLast? with
  | some t => decide (t.kind = 5)
  | none => az
theorem lastAs_cons (az : Bool) (t : Tok) (l : List Tok) : lastAs az (t :: l) = lastAs (decide (t.kind = 5)) l := by
  cases l with
  | nil => rfl
  | cons u l =>
    obtain ⟨x, hx⟩ : ∃ x, (u :: l).getLast? = some x := ⟨_, List.getLast?_eq_some_getLast (by simp)⟩
    simp only [lastAs, List.getLast?_cons_cons, hx]
theorem ctl_app {M : Nat} : ∀ (l1 l2 : List Tok) (b : Bool) (n : Nat) (az : Bool), ctl M b n az (l1 ++ l2) = match ctl M b n az l1 with
    | none => none
    | some (b', n') => ctl M b' n' (lastAs az l1) l2
  | [], l2, b, n, az => rfl
  | t :: l1, l2, b, n, az => by
    simp only [List.cons_append, ctl]
    cases cstep M b n az t with
    | none => rfl
    | some x =>
      obtain ⟨b', n'⟩ := x
      simp only
      rw [ctl_app l1 l2 b' n' _, lastAs_cons]
/-- whether the token ahead is a sign of a role matters to the next one alone -/
theorem ctl_as {M : Nat} {b : Bool} {n : Nat} {l : List Tok} {r : Bool × Nat} (h : ctl M b n true l = some r) : ctl M b n false l = some r := by
  cases l with
  | nil => exact h
  | cons t l =>
    obtain ⟨b', n', h1, h2⟩ := ctl_cons h
    have : cstep M b n false t = some (b', n') := by
      rcases cstep_cases h1 with ⟨rfl, k1, _, rfl, rfl⟩ | ⟨_, _, k, _⟩ | ⟨rfl, k1, k2, rfl, rfl⟩ | ⟨rfl, k1, rfl, rfl⟩
      · unfold cstep; rw [if_pos rfl, if_pos ⟨k1, .inl rfl⟩]
      · cases k
      · unfold cstep; rw [if_neg (by simp), if_pos k1, if_pos k2]
      · unfold cstep; rw [if_neg (by simp), if_neg (bind_ne k1).2.2, if_pos k1]
    simp only [ctl, this]
    exact h2

/-- the document's way: the last sign outside of all parentheses that binds least -/
def bestF : Nat → Int → Int → Int → List Tok → Int × Int
  | _, _, a, low, [] => (a, low)
  | i, o, a, low, t :: l =>
    let o' := if t.kind = 6 then o + 1 else if t.kind = 7 then o - 1 else o
    if o' = 0 ∧ 0 < bindK t.kind ∧ bindK t.kind ≤ low then bestF (i + 1) o' i (bindK t.kind) l else bestF (i + 1) o' a low l
theorem best_spec {M : Nat} : ∀ (l : List Tok) (b : Bool) (n : Nat) (az : Bool) (r : Bool × Nat) (i : Nat) (a low : Int), ctl M b n az l = some r →
    (bestF i n a low l = (a, low) ∧ lowsOk (low + 1) n l) ∨
    ∃ (l1 l2 : List Tok) (s : Tok), l = l1 ++ s :: l2 ∧ bestF i n a low l = (((i + l1.length : Nat) : Int), bindK s.kind) ∧ 0 < bindK s.kind ∧ bindK s.kind ≤ low ∧ ctl M b n az l1 = some (true, 0) ∧ ctl M false 0 (decide (s.kind = 5)) l2 = some r ∧ lowsOk (bindK s.kind) n l1 ∧ lowsOk (bindK s.kind + 1) 0 l2
  | [], b, n, az, r, i, a, low, _ => .inl ⟨rfl, trivial⟩
  | t :: l, b, n, az, r, i, a, low, hc => by
    obtain ⟨b', n', h1, h2⟩ := ctl_cons hc
    have up : ∀ l1, ctl M b n az (t :: l1) = ctl M b' n' (decide (t.kind = 5)) l1 := fun l1 => by simp only [ctl, h1]
    have ho : (if t.kind = 6 then (n : Int) + 1 else if t.kind = 7 then (n : Int) - 1 else n) = (n' : Int) := by
      rcases cstep_cases h1 with ⟨_, k, _, _, rfl⟩ | ⟨_, k, _, _, _, rfl⟩ | ⟨_, k, hp, _, rfl⟩ | ⟨_, k, _, rfl⟩
      · rw [if_neg (by omega), if_neg (by omega)]
      · rw [if_pos k]; omega
      · rw [if_neg (by omega), if_pos k]; omega
      · rw [if_neg (bind_ne k).2.1, if_neg (bind_ne k).2.2]
    have lo : ∀ (m : Int) (l1 : List Tok), (n' = 0 → 0 < bindK t.kind → m ≤ bindK t.kind) → lowsOk m n' l1 → lowsOk m n (t :: l1) := by
      intro m l1 hm hl
      simp only [lowsOk]
      rcases cstep_cases h1 with ⟨_, k, _, _, rfl⟩ | ⟨_, k, _, _, _, rfl⟩ | ⟨_, k, hp, _, rfl⟩ | ⟨_, k, _, rfl⟩
      · rw [if_neg (by omega), if_neg (by omega)]; exact ⟨hm, hl⟩
      · rw [if_pos k]; exact hl
      · rw [if_neg (by omega), if_pos k]; exact hl
      · rw [if_neg (bind_ne k).2.1, if_neg (bind_ne k).2.2]; exact ⟨hm, hl⟩
    simp only [bestF, ho]
    by_cases ht : (n' : Int) = 0 ∧ 0 < bindK t.kind ∧ bindK t.kind ≤ low
    · rw [if_pos ht]
      have hn0 : n' = 0 := by omega
      have hb' : b' = false ∧ b = true ∧ n = n' := by
        rcases cstep_cases h1 with ⟨_, k, _⟩ | ⟨_, k, _⟩ | ⟨_, k, _⟩ | ⟨k0, k, k1, k2⟩
        · exact absurd k (bind_ne ht.2.1).1
        · exact absurd k (bind_ne ht.2.1).2.1
        · exact absurd k (bind_ne ht.2.1).2.2
        · exact ⟨k1, k0, k2.symm⟩
      obtain ⟨rfl, rfl, hnn⟩ := hb'
      rcases best_spec l false n' _ r (i + 1) (i : Int) (bindK t.kind) h2 with ⟨e1, e2⟩ | ⟨l1, l2, s, e1, e2, e3, e4, e5, e6, e7, e8⟩
      · refine .inr ⟨[], l, t, rfl, by rw [e1]; simp, ht.2.1, ht.2.2, ?_, ?_, trivial, ?_⟩
        · simp only [ctl]; rw [hnn, hn0]
        · rw [hn0] at h2; exact h2
        · rw [hn0] at e2; exact e2
      · refine .inr ⟨t :: l1, l2, s, by rw [e1]; rfl, by rw [e2]; simp only [List.length_cons]; congr 1; omega, e3, by omega, by rw [up]; exact e5, e6, lo _ _ (fun _ _ => e4) e7, e8⟩
    · rw [if_neg ht]
      rcases best_spec l b' n' _ r (i + 1) a low h2 with ⟨e1, e2⟩ | ⟨l1, l2, s, e1, e2, e3, e4, e5, e6, e7, e8⟩
      · exact .inl ⟨e1, lo _ _ (fun h0 hp => by omega) e2⟩
      · exact .inr ⟨t :: l1, l2, s, by rw [e1]; rfl, by rw [e2]; simp only [List.length_cons]; congr 1; omega, e3, e4, by rw [up]; exact e5, e6, lo _ _ (fun h0 hp => by omega) e7, e8⟩
/-- nothing but one pair of parentheses outside -/
theorem ctl_close {M : Nat} : ∀ (l : List Tok) (b : Bool) (k : Nat) (az : Bool), k + 1 ≤ M → ctl M b (k + 1) az l = some (true, 0) → lowsOk 10 (k + 1) l → ∃ (m : List Tok) (c : Tok), l = m ++ [c] ∧ c.kind = 7 ∧ ctl M b k az m = some (true, 0)
  | [], b, k, az, _, h, _ => by simp [ctl] at h
  | t :: l, b, k, az, hk, h, hl => by
    obtain ⟨b', n', h1, h2⟩ := ctl_cons h
    simp only [lowsOk] at hl
    rcases cstep_cases h1 with ⟨rfl, k1, k2, rfl, rfl⟩ | ⟨rfl, k1, rfl, k3, rfl, rfl⟩ | ⟨rfl, k1, hp, rfl, rfl⟩ | ⟨rfl, k1, rfl, rfl⟩
    · rw [if_neg (by omega), if_neg (by omega)] at hl
      obtain ⟨m, c, e1, e2, e3⟩ := ctl_close l true k _ hk h2 hl.2
      refine ⟨t :: m, c, by rw [e1]; rfl, e2, ?_⟩
      have : cstep M false k az t = some (true, k) := by unfold cstep; rw [if_pos rfl, if_pos ⟨k1, k2⟩]
      simp only [ctl, this]; exact e3
    · rw [if_pos k1] at hl
      obtain ⟨m, c, e1, e2, e3⟩ := ctl_close l false (k + 1) _ (by omega) h2 hl
      refine ⟨t :: m, c, by rw [e1]; rfl, e2, ?_⟩
      have : cstep M false k false t = some (false, k + 1) := by unfold cstep; rw [if_pos rfl, if_neg (by omega), if_pos ⟨k1, rfl⟩, if_neg (by omega)]
      simp only [ctl, this]; exact e3
    · rw [if_neg (by omega), if_pos k1] at hl
      simp only [Nat.add_sub_cancel] at h2 hl
      cases n' with
      | zero =>
        cases l with
        | nil => exact ⟨[], t, rfl, k1, rfl⟩
        | cons u l2 =>
          exfalso
          obtain ⟨b2, n2, q1, q2⟩ := ctl_cons h2
          rcases cstep_cases q1 with ⟨q, _⟩ | ⟨q, _⟩ | ⟨_, _, q, _⟩ | ⟨_, q, _⟩
          · cases q
          · cases q
          · omega
          · simp only [lowsOk] at hl
            rw [if_neg (bind_ne q).2.1, if_neg (bind_ne q).2.2] at hl
            have := hl.1 (by first | exact rfl | trivial) q
            have := bind_le u.kind
            omega
      | succ k' =>
        obtain ⟨m, c, e1, e2, e3⟩ := ctl_close l true k' _ (by omega) h2 hl
        refine ⟨t :: m, c, by rw [e1]; rfl, e2, ?_⟩
        have : cstep M true (k' + 1) az t = some (true, k') := by unfold cstep; rw [if_neg (by simp), if_pos k1, if_pos (by omega)]; rfl
        simp only [ctl, this]; exact e3
    · rw [if_neg (bind_ne k1).2.1, if_neg (bind_ne k1).2.2] at hl
      obtain ⟨m, c, e1, e2, e3⟩ := ctl_close l false k _ hk h2 hl.2
      refine ⟨t :: m, c, by rw [e1]; rfl, e2, ?_⟩
      have : cstep M true k az t = some (false, k) := by unfold cstep; rw [if_neg (by simp), if_neg (bind_ne k1).2.2, if_pos k1]
      simp only [ctl, this]; exact e3
/-- expressions as trees -/
inductive Xp where
  | atm (t : Trm)
  | op (k : Int) (a b : Xp)
namespace Xp
/-- in postfix form -/
def post : Xp → List Trm
  | .atm t => [t]
  | .op k a b => a.post ++ (b.post ++ [sgn k])
def deep : Xp → Int
  | .atm _ => 1
  | .op _ a b => (if a.deep < b.deep then b.deep else a.deep) + 1
/-- may it be? (wr: may an atom be written?) -/
def okE (wr : Trm → Bool) : Xp → Prop
  | .atm t => t.op = 1 ∧ wr t = true
  | .op k a b => 0 < bindK k ∧ (k = 5 → ∃ t, b = .atm t ∧ t.of = 5) ∧ a.okE wr ∧ b.okE wr
end Xp
def tokA (t : Trm) : Tok := ⟨1, t.name, t.of, 0⟩
def tokS (k : Int) : Tok := ⟨k, ⟨#[]⟩, 0, 0⟩
namespace Xp
/-- as tokens, where it must bind at least so closely -/
def toks : Int → Xp → List Tok
  | _, .atm t => [tokA t]
  | m, .op k a b => if bindK k < m then tokS 6 :: ((a.toks (bindK k) ++ tokS k :: b.toks (bindK k + 1)) ++ [tokS 7]) else a.toks (bindK k) ++ tokS k :: b.toks (bindK k + 1)
/-- how many parentheses are open at most -/
def pd : Int → Xp → Nat
  | _, .atm _ => 0
  | m, .op k a b => if bindK k < m then max (a.pd (bindK k)) (b.pd (bindK k + 1)) + 1 else max (a.pd (bindK k)) (b.pd (bindK k + 1))
end Xp
theorem tok_ctl {M : Nat} {wr : Trm → Bool} : ∀ (e : Xp) (m : Int) (n : Nat) (az : Bool) (rest : List Tok), e.okE wr → (az = true → ∃ t, e = .atm t ∧ t.of = 5) → n + e.pd m ≤ M → ctl M false n az (e.toks m ++ rest) = ctl M true n false rest
  | .atm t, m, n, az, rest, _, ha, _ => by
    have h1 : cstep M false n az (tokA t) = some (true, n) := by
      unfold cstep
      rw [if_pos rfl, if_pos]
      refine ⟨rfl, ?_⟩
      cases az with
      | false => exact .inl rfl
      | true =>
        obtain ⟨t', e, h⟩ := ha rfl
        injection e with e
        subst e
        exact .inr h
    simp only [Xp.toks, List.cons_append, List.nil_append, ctl, h1]
    rfl
  | .op k a b, m, n, az, rest, ⟨hk, h5, oa, ob⟩, ha, hp => by
    have has : az = false := by
      cases az with
      | false => rfl
      | true => obtain ⟨t, e, _⟩ := ha rfl; cases e
    subst has
    have body : ∀ (n : Nat) (rest : List Tok), n + max (a.pd (bindK k)) (b.pd (bindK k + 1)) ≤ M → ctl M false n false ((a.toks (bindK k) ++ tokS k :: b.toks (bindK k + 1)) ++ rest) = ctl M true n false rest := by
      intro n rest hn
      rw [List.append_assoc, tok_ctl a _ n false _ oa (by simp) (by omega), List.cons_append]
      have h1 : cstep M true n false (tokS k) = some (false, n) := by
        unfold cstep
        rw [if_neg (by simp), if_neg (show ¬ (tokS k).kind = 7 from (bind_ne hk).2.2), if_pos (show 0 < bindK (tokS k).kind from hk)]
      simp only [ctl, h1]
      refine tok_ctl b _ n _ _ ob (fun h => h5 (of_decide_eq_true h)) (by omega)
    simp only [Xp.toks, Xp.pd] at hp ⊢
    by_cases hm : bindK k < m
    · rw [if_pos hm] at hp ⊢
      have h1 : cstep M false n false (tokS 6) = some (false, n + 1) := by
        unfold cstep
        rw [if_pos rfl, if_neg (by simp [tokS]), if_pos ⟨rfl, rfl⟩, if_neg (by omega)]
      have h2 : cstep M true (n + 1) false (tokS 7) = some (true, n) := by
        unfold cstep
        rw [if_neg (by simp), if_pos (show (tokS 7).kind = 7 from rfl), if_pos (by omega)]; rfl
      rw [List.cons_append, List.append_assoc]
      simp only [ctl, h1]
      rw [show decide ((tokS 6).kind = 5) = false from rfl, body (n + 1) _ (by omega), List.singleton_append]
      simp only [ctl, h2]
      rfl
    · rw [if_neg hm] at hp ⊢
      exact body n rest hp
theorem tok_lows {wr : Trm → Bool} : ∀ (e : Xp) (m q : Int) (n : Nat) (rest : List Tok), e.okE wr → (n = 0 → q ≤ m) → lowsOk q n rest → lowsOk q n (e.toks m ++ rest)
  | .atm t, m, q, n, rest, _, _, hr => by
    simp only [Xp.toks, List.cons_append, List.nil_append, lowsOk]
    rw [if_neg (by simp [tokA]), if_neg (by simp [tokA])]
    exact ⟨fun _ h => absurd h (by simp [tokA, bind1]), hr⟩
  | .op k a b, m, q, n, rest, ⟨hk, h5, oa, ob⟩, hq, hr => by
    have body : ∀ (n : Nat) (rest : List Tok), (n = 0 → q ≤ bindK k) → lowsOk q n rest → lowsOk q n ((a.toks (bindK k) ++ tokS k :: b.toks (bindK k + 1)) ++ rest) := by
      intro n rest hn hr
      rw [List.append_assoc]
      refine tok_lows a _ _ _ _ oa hn ?_
      rw [List.cons_append]
      simp only [lowsOk]
      rw [if_neg (show ¬ (tokS k).kind = 6 from (bind_ne hk).2.1), if_neg (show ¬ (tokS k).kind = 7 from (bind_ne hk).2.2)]
      exact ⟨fun h0 _ => hn h0, tok_lows b _ _ _ _ ob (fun h0 => by have := hn h0; omega) hr⟩
    simp only [Xp.toks]
    by_cases hm : bindK k < m
    · rw [if_pos hm, List.cons_append, List.append_assoc]
      simp only [lowsOk]
      rw [if_pos (show (tokS 6).kind = 6 from rfl)]
      refine body (n + 1) _ (fun h0 => by omega) ?_
      rw [List.singleton_append]
      simp only [lowsOk]
      rw [if_neg (by simp [tokS]), if_pos (show (tokS 7).kind = 7 from rfl)]
      exact hr
    · rw [if_neg hm]
      exact body n rest (fun h0 => by have := hq h0; omega) hr
theorem tok_acc {M : Nat} {wr : Trm → Bool} {e : Xp} (h : e.okE wr) (m : Int) (hp : e.pd m ≤ M) : accT M (e.toks m) := by
  have := tok_ctl (M := M) e m 0 false [] h (by simp) (by omega)
  rw [List.append_nil] at this
  exact this
/-- WHAT IS WRITTEN IS READ -/
theorem tok_read {wr : Trm → Bool} : ∀ (e : Xp) (m : Int), e.okE wr → readD (e.toks m) = e.post
  | .atm t, m, h => by
    simp only [Xp.toks, Xp.post]
    rw [readD_one _ rfl]
    obtain ⟨h1, _⟩ := h
    cases t
    simp only at h1
    subst h1
    rfl
  | .op k a b, m, h => by
    obtain ⟨hk, h5, oa, ob⟩ := h
    have pa := Nat.le_max_left (a.pd (bindK k)) (b.pd (bindK k + 1))
    have pb := Nat.le_max_right (a.pd (bindK k)) (b.pd (bindK k + 1))
    have la := tok_lows a (bindK k) (bindK k) 0 [] oa (fun _ => Int.le_refl _) trivial
    have lb := tok_lows b (bindK k + 1) (bindK k + 1) 0 [] ob (fun _ => Int.le_refl _) trivial
    rw [List.append_nil] at la lb
    have hb : readD (a.toks (bindK k) ++ tokS k :: b.toks (bindK k + 1)) = (Xp.op k a b).post := by
      rw [readD_sign (tok_acc oa _ pa) (tok_acc ob _ pb) hk la lb, tok_read a _ oa, tok_read b _ ob]
      rfl
    simp only [Xp.toks]
    by_cases hm : bindK k < m
    · rw [if_pos hm, readD_open (M := max (a.pd (bindK k)) (b.pd (bindK k + 1))) rfl rfl, hb]
      have := tok_acc (M := max (a.pd (bindK k)) (b.pd (bindK k + 1))) (e := .op k a b) (wr := wr) ⟨hk, h5, oa, ob⟩ (bindK k) (by simp only [Xp.pd]; rw [if_neg (by omega)]; exact Nat.le_refl _)
      simp only [Xp.toks] at this
      rwa [if_neg (by omega)] at this
    · rw [if_neg hm, hb]
/-- an atom of the kind Role -/
def Xp.role : Xp → Bool
  | .atm t => decide (t.of = 5)
  | .op _ _ _ => false
theorem role_iff (e : Xp) : e.role = true ↔ ∃ t, e = .atm t ∧ t.of = 5 := by
  cases e with
  | atm t => simp [Xp.role]
  | op k a b => simp [Xp.role]
/-- what a term makes of the expressions ahead (the last one first) -/
def stepX (wr : Trm → Bool) (t : Trm) (st : List Xp) : Option (List Xp) :=
  if t.op = 1 then (if wr t = true then some (.atm t :: st) else none)
  else if 0 < bindK t.op ∧ t.of = 0 ∧ t.name = ⟨#[]⟩ then (match st with
    | b :: a :: r => if t.op = 5 ∧ b.role = false then none else some (.op t.op a b :: r)
    | _ => none)
  else none
def runX (wr : Trm → Bool) : List Trm → List Xp → Option (List Xp)
  | [], st => some st
  | t :: l, st => match stepX wr t st with
    | none => none
    | some st' => runX wr l st'
theorem runX_post {wr : Trm → Bool} : ∀ (e : Xp) (l : List Trm) (st : List Xp), e.okE wr → runX wr (e.post ++ l) st = runX wr l (e :: st)
  | .atm t, l, st, ⟨h1, h2⟩ => by
    simp only [Xp.post, List.cons_append, List.nil_append, runX, stepX]
    rw [if_pos h1, if_pos h2]
  | .op k a b, l, st, ⟨hk, h5, oa, ob⟩ => by
    simp only [Xp.post, List.append_assoc]
    rw [runX_post a _ _ oa, runX_post b _ _ ob]
    simp only [List.cons_append, List.nil_append, runX, stepX]
    rw [if_neg (show ¬ (sgn k).op = 1 from (bind_ne hk).1), if_pos (show 0 < bindK (sgn k).op ∧ (sgn k).of = 0 ∧ (sgn k).name = ⟨#[]⟩ from ⟨hk, rfl, rfl⟩)]
    have : ¬ ((sgn k).op = 5 ∧ b.role = false) := fun ⟨h, hr⟩ => by
      have := (role_iff b).2 (h5 h)
      rw [this] at hr; cases hr
    try simp only
    rw [if_neg this]
    try rfl
/-- the terms of expressions, the last one first -/
def stp (st : List Xp) : List Trm := st.reverse.flatMap Xp.post
theorem stp_cons (e : Xp) (st : List Xp) : stp (e :: st) = stp st ++ e.post := by simp [stp]
theorem sgn_eta {t : Trm} (h1 : t.of = 0) (h2 : t.name = ⟨#[]⟩) : sgn t.op = t := by
  cases t; simp only at h1 h2; subst h1; subst h2; rfl
theorem runX_ok {wr : Trm → Bool} : ∀ (l : List Trm) (st st' : List Xp), runX wr l st = some st' → (∀ e ∈ st, e.okE wr) → (∀ e ∈ st', e.okE wr) ∧ stp st' = stp st ++ l
  | [], st, st', h, ho => by
    simp only [runX, Option.some.injEq] at h
    subst h
    exact ⟨ho, by simp⟩
  | t :: l, st, st', h, ho => by
    simp only [runX] at h
    cases hs : stepX wr t st with
    | none => rw [hs] at h; cases h
    | some s1 =>
      rw [hs] at h
      simp only [stepX] at hs
      by_cases h1 : t.op = 1
      · rw [if_pos h1] at hs
        by_cases h2 : wr t = true
        · rw [if_pos h2] at hs
          simp only [Option.some.injEq] at hs
          subst hs
          obtain ⟨q1, q2⟩ := runX_ok l _ _ h (fun e he => by
            rcases List.mem_cons.1 he with rfl | he
            · exact ⟨h1, h2⟩
            · exact ho e he)
          exact ⟨q1, by rw [q2, stp_cons]; simp [Xp.post]⟩
        · rw [if_neg h2] at hs; cases hs
      · rw [if_neg h1] at hs
        by_cases h2 : 0 < bindK t.op ∧ t.of = 0 ∧ t.name = ⟨#[]⟩
        · rw [if_pos h2] at hs
          cases st with
          | nil => cases hs
          | cons b st =>
            cases st with
            | nil => cases hs
            | cons a r =>
              simp only at hs
              by_cases h3 : t.op = 5 ∧ b.role = false
              · rw [if_pos h3] at hs; cases hs
              · rw [if_neg h3] at hs
                simp only [Option.some.injEq] at hs
                subst hs
                obtain ⟨q1, q2⟩ := runX_ok l _ _ h (fun e he => by
                  rcases List.mem_cons.1 he with rfl | he
                  · refine ⟨h2.1, fun h5 => ?_, ho a (by simp), ho b (by simp)⟩
                    refine (role_iff b).1 ?_
                    cases hr : b.role with
                    | true => rfl
                    | false => exact absurd ⟨h5, hr⟩ h3
                  · exact ho e (by simp [he]))
                refine ⟨q1, ?_⟩
                rw [q2, stp_cons, stp_cons, stp_cons]
                simp only [Xp.post, sgn_eta h2.2.1 h2.2.2]
                simp
        · rw [if_neg h2] at hs; cases hs
/-- the expression that terms are -/
def treeX (wr : Trm → Bool) (x : List Trm) : Option Xp := match runX wr x [] with
  | some [e] => some e
  | _ => none
theorem treeX_iff {wr : Trm → Bool} {x : List Trm} {e : Xp} : treeX wr x = some e ↔ e.okE wr ∧ x = e.post := by
  constructor
  · intro h
    unfold treeX at h
    split at h
    · next e' hr =>
      simp only [Option.some.injEq] at h
      subst h
      obtain ⟨q1, q2⟩ := runX_ok x [] _ hr (by simp)
      exact ⟨q1 _ (by simp), by rw [stp_cons] at q2; simpa [stp] using q2.symm⟩
    · cases h
  · rintro ⟨h, rfl⟩
    have := runX_post e [] [] h
    rw [List.append_nil] at this
    unfold treeX
    rw [this]
    rfl
theorem post_inj {wr : Trm → Bool} {a b : Xp} (ha : a.okE wr) (hb : b.okE wr) (h : a.post = b.post) : a = b := by
  have h1 := treeX_iff.2 ⟨ha, rfl⟩
  have h2 := treeX_iff.2 ⟨hb, h⟩
  rw [h1] at h2
  injection h2
/-- words with a blank between -/
def joinS : List (List UInt8) → List UInt8
  | [] => []
  | [x] => x
  | x :: y :: r => x ++ 32 :: joinS (y :: r)
theorem joinS_cons {x : List UInt8} {r : List (List UInt8)} (h : r ≠ []) : joinS (x :: r) = x ++ 32 :: joinS r := by
  cases r with
  | nil => exact absurd rfl h
  | cons y r => rfl
theorem joinS_app : ∀ {a b : List (List UInt8)}, a ≠ [] → b ≠ [] → joinS (a ++ b) = joinS a ++ 32 :: joinS b
  | [], _, h, _ => absurd rfl h
  | [x], b, _, hb => joinS_cons hb
  | x :: y :: r, b, _, hb => by
    show x ++ 32 :: joinS ((y :: r) ++ b) = (x ++ 32 :: joinS (y :: r)) ++ 32 :: joinS b
    rw [joinS_app (a := y :: r) (by simp) hb, List.append_assoc]
    rfl
/-- which parts a term took, and how deep it is -/
abbrev Prt := Int × Int × Int
inductive Reps (x : List Trm) (l : List Prt) : Nat → Xp → Prop where
  | atm (i : Nat) (t : Trm) (p : Prt) : x[i]? = some t → l[i]? = some p → p.2.2 = 1 → Reps x l i (.atm t)
  | op (i j m : Nat) (k : Int) (a b : Xp) : x[i]? = some (sgn k) → l[i]? = some ((j : Int), (m : Int), (Xp.op k a b).deep) → j < i → m < i → Reps x l j a → Reps x l m b → Reps x l i (.op k a b)
theorem Reps.deep {x : List Trm} {l : List Prt} {i : Nat} {e : Xp} (h : Reps x l i e) : ∃ p, l[i]? = some p ∧ p.2.2 = e.deep := by
  cases h with
  | atm t p h1 h2 h3 => exact ⟨_, by assumption, by assumption⟩
  | op j m k a b h1 h2 h3 h4 h5 h6 => exact ⟨_, by assumption, rfl⟩
theorem Reps.set {x : List Trm} {l : List Prt} {q : Nat} {p : Prt} : ∀ {i : Nat} {e : Xp}, Reps x l i e → i < q → Reps x (l.set q p) i e
  | _, _, .atm i t p' h1 h2 h3, hi => .atm i t p' h1 (by rw [List.getElem?_set_ne (by omega)]; exact h2) h3
  | _, _, .op i j m k a b h1 h2 hj hm ha hb, hi => .op i j m k a b h1 (by rw [List.getElem?_set_ne (by omega)]; exact h2) hj hm (Reps.set ha (by omega)) (Reps.set hb (by omega))
theorem runX_snoc {wr : Trm → Bool} {t : Trm} : ∀ {l : List Trm} {st : List Xp}, runX wr (l ++ [t]) st = match runX wr l st with
    | none => none
    | some s => stepX wr t s
  | [], st => by
    simp only [List.nil_append, runX]
    cases stepX wr t st <;> rfl
  | u :: l, st => by
    simp only [List.cons_append, runX]
    cases stepX wr u st with
    | none => rfl
    | some s => exact runX_snoc
theorem deep_pos : ∀ e : Xp, 1 ≤ e.deep
  | .atm _ => Int.le_refl _
  | .op _ a b => by
    have := deep_pos a
    have := deep_pos b
    simp only [Xp.deep]
    split <;> omega
theorem deep_le : ∀ e : Xp, e.deep ≤ e.post.length
  | .atm _ => by simp [Xp.deep, Xp.post]
  | .op _ a b => by
    have := deep_le a
    have := deep_le b
    simp only [Xp.deep, Xp.post, List.length_append, List.length_cons, List.length_nil]
    split <;> omega
/-- how many parentheses are opened; the other tokens, without their places -/
def opens (l : List Tok) : Nat := l.countP fun t => decide (t.kind = 6)
def isPar (t : Tok) : Bool := decide (t.kind = 6) || decide (t.kind = 7)
def others (l : List Tok) : List (Int × ByteArray × Int) := (l.filter fun t => !isPar t).map fun t => (t.kind, t.name, t.of)
theorem opens_app (a b : List Tok) : opens (a ++ b) = opens a + opens b := List.countP_append
theorem opens_cons (t : Tok) (l : List Tok) : opens (t :: l) = opens l + if t.kind = 6 then 1 else 0 := by
  simp [opens, List.countP_cons]
theorem others_app (a b : List Tok) : others (a ++ b) = others a ++ others b := by simp [others]
theorem others_cons (t : Tok) (l : List Tok) : others (t :: l) = if isPar t = true then others l else (t.kind, t.name, t.of) :: others l := by
  by_cases h : isPar t = true
  · rw [if_pos h]; simp [others, h]
  · rw [if_neg h]; simp [others, h]
theorem toks_more : ∀ (m : Int) (e : Xp), opens (e.toks m) ≤ opens (e.toks 0) + 1 ∧ others (e.toks m) = others (e.toks 0)
  | m, .atm t => by simp [Xp.toks]
  | m, .op k a b => by
    have h0 : ¬ bindK k < 0 := by have := bind_ge k; omega
    simp only [Xp.toks]
    rw [if_neg h0]
    split
    · rw [opens_cons, opens_app, others_cons, others_app]
      have e1 : isPar (tokS 6) = true := rfl
      have e2 : others [tokS 7] = [] := rfl
      have e3 : opens [tokS 7] = 0 := rfl
      rw [if_pos e1, e2, e3, List.append_nil, if_pos (show (tokS 6).kind = 6 from rfl)]
      exact ⟨by omega, rfl⟩
    · exact ⟨by omega, rfl⟩
/-- WHAT IS READ, as a tree: written it has no more parentheses, and the same other tokens -/
theorem read_tree {M : Nat} {wr : Trm → Bool} : ∀ (f : Nat) (l : List Tok), l.length ≤ f → accT M l → (∀ t ∈ l, t.kind = 1 → wr (leaf t) = true) → (∀ t ∈ l, 0 < bindK t.kind → t.name = ⟨#[]⟩ ∧ t.of = 0) →
    ∃ e : Xp, e.okE wr ∧ readD l = e.post ∧ (∀ m, lowsOk m 0 l → opens (e.toks m) ≤ opens l) ∧ (∀ m, others (e.toks m) = others l)
  | 0, l, hl, ha, _, _ => by
    have : l = [] := List.eq_nil_of_length_eq_zero (by omega)
    subst this
    simp [accT, ctl] at ha
  | f + 1, l, hl, ha, hw, hn => by
    by_cases h1 : l.length = 1
    · obtain ⟨t, rfl⟩ := List.length_eq_one_iff.1 h1
      obtain ⟨b', n', q1, q2⟩ := ctl_cons ha
      rcases cstep_cases q1 with ⟨_, k, _⟩ | ⟨_, k, _, _, rfl, _⟩ | ⟨q, _⟩ | ⟨q, _⟩
      · refine ⟨.atm (leaf t), ⟨rfl, hw t (by simp) k⟩, readD_one t k, fun m _ => ?_, fun m => ?_⟩
        · simp [Xp.toks, opens, tokA]
        · simp [Xp.toks, others, isPar, tokA, leaf, k]
      · simp [ctl] at q2
      · cases q
      · cases q
    rcases best_spec l false 0 false (true, 0) 0 (-1) 9 ha with ⟨e1, e2⟩ | ⟨l1, l2, s, e1, e2, e3, e4, e5, e6, e7, e8⟩
    · cases l with
      | nil => simp [accT, ctl] at ha
      | cons t l =>
        obtain ⟨b', n', q1, q2⟩ := ctl_cons ha
        simp only [lowsOk] at e2
        rcases cstep_cases q1 with ⟨_, k, _, rfl, rfl⟩ | ⟨_, k, _, _, rfl, rfl⟩ | ⟨q, _⟩ | ⟨q, _⟩
        · exfalso
          rw [if_neg (by omega), if_neg (by omega)] at e2
          cases l with
          | nil => simp at h1
          | cons u l2 =>
            obtain ⟨b2, n2, q3, q4⟩ := ctl_cons q2
            rcases cstep_cases q3 with ⟨q, _⟩ | ⟨q, _⟩ | ⟨_, _, q, _⟩ | ⟨_, q, _⟩
            · cases q
            · cases q
            · omega
            · have := e2.2
              simp only [lowsOk] at this
              rw [if_neg (bind_ne q).2.1, if_neg (bind_ne q).2.2] at this
              have := this.1 (by first | exact rfl | trivial) q
              have := bind_le u.kind
              omega
        · rw [if_pos k] at e2
          rw [show decide (t.kind = 5) = false by rw [decide_eq_false]; omega] at q2
          obtain ⟨m, c, r1, r2, r3⟩ := ctl_close l false 0 false (by omega) q2 e2
          subst r1
          obtain ⟨e, o1, o2, o3, o4⟩ := read_tree f m (by simp at hl; omega) r3 (fun u hu => hw u (by simp [hu])) (fun u hu => hn u (by simp [hu]))
          have c6 : ¬ c.kind = 6 := by omega
          have p1 : isPar t = true := by simp [isPar, k]
          have p2 : isPar c = true := by simp [isPar, r2]
          refine ⟨e, o1, by rw [readD_open k r2 r3, o2], fun q _ => ?_, fun q => ?_⟩
          · have l0 : lowsOk 0 0 m := by
              have : ∀ (n : Nat) (l : List Tok), lowsOk 0 n l := by
                intro n l
                induction l generalizing n with
                | nil => trivial
                | cons u l ih =>
                  simp only [lowsOk]
                  split
                  · exact ih _
                  · split
                    · exact ih _
                    · exact ⟨fun _ _ => bind_ge _, ih _⟩
              exact this 0 m
            have := o3 0 l0
            have := (toks_more q e).1
            rw [opens_cons, opens_app, if_pos k]
            omega
          · rw [others_cons, if_pos p1, others_app, others_cons, if_pos p2, (toks_more q e).2, o4 0]
            simp [others]
        · cases q
        · cases q
    · have a2 : accT M l2 := by
        unfold accT
        cases hk : decide (s.kind = 5) with
        | false => rw [hk] at e6; exact e6
        | true => rw [hk] at e6; exact ctl_as e6
      subst e1
      simp only [List.length_append, List.length_cons] at hl
      obtain ⟨a, a1, a3, a4, a5⟩ := read_tree f l1 (by omega) e5 (fun u hu => hw u (by simp [hu])) (fun u hu => hn u (by simp [hu]))
      obtain ⟨b, b1, b3, b4, b5⟩ := read_tree f l2 (by omega) a2 (fun u hu => hw u (by simp [hu])) (fun u hu => hn u (by simp [hu]))
      have hs : tokS s.kind = ⟨s.kind, s.name, s.of, 0⟩ := by
        obtain ⟨z1, z2⟩ := hn s (by simp) e3
        rw [z1, z2]; rfl
      obtain ⟨n1, n6, n7⟩ := bind_ne e3
      have hp : isPar s = false := by simp [isPar, n6, n7]
      have hp2 : isPar (tokS s.kind) = false := by simp [isPar, tokS, n6, n7]
      have role : s.kind = 5 → ∃ t, b = .atm t ∧ t.of = 5 := by
        intro h5
        rw [decide_eq_true h5] at e6
        cases l2 with
        | nil => simp [ctl] at e6
        | cons t l2 =>
          obtain ⟨b', n', q1, q2⟩ := ctl_cons e6
          rcases cstep_cases q1 with ⟨_, k, k2, rfl, rfl⟩ | ⟨_, _, q, _⟩ | ⟨q, _⟩ | ⟨q, _⟩
          · cases l2 with
            | nil =>
              have hb : (Xp.atm (leaf t)).post = b.post := by rw [← b3, readD_one t k]; rfl
              have := post_inj (wr := wr) (a := .atm (leaf t)) ⟨rfl, hw t (by simp) k⟩ b1 hb
              exact ⟨leaf t, this.symm, by rcases k2 with h | h; cases h; exact h⟩
            | cons u l3 =>
              exfalso
              obtain ⟨b2, n2, q3, q4⟩ := ctl_cons q2
              rcases cstep_cases q3 with ⟨q, _⟩ | ⟨q, _⟩ | ⟨_, _, q, _⟩ | ⟨_, q, _⟩
              · cases q
              · cases q
              · omega
              · simp only [lowsOk] at e8
                rw [if_neg (by omega), if_neg (by omega), if_neg (bind_ne q).2.1, if_neg (bind_ne q).2.2] at e8
                have := e8.2.1 (by first | exact rfl | trivial) q
                have := bind_le u.kind
                have : bindK s.kind = 4 := by rw [h5]; decide
                omega
          · cases q
          · cases q
          · cases q
      have lowM : ∀ (q : Int), lowsOk q 0 (l1 ++ s :: l2) → q ≤ bindK s.kind := by
        intro q hq
        have gen : ∀ (l1 : List Tok) (b : Bool) (n : Nat) (az : Bool), ctl M b n az l1 = some (true, 0) → lowsOk q n (l1 ++ s :: l2) → q ≤ bindK s.kind := by
          intro l1
          induction l1 with
          | nil =>
            intro b n az hc hq
            simp only [ctl, Option.some.injEq, Prod.mk.injEq] at hc
            simp only [List.nil_append, lowsOk] at hq
            rw [if_neg n6, if_neg n7] at hq
            exact hq.1 hc.2 e3
          | cons t l1 ih =>
            intro b n az hc hq
            obtain ⟨b', n', q1, q2⟩ := ctl_cons hc
            simp only [List.cons_append, lowsOk] at hq
            rcases cstep_cases q1 with ⟨_, k, _, _, rfl⟩ | ⟨_, k, _, _, _, rfl⟩ | ⟨_, k, _, _, rfl⟩ | ⟨_, k, _, rfl⟩
            · rw [if_neg (by omega), if_neg (by omega)] at hq; exact ih _ _ _ q2 hq.2
            · rw [if_pos k] at hq; exact ih _ _ _ q2 hq
            · rw [if_neg (by omega), if_pos k] at hq; exact ih _ _ _ q2 hq
            · rw [if_neg (bind_ne k).2.1, if_neg (bind_ne k).2.2] at hq; exact ih _ _ _ q2 hq.2
        exact gen l1 false 0 false e5 hq
      refine ⟨.op s.kind a b, ⟨e3, role, a1, b1⟩, ?_, fun q hq => ?_, fun q => ?_⟩
      · rw [readD_sign e5 a2 e3 e7 e8, a3, b3]; rfl
      · have hq2 := lowM q hq
        have r1 := a4 _ e7
        have r2 := b4 _ e8
        simp only [Xp.toks]
        rw [if_neg (by omega), opens_app, opens_app, opens_cons, opens_cons, if_neg n6, if_neg (show ¬ (tokS s.kind).kind = 6 from n6)]
        omega
      · rw [(toks_more q _).2]
        simp only [Xp.toks]
        rw [if_neg (by have := bind_ge s.kind; omega), others_app, others_app, others_cons, others_cons, if_neg (by rw [hp2]; simp), if_neg (by rw [hp]; simp), a5, b5, hs]
/-- the first token that may not stand where it does, and why; or how it ends -/
def ctlE (M : Nat) : Nat → Bool → Nat → Bool → List Tok → (Nat × Int) ⊕ (Bool × Nat)
  | _, b, n, _, [] => .inr (b, n)
  | i, b, n, az, t :: l => match cstep M b n az t with
    | none => .inl (i, if b = false ∧ t.kind = 6 ∧ az = false then 3 else 2)
    | some (b', n') => ctlE M (i + 1) b' n' (decide (t.kind = 5)) l
theorem ctlE_ok {M : Nat} : ∀ (l : List Tok) (i : Nat) (b : Bool) (n : Nat) (az : Bool) (r : Bool × Nat), ctlE M i b n az l = .inr r ↔ ctl M b n az l = some r
  | [], i, b, n, az, r => by simp [ctlE, ctl]
  | t :: l, i, b, n, az, r => by
    simp only [ctlE, ctl]
    cases cstep M b n az t with
    | none => simp
    | some x => exact ctlE_ok l _ _ _ _ _
theorem ctlE_lt {M : Nat} : ∀ (l : List Tok) (i : Nat) (b : Bool) (n : Nat) (az : Bool) (j : Nat) (e : Int), ctlE M i b n az l = .inl (j, e) → i ≤ j ∧ j < i + l.length ∧ (e = 2 ∨ e = 3)
  | [], i, b, n, az, j, e, h => by simp [ctlE] at h
  | t :: l, i, b, n, az, j, e, h => by
    simp only [ctlE] at h
    rw [List.length_cons]
    cases hc : cstep M b n az t with
    | none =>
      rw [hc] at h
      simp only [Sum.inl.injEq, Prod.mk.injEq] at h
      obtain ⟨rfl, rfl⟩ := h
      refine ⟨Nat.le_refl _, by omega, ?_⟩
      split <;> simp
    | some x =>
      obtain ⟨b', n'⟩ := x
      rw [hc] at h
      have := ctlE_lt l _ _ _ _ _ _ h
      omega
/-- WHAT TOKENS ARE READ AS: terms; where they are wrong, and why -/
def readR (wd : Tok → Bool) (l : List Tok) : List Trm × Nat × Int :=
  match l.findIdx? (fun t => !wd t) with
  | some i => ([], i, 2)
  | none => match ctlE 100 0 false 0 false l with
    | .inl (i, e) => ([], i, e)
    | .inr (b, n) => if b = false ∨ 0 < n then ([], l.length, 2) else if 200 < (readD l).length then ([], l.length, 3) else (readD l, 0, 0)
theorem readR_ok {wd : Tok → Bool} {l : List Tok} (h : (readR wd l).2.2 = 0) : (∀ t ∈ l, wd t = true) ∧ accT 100 l ∧ (readD l).length ≤ 200 ∧ readR wd l = (readD l, 0, 0) := by
  unfold readR at h ⊢
  cases hf : l.findIdx? (fun t => !wd t) with
  | some i => rw [hf] at h; cases h
  | none =>
    rw [hf] at h
    simp only at h ⊢
    have hw : ∀ t ∈ l, wd t = true := fun t ht => by
      have := List.findIdx?_eq_none_iff.1 hf t ht
      simpa using this
    cases hc : ctlE 100 0 false 0 false l with
    | inl x =>
      obtain ⟨i, e⟩ := x
      rw [hc] at h
      have := (ctlE_lt _ _ _ _ _ _ _ hc).2.2
      simp only at h
      omega
    | inr x =>
      obtain ⟨b, n⟩ := x
      rw [hc] at h
      simp only at h ⊢
      by_cases h1 : b = false ∨ 0 < n
      · rw [if_pos h1] at h; cases h
      · rw [if_neg h1] at h ⊢
        by_cases h2 : 200 < (readD l).length
        · rw [if_pos h2] at h; cases h
        · rw [if_neg h2]
          simp only [not_or, Bool.not_eq_false, Nat.not_lt, Nat.le_zero] at h1
          obtain ⟨rfl, rfl⟩ := h1
          exact ⟨hw, (ctlE_ok _ _ _ _ _ _).1 hc, by omega, rfl⟩
theorem readR_acc {wd : Tok → Bool} {l : List Tok} (hw : ∀ t ∈ l, wd t = true) : readR wd l = match ctlE 100 0 false 0 false l with
    | .inl (i, e) => ([], i, e)
    | .inr (b, n) => if b = false ∨ 0 < n then ([], l.length, 2) else if 200 < (readD l).length then ([], l.length, 3) else (readD l, 0, 0) := by
  unfold readR
  rw [List.findIdx?_eq_none_iff.2 (fun t ht => by simp [hw t ht])]
end Go.Proofs.Ytmbijfcjfhdnjaa

/- Expressions: the reader, token by token: it takes just what may stand there (plain). -/
namespace Go.Proofs.Ytmbijfcjfhdnjaa
set_option linter.unusedSimpArgs false
set_option linter.unusedVariables false
open Go.RowKit Go.Lib

/-- the reader: terms, what waits (the last one ahead), how many parentheses are open, whether a part stands behind -/
structure Rdr where
  out : List Trm
  w : List Int
  opn : Nat
  beh : Bool
/-- the reader takes a token, or tells what is wrong -/
def takeR (r : Rdr) (t : Tok) : Int ⊕ Rdr :=
  if r.beh = false then
    if t.kind = 1 then (if r.w.headD 0 = 5 ∧ t.of ≠ 5 then .inl 2 else .inr ⟨r.out ++ [leaf t], r.w, r.opn, true⟩)
    else if t.kind = 6 ∧ r.w.headD 0 ≠ 5 then (if r.opn = 100 then .inl 3 else .inr ⟨r.out, 6 :: r.w, r.opn + 1, false⟩)
    else .inl 2
  else if 0 < bindK t.kind then .inr ⟨r.out ++ (popL (bindK t.kind) r.w).map sgn, t.kind :: popR (bindK t.kind) r.w, r.opn, false⟩
  else if t.kind = 7 then (if r.opn = 0 then .inl 2 else .inr ⟨r.out ++ (popL 1 r.w).map sgn, (popR 1 r.w).tail, r.opn - 1, true⟩)
  else .inl 2
/-- what waits last tells whether a role must come -/
def rinv (az : Bool) (r : Rdr) : Prop := r.beh = false → (az = true ↔ r.w.headD 0 = 5)
theorem takeR_eq {az : Bool} {r : Rdr} {t : Tok} (h : rinv az r) : takeR r t = match cstep 100 r.beh r.opn az t with
    | none => .inl (if r.beh = false ∧ t.kind = 6 ∧ az = false then 3 else 2)
    | some (b', n') => .inr ⟨(sstep (r.out, r.w) t).1, (sstep (r.out, r.w) t).2, n', b'⟩ := by
  obtain ⟨out, w, n, b⟩ := r
  unfold takeR cstep sstep
  simp only at h ⊢
  cases b with
  | false =>
    have h := h rfl
    simp only at h
    by_cases k1 : t.kind = 1
    · have k6 : ¬ t.kind = 6 := by omega
      by_cases ho : t.of = 5 <;> by_cases hw : w.headD 0 = 5 <;> cases az <;> simp_all
    · by_cases k6 : t.kind = 6
      · by_cases hw : w.headD 0 = 5 <;> by_cases hn : n = 100 <;> cases az <;> simp_all
      · by_cases hw : w.headD 0 = 5 <;> cases az <;> simp_all
  | true =>
    by_cases kb : 0 < bindK t.kind
    · obtain ⟨n1, n6, n7⟩ := bind_ne kb
      simp [kb, n1, n6, n7]
    · by_cases k7 : t.kind = 7
      · by_cases hn : n = 0
        · simp [k7, hn, bind7]
        · simp [k7, hn, bind7, Nat.pos_of_ne_zero hn]
      · simp [kb, k7]
theorem rinv_step {az : Bool} {r : Rdr} {t : Tok} {b' : Bool} {n' : Nat} (h : cstep 100 r.beh r.opn az t = some (b', n')) : rinv (decide (t.kind = 5)) ⟨(sstep (r.out, r.w) t).1, (sstep (r.out, r.w) t).2, n', b'⟩ := by
  intro hb
  simp only at hb
  rcases cstep_cases h with ⟨_, k, _, rfl, _⟩ | ⟨_, k, _, _, rfl, _⟩ | ⟨_, k, _, rfl, _⟩ | ⟨_, k, rfl, _⟩
  · cases hb
  · simp [sstep, k]
  · cases hb
  · obtain ⟨n1, n6, n7⟩ := bind_ne k
    simp [sstep, n1, n6, n7]
/-- THE READER over all tokens -/
def runR : Nat → Rdr → List Tok → (Nat × Int) ⊕ Rdr
  | _, r, [] => .inr r
  | i, r, t :: l => match takeR r t with
    | .inl e => .inl (i, e)
    | .inr r' => runR (i + 1) r' l
theorem runR_eq : ∀ (l : List Tok) (i : Nat) (az : Bool) (r : Rdr), rinv az r → runR i r l = match ctlE 100 i r.beh r.opn az l with
    | .inl x => .inl x
    | .inr (b, n) => .inr ⟨(srun l (r.out, r.w)).1, (srun l (r.out, r.w)).2, n, b⟩
  | [], i, az, r, h => rfl
  | t :: l, i, az, r, h => by
    simp only [runR, ctlE, takeR_eq h]
    cases hc : cstep 100 r.beh r.opn az t with
    | none => rfl
    | some x =>
      obtain ⟨b', n'⟩ := x
      simp only
      rw [runR_eq l (i + 1) _ _ (rinv_step hc)]
      rfl
/-- how many parentheses wait is how many are open -/
def rcnt (r : Rdr) : Prop := r.w.count 6 = r.opn ∧ ∀ k ∈ r.w, k = 6 ∨ 0 < bindK k
theorem rcnt_take {r r' : Rdr} {t : Tok} (h : rcnt r) (ht : takeR r t = .inr r') : rcnt r' := by
  obtain ⟨out, w, n, b⟩ := r
  obtain ⟨h1, h2⟩ := h
  simp only at h1 h2
  unfold takeR at ht
  simp only at ht
  split at ht
  · split at ht
    · split at ht
      · cases ht
      · simp only [Sum.inr.injEq] at ht
        subst ht
        exact ⟨h1, h2⟩
    · split at ht
      · split at ht
        · cases ht
        · simp only [Sum.inr.injEq] at ht
          subst ht
          refine ⟨by simp [List.count_cons, h1], fun k hk => ?_⟩
          rcases List.mem_cons.1 hk with rfl | hk
          · exact .inl rfl
          · exact h2 k hk
      · cases ht
  · split at ht
    · next kb =>
      simp only [Sum.inr.injEq] at ht
      subst ht
      refine ⟨?_, fun k hk => ?_⟩
      · show List.count 6 (t.kind :: popR (bindK t.kind) w) = n
        rw [List.count_cons, popR_count kb, if_neg (by simpa using (bind_ne kb).2.1)]; omega
      · rcases List.mem_cons.1 hk with rfl | hk
        · exact .inr kb
        · exact h2 k (popR_mem hk)
    · split at ht
      · split at ht
        · cases ht
        · next hn =>
          simp only [Sum.inr.injEq] at ht
          subst ht
          obtain ⟨R, e1, e2⟩ := popR_close (P := w) (by omega) h2
          refine ⟨?_, fun k hk => ?_⟩
          · show List.count 6 (popR 1 w).tail = n - 1
            rw [e1, List.tail_cons]; omega
          · have hk : k ∈ (popR 1 w).tail := hk
            exact h2 k (popR_mem (q := 1) (List.mem_of_mem_tail hk))
      · cases ht
end Go.Proofs.Ytmbijfcjfhdnjaa

namespace Go.Proofs.Ytmbijfcjfhdnjaa
open Go.RowKit
def J_law05_ExprBack_j1 : ACode :=
 .keep [1] (.seq (.ops [⟨some 62, none, .mv (.t 1), none⟩,
 ⟨some 63, none, .call (.f 16) [(.t 62)], none⟩,
 ⟨some 61, none, .mv (.t 63), none⟩,
 ⟨some 64, none, .ext 0 (.t 61), none⟩,
 ⟨some 65, none, .ext 1 (.t 61), none⟩,
 ⟨some 66, none, .ext 2 (.t 61), none⟩,
 ⟨some 10, none, .mv (.t 64), none⟩,
 ⟨some 11, none, .mv (.t 65), none⟩,
 ⟨some 12, none, .mv (.t 66), none⟩])
 (.keep [1, 10, 12] (.seq (.seq (.ops [⟨some 67, none, .mv (.t 12), none⟩,
 ⟨some 68, none, .bin .neq (.t 67) (.c (.int .i64 0)), none⟩])
 (.keep [1, 10, 68] (.cond (.t 68)
 (.seq (.ops [⟨some 69, none, .mv (.t 10), none⟩,
 ⟨some 70, none, .lenl (.t 69), none⟩,
 ⟨some 71, none, .bin .eql (.t 70) (.c (.int .i64 0)), none⟩,
 ⟨some 4, none, .mv (.t 71), none⟩])
 (.ret))
 (.skip))))
 (.keep [1, 10] (.seq (.ops [⟨some 73, none, .mv (.t 10), none⟩,
 ⟨some 74, none, .call (.f 22) [(.t 73)], none⟩,
 ⟨some 72, none, .mv (.t 74), none⟩,
 ⟨some 75, none, .ext 0 (.t 72), none⟩,
 ⟨some 76, none, .ext 1 (.t 72), none⟩,
 ⟨some 13, none, .mv (.t 75), none⟩,
 ⟨some 14, none, .mv (.t 76), none⟩])
 (.keep [1, 10, 13, 14] (.seq (.seq (.ops [⟨some 77, none, .mv (.t 14), none⟩,
 ⟨some 78, none, .bin .neq (.t 77) (.c (.int .i64 0)), none⟩,
 ⟨some 79, none, .mv (.t 78), none⟩,
 ⟨some 80, (some (79, false)), .mv (.t 10), none⟩,
 ⟨some 81, (some (79, false)), .call (.f 24) [(.t 80)], none⟩,
 ⟨some 82, (some (79, false)), .not (.t 81), none⟩,
 ⟨some 83, none, .pick (.t 79) (.c (.bool true)) (.t 82), none⟩])
 (.keep [1, 10, 13, 83] (.cond (.t 83)
 (.seq (.ops [⟨some 4, none, .mv (.c (.bool false)), none⟩])
 (.ret))
 (.skip))))
 (.keep [1, 10, 13] (.seq (.seq (.ops [⟨some 84, none, .mv (.t 13), none⟩,
 ⟨some 85, none, .lens (.t 84), none⟩,
 ⟨some 86, none, .bin .gtr (.t 85) (.c (.int .i64 4000)), none⟩])
 (.keep [1, 10, 13, 86] (.cond (.t 86)
 (.seq (.ops [⟨some 87, none, .mv (.t 1), none⟩,
 ⟨some 88, none, .lens (.t 87), none⟩,
 ⟨some 89, none, .bin .gtr (.t 88) (.c (.int .i64 900)), none⟩,
 ⟨some 4, none, .mv (.t 89), none⟩])
 (.ret))
 (.skip))))
 (.keep [10, 13] (.seq (.ops [⟨some 91, none, .mv (.t 13), none⟩,
 ⟨some 92, none, .call (.f 16) [(.t 91)], none⟩,
 ⟨some 90, none, .mv (.t 92), none⟩,
 ⟨some 93, none, .ext 0 (.t 90), none⟩,
 ⟨some 94, none, .ext 1 (.t 90), none⟩,
 ⟨some 95, none, .ext 2 (.t 90), none⟩,
 ⟨some 15, none, .mv (.t 93), none⟩,
 ⟨some 16, none, .mv (.t 94), none⟩,
 ⟨some 17, none, .mv (.t 95), none⟩])
 (.keep [10, 15, 17] (.seq (.ops [⟨some 96, none, .mv (.t 17), none⟩,
 ⟨some 97, none, .bin .eql (.t 96) (.c (.int .i64 0)), none⟩,
 ⟨some 98, none, .mv (.t 97), none⟩,
 ⟨some 99, (some (98, true)), .mv (.t 10), none⟩,
 ⟨some 100, (some (98, true)), .mv (.t 15), none⟩,
 ⟨some 101, (some (98, true)), .call (.f 18) [(.t 99), (.t 100)], none⟩,
 ⟨some 102, none, .pick (.t 98) (.t 101) (.c (.bool false)), none⟩,
 ⟨some 4, none, .mv (.t 102), none⟩])
 (.ret))))))))))))))
def J_law05_ExprBack : AFn :=
 ⟨103, [.t 4], .seq (.ops [⟨some 4, none, .mv (.c (.bool false)), none⟩])
 (.keep [0, 1] (.seq (.seq (.ops [⟨some 18, none, .call (.f 15) [], none⟩,
 ⟨some 19, none, .not (.t 18), none⟩])
 (.keep [0, 1, 19] (.cond (.t 19)
 (.seq (.ops [⟨some 4, none, .mv (.c (.bool false)), none⟩])
 (.ret))
 (.skip))))
 (.keep [0, 1] (.seq (.seq (.ops [⟨some 20, none, .mv (.t 0), none⟩,
 ⟨some 21, none, .call (.f 21) [(.t 20)], none⟩,
 ⟨some 22, none, .mv (.t 21), none⟩,
 ⟨some 23, (some (22, false)), .mv (.t 1), none⟩,
 ⟨some 24, (some (22, false)), .lens (.t 23), none⟩,
 ⟨some 25, (some (22, false)), .bin .gtr (.t 24) (.c (.int .i64 4096)), none⟩,
 ⟨some 26, none, .pick (.t 22) (.c (.bool true)) (.t 25), none⟩])
 (.keep [0, 1, 26] (.cond (.t 26)
 (.seq (.ops [⟨some 4, none, .mv (.c (.bool true)), none⟩])
 (.ret))
 (.skip))))
 (.keep [0, 1] (.seq (.seq (.ops [⟨some 28, none, .mv (.t 0), none⟩,
 ⟨some 29, none, .call (.f 22) [(.t 28)], none⟩,
 ⟨some 27, none, .mv (.t 29), none⟩,
 ⟨some 30, none, .ext 0 (.t 27), none⟩,
 ⟨some 31, none, .ext 1 (.t 27), none⟩,
 ⟨some 5, none, .mv (.t 30), none⟩,
 ⟨some 6, none, .mv (.t 31), none⟩])
 (.keep [0, 1, 5, 6] (.seq (.ops [⟨some 32, none, .mv (.t 6), none⟩,
 ⟨some 33, none, .bin .eql (.t 32) (.c (.int .i64 0)), none⟩,
 ⟨some 34, none, .mv (.t 33), none⟩,
 ⟨some 35, (some (34, true)), .mv (.t 5), none⟩,
 ⟨some 36, (some (34, true)), .lens (.t 35), none⟩,
 ⟨some 37, (some (34, true)), .bin .leq (.t 36) (.c (.int .i64 4000)), none⟩,
 ⟨some 38, none, .pick (.t 34) (.t 37) (.c (.bool false)), none⟩])
 (.keep [0, 1, 5, 38] (.cond (.t 38)
 (.seq (.ops [⟨some 40, none, .mv (.t 5), none⟩,
 ⟨some 41, none, .call (.f 16) [(.t 40)], none⟩,
 ⟨some 39, none, .mv (.t 41), none⟩,
 ⟨some 42, none, .ext 0 (.t 39), none⟩,
 ⟨some 43, none, .ext 1 (.t 39), none⟩,
 ⟨some 44, none, .ext 2 (.t 39), none⟩,
 ⟨some 7, none, .mv (.t 42), none⟩,
 ⟨some 8, none, .mv (.t 43), none⟩,
 ⟨some 9, none, .mv (.t 44), none⟩])
 (.keep [0, 1, 5, 7, 8, 9] (.seq (.seq (.ops [⟨some 45, none, .mv (.t 9), none⟩,
 ⟨some 46, none, .bin .eql (.t 45) (.c (.int .i64 3)), none⟩])
 (.keep [0, 1, 5, 7, 8, 9, 46] (.cond (.t 46)
 (.seq (.ops [⟨some 47, none, .mv (.t 5), none⟩,
 ⟨some 48, none, .call (.f 28) [(.t 47)], none⟩,
 ⟨some 4, none, .mv (.t 48), none⟩])
 (.ret))
 (.skip))))
 (.keep [0, 1, 7, 8, 9] (.seq (.ops [⟨some 49, none, .mv (.t 9), none⟩,
 ⟨some 50, none, .bin .neq (.t 49) (.c (.int .i64 0)), none⟩,
 ⟨some 51, none, .mv (.t 50), none⟩,
 ⟨some 52, (some (51, false)), .mv (.t 8), none⟩,
 ⟨some 53, (some (51, false)), .bin .neq (.t 52) (.c (.int .i64 0)), none⟩,
 ⟨some 54, none, .pick (.t 51) (.c (.bool true)) (.t 53), none⟩,
 ⟨some 55, none, .mv (.t 54), none⟩,
 ⟨some 56, (some (55, false)), .mv (.t 0), none⟩,
 ⟨some 57, (some (55, false)), .mv (.t 7), none⟩,
 ⟨some 58, (some (55, false)), .call (.f 18) [(.t 56), (.t 57)], none⟩,
 ⟨some 59, (some (55, false)), .not (.t 58), none⟩,
 ⟨some 60, none, .pick (.t 55) (.c (.bool true)) (.t 59), none⟩])
 (.keep [1, 60] (.cond (.t 60)
 (.seq (.ops [⟨some 4, none, .mv (.c (.bool false)), none⟩])
 (.ret))
 (.skip))))))))
 (.skip))))))
 (J_law05_ExprBack_j1)))))))⟩
theorem J_law05_ExprBack_ok : chkFn Try.prog 8 J_law05_ExprBack = true := by kernel_rfl
def J_law05_ExprFew_j1 : ACode :=
 .keep [] (.seq (.ops [⟨some 2, none, .mv (.c (.bool true)), none⟩])
 (.ret))
def J_law05_ExprFew_j2 : ACode :=
 .seq (.ops [⟨some 158, none, .bin .lss (.t 157) (.t 156), none⟩])
 (.keep [14, 15, 156, 157, 158] (.seq (.cond (.t 158)
 (.skip)
 (.exit 4))
 (.keep [14, 15, 156, 157] (.seq (.block 5 (.seq (.ops [⟨some 159, none, .mv (.t 157), none⟩,
 ⟨some 20, none, .mv (.t 159), none⟩])
 (.keep [14, 15, 20, 156, 157] (.seq (.draw [14, 15, 156, 157, 168] [⟨some 160, none, .mv (.t 14), none⟩,
 ⟨some 161, none, .mv (.t 20), none⟩,
 ⟨some 162, none, .idxa 1 (.t 160) (.t 161), none⟩,
 ⟨some 163, none, .load none (.t 162), none⟩,
 ⟨some 164, none, .mv (.t 15), none⟩,
 ⟨some 165, none, .mv (.t 20), none⟩,
 ⟨some 166, none, .idxa 1 (.t 164) (.t 165), none⟩,
 ⟨some 167, none, .load none (.t 166), none⟩,
 ⟨some 168, none, .bin .neq (.t 163) (.t 167), none⟩])
 (.keep [14, 15, 156, 157, 168] (.cond (.t 168)
 (.seq (.ops [⟨some 2, none, .mv (.c (.bool false)), none⟩])
 (.ret))
 (.skip)))))))
 (.keep [14, 15, 156, 157] (.ops [⟨some 169, none, .bin .add (.t 157) (.c (.int .i64 1)), none⟩,
 ⟨some 157, none, .mv (.t 169), none⟩]))))))
def J_law05_ExprFew_j3 : ACode :=
 .keep [3, 14, 15, 16, 17] (.seq (.seq (.ops [⟨some 138, none, .mv (.t 17), none⟩,
 ⟨some 139, none, .mv (.t 16), none⟩,
 ⟨some 140, none, .bin .gtr (.t 138) (.t 139), none⟩,
 ⟨some 141, none, .mv (.t 140), none⟩,
 ⟨some 142, (some (141, false)), .mv (.t 14), none⟩,
 ⟨some 143, (some (141, false)), .lenl (.t 142), none⟩,
 ⟨some 144, (some (141, false)), .mv (.t 15), none⟩,
 ⟨some 145, (some (141, false)), .lenl (.t 144), none⟩,
 ⟨some 146, (some (141, false)), .bin .neq (.t 143) (.t 145), none⟩,
 ⟨some 147, none, .pick (.t 141) (.c (.bool true)) (.t 146), none⟩,
 ⟨some 148, none, .mv (.t 147), none⟩,
 ⟨some 149, (some (148, false)), .mv (.t 14), none⟩,
 ⟨some 150, (some (148, false)), .lenl (.t 149), none⟩,
 ⟨some 151, (some (148, false)), .mv (.t 3), none⟩,
 ⟨some 152, (some (148, false)), .lenl (.t 151), none⟩,
 ⟨some 153, (some (148, false)), .bin .neq (.t 150) (.t 152), none⟩,
 ⟨some 154, none, .pick (.t 148) (.c (.bool true)) (.t 153), none⟩])
 (.keep [14, 15, 154] (.cond (.t 154)
 (.seq (.ops [⟨some 2, none, .mv (.c (.bool false)), none⟩])
 (.ret))
 (.skip))))
 (.keep [14, 15] (.seq (.seq (.ops [⟨some 155, none, .mv (.t 14), none⟩,
 ⟨some 156, none, .lenl (.t 155), none⟩,
 ⟨some 157, none, .mv (.c (.int .i64 0)), none⟩])
 (.keep [14, 15, 156, 157] (.block 4 (.loop [14, 15, 156, 157] (J_law05_ExprFew_j2)))))
 (J_law05_ExprFew_j1))))
def J_law05_ExprFew_j4 : ACode :=
 .keep [3, 11, 14, 15, 16, 17, 103, 104] (.ops [⟨some 137, none, .bin .add (.t 104) (.c (.int .i64 1)), none⟩,
 ⟨some 104, none, .mv (.t 137), none⟩])
def J_law05_ExprFew_j5 : ACode :=
 .keep [3, 11, 14, 15, 16, 17, 19, 103, 104] (.seq (.ops [⟨some 115, none, .mv (.t 11), none⟩,
 ⟨some 116, none, .mv (.t 19), none⟩,
 ⟨some 117, none, .idxa 4 (.t 115) (.t 116), none⟩,
 ⟨some 118, none, .fld 0 (.t 117), none⟩,
 ⟨some 119, none, .load none (.t 118), none⟩,
 ⟨some 120, none, .bin .neq (.t 119) (.c (.int .i64 6)), none⟩,
 ⟨some 121, none, .mv (.t 120), none⟩,
 ⟨some 122, (some (121, true)), .mv (.t 11), none⟩,
 ⟨some 123, (some (121, true)), .mv (.t 19), none⟩,
 ⟨some 124, (some (121, true)), .idxa 4 (.t 122) (.t 123), none⟩,
 ⟨some 125, (some (121, true)), .fld 0 (.t 124), none⟩,
 ⟨some 126, (some (121, true)), .load none (.t 125), none⟩,
 ⟨some 127, (some (121, true)), .bin .neq (.t 126) (.c (.int .i64 7)), none⟩,
 ⟨some 128, none, .pick (.t 121) (.t 127) (.c (.bool false)), none⟩])
 (.keep [3, 11, 14, 15, 16, 17, 19, 103, 104, 128] (.cond (.t 128)
 (.ops [⟨some 129, none, .mvo 15, none⟩,
 ⟨some 130, none, .mv (.t 11), none⟩,
 ⟨some 131, none, .mv (.t 19), none⟩,
 ⟨some 132, none, .idxa 4 (.t 130) (.t 131), none⟩,
 ⟨some 133, none, .load (some 4) (.t 132), none⟩,
 ⟨some 134, none, .call (.f 30) [(.t 133)], none⟩,
 ⟨some 135, none, .bsl 9 1 1 [(.str ⟨#[]⟩)] [(0, 1, (.t 134))], none⟩,
 ⟨some 136, none, .appo 9 1 16 129 (.t 135), none⟩,
 ⟨some 15, none, .mvo 136, none⟩])
 (.skip))))
def J_law05_ExprFew_j6 : ACode :=
 .seq (.ops [⟨some 105, none, .bin .lss (.t 104) (.t 103), none⟩])
 (.keep [3, 11, 14, 15, 16, 17, 103, 104, 105] (.seq (.cond (.t 105)
 (.skip)
 (.exit 2))
 (.keep [3, 11, 14, 15, 16, 17, 103, 104] (.seq (.block 3 (.seq (.ops [⟨some 106, none, .mv (.t 104), none⟩,
 ⟨some 19, none, .mv (.t 106), none⟩])
 (.keep [3, 11, 14, 15, 16, 17, 19, 103, 104] (.seq (.seq (.ops [⟨some 107, none, .mv (.t 11), none⟩,
 ⟨some 108, none, .mv (.t 19), none⟩,
 ⟨some 109, none, .idxa 4 (.t 107) (.t 108), none⟩,
 ⟨some 110, none, .fld 0 (.t 109), none⟩,
 ⟨some 111, none, .load none (.t 110), none⟩,
 ⟨some 112, none, .bin .eql (.t 111) (.c (.int .i64 6)), none⟩])
 (.keep [3, 11, 14, 15, 16, 17, 19, 103, 104, 112] (.cond (.t 112)
 (.ops [⟨some 113, none, .mv (.t 17), none⟩,
 ⟨some 114, none, .bin .add (.t 113) (.c (.int .i64 1)), none⟩,
 ⟨some 17, none, .mv (.t 114), none⟩])
 (.skip))))
 (J_law05_ExprFew_j5)))))
 (J_law05_ExprFew_j4)))))
def J_law05_ExprFew_j7 : ACode :=
 .keep [3, 11, 14, 15, 16, 17] (.seq (.seq (.ops [⟨some 102, none, .mv (.t 11), none⟩,
 ⟨some 103, none, .lenl (.t 102), none⟩,
 ⟨some 104, none, .mv (.c (.int .i64 0)), none⟩])
 (.keep [3, 11, 14, 15, 16, 17, 103, 104] (.block 2 (.loop [3, 11, 14, 15, 16, 17, 103, 104] (J_law05_ExprFew_j6)))))
 (J_law05_ExprFew_j3))
def J_law05_ExprFew_j8 : ACode :=
 .keep [3, 6, 11, 14, 15, 16, 17, 67, 68] (.ops [⟨some 101, none, .bin .add (.t 68) (.c (.int .i64 1)), none⟩,
 ⟨some 68, none, .mv (.t 101), none⟩])
def J_law05_ExprFew_j9 : ACode :=
 .keep [3, 6, 11, 14, 15, 16, 17, 18, 67, 68] (.seq (.ops [⟨some 79, none, .mv (.t 6), none⟩,
 ⟨some 80, none, .mv (.t 18), none⟩,
 ⟨some 81, none, .idxa 4 (.t 79) (.t 80), none⟩,
 ⟨some 82, none, .fld 0 (.t 81), none⟩,
 ⟨some 83, none, .load none (.t 82), none⟩,
 ⟨some 84, none, .bin .neq (.t 83) (.c (.int .i64 6)), none⟩,
 ⟨some 85, none, .mv (.t 84), none⟩,
 ⟨some 86, (some (85, true)), .mv (.t 6), none⟩,
 ⟨some 87, (some (85, true)), .mv (.t 18), none⟩,
 ⟨some 88, (some (85, true)), .idxa 4 (.t 86) (.t 87), none⟩,
 ⟨some 89, (some (85, true)), .fld 0 (.t 88), none⟩,
 ⟨some 90, (some (85, true)), .load none (.t 89), none⟩,
 ⟨some 91, (some (85, true)), .bin .neq (.t 90) (.c (.int .i64 7)), none⟩,
 ⟨some 92, none, .pick (.t 85) (.t 91) (.c (.bool false)), none⟩])
 (.keep [3, 6, 11, 14, 15, 16, 17, 18, 67, 68, 92] (.cond (.t 92)
 (.ops [⟨some 93, none, .mvo 14, none⟩,
 ⟨some 94, none, .mv (.t 6), none⟩,
 ⟨some 95, none, .mv (.t 18), none⟩,
 ⟨some 96, none, .idxa 4 (.t 94) (.t 95), none⟩,
 ⟨some 97, none, .load (some 4) (.t 96), none⟩,
 ⟨some 98, none, .call (.f 30) [(.t 97)], none⟩,
 ⟨some 99, none, .bsl 9 1 1 [(.str ⟨#[]⟩)] [(0, 1, (.t 98))], none⟩,
 ⟨some 100, none, .appo 9 1 16 93 (.t 99), none⟩,
 ⟨some 14, none, .mvo 100, none⟩])
 (.skip))))
def J_law05_ExprFew_j10 : ACode :=
 .seq (.ops [⟨some 69, none, .bin .lss (.t 68) (.t 67), none⟩])
 (.keep [3, 6, 11, 14, 15, 16, 17, 67, 68, 69] (.seq (.cond (.t 69)
 (.skip)
 (.exit 0))
 (.keep [3, 6, 11, 14, 15, 16, 17, 67, 68] (.seq (.block 1 (.seq (.ops [⟨some 70, none, .mv (.t 68), none⟩,
 ⟨some 18, none, .mv (.t 70), none⟩])
 (.keep [3, 6, 11, 14, 15, 16, 17, 18, 67, 68] (.seq (.seq (.ops [⟨some 71, none, .mv (.t 6), none⟩,
 ⟨some 72, none, .mv (.t 18), none⟩,
 ⟨some 73, none, .idxa 4 (.t 71) (.t 72), none⟩,
 ⟨some 74, none, .fld 0 (.t 73), none⟩,
 ⟨some 75, none, .load none (.t 74), none⟩,
 ⟨some 76, none, .bin .eql (.t 75) (.c (.int .i64 6)), none⟩])
 (.keep [3, 6, 11, 14, 15, 16, 17, 18, 67, 68, 76] (.cond (.t 76)
 (.ops [⟨some 77, none, .mv (.t 16), none⟩,
 ⟨some 78, none, .bin .add (.t 77) (.c (.int .i64 1)), none⟩,
 ⟨some 16, none, .mv (.t 78), none⟩])
 (.skip))))
 (J_law05_ExprFew_j9)))))
 (J_law05_ExprFew_j8)))))
def J_law05_ExprFew : AFn :=
 ⟨170, [.t 2], .seq (.ops [⟨some 2, none, .mv (.c (.bool false)), none⟩])
 (.keep [0] (.seq (.seq (.ops [⟨some 21, none, .call (.f 15) [], none⟩,
 ⟨some 22, none, .not (.t 21), none⟩])
 (.keep [0, 22] (.cond (.t 22)
 (.seq (.ops [⟨some 2, none, .mv (.c (.bool false)), none⟩])
 (.ret))
 (.skip))))
 (.keep [0] (.seq (.seq (.ops [⟨some 23, none, .mv (.t 0), none⟩,
 ⟨some 24, none, .lens (.t 23), none⟩,
 ⟨some 25, none, .bin .gtr (.t 24) (.c (.int .i64 4000)), none⟩])
 (.keep [0, 25] (.cond (.t 25)
 (.seq (.ops [⟨some 2, none, .mv (.c (.bool true)), none⟩])
 (.ret))
 (.skip))))
 (.keep [0] (.seq (.ops [⟨some 27, none, .mv (.t 0), none⟩,
 ⟨some 28, none, .call (.f 16) [(.t 27)], none⟩,
 ⟨some 26, none, .mv (.t 28), none⟩,
 ⟨some 29, none, .ext 0 (.t 26), none⟩,
 ⟨some 30, none, .ext 1 (.t 26), none⟩,
 ⟨some 31, none, .ext 2 (.t 26), none⟩,
 ⟨some 3, none, .mv (.t 29), none⟩,
 ⟨some 4, none, .mv (.t 30), none⟩,
 ⟨some 5, none, .mv (.t 31), none⟩])
 (.keep [0, 3, 5] (.seq (.seq (.ops [⟨some 32, none, .mv (.t 5), none⟩,
 ⟨some 33, none, .bin .neq (.t 32) (.c (.int .i64 0)), none⟩])
 (.keep [0, 3, 33] (.cond (.t 33)
 (.seq (.ops [⟨some 2, none, .mv (.c (.bool true)), none⟩])
 (.ret))
 (.skip))))
 (.keep [0, 3] (.seq (.ops [⟨some 35, none, .mv (.t 0), none⟩,
 ⟨some 36, none, .call (.f 29) [(.t 35)], none⟩,
 ⟨some 34, none, .mv (.t 36), none⟩,
 ⟨some 37, none, .ext 0 (.t 34), none⟩,
 ⟨some 38, none, .ext 1 (.t 34), none⟩,
 ⟨some 39, none, .ext 2 (.t 34), none⟩,
 ⟨some 6, none, .mv (.t 37), none⟩,
 ⟨some 7, none, .mv (.t 38), none⟩,
 ⟨some 8, none, .mv (.t 39), none⟩])
 (.keep [3, 6] (.seq (.ops [⟨some 41, none, .mv (.t 3), none⟩,
 ⟨some 42, none, .call (.f 22) [(.t 41)], none⟩,
 ⟨some 40, none, .mv (.t 42), none⟩,
 ⟨some 43, none, .ext 0 (.t 40), none⟩,
 ⟨some 44, none, .ext 1 (.t 40), none⟩,
 ⟨some 9, none, .mv (.t 43), none⟩,
 ⟨some 10, none, .mv (.t 44), none⟩])
 (.keep [3, 6, 9, 10] (.seq (.seq (.ops [⟨some 45, none, .mv (.t 10), none⟩,
 ⟨some 46, none, .bin .neq (.t 45) (.c (.int .i64 0)), none⟩,
 ⟨some 47, none, .mv (.t 46), none⟩,
 ⟨some 48, (some (47, false)), .mv (.t 9), none⟩,
 ⟨some 49, (some (47, false)), .lens (.t 48), none⟩,
 ⟨some 50, (some (47, false)), .bin .gtr (.t 49) (.c (.int .i64 4000)), none⟩,
 ⟨some 51, none, .pick (.t 47) (.c (.bool true)) (.t 50), none⟩])
 (.keep [3, 6, 9, 10, 51] (.cond (.t 51)
 (.seq (.ops [⟨some 52, none, .mv (.t 10), none⟩,
 ⟨some 53, none, .bin .eql (.t 52) (.c (.int .i64 0)), none⟩,
 ⟨some 2, none, .mv (.t 53), none⟩])
 (.ret))
 (.skip))))
 (.keep [3, 6, 9] (.seq (.ops [⟨some 55, none, .mv (.t 9), none⟩,
 ⟨some 56, none, .call (.f 29) [(.t 55)], none⟩,
 ⟨some 54, none, .mv (.t 56), none⟩,
 ⟨some 57, none, .ext 0 (.t 54), none⟩,
 ⟨some 58, none, .ext 1 (.t 54), none⟩,
 ⟨some 59, none, .ext 2 (.t 54), none⟩,
 ⟨some 11, none, .mv (.t 57), none⟩,
 ⟨some 12, none, .mv (.t 58), none⟩,
 ⟨some 13, none, .mv (.t 59), none⟩])
 (.keep [3, 6, 11, 13] (.seq (.seq (.ops [⟨some 60, none, .mv (.t 13), none⟩,
 ⟨some 61, none, .bin .neq (.t 60) (.c (.int .i64 0)), none⟩])
 (.keep [3, 6, 11, 13, 61] (.cond (.t 61)
 (.seq (.ops [⟨some 62, none, .mv (.t 13), none⟩,
 ⟨some 63, none, .bin .eql (.t 62) (.c (.int .i64 3)), none⟩,
 ⟨some 2, none, .mv (.t 63), none⟩])
 (.ret))
 (.skip))))
 (.keep [3, 6, 11] (.seq (.ops [⟨some 64, none, .bsl 9 1 0 [] [], none⟩,
 ⟨some 65, none, .bsl 9 1 0 [] [], none⟩,
 ⟨some 14, none, .mvo 64, none⟩,
 ⟨some 15, none, .mvo 65, none⟩])
 (.keep [3, 6, 11, 14, 15] (.seq (.ops [⟨some 16, none, .mv (.c (.int .i64 0)), none⟩,
 ⟨some 17, none, .mv (.c (.int .i64 0)), none⟩])
 (.keep [3, 6, 11, 14, 15, 16, 17] (.seq (.seq (.ops [⟨some 66, none, .mv (.t 6), none⟩,
 ⟨some 67, none, .lenl (.t 66), none⟩,
 ⟨some 68, none, .mv (.c (.int .i64 0)), none⟩])
 (.keep [3, 6, 11, 14, 15, 16, 17, 67, 68] (.block 0 (.loop [3, 6, 11, 14, 15, 16, 17, 67, 68] (J_law05_ExprFew_j10)))))
 (J_law05_ExprFew_j7)))))))))))))))))))))))))⟩
theorem J_law05_ExprFew_ok : chkFn Try.prog 9 J_law05_ExprFew = true := by kernel_rfl
def J_law05_awake : AFn :=
 ⟨97, [.t 0], .seq (.ops [⟨some 0, none, .mv (.c (.bool false)), none⟩])
 (.keep [] (.seq (.ops [⟨some 15, none, .call (.f 16) [(.c (.str ⟨#[97, 32, 97, 110, 100, 32, 98, 124, 99, 32, 97, 115, 32, 114, 111, 108, 101, 58, 114]⟩))], none⟩,
 ⟨some 14, none, .mv (.t 15), none⟩,
 ⟨some 16, none, .ext 0 (.t 14), none⟩,
 ⟨some 17, none, .ext 1 (.t 14), none⟩,
 ⟨some 18, none, .ext 2 (.t 14), none⟩,
 ⟨some 1, none, .mv (.t 16), none⟩,
 ⟨some 2, none, .mv (.t 17), none⟩,
 ⟨some 3, none, .mv (.t 18), none⟩])
 (.keep [1, 2, 3] (.seq (.ops [⟨some 20, none, .mv (.t 1), none⟩,
 ⟨some 21, none, .call (.f 22) [(.t 20)], none⟩,
 ⟨some 19, none, .mv (.t 21), none⟩,
 ⟨some 22, none, .ext 0 (.t 19), none⟩,
 ⟨some 23, none, .ext 1 (.t 19), none⟩,
 ⟨some 4, none, .mv (.t 22), none⟩,
 ⟨some 5, none, .mv (.t 23), none⟩])
 (.keep [1, 2, 3, 4, 5] (.seq (.ops [⟨some 25, none, .call (.f 16) [(.c (.str ⟨#[97, 32, 97, 110, 100, 32, 97, 110, 100]⟩))], none⟩,
 ⟨some 24, none, .mv (.t 25), none⟩,
 ⟨some 26, none, .ext 0 (.t 24), none⟩,
 ⟨some 27, none, .ext 1 (.t 24), none⟩,
 ⟨some 28, none, .ext 2 (.t 24), none⟩,
 ⟨some 6, none, .mv (.t 26), none⟩,
 ⟨some 7, none, .mv (.t 27), none⟩,
 ⟨some 8, none, .mv (.t 28), none⟩])
 (.keep [1, 2, 3, 4, 5, 7, 8] (.seq (.ops [⟨some 30, none, .call (.f 16) [(.c (.str ⟨#[97, 32, 102, 111, 114, 32, 40, 98, 32, 102, 111, 114, 32, 99, 41]⟩))], none⟩,
 ⟨some 29, none, .mv (.t 30), none⟩,
 ⟨some 31, none, .ext 0 (.t 29), none⟩,
 ⟨some 32, none, .ext 1 (.t 29), none⟩,
 ⟨some 33, none, .ext 2 (.t 29), none⟩,
 ⟨some 9, none, .mv (.t 31), none⟩,
 ⟨some 10, none, .mv (.t 32), none⟩,
 ⟨some 11, none, .mv (.t 33), none⟩])
 (.keep [1, 2, 3, 4, 5, 7, 8, 9] (.seq (.ops [⟨some 35, none, .mv (.t 9), none⟩,
 ⟨some 36, none, .call (.f 22) [(.t 35)], none⟩,
 ⟨some 34, none, .mv (.t 36), none⟩,
 ⟨some 37, none, .ext 0 (.t 34), none⟩,
 ⟨some 38, none, .ext 1 (.t 34), none⟩,
 ⟨some 12, none, .mv (.t 37), none⟩,
 ⟨some 13, none, .mv (.t 38), none⟩])
 (.keep [1, 2, 3, 4, 5, 7, 8, 12] (.seq (.ops [⟨some 39, none, .mv (.t 1), none⟩,
 ⟨some 40, none, .lenl (.t 39), none⟩,
 ⟨some 41, none, .bin .eql (.t 40) (.c (.int .i64 7)), none⟩,
 ⟨some 42, none, .mv (.t 41), none⟩,
 ⟨some 43, (some (42, true)), .mv (.t 1), none⟩,
 ⟨some 44, (some (42, true)), .idxa 3 (.t 43) (.c (.int .i64 4)), none⟩,
 ⟨some 45, (some (42, true)), .fld 0 (.t 44), none⟩,
 ⟨some 46, (some (42, true)), .load none (.t 45), none⟩,
 ⟨some 47, (some (42, true)), .bin .eql (.t 46) (.c (.int .i64 5)), none⟩,
 ⟨some 48, none, .pick (.t 42) (.t 47) (.c (.bool false)), none⟩,
 ⟨some 49, none, .mv (.t 48), none⟩,
 ⟨some 50, (some (49, true)), .mv (.t 1), none⟩,
 ⟨some 51, (some (49, true)), .idxa 3 (.t 50) (.c (.int .i64 6)), none⟩,
 ⟨some 52, (some (49, true)), .fld 0 (.t 51), none⟩,
 ⟨some 53, (some (49, true)), .load none (.t 52), none⟩,
 ⟨some 54, (some (49, true)), .bin .eql (.t 53) (.c (.int .i64 2)), none⟩,
 ⟨some 55, none, .pick (.t 49) (.t 54) (.c (.bool false)), none⟩,
 ⟨some 56, none, .mv (.t 55), none⟩,
 ⟨some 57, (some (56, true)), .mv (.t 2), none⟩,
 ⟨some 58, (some (56, true)), .bin .eql (.t 57) (.c (.int .i64 0)), none⟩,
 ⟨some 59, none, .pick (.t 56) (.t 58) (.c (.bool false)), none⟩,
 ⟨some 60, none, .mv (.t 59), none⟩,
 ⟨some 61, (some (60, true)), .mv (.t 3), none⟩,
 ⟨some 62, (some (60, true)), .bin .eql (.t 61) (.c (.int .i64 0)), none⟩,
 ⟨some 63, none, .pick (.t 60) (.t 62) (.c (.bool false)), none⟩,
 ⟨some 64, none, .mv (.t 63), none⟩,
 ⟨some 65, (some (64, true)), .mv (.t 4), none⟩,
 ⟨some 66, (some (64, true)), .bin .eql (.t 65) (.c (.str ⟨#[97, 32, 97, 110, 100, 32, 98, 32, 124, 32, 99, 32, 97, 115, 32, 114, 111, 108, 101, 58, 114]⟩)), none⟩,
 ⟨some 67, none, .pick (.t 64) (.t 66) (.c (.bool false)), none⟩,
 ⟨some 68, none, .mv (.t 67), none⟩,
 ⟨some 69, (some (68, true)), .mv (.t 5), none⟩,
 ⟨some 70, (some (68, true)), .bin .eql (.t 69) (.c (.int .i64 0)), none⟩,
 ⟨some 71, none, .pick (.t 68) (.t 70) (.c (.bool false)), none⟩,
 ⟨some 72, none, .mv (.t 71), none⟩,
 ⟨some 73, (some (72, true)), .mv (.t 7), none⟩,
 ⟨some 74, (some (72, true)), .bin .eql (.t 73) (.c (.int .i64 6)), none⟩,
 ⟨some 75, none, .pick (.t 72) (.t 74) (.c (.bool false)), none⟩,
 ⟨some 76, none, .mv (.t 75), none⟩,
 ⟨some 77, (some (76, true)), .mv (.t 8), none⟩,
 ⟨some 78, (some (76, true)), .bin .eql (.t 77) (.c (.int .i64 2)), none⟩,
 ⟨some 79, none, .pick (.t 76) (.t 78) (.c (.bool false)), none⟩,
 ⟨some 80, none, .mv (.t 79), none⟩,
 ⟨some 81, (some (80, true)), .mv (.t 12), none⟩,
 ⟨some 82, (some (80, true)), .bin .eql (.t 81) (.c (.str ⟨#[97, 32, 102, 111, 114, 32, 40, 32, 98, 32, 102, 111, 114, 32, 99, 32, 41]⟩)), none⟩,
 ⟨some 83, none, .pick (.t 80) (.t 82) (.c (.bool false)), none⟩,
 ⟨some 84, none, .mv (.t 83), none⟩,
 ⟨some 85, (some (84, true)), .mv (.t 1), none⟩,
 ⟨some 86, (some (84, true)), .call (.f 24) [(.t 85)], none⟩,
 ⟨some 87, none, .pick (.t 84) (.t 86) (.c (.bool false)), none⟩,
 ⟨some 88, none, .mv (.t 87), none⟩,
 ⟨some 89, (some (88, true)), .call (.f 24) [(.c (.lst .clip 0 []))], none⟩,
 ⟨some 90, (some (88, true)), .not (.t 89), none⟩,
 ⟨some 91, none, .pick (.t 88) (.t 90) (.c (.bool false)), none⟩,
 ⟨some 92, none, .mv (.t 91), none⟩,
 ⟨some 93, (some (92, true)), .mv (.t 1), none⟩,
 ⟨some 94, (some (92, true)), .call (.f 26) [(.t 93)], none⟩,
 ⟨some 95, (some (92, true)), .bin .eql (.t 94) (.c (.int .i64 4)), none⟩,
 ⟨some 96, none, .pick (.t 92) (.t 95) (.c (.bool false)), none⟩,
 ⟨some 0, none, .mv (.t 96), none⟩])
 (.ret)))))))))))))⟩
theorem J_law05_awake_ok : chkFn Try.prog 15 J_law05_awake = true := by kernel_rfl
def J_expr_Parse : AFn :=
 ⟨45, [.t 2, .t 3, .t 4], .seq (.ops [⟨some 2, none, .mv (.c (.lst .clip 0 [])), none⟩,
 ⟨some 3, none, .mv (.c (.int .i64 0)), none⟩,
 ⟨some 4, none, .mv (.c (.int .i64 0)), none⟩])
 (.keep [0] (.seq (.ops [⟨some 11, none, .mv (.t 0), none⟩,
 ⟨some 12, none, .call (.f 13) [(.t 11)], none⟩,
 ⟨some 10, none, .mv (.t 12), none⟩,
 ⟨some 13, none, .ext 0 (.t 10), none⟩,
 ⟨some 14, none, .ext 1 (.t 10), none⟩,
 ⟨some 15, none, .ext 2 (.t 10), none⟩,
 ⟨some 5, none, .mv (.t 13), none⟩,
 ⟨some 6, none, .mv (.t 14), none⟩,
 ⟨some 7, none, .mv (.t 15), none⟩])
 (.keep [0, 5, 6, 7] (.seq (.seq (.ops [⟨some 16, none, .mv (.t 7), none⟩,
 ⟨some 17, none, .bin .neq (.t 16) (.c (.int .i64 0)), none⟩])
 (.keep [0, 5, 6, 7, 17] (.cond (.t 17)
 (.seq (.ops [⟨some 18, none, .mv (.t 6), none⟩,
 ⟨some 19, none, .mv (.t 7), none⟩,
 ⟨some 2, none, .mv (.c (.lst .clip 0 [])), none⟩,
 ⟨some 3, none, .mv (.t 18), none⟩,
 ⟨some 4, none, .mv (.t 19), none⟩])
 (.ret))
 (.skip))))
 (.keep [0, 5] (.seq (.ops [⟨some 21, none, .mv (.t 5), none⟩,
 ⟨some 22, none, .call (.f 19) [(.t 21)], none⟩,
 ⟨some 20, none, .mv (.t 22), none⟩,
 ⟨some 23, none, .ext 0 (.t 20), none⟩,
 ⟨some 24, none, .ext 1 (.t 20), none⟩,
 ⟨some 25, none, .ext 2 (.t 20), none⟩,
 ⟨some 8, none, .mv (.t 23), none⟩,
 ⟨some 9, none, .mv (.t 24), none⟩,
 ⟨some 7, none, .mv (.t 25), none⟩])
 (.keep [0, 5, 7, 8, 9] (.seq (.seq (.ops [⟨some 26, none, .mv (.t 7), none⟩,
 ⟨some 27, none, .bin .eql (.t 26) (.c (.int .i64 0)), none⟩])
 (.keep [0, 5, 7, 8, 9, 27] (.cond (.t 27)
 (.seq (.ops [⟨some 28, none, .mv (.t 8), none⟩,
 ⟨some 2, none, .mv (.t 28), none⟩,
 ⟨some 3, none, .mv (.c (.int .i64 0)), none⟩,
 ⟨some 4, none, .mv (.c (.int .i64 0)), none⟩])
 (.ret))
 (.skip))))
 (.keep [0, 5, 7, 9] (.seq (.seq (.ops [⟨some 29, none, .mv (.t 9), none⟩,
 ⟨some 30, none, .mv (.t 5), none⟩,
 ⟨some 31, none, .lenl (.t 30), none⟩,
 ⟨some 32, none, .bin .lss (.t 29) (.t 31), none⟩])
 (.keep [0, 5, 7, 9, 32] (.cond (.t 32)
 (.seq (.draw [2, 3, 4] [⟨some 33, none, .mv (.t 5), none⟩,
 ⟨some 34, none, .mv (.t 9), none⟩,
 ⟨some 35, none, .idxa 4 (.t 33) (.t 34), none⟩,
 ⟨some 36, none, .fld 3 (.t 35), none⟩,
 ⟨some 37, none, .load none (.t 36), none⟩,
 ⟨some 38, none, .mv (.t 7), none⟩,
 ⟨some 2, none, .mv (.c (.lst .clip 0 [])), none⟩,
 ⟨some 3, none, .mv (.t 37), none⟩,
 ⟨some 4, none, .mv (.t 38), none⟩])
 (.ret))
 (.skip))))
 (.keep [0, 7] (.seq (.seq (.ops [⟨some 39, none, .mv (.t 7), none⟩,
 ⟨some 40, none, .bin .eql (.t 39) (.c (.int .i64 3)), none⟩])
 (.keep [0, 7, 40] (.cond (.t 40)
 (.seq (.ops [⟨some 41, none, .mv (.t 7), none⟩,
 ⟨some 2, none, .mv (.c (.lst .clip 0 [])), none⟩,
 ⟨some 3, none, .mv (.c (.int .i64 0)), none⟩,
 ⟨some 4, none, .mv (.t 41), none⟩])
 (.ret))
 (.skip))))
 (.keep [0, 7] (.seq (.ops [⟨some 42, none, .mv (.t 0), none⟩,
 ⟨some 43, none, .lens (.t 42), none⟩,
 ⟨some 44, none, .mv (.t 7), none⟩,
 ⟨some 2, none, .mv (.c (.lst .clip 0 [])), none⟩,
 ⟨some 3, none, .mv (.t 43), none⟩,
 ⟨some 4, none, .mv (.t 44), none⟩])
 (.ret)))))))))))))))⟩
theorem J_expr_Parse_ok : chkFn Try.prog 16 J_expr_Parse = true := by kernel_rfl
def J_law05_same_j1 : ACode :=
 .keep [] (.seq (.ops [⟨some 4, none, .mv (.c (.bool true)), none⟩])
 (.ret))
def J_law05_same_j2 : ACode :=
 .seq (.ops [⟨some 14, none, .bin .lss (.t 13) (.t 12), none⟩])
 (.keep [0, 1, 12, 13, 14] (.seq (.cond (.t 14)
 (.skip)
 (.exit 0))
 (.keep [0, 1, 12, 13] (.seq (.block 1 (.seq (.ops [⟨some 15, none, .mv (.t 13), none⟩,
 ⟨some 5, none, .mv (.t 15), none⟩])
 (.keep [0, 1, 5, 12, 13] (.seq (.draw [0, 1, 12, 13, 24] [⟨some 16, none, .mv (.t 0), none⟩,
 ⟨some 17, none, .mv (.t 5), none⟩,
 ⟨some 18, none, .idxa 3 (.t 16) (.t 17), none⟩,
 ⟨some 19, none, .load (some 3) (.t 18), none⟩,
 ⟨some 20, none, .mv (.t 1), none⟩,
 ⟨some 21, none, .mv (.t 5), none⟩,
 ⟨some 22, none, .idxa 3 (.t 20) (.t 21), none⟩,
 ⟨some 23, none, .load (some 3) (.t 22), none⟩,
 ⟨some 24, none, .ex (.aeq true [0, 0, 1]) [(.t 19), (.t 23)], none⟩])
 (.keep [0, 1, 12, 13, 24] (.cond (.t 24)
 (.seq (.ops [⟨some 4, none, .mv (.c (.bool false)), none⟩])
 (.ret))
 (.skip)))))))
 (.keep [0, 1, 12, 13] (.ops [⟨some 25, none, .bin .add (.t 13) (.c (.int .i64 1)), none⟩,
 ⟨some 13, none, .mv (.t 25), none⟩]))))))
def J_law05_same : AFn :=
 ⟨26, [.t 4], .seq (.ops [⟨some 4, none, .mv (.c (.bool false)), none⟩])
 (.keep [0, 1] (.seq (.seq (.ops [⟨some 6, none, .mv (.t 0), none⟩,
 ⟨some 7, none, .lenl (.t 6), none⟩,
 ⟨some 8, none, .mv (.t 1), none⟩,
 ⟨some 9, none, .lenl (.t 8), none⟩,
 ⟨some 10, none, .bin .neq (.t 7) (.t 9), none⟩])
 (.keep [0, 1, 10] (.cond (.t 10)
 (.seq (.ops [⟨some 4, none, .mv (.c (.bool false)), none⟩])
 (.ret))
 (.skip))))
 (.keep [0, 1] (.seq (.seq (.ops [⟨some 11, none, .mv (.t 0), none⟩,
 ⟨some 12, none, .lenl (.t 11), none⟩,
 ⟨some 13, none, .mv (.c (.int .i64 0)), none⟩])
 (.keep [0, 1, 12, 13] (.block 0 (.loop [0, 1, 12, 13] (J_law05_same_j2)))))
 (J_law05_same_j1)))))⟩
theorem J_law05_same_ok : chkFn Try.prog 18 J_law05_same = true := by kernel_rfl
def J_expr_Read_j1 : ACode :=
 .keep [0, 7] (.seq (.seq (.ops [⟨some 37, none, .fld 3 (.t 7), none⟩,
 ⟨some 38, none, .load none (.t 37), none⟩,
 ⟨some 39, none, .not (.t 38), none⟩,
 ⟨some 40, none, .mv (.t 39), none⟩,
 ⟨some 41, (some (40, false)), .fld 2 (.t 7), none⟩,
 ⟨some 42, (some (40, false)), .load none (.t 41), none⟩,
 ⟨some 43, (some (40, false)), .bin .gtr (.t 42) (.c (.int .i64 0)), none⟩,
 ⟨some 44, none, .pick (.t 40) (.c (.bool true)) (.t 43), none⟩])
 (.keep [0, 7, 44] (.cond (.t 44)
 (.seq (.ops [⟨some 45, none, .mv (.t 0), none⟩,
 ⟨some 46, none, .lenl (.t 45), none⟩,
 ⟨some 2, none, .mv (.c (.lst .clip 0 [])), none⟩,
 ⟨some 3, none, .mv (.t 46), none⟩,
 ⟨some 4, none, .mv (.c (.int .i64 2)), none⟩])
 (.ret))
 (.skip))))
 (.keep [0, 7] (.seq (.ops [⟨some 47, none, .call (.f 39) [(.t 7), (.c (.int .i64 1))], none⟩])
 (.keep [0, 7] (.seq (.seq (.ops [⟨some 48, none, .fld 0 (.t 7), none⟩,
 ⟨some 49, none, .load none (.t 48), none⟩,
 ⟨some 50, none, .lenl (.t 49), none⟩,
 ⟨some 51, none, .bin .gtr (.t 50) (.c (.int .i64 200)), none⟩])
 (.keep [0, 7, 51] (.cond (.t 51)
 (.seq (.ops [⟨some 52, none, .mv (.t 0), none⟩,
 ⟨some 53, none, .lenl (.t 52), none⟩,
 ⟨some 2, none, .mv (.c (.lst .clip 0 [])), none⟩,
 ⟨some 3, none, .mv (.t 53), none⟩,
 ⟨some 4, none, .mv (.c (.int .i64 3)), none⟩])
 (.ret))
 (.skip))))
 (.keep [7] (.seq (.ops [⟨some 54, none, .fld 0 (.t 7), none⟩,
 ⟨some 55, none, .load none (.t 54), none⟩,
 ⟨some 2, none, .mv (.t 55), none⟩,
 ⟨some 3, none, .mv (.c (.int .i64 0)), none⟩,
 ⟨some 4, none, .mv (.c (.int .i64 0)), none⟩])
 (.ret))))))))
def J_expr_Read_j2 : ACode :=
 .seq (.ops [⟨some 26, none, .bin .lss (.t 25) (.t 24), none⟩])
 (.keep [0, 7, 23, 24, 25, 26] (.seq (.cond (.t 26)
 (.skip)
 (.exit 2))
 (.keep [0, 7, 23, 24, 25] (.seq (.block 3 (.seq (.ops [⟨some 27, none, .mv (.t 25), none⟩,
 ⟨some 28, none, .idxa 4 (.t 23) (.t 25), none⟩,
 ⟨some 29, none, .load (some 4) (.t 28), none⟩,
 ⟨some 9, none, .new [(.int .i64 0), (.str ⟨#[]⟩), (.int .i64 0), (.int .i64 0)] [], none⟩,
 ⟨some 8, none, .mv (.t 27), none⟩,
 ⟨none, none, .stores 4 (.t 9) (.t 29), none⟩])
 (.keep [0, 7, 8, 9, 23, 24, 25] (.seq (.ops [⟨some 30, none, .load (some 4) (.t 9), none⟩,
 ⟨some 31, none, .call (.f 38) [(.t 7), (.t 30)], none⟩,
 ⟨some 10, none, .mv (.t 31), none⟩])
 (.keep [0, 7, 8, 10, 23, 24, 25] (.seq (.ops [⟨some 32, none, .mv (.t 10), none⟩,
 ⟨some 33, none, .bin .neq (.t 32) (.c (.int .i64 0)), none⟩])
 (.keep [0, 7, 8, 10, 23, 24, 25, 33] (.cond (.t 33)
 (.seq (.ops [⟨some 34, none, .mv (.t 8), none⟩,
 ⟨some 35, none, .mv (.t 10), none⟩,
 ⟨some 2, none, .mv (.c (.lst .clip 0 [])), none⟩,
 ⟨some 3, none, .mv (.t 34), none⟩,
 ⟨some 4, none, .mv (.t 35), none⟩])
 (.ret))
 (.skip)))))))))
 (.keep [0, 7, 23, 24, 25] (.ops [⟨some 36, none, .bin .add (.t 25) (.c (.int .i64 1)), none⟩,
 ⟨some 25, none, .mv (.t 36), none⟩]))))))
def J_expr_Read_j3 : ACode :=
 .keep [0] (.seq (.ops [⟨some 7, none, .k (.new [(.lst .clip 0 []), (.lst .clip 0 []), (.int .i64 0), (.bool false)] [(0, 45, 3)] [(1, 3)]), none⟩])
 (.keep [0, 7] (.seq (.seq (.ops [⟨some 23, none, .mv (.t 0), none⟩,
 ⟨some 24, none, .lenl (.t 23), none⟩,
 ⟨some 25, none, .mv (.c (.int .i64 0)), none⟩])
 (.keep [0, 7, 23, 24, 25] (.block 2 (.loop [0, 7, 23, 24, 25] (J_expr_Read_j2)))))
 (J_expr_Read_j1))))
def J_expr_Read_j4 : ACode :=
 .seq (.ops [⟨some 14, none, .bin .lss (.t 13) (.t 12), none⟩])
 (.keep [0, 11, 12, 13, 14] (.seq (.cond (.t 14)
 (.skip)
 (.exit 0))
 (.keep [0, 11, 12, 13] (.seq (.block 1 (.seq (.ops [⟨some 15, none, .mv (.t 13), none⟩,
 ⟨some 16, none, .idxa 4 (.t 11) (.t 13), none⟩,
 ⟨some 17, none, .load (some 4) (.t 16), none⟩,
 ⟨some 6, none, .new [(.int .i64 0), (.str ⟨#[]⟩), (.int .i64 0), (.int .i64 0)] [], none⟩,
 ⟨some 5, none, .mv (.t 15), none⟩,
 ⟨none, none, .stores 4 (.t 6) (.t 17), none⟩])
 (.keep [0, 5, 6, 11, 12, 13] (.seq (.ops [⟨some 18, none, .load (some 4) (.t 6), none⟩,
 ⟨some 19, none, .call (.f 14) [(.t 18)], none⟩,
 ⟨some 20, none, .bin .eql (.t 19) (.c (.str ⟨#[]⟩)), none⟩])
 (.keep [0, 5, 11, 12, 13, 20] (.cond (.t 20)
 (.seq (.ops [⟨some 21, none, .mv (.t 5), none⟩,
 ⟨some 2, none, .mv (.c (.lst .clip 0 [])), none⟩,
 ⟨some 3, none, .mv (.t 21), none⟩,
 ⟨some 4, none, .mv (.c (.int .i64 2)), none⟩])
 (.ret))
 (.skip)))))))
 (.keep [0, 11, 12, 13] (.ops [⟨some 22, none, .bin .add (.t 13) (.c (.int .i64 1)), none⟩,
 ⟨some 13, none, .mv (.t 22), none⟩]))))))
def J_expr_Read : AFn :=
 ⟨56, [.t 2, .t 3, .t 4], .seq (.ops [⟨some 2, none, .mv (.c (.lst .clip 0 [])), none⟩,
 ⟨some 3, none, .mv (.c (.int .i64 0)), none⟩,
 ⟨some 4, none, .mv (.c (.int .i64 0)), none⟩])
 (.keep [0] (.seq (.seq (.ops [⟨some 11, none, .mv (.t 0), none⟩,
 ⟨some 12, none, .lenl (.t 11), none⟩,
 ⟨some 13, none, .mv (.c (.int .i64 0)), none⟩])
 (.keep [0, 11, 12, 13] (.block 0 (.loop [0, 11, 12, 13] (J_expr_Read_j4)))))
 (J_expr_Read_j3)))⟩
theorem J_expr_Read_ok : chkFn Try.prog 19 J_expr_Read = true := by kernel_rfl
def J_law05_large_j1 : ACode :=
 .keep [] (.seq (.ops [⟨some 2, none, .mv (.c (.bool false)), none⟩])
 (.ret))
def J_law05_large_j2 : ACode :=
 .seq (.ops [⟨some 10, none, .bin .lss (.t 9) (.t 8), none⟩])
 (.keep [0, 8, 9, 10] (.seq (.cond (.t 10)
 (.skip)
 (.exit 0))
 (.keep [0, 8, 9] (.seq (.block 1 (.seq (.ops [⟨some 11, none, .mv (.t 9), none⟩,
 ⟨some 3, none, .mv (.t 11), none⟩])
 (.keep [0, 3, 8, 9] (.seq (.ops [⟨some 12, none, .mv (.t 0), none⟩,
 ⟨some 13, none, .mv (.t 3), none⟩,
 ⟨some 14, none, .idxa 3 (.t 12) (.t 13), none⟩,
 ⟨some 15, none, .fld 2 (.t 14), none⟩,
 ⟨some 16, none, .load none (.t 15), none⟩,
 ⟨some 17, none, .lens (.t 16), none⟩,
 ⟨some 18, none, .bin .gtr (.t 17) (.c (.int .i64 100)), none⟩])
 (.keep [0, 8, 9, 18] (.cond (.t 18)
 (.seq (.ops [⟨some 2, none, .mv (.c (.bool true)), none⟩])
 (.ret))
 (.skip)))))))
 (.keep [0, 8, 9] (.ops [⟨some 19, none, .bin .add (.t 9) (.c (.int .i64 1)), none⟩,
 ⟨some 9, none, .mv (.t 19), none⟩]))))))
def J_law05_large : AFn :=
 ⟨20, [.t 2], .seq (.ops [⟨some 2, none, .mv (.c (.bool false)), none⟩])
 (.keep [0] (.seq (.seq (.ops [⟨some 4, none, .mv (.t 0), none⟩,
 ⟨some 5, none, .lenl (.t 4), none⟩,
 ⟨some 6, none, .bin .gtr (.t 5) (.c (.int .i64 300)), none⟩])
 (.keep [0, 6] (.cond (.t 6)
 (.seq (.ops [⟨some 2, none, .mv (.c (.bool true)), none⟩])
 (.ret))
 (.skip))))
 (.keep [0] (.seq (.seq (.ops [⟨some 7, none, .mv (.t 0), none⟩,
 ⟨some 8, none, .lenl (.t 7), none⟩,
 ⟨some 9, none, .mv (.c (.int .i64 0)), none⟩])
 (.keep [0, 8, 9] (.block 0 (.loop [0, 8, 9] (J_law05_large_j2)))))
 (J_law05_large_j1)))))⟩
theorem J_law05_large_ok : chkFn Try.prog 21 J_law05_large = true := by kernel_rfl
def J_expr_Text : AFn :=
 ⟨23, [.t 2, .t 3], .seq (.ops [⟨some 1, none, .box (.t 0) [], none⟩,
 ⟨some 2, none, .mv (.c (.str ⟨#[]⟩)), none⟩,
 ⟨some 3, none, .mv (.c (.int .i64 0)), none⟩])
 (.keep [1] (.seq (.ops [⟨some 9, none, .load none (.t 1), none⟩,
 ⟨some 10, none, .call (.f 42) [(.t 9)], none⟩,
 ⟨some 8, none, .mv (.t 10), none⟩,
 ⟨some 11, none, .ext 0 (.t 8), none⟩,
 ⟨some 12, none, .ext 1 (.t 8), none⟩,
 ⟨some 4, none, .new [(.lst .clip 0 [])] [], none⟩,
 ⟨none, none, .store 1 (.t 4) (.t 11), none⟩,
 ⟨some 5, none, .mv (.t 12), none⟩])
 (.keep [1, 4, 5] (.seq (.seq (.ops [⟨some 13, none, .mv (.t 5), none⟩,
 ⟨some 14, none, .not (.t 13), none⟩])
 (.keep [1, 4, 14] (.cond (.t 14)
 (.seq (.ops [⟨some 2, none, .mv (.c (.str ⟨#[]⟩)), none⟩,
 ⟨some 3, none, .mv (.c (.int .i64 2)), none⟩])
 (.ret))
 (.skip))))
 (.keep [1, 4] (.seq (.ops [⟨some 6, none, .new [(.lst .clip 0 [])] [(0, 9, 1)], none⟩])
 (.keep [1, 4, 6] (.seq (.ops [⟨some 7, none, .new [.nilf] [], none⟩])
 (.keep [1, 4, 6, 7] (.seq (.ops [⟨some 15, none, .mkfn 43 [(.t 1), (.t 6), (.t 7), (.t 4)], none⟩,
 ⟨none, none, .store 1 (.t 7) (.t 15), none⟩])
 (.keep [1, 6, 7] (.seq (.ops [⟨some 16, none, .load none (.t 7), none⟩,
 ⟨some 17, none, .load none (.t 1), none⟩,
 ⟨some 18, none, .lenl (.t 17), none⟩,
 ⟨some 19, none, .bin .sub (.t 18) (.c (.int .i64 1)), none⟩,
 ⟨some 20, none, .call (.t 16) [(.t 19), (.c (.int .i64 0))], none⟩])
 (.keep [6] (.seq (.ops [⟨some 21, none, .load none (.t 6), none⟩,
 ⟨some 22, none, .call (.f 46) [(.t 21), (.c (.str ⟨#[32]⟩))], none⟩,
 ⟨some 2, none, .mv (.t 22), none⟩,
 ⟨some 3, none, .mv (.c (.int .i64 0)), none⟩])
 (.ret)))))))))))))))⟩
theorem J_expr_Text_ok : chkFn Try.prog 22 J_expr_Text = true := by kernel_rfl
def J_expr_May : AFn :=
 ⟨11, [.t 2], .seq (.ops [⟨some 2, none, .mv (.c (.bool false)), none⟩])
 (.keep [0] (.seq (.ops [⟨some 6, none, .mv (.t 0), none⟩,
 ⟨some 7, none, .call (.f 42) [(.t 6)], none⟩,
 ⟨some 5, none, .mv (.t 7), none⟩,
 ⟨some 8, none, .ext 0 (.t 5), none⟩,
 ⟨some 9, none, .ext 1 (.t 5), none⟩,
 ⟨some 3, none, .mv (.t 8), none⟩,
 ⟨some 4, none, .mv (.t 9), none⟩])
 (.keep [4] (.seq (.ops [⟨some 10, none, .mv (.t 4), none⟩,
 ⟨some 2, none, .mv (.t 10), none⟩])
 (.ret)))))⟩
theorem J_expr_May_ok : chkFn Try.prog 24 J_expr_May = true := by kernel_rfl
def J_expr_Deep : AFn :=
 ⟨19, [.t 2], .seq (.ops [⟨some 2, none, .mv (.c (.int .i64 0)), none⟩])
 (.keep [0] (.seq (.ops [⟨some 6, none, .mv (.t 0), none⟩,
 ⟨some 7, none, .call (.f 42) [(.t 6)], none⟩,
 ⟨some 5, none, .mv (.t 7), none⟩,
 ⟨some 8, none, .ext 0 (.t 5), none⟩,
 ⟨some 9, none, .ext 1 (.t 5), none⟩,
 ⟨some 3, none, .mv (.t 8), none⟩,
 ⟨some 4, none, .mv (.t 9), none⟩])
 (.keep [0, 3, 4] (.seq (.seq (.ops [⟨some 10, none, .mv (.t 4), none⟩,
 ⟨some 11, none, .not (.t 10), none⟩])
 (.keep [0, 3, 11] (.cond (.t 11)
 (.seq (.ops [⟨some 2, none, .mv (.c (.int .i64 0)), none⟩])
 (.ret))
 (.skip))))
 (.keep [0, 3] (.seq (.ops [⟨some 12, none, .mv (.t 3), none⟩,
 ⟨some 13, none, .mv (.t 0), none⟩,
 ⟨some 14, none, .lenl (.t 13), none⟩,
 ⟨some 15, none, .bin .sub (.t 14) (.c (.int .i64 1)), none⟩,
 ⟨some 16, none, .idxa 3 (.t 12) (.t 15), none⟩,
 ⟨some 17, none, .fld 2 (.t 16), none⟩,
 ⟨some 18, none, .load none (.t 17), none⟩,
 ⟨some 2, none, .mv (.t 18), none⟩])
 (.ret)))))))⟩
theorem J_expr_Deep_ok : chkFn Try.prog 26 J_expr_Deep = true := by kernel_rfl
def J_law05_deepRight_j1 : ACode :=
 .keep [4] (.seq (.ops [⟨some 32, none, .mv (.t 4), none⟩,
 ⟨some 33, none, .bin .gtr (.t 32) (.c (.int .i64 1000)), none⟩,
 ⟨some 2, none, .mv (.t 33), none⟩])
 (.ret))
def J_law05_deepRight_j2 : ACode :=
 .keep [0, 3, 4, 5] (.seq (.ops [⟨some 30, none, .mv (.t 3), none⟩,
 ⟨some 31, none, .bin .gtr (.t 30) (.c (.int .i64 100)), none⟩])
 (.keep [0, 3, 4, 5, 31] (.cond (.t 31)
 (.seq (.ops [⟨some 2, none, .mv (.c (.bool true)), none⟩])
 (.ret))
 (.skip))))
def J_law05_deepRight_j3 : ACode :=
 .keep [0, 3, 4, 5] (.seq (.seq (.ops [⟨some 24, none, .mv (.t 0), none⟩,
 ⟨some 25, none, .mv (.t 5), none⟩,
 ⟨some 26, none, .idxs (.t 24) (.t 25), none⟩,
 ⟨some 27, none, .bin .eql (.t 26) (.c (.int .u8 32)), none⟩])
 (.keep [0, 3, 4, 5, 27] (.cond (.t 27)
 (.ops [⟨some 28, none, .mv (.t 4), none⟩,
 ⟨some 29, none, .bin .add (.t 28) (.c (.int .i64 1)), none⟩,
 ⟨some 4, none, .mv (.t 29), none⟩])
 (.skip))))
 (J_law05_deepRight_j2))
def J_law05_deepRight_j4 : ACode :=
 .keep [0, 3, 4, 5] (.seq (.seq (.ops [⟨some 18, none, .mv (.t 0), none⟩,
 ⟨some 19, none, .mv (.t 5), none⟩,
 ⟨some 20, none, .idxs (.t 18) (.t 19), none⟩,
 ⟨some 21, none, .bin .eql (.t 20) (.c (.int .u8 41)), none⟩])
 (.keep [0, 3, 4, 5, 21] (.cond (.t 21)
 (.ops [⟨some 22, none, .mv (.t 3), none⟩,
 ⟨some 23, none, .bin .sub (.t 22) (.c (.int .i64 1)), none⟩,
 ⟨some 3, none, .mv (.t 23), none⟩])
 (.skip))))
 (J_law05_deepRight_j3))
def J_law05_deepRight_j5 : ACode :=
 .seq (.seq (.ops [⟨some 6, none, .mv (.t 5), none⟩,
 ⟨some 7, none, .mv (.t 0), none⟩,
 ⟨some 8, none, .lens (.t 7), none⟩,
 ⟨some 9, none, .bin .lss (.t 6) (.t 8), none⟩])
 (.keep [0, 3, 4, 5, 9] (.cond (.t 9)
 (.skip)
 (.exit 0))))
 (.keep [0, 3, 4, 5] (.seq (.block 1 (.seq (.seq (.ops [⟨some 12, none, .mv (.t 0), none⟩,
 ⟨some 13, none, .mv (.t 5), none⟩,
 ⟨some 14, none, .idxs (.t 12) (.t 13), none⟩,
 ⟨some 15, none, .bin .eql (.t 14) (.c (.int .u8 40)), none⟩])
 (.keep [0, 3, 4, 5, 15] (.cond (.t 15)
 (.ops [⟨some 16, none, .mv (.t 3), none⟩,
 ⟨some 17, none, .bin .add (.t 16) (.c (.int .i64 1)), none⟩,
 ⟨some 3, none, .mv (.t 17), none⟩])
 (.skip))))
 (J_law05_deepRight_j4)))
 (.keep [0, 3, 4, 5] (.ops [⟨some 10, none, .mv (.t 5), none⟩,
 ⟨some 11, none, .bin .add (.t 10) (.c (.int .i64 1)), none⟩,
 ⟨some 5, none, .mv (.t 11), none⟩]))))
def J_law05_deepRight : AFn :=
 ⟨34, [.t 2], .seq (.ops [⟨some 2, none, .mv (.c (.bool false)), none⟩])
 (.keep [0] (.seq (.ops [⟨some 3, none, .mv (.c (.int .i64 0)), none⟩,
 ⟨some 4, none, .mv (.c (.int .i64 1)), none⟩])
 (.keep [0, 3, 4] (.seq (.seq (.ops [⟨some 5, none, .mv (.c (.int .i64 0)), none⟩])
 (.keep [0, 3, 4, 5] (.block 0 (.loop [0, 3, 4, 5] (J_law05_deepRight_j5)))))
 (J_law05_deepRight_j1)))))⟩
theorem J_law05_deepRight_ok : chkFn Try.prog 28 J_law05_deepRight = true := by kernel_rfl
def J_expr_reader_take_j1 : ACode :=
 .keep [] (.seq (.ops [⟨some 4, none, .mv (.c (.int .i64 0)), none⟩])
 (.ret))
def J_expr_reader_take_j2 : ACode :=
 .keep [0, 3, 14, 15] (.cond (.t 15)
 (.seq (.ops [⟨some 20, none, .mv (.t 0), none⟩,
 ⟨some 21, none, .fld 0 (.t 3), none⟩,
 ⟨some 22, none, .load none (.t 21), none⟩,
 ⟨some 23, none, .call (.f 44) [(.t 22)], none⟩,
 ⟨some 24, none, .call (.f 39) [(.t 20), (.t 23)], none⟩])
 (.keep [0, 3] (.seq (.draw [0] [⟨some 25, none, .mv (.t 0), none⟩,
 ⟨some 26, none, .mv (.t 0), none⟩,
 ⟨some 27, none, .nilck (.t 26), none⟩,
 ⟨some 28, none, .fld 1 (.t 27), none⟩,
 ⟨some 29, none, .k (.ld (.t 28)), (some (.s 0, [3]))⟩,
 ⟨some 30, none, .fld 0 (.t 3), none⟩,
 ⟨some 31, none, .load none (.t 30), (some (.s 3, [0]))⟩,
 ⟨some 32, none, .bsl 3 1 1 [(.int .i64 0)] [(0, 1, (.t 31))], none⟩,
 ⟨some 33, none, .k (.ap 3 8 29 (.t 32)), none⟩,
 ⟨some 34, none, .nilck (.t 25), none⟩,
 ⟨some 35, none, .fld 1 (.t 34), none⟩,
 ⟨none, none, .k (.st (.t 35) 33), none⟩])
 (.keep [0] (.ops [⟨some 36, none, .mv (.t 0), none⟩,
 ⟨some 37, none, .nilck (.t 36), none⟩,
 ⟨some 38, none, .fld 3 (.t 37), none⟩,
 ⟨none, none, .store 1 (.t 38) (.c (.bool false)), none⟩])))))
 (.seq (.ops [⟨some 40, none, .bin .eql (.t 14) (.c (.int .i64 7)), none⟩,
 ⟨some 39, none, .mv (.t 40), none⟩])
 (.keep [0, 39] (.cond (.t 39)
 (.seq (.seq (.ops [⟨some 41, none, .mv (.t 0), none⟩,
 ⟨some 42, none, .nilck (.t 41), none⟩,
 ⟨some 43, none, .fld 2 (.t 42), none⟩,
 ⟨some 44, none, .load none (.t 43), none⟩,
 ⟨some 45, none, .bin .eql (.t 44) (.c (.int .i64 0)), none⟩])
 (.keep [0, 45] (.cond (.t 45)
 (.seq (.ops [⟨some 4, none, .mv (.c (.int .i64 2)), none⟩])
 (.ret))
 (.skip))))
 (.keep [0] (.seq (.ops [⟨some 46, none, .mv (.t 0), none⟩,
 ⟨some 47, none, .call (.f 39) [(.t 46), (.c (.int .i64 1))], none⟩])
 (.keep [0] (.seq (.nmo 0 1 (.draw [0] [⟨some 48, none, .mv (.t 0), none⟩,
 ⟨some 49, none, .mv (.t 0), none⟩,
 ⟨some 50, none, .nilck (.t 49), none⟩,
 ⟨some 51, none, .fld 1 (.t 50), none⟩,
 ⟨some 52, none, .load none (.t 51), none⟩,
 ⟨some 53, none, .mv (.t 0), none⟩,
 ⟨some 54, none, .nilck (.t 53), none⟩,
 ⟨some 55, none, .fld 1 (.t 54), none⟩,
 ⟨some 56, none, .load none (.t 55), none⟩,
 ⟨some 57, none, .k (.len (.t 56)), none⟩,
 ⟨some 58, none, .bin .sub (.t 57) (.c (.int .i64 1)), none⟩,
 ⟨some 59, none, .k (.sl (.t 52) (.t 58)), none⟩,
 ⟨some 60, none, .nilck (.t 48), none⟩,
 ⟨some 61, none, .fld 1 (.t 60), none⟩,
 ⟨none, none, .k (.pop (.t 61) (.t 59)), none⟩]))
 (.keep [0] (.ops [⟨some 62, none, .mv (.t 0), none⟩,
 ⟨some 63, none, .nilck (.t 62), none⟩,
 ⟨some 64, none, .fld 2 (.t 63), none⟩,
 ⟨some 65, none, .load none (.t 64), none⟩,
 ⟨some 66, none, .bin .sub (.t 65) (.c (.int .i64 1)), none⟩,
 ⟨some 67, none, .nilck (.t 62), none⟩,
 ⟨some 68, none, .fld 2 (.t 67), none⟩,
 ⟨none, none, .store 1 (.t 68) (.t 66), none⟩])))))))
 (.seq (.ops [⟨some 4, none, .mv (.c (.int .i64 2)), none⟩])
 (.ret))))))
def J_expr_reader_take : AFn :=
 ⟨69, [.t 4], .seq (.ops [⟨some 3, none, .box (.t 1) [], none⟩,
 ⟨some 4, none, .mv (.c (.int .i64 0)), none⟩])
 (.keep [0, 3] (.seq (.seq (.ops [⟨some 5, none, .mv (.t 0), none⟩,
 ⟨some 6, none, .nilck (.t 5), none⟩,
 ⟨some 7, none, .fld 3 (.t 6), none⟩,
 ⟨some 8, none, .load none (.t 7), none⟩,
 ⟨some 9, none, .not (.t 8), none⟩])
 (.keep [0, 3, 9] (.cond (.t 9)
 (.seq (.ops [⟨some 10, none, .mv (.t 0), none⟩,
 ⟨some 11, none, .load (some 4) (.t 3), none⟩,
 ⟨some 12, none, .call (.f 62) [(.t 10), (.t 11)], none⟩,
 ⟨some 4, none, .mv (.t 12), none⟩])
 (.ret))
 (.skip))))
 (.keep [0, 3] (.seq (.seq (.ops [⟨some 13, none, .fld 0 (.t 3), none⟩,
 ⟨some 14, none, .load none (.t 13), none⟩])
 (.keep [0, 3, 14] (.block 0 (.seq (.seq (.ops [⟨some 16, none, .bin .eql (.t 14) (.c (.int .i64 2)), none⟩,
 ⟨some 15, none, .mv (.t 16), none⟩])
 (.keep [0, 3, 14, 15] (.cond (.t 15)
 (.skip)
 (.seq (.ops [⟨some 17, none, .bin .eql (.t 14) (.c (.int .i64 3)), none⟩,
 ⟨some 15, none, .mv (.t 17), none⟩])
 (.keep [0, 3, 14, 15] (.cond (.t 15)
 (.skip)
 (.seq (.ops [⟨some 18, none, .bin .eql (.t 14) (.c (.int .i64 4)), none⟩,
 ⟨some 15, none, .mv (.t 18), none⟩])
 (.keep [0, 3, 14, 15] (.cond (.t 15)
 (.skip)
 (.ops [⟨some 19, none, .bin .eql (.t 14) (.c (.int .i64 5)), none⟩,
 ⟨some 15, none, .mv (.t 19), none⟩]))))))))))
 (J_expr_reader_take_j2)))))
 (J_expr_reader_take_j1)))))⟩
theorem J_expr_reader_take_ok : chkFn Try.prog 38 J_expr_reader_take = true := by kernel_rfl
def J_expr_reader_lay_j1 : ACode :=
 .seq (.seq (.ops [⟨some 4, none, .mv (.t 0), none⟩,
 ⟨some 5, none, .call (.f 63) [(.t 4)], none⟩,
 ⟨some 6, none, .call (.f 44) [(.t 5)], none⟩,
 ⟨some 7, none, .mv (.t 1), none⟩,
 ⟨some 8, none, .bin .geq (.t 6) (.t 7), none⟩])
 (.keep [0, 1, 8] (.cond (.t 8)
 (.skip)
 (.exit 0))))
 (.keep [0, 1] (.block 1 (.seq (.draw [0, 1] [⟨some 9, none, .mv (.t 0), none⟩,
 ⟨some 10, none, .mv (.t 0), none⟩,
 ⟨some 11, none, .nilck (.t 10), none⟩,
 ⟨some 12, none, .fld 0 (.t 11), none⟩,
 ⟨some 13, none, .loado (.t 12), none⟩,
 ⟨some 14, none, .mv (.t 0), none⟩,
 ⟨some 15, none, .callr (.f 63) [(.t 14)], none⟩,
 ⟨some 16, none, .build [(.int .i64 0), (.int .i64 0), (.str ⟨#[]⟩)] [(0, 1, (.t 15))], none⟩,
 ⟨some 17, none, .bsl 45 3 1 [(.int .i64 0), (.int .i64 0), (.str ⟨#[]⟩)] [(0, 3, (.t 16))], none⟩,
 ⟨some 18, none, .appo 45 3 32 13 (.t 17), none⟩,
 ⟨some 19, none, .nilck (.t 9), none⟩,
 ⟨some 20, none, .fld 0 (.t 19), none⟩,
 ⟨none, none, .storeo (.t 20) 18, none⟩])
 (.keep [0, 1] (.nmo 0 1 (.draw [0, 1] [⟨some 21, none, .mv (.t 0), none⟩,
 ⟨some 22, none, .mv (.t 0), none⟩,
 ⟨some 23, none, .nilck (.t 22), none⟩,
 ⟨some 24, none, .fld 1 (.t 23), none⟩,
 ⟨some 25, none, .load none (.t 24), none⟩,
 ⟨some 26, none, .mv (.t 0), none⟩,
 ⟨some 27, none, .nilck (.t 26), none⟩,
 ⟨some 28, none, .fld 1 (.t 27), none⟩,
 ⟨some 29, none, .load none (.t 28), none⟩,
 ⟨some 30, none, .k (.len (.t 29)), none⟩,
 ⟨some 31, none, .bin .sub (.t 30) (.c (.int .i64 1)), none⟩,
 ⟨some 32, none, .k (.sl (.t 25) (.t 31)), none⟩,
 ⟨some 33, none, .nilck (.t 21), none⟩,
 ⟨some 34, none, .fld 1 (.t 33), none⟩,
 ⟨none, none, .k (.pop (.t 34) (.t 32)), none⟩]))))))
def J_expr_reader_lay : AFn :=
 ⟨35, [], .block 0 (.loop [0, 1] (J_expr_reader_lay_j1))⟩
theorem J_expr_reader_lay_ok : chkFn Try.prog 39 J_expr_reader_lay = true := by kernel_rfl
def J_expr_parts_j1 : ACode :=
 .keep [4, 5] (.seq (.nms 5 (.ops [⟨some 118, none, .mv (.t 4), none⟩,
 ⟨some 119, none, .mv (.t 5), none⟩,
 ⟨some 120, none, .k (.len (.t 119)), none⟩,
 ⟨some 121, none, .bin .eql (.t 120) (.c (.int .i64 1)), none⟩,
 ⟨some 2, none, .mv (.t 118), none⟩,
 ⟨some 3, none, .mv (.t 121), none⟩]))
 (.ret))
def J_expr_parts_j2 : ACode :=
 .keep [0, 4, 5, 22, 23, 24] (.ops [⟨some 117, none, .bin .add (.t 24) (.c (.int .i64 1)), none⟩,
 ⟨some 24, none, .mv (.t 117), none⟩])
def J_expr_parts_j3 : ACode :=
 .seq (.ops [⟨some 25, none, .bin .lss (.t 24) (.t 23), none⟩])
 (.keep [0, 4, 5, 22, 23, 24, 25] (.seq (.cond (.t 25)
 (.skip)
 (.exit 0))
 (.keep [0, 4, 5, 22, 23, 24] (.seq (.block 1 (.seq (.ops [⟨some 26, none, .mv (.t 24), none⟩,
 ⟨some 27, none, .idxa 3 (.t 22) (.t 24), none⟩,
 ⟨some 28, none, .load (some 3) (.t 27), none⟩,
 ⟨some 7, none, .new [(.int .i64 0), (.int .i64 0), (.str ⟨#[]⟩)] [], none⟩,
 ⟨some 6, none, .mv (.t 26), none⟩,
 ⟨none, none, .stores 3 (.t 7) (.t 28), none⟩])
 (.keep [0, 4, 5, 6, 7, 22, 23, 24] (.seq (.seq (.ops [⟨some 29, none, .fld 0 (.t 7), none⟩,
 ⟨some 30, none, .load none (.t 29), none⟩,
 ⟨some 31, none, .bin .eql (.t 30) (.c (.int .i64 1)), none⟩])
 (.keep [0, 4, 5, 6, 7, 22, 23, 24, 31] (.cond (.t 31)
 (.seq (.seq (.ops [⟨some 32, none, .load (some 3) (.t 7), none⟩,
 ⟨some 33, none, .call (.f 45) [(.t 32)], none⟩,
 ⟨some 34, none, .bin .eql (.t 33) (.c (.str ⟨#[]⟩)), none⟩])
 (.keep [0, 4, 5, 6, 22, 23, 24, 34] (.cond (.t 34)
 (.seq (.ops [⟨some 2, none, .mv (.c (.lst .clip 0 [])), none⟩,
 ⟨some 3, none, .mv (.c (.bool false)), none⟩])
 (.ret))
 (.skip))))
 (.keep [0, 4, 5, 6, 22, 23, 24] (.seq (.ops [⟨some 35, none, .mv (.t 4), none⟩,
 ⟨some 36, none, .mv (.t 6), none⟩,
 ⟨some 37, none, .idxa 3 (.t 35) (.t 36), none⟩,
 ⟨some 38, none, .fld 2 (.t 37), none⟩,
 ⟨none, none, .store 1 (.t 38) (.c (.int .i64 1)), none⟩])
 (.keep [0, 4, 5, 6, 22, 23, 24] (.seq (.ops [⟨some 39, none, .k (.mv 5), none⟩,
 ⟨some 40, none, .mv (.t 6), none⟩,
 ⟨some 41, none, .bsl 3 1 1 [(.int .i64 0)] [(0, 1, (.t 40))], none⟩,
 ⟨some 42, none, .k (.ap 3 8 39 (.t 41)), none⟩,
 ⟨some 5, none, .k (.mv 42), none⟩])
 (.exit 1))))))
 (.skip))))
 (.keep [0, 4, 5, 6, 7, 22, 23, 24] (.seq (.nms 5 (.ops [⟨some 43, none, .mv (.t 5), none⟩,
 ⟨some 44, none, .k (.len (.t 43)), none⟩,
 ⟨some 8, none, .mv (.t 44), none⟩]))
 (.keep [0, 4, 5, 6, 7, 8, 22, 23, 24] (.seq (.seq (.ops [⟨some 45, none, .fld 0 (.t 7), none⟩,
 ⟨some 46, none, .load none (.t 45), none⟩,
 ⟨some 47, none, .call (.f 44) [(.t 46)], none⟩,
 ⟨some 48, none, .bin .eql (.t 47) (.c (.int .i64 0)), none⟩,
 ⟨some 49, none, .mv (.t 48), none⟩,
 ⟨some 50, (some (49, false)), .fld 1 (.t 7), none⟩,
 ⟨some 51, (some (49, false)), .load none (.t 50), none⟩,
 ⟨some 52, (some (49, false)), .bin .neq (.t 51) (.c (.int .i64 0)), none⟩,
 ⟨some 53, none, .pick (.t 49) (.c (.bool true)) (.t 52), none⟩,
 ⟨some 54, none, .mv (.t 53), none⟩,
 ⟨some 55, (some (54, false)), .fld 2 (.t 7), none⟩,
 ⟨some 56, (some (54, false)), .load none (.t 55), none⟩,
 ⟨some 57, (some (54, false)), .bin .neq (.t 56) (.c (.str ⟨#[]⟩)), none⟩,
 ⟨some 58, none, .pick (.t 54) (.c (.bool true)) (.t 57), none⟩,
 ⟨some 59, none, .mv (.t 58), none⟩,
 ⟨some 60, (some (59, false)), .mv (.t 8), none⟩,
 ⟨some 61, (some (59, false)), .bin .lss (.t 60) (.c (.int .i64 2)), none⟩,
 ⟨some 62, none, .pick (.t 59) (.c (.bool true)) (.t 61), none⟩])
 (.keep [0, 4, 5, 6, 7, 8, 22, 23, 24, 62] (.cond (.t 62)
 (.seq (.ops [⟨some 2, none, .mv (.c (.lst .clip 0 [])), none⟩,
 ⟨some 3, none, .mv (.c (.bool false)), none⟩])
 (.ret))
 (.skip))))
 (.keep [0, 4, 5, 6, 7, 8, 22, 23, 24] (.seq (.nms 5 (.draw [0, 4, 5, 6, 7, 8, 9, 10, 22, 23, 24] [⟨some 63, none, .mv (.t 5), none⟩,
 ⟨some 64, none, .mv (.t 8), none⟩,
 ⟨some 65, none, .bin .sub (.t 64) (.c (.int .i64 2)), none⟩,
 ⟨some 66, none, .k (.ix (.t 63) (.t 65)), none⟩,
 ⟨some 67, none, .k (.pk 5 (.t 66)), none⟩,
 ⟨some 68, none, .mv (.t 5), none⟩,
 ⟨some 69, none, .mv (.t 8), none⟩,
 ⟨some 70, none, .bin .sub (.t 69) (.c (.int .i64 1)), none⟩,
 ⟨some 71, none, .k (.ix (.t 68) (.t 70)), none⟩,
 ⟨some 72, none, .k (.pk 5 (.t 71)), none⟩,
 ⟨some 9, none, .mv (.t 67), none⟩,
 ⟨some 10, none, .mv (.t 72), none⟩]))
 (.keep [0, 4, 5, 6, 7, 8, 9, 10, 22, 23, 24] (.seq (.seq (.ops [⟨some 73, none, .fld 0 (.t 7), none⟩,
 ⟨some 74, none, .load none (.t 73), none⟩,
 ⟨some 75, none, .bin .eql (.t 74) (.c (.int .i64 5)), none⟩,
 ⟨some 76, none, .mv (.t 75), none⟩,
 ⟨some 77, (some (76, true)), .mv (.t 0), none⟩,
 ⟨some 78, (some (76, true)), .mv (.t 10), none⟩,
 ⟨some 79, (some (76, true)), .idxa 3 (.t 77) (.t 78), none⟩,
 ⟨some 80, (some (76, true)), .fld 0 (.t 79), none⟩,
 ⟨some 81, (some (76, true)), .load none (.t 80), none⟩,
 ⟨some 82, (some (76, true)), .bin .neq (.t 81) (.c (.int .i64 1)), none⟩,
 ⟨some 83, (some (76, true)), .mv (.t 82), none⟩,
 ⟨some 84, (some (83, false)), .mv (.t 0), none⟩,
 ⟨some 85, (some (83, false)), .mv (.t 10), none⟩,
 ⟨some 86, (some (83, false)), .idxa 3 (.t 84) (.t 85), none⟩,
 ⟨some 87, (some (83, false)), .fld 1 (.t 86), none⟩,
 ⟨some 88, (some (83, false)), .load none (.t 87), none⟩,
 ⟨some 89, (some (83, false)), .bin .neq (.t 88) (.c (.int .i64 5)), none⟩,
 ⟨some 90, (some (76, true)), .pick (.t 83) (.c (.bool true)) (.t 89), none⟩,
 ⟨some 91, none, .pick (.t 76) (.t 90) (.c (.bool false)), none⟩])
 (.keep [0, 4, 5, 6, 8, 9, 10, 22, 23, 24, 91] (.cond (.t 91)
 (.seq (.ops [⟨some 2, none, .mv (.c (.lst .clip 0 [])), none⟩,
 ⟨some 3, none, .mv (.c (.bool false)), none⟩])
 (.ret))
 (.skip))))
 (.keep [0, 4, 5, 6, 8, 9, 10, 22, 23, 24] (.seq (.draw [0, 4, 5, 6, 8, 22, 23, 24] [⟨some 92, none, .mv (.t 4), none⟩,
 ⟨some 93, none, .mv (.t 6), none⟩,
 ⟨some 94, none, .mv (.t 9), none⟩,
 ⟨some 95, none, .mv (.t 10), none⟩,
 ⟨some 96, none, .mv (.t 4), none⟩,
 ⟨some 97, none, .mv (.t 9), none⟩,
 ⟨some 98, none, .idxa 3 (.t 96) (.t 97), none⟩,
 ⟨some 99, none, .fld 2 (.t 98), none⟩,
 ⟨some 100, none, .load none (.t 99), none⟩,
 ⟨some 101, none, .mv (.t 4), none⟩,
 ⟨some 102, none, .mv (.t 10), none⟩,
 ⟨some 103, none, .idxa 3 (.t 101) (.t 102), none⟩,
 ⟨some 104, none, .fld 2 (.t 103), none⟩,
 ⟨some 105, none, .load none (.t 104), none⟩,
 ⟨some 106, none, .mx (.t 100) (.t 105), none⟩,
 ⟨some 107, none, .bin .add (.c (.int .i64 1)) (.t 106), none⟩,
 ⟨some 108, none, .build [(.int .i64 0), (.int .i64 0), (.int .i64 0)] [(0, 1, (.t 94)), (1, 1, (.t 95)), (2, 1, (.t 107))], none⟩,
 ⟨some 109, none, .idxa 3 (.t 92) (.t 93), none⟩,
 ⟨none, none, .store 3 (.t 109) (.t 108), none⟩])
 (.keep [0, 4, 5, 6, 8, 22, 23, 24] (.ops [⟨some 110, none, .k (.mv 5), none⟩,
 ⟨some 111, none, .mv (.t 8), none⟩,
 ⟨some 112, none, .bin .sub (.t 111) (.c (.int .i64 2)), none⟩,
 ⟨some 113, none, .k (.cut 110 (.t 112)), none⟩,
 ⟨some 114, none, .mv (.t 6), none⟩,
 ⟨some 115, none, .bsl 3 1 1 [(.int .i64 0)] [(0, 1, (.t 114))], none⟩,
 ⟨some 116, none, .k (.ap 3 8 113 (.t 115)), none⟩,
 ⟨some 5, none, .k (.mv 116), none⟩]))))))))))))))))
 (J_expr_parts_j2)))))
def J_expr_parts : AFn :=
 ⟨122, [.t 2, .t 3], .seq (.ops [⟨some 2, none, .mv (.c (.lst .clip 0 [])), none⟩,
 ⟨some 3, none, .mv (.c (.bool false)), none⟩])
 (.keep [0] (.seq (.seq (.ops [⟨some 11, none, .mv (.t 0), none⟩,
 ⟨some 12, none, .lenl (.t 11), none⟩,
 ⟨some 13, none, .bin .lss (.t 12) (.c (.int .i64 1)), none⟩,
 ⟨some 14, none, .mv (.t 13), none⟩,
 ⟨some 15, (some (14, false)), .mv (.t 0), none⟩,
 ⟨some 16, (some (14, false)), .lenl (.t 15), none⟩,
 ⟨some 17, (some (14, false)), .bin .gtr (.t 16) (.c (.int .i64 200)), none⟩,
 ⟨some 18, none, .pick (.t 14) (.c (.bool true)) (.t 17), none⟩])
 (.keep [0, 18] (.cond (.t 18)
 (.seq (.ops [⟨some 2, none, .mv (.c (.lst .clip 0 [])), none⟩,
 ⟨some 3, none, .mv (.c (.bool false)), none⟩])
 (.ret))
 (.skip))))
 (.keep [0] (.seq (.ops [⟨some 19, none, .mv (.t 0), none⟩,
 ⟨some 20, none, .lenl (.t 19), none⟩,
 ⟨some 21, none, .mkn 68 3 24 [(.int .i64 0), (.int .i64 0), (.int .i64 0)] (.t 20), none⟩,
 ⟨some 4, none, .mv (.t 21), none⟩])
 (.keep [0, 4] (.seq (.ops [⟨some 5, none, .k (.mk 3 (.c (.lst .clip 0 []))), none⟩])
 (.keep [0, 4, 5] (.seq (.seq (.ops [⟨some 22, none, .mv (.t 0), none⟩,
 ⟨some 23, none, .lenl (.t 22), none⟩,
 ⟨some 24, none, .mv (.c (.int .i64 0)), none⟩])
 (.keep [0, 4, 5, 22, 23, 24] (.block 0 (.loop [0, 4, 5, 22, 23, 24] (J_expr_parts_j3)))))
 (J_expr_parts_j1)))))))))⟩
theorem J_expr_parts_ok : chkFn Try.prog 42 J_expr_parts = true := by kernel_rfl
def J_expr_Text_1_j1 : ACode :=
 .keep [1, 3, 8] (.seq (.ops [⟨some 60, none, .mv (.t 8), none⟩,
 ⟨some 61, none, .mv (.t 1), none⟩,
 ⟨some 62, none, .bin .lss (.t 60) (.t 61), none⟩])
 (.keep [3, 62] (.cond (.t 62)
 (.ops [⟨some 63, none, .loado (.t 3), none⟩,
 ⟨some 64, none, .bsl 9 1 1 [(.str ⟨#[]⟩)] [(0, 1, (.c (.str ⟨#[41]⟩)))], none⟩,
 ⟨some 65, none, .appo 9 1 16 63 (.t 64), none⟩,
 ⟨none, none, .storeo (.t 3) 65, none⟩])
 (.skip))))
def J_expr_Text_1_j2 : ACode :=
 .keep [0, 1, 2, 3, 4, 5, 8] (.seq (.seq (.ops [⟨some 21, none, .load none (.t 2), none⟩,
 ⟨some 22, none, .mv (.t 0), none⟩,
 ⟨some 23, none, .idxa 3 (.t 21) (.t 22), none⟩,
 ⟨some 24, none, .fld 0 (.t 23), none⟩,
 ⟨some 25, none, .load none (.t 24), none⟩,
 ⟨some 26, none, .bin .eql (.t 25) (.c (.int .i64 1)), none⟩])
 (.keep [0, 1, 2, 3, 4, 5, 8, 26] (.cond (.t 26)
 (.draw [1, 3, 8] [⟨some 27, none, .loado (.t 3), (some (.s 3, [2]))⟩,
 ⟨some 28, none, .load none (.t 2), (some (.s 2, [3]))⟩,
 ⟨some 29, none, .mv (.t 0), none⟩,
 ⟨some 30, none, .idxa 3 (.t 28) (.t 29), none⟩,
 ⟨some 31, none, .lds (some 3) (.t 30), none⟩,
 ⟨some 32, none, .call (.f 45) [(.t 31)], none⟩,
 ⟨some 33, none, .bsl 9 1 1 [(.str ⟨#[]⟩)] [(0, 1, (.t 32))], none⟩,
 ⟨some 34, none, .appo 9 1 16 27 (.t 33), none⟩,
 ⟨none, none, .storeo (.t 3) 34, none⟩])
 (.seq (.draw [0, 1, 2, 3, 4, 5, 8] [⟨some 35, none, .load none (.t 4), none⟩,
 ⟨some 36, none, .load none (.t 5), none⟩,
 ⟨some 37, none, .mv (.t 0), none⟩,
 ⟨some 38, none, .idxa 3 (.t 36) (.t 37), none⟩,
 ⟨some 39, none, .fld 0 (.t 38), none⟩,
 ⟨some 40, none, .load none (.t 39), none⟩,
 ⟨some 41, none, .mv (.t 8), none⟩,
 ⟨some 42, none, .calli (.t 35) [(.t 40), (.t 41)], none⟩])
 (.keep [0, 1, 2, 3, 4, 5, 8] (.seq (.draw [0, 1, 3, 4, 5, 8] [⟨some 43, none, .loado (.t 3), (some (.s 3, [2]))⟩,
 ⟨some 44, none, .load none (.t 2), (some (.s 2, [3]))⟩,
 ⟨some 45, none, .mv (.t 0), none⟩,
 ⟨some 46, none, .idxa 3 (.t 44) (.t 45), none⟩,
 ⟨some 47, none, .lds (some 3) (.t 46), none⟩,
 ⟨some 48, none, .call (.f 45) [(.t 47)], none⟩,
 ⟨some 49, none, .bsl 9 1 1 [(.str ⟨#[]⟩)] [(0, 1, (.t 48))], none⟩,
 ⟨some 50, none, .appo 9 1 16 43 (.t 49), none⟩,
 ⟨none, none, .storeo (.t 3) 50, none⟩])
 (.keep [0, 1, 3, 4, 5, 8] (.draw [1, 3, 8] [⟨some 51, none, .load none (.t 4), none⟩,
 ⟨some 52, none, .load none (.t 5), none⟩,
 ⟨some 53, none, .mv (.t 0), none⟩,
 ⟨some 54, none, .idxa 3 (.t 52) (.t 53), none⟩,
 ⟨some 55, none, .fld 1 (.t 54), none⟩,
 ⟨some 56, none, .load none (.t 55), none⟩,
 ⟨some 57, none, .mv (.t 8), none⟩,
 ⟨some 58, none, .bin .add (.t 57) (.c (.int .i64 1)), none⟩,
 ⟨some 59, none, .calli (.t 51) [(.t 56), (.t 58)], none⟩]))))))))
 (J_expr_Text_1_j1))
def J_expr_Text_1 : AFn :=
 ⟨66, [], .seq (.ops [⟨some 9, none, .load none (.t 2), none⟩,
 ⟨some 10, none, .mv (.t 0), none⟩,
 ⟨some 11, none, .idxa 3 (.t 9) (.t 10), none⟩,
 ⟨some 12, none, .fld 0 (.t 11), none⟩,
 ⟨some 13, none, .load none (.t 12), none⟩,
 ⟨some 14, none, .call (.f 44) [(.t 13)], none⟩,
 ⟨some 8, none, .mv (.t 14), none⟩])
 (.keep [0, 1, 2, 3, 4, 5, 8] (.seq (.seq (.ops [⟨some 15, none, .mv (.t 8), none⟩,
 ⟨some 16, none, .mv (.t 1), none⟩,
 ⟨some 17, none, .bin .lss (.t 15) (.t 16), none⟩])
 (.keep [0, 1, 2, 3, 4, 5, 8, 17] (.cond (.t 17)
 (.ops [⟨some 18, none, .loado (.t 3), none⟩,
 ⟨some 19, none, .bsl 9 1 1 [(.str ⟨#[]⟩)] [(0, 1, (.c (.str ⟨#[40]⟩)))], none⟩,
 ⟨some 20, none, .appo 9 1 16 18 (.t 19), none⟩,
 ⟨none, none, .storeo (.t 3) 20, none⟩])
 (.skip))))
 (J_expr_Text_1_j2)))⟩
theorem J_expr_Text_1_ok : chkFn Try.prog 43 J_expr_Text_1 = true := by kernel_rfl
def J_expr_bind : AFn :=
 ⟨14, [.t 2], .seq (.ops [⟨some 2, none, .mv (.c (.int .i64 0)), none⟩])
 (.keep [0] (.seq (.seq (.ops [⟨some 3, none, .mv (.t 0), none⟩])
 (.keep [3] (.block 0 (.seq (.ops [⟨some 5, none, .bin .eql (.t 3) (.c (.int .i64 2)), none⟩,
 ⟨some 4, none, .mv (.t 5), none⟩])
 (.keep [3, 4] (.cond (.t 4)
 (.seq (.ops [⟨some 2, none, .mv (.c (.int .i64 1)), none⟩])
 (.ret))
 (.seq (.ops [⟨some 7, none, .bin .eql (.t 3) (.c (.int .i64 3)), none⟩,
 ⟨some 6, none, .mv (.t 7), none⟩])
 (.keep [3, 6] (.cond (.t 6)
 (.seq (.ops [⟨some 2, none, .mv (.c (.int .i64 2)), none⟩])
 (.ret))
 (.seq (.ops [⟨some 9, none, .bin .eql (.t 3) (.c (.int .i64 4)), none⟩,
 ⟨some 8, none, .mv (.t 9), none⟩])
 (.keep [3, 8] (.cond (.t 8)
 (.seq (.ops [⟨some 2, none, .mv (.c (.int .i64 3)), none⟩])
 (.ret))
 (.seq (.ops [⟨some 11, none, .bin .eql (.t 3) (.c (.int .i64 5)), none⟩,
 ⟨some 10, none, .mv (.t 11), none⟩])
 (.keep [3, 10] (.cond (.t 10)
 (.seq (.ops [⟨some 2, none, .mv (.c (.int .i64 4)), none⟩])
 (.ret))
 (.seq (.ops [⟨some 13, none, .bin .eql (.t 3) (.c (.int .i64 1)), none⟩,
 ⟨some 12, none, .mv (.t 13), none⟩])
 (.keep [12] (.cond (.t 12)
 (.seq (.ops [⟨some 2, none, .mv (.c (.int .i64 5)), none⟩])
 (.ret))
 (.skip)))))))))))))))))))
 (.keep [] (.seq (.ops [⟨some 2, none, .mv (.c (.int .i64 0)), none⟩])
 (.ret)))))⟩
theorem J_expr_bind_ok : chkFn Try.prog 44 J_expr_bind = true := by kernel_rfl
def J_expr_written : AFn :=
 ⟨11, [.t 2], .seq (.ops [⟨some 1, none, .box (.t 0) [], none⟩,
 ⟨some 2, none, .mv (.c (.str ⟨#[]⟩)), none⟩])
 (.keep [1] (.seq (.ops [⟨some 3, none, .fld 0 (.t 1), none⟩,
 ⟨some 4, none, .load none (.t 3), none⟩,
 ⟨some 5, none, .fld 1 (.t 1), none⟩,
 ⟨some 6, none, .load none (.t 5), none⟩,
 ⟨some 7, none, .fld 2 (.t 1), none⟩,
 ⟨some 8, none, .load none (.t 7), none⟩,
 ⟨some 9, none, .build [(.int .i64 0), (.str ⟨#[]⟩), (.int .i64 0), (.int .i64 0)] [(0, 1, (.t 4)), (2, 1, (.t 6)), (1, 1, (.t 8))], none⟩,
 ⟨some 10, none, .call (.f 14) [(.t 9)], none⟩,
 ⟨some 2, none, .mv (.t 10), none⟩])
 (.ret)))⟩
theorem J_expr_written_ok : chkFn Try.prog 45 J_expr_written = true := by kernel_rfl
def J_expr_reader_part_j1 : ACode :=
 .keep [] (.seq (.ops [⟨some 4, none, .mv (.c (.int .i64 0)), none⟩])
 (.ret))
def J_expr_reader_part : AFn :=
 ⟨64, [.t 4], .seq (.ops [⟨some 3, none, .box (.t 1) [], none⟩,
 ⟨some 4, none, .mv (.c (.int .i64 0)), none⟩])
 (.keep [0, 3] (.seq (.block 0 (.seq (.ops [⟨some 6, none, .fld 0 (.t 3), none⟩,
 ⟨some 7, none, .load none (.t 6), none⟩,
 ⟨some 8, none, .bin .eql (.t 7) (.c (.int .i64 1)), none⟩,
 ⟨some 5, none, .mv (.t 8), none⟩])
 (.keep [0, 3, 5] (.cond (.t 5)
 (.seq (.seq (.ops [⟨some 9, none, .mv (.t 0), none⟩,
 ⟨some 10, none, .call (.f 63) [(.t 9)], none⟩,
 ⟨some 11, none, .bin .eql (.t 10) (.c (.int .i64 5)), none⟩,
 ⟨some 12, none, .mv (.t 11), none⟩,
 ⟨some 13, (some (12, true)), .fld 2 (.t 3), none⟩,
 ⟨some 14, (some (12, true)), .load none (.t 13), none⟩,
 ⟨some 15, (some (12, true)), .bin .neq (.t 14) (.c (.int .i64 5)), none⟩,
 ⟨some 16, none, .pick (.t 12) (.t 15) (.c (.bool false)), none⟩])
 (.keep [0, 3, 16] (.cond (.t 16)
 (.seq (.ops [⟨some 4, none, .mv (.c (.int .i64 2)), none⟩])
 (.ret))
 (.skip))))
 (.keep [0, 3] (.seq (.draw [0] [⟨some 17, none, .mv (.t 0), none⟩,
 ⟨some 18, none, .mv (.t 0), none⟩,
 ⟨some 19, none, .nilck (.t 18), none⟩,
 ⟨some 20, none, .fld 0 (.t 19), none⟩,
 ⟨some 21, none, .loado (.t 20), (some (.s 0, [3]))⟩,
 ⟨some 22, none, .fld 2 (.t 3), none⟩,
 ⟨some 23, none, .load none (.t 22), (some (.s 3, [0]))⟩,
 ⟨some 24, none, .fld 1 (.t 3), none⟩,
 ⟨some 25, none, .load none (.t 24), (some (.s 3, [0]))⟩,
 ⟨some 26, none, .build [(.int .i64 0), (.int .i64 0), (.str ⟨#[]⟩)] [(0, 1, (.c (.int .i64 1))), (1, 1, (.t 23)), (2, 1, (.t 25))], none⟩,
 ⟨some 27, none, .bsl 45 3 1 [(.int .i64 0), (.int .i64 0), (.str ⟨#[]⟩)] [(0, 3, (.t 26))], none⟩,
 ⟨some 28, none, .appo 45 3 32 21 (.t 27), none⟩,
 ⟨some 29, none, .nilck (.t 17), none⟩,
 ⟨some 30, none, .fld 0 (.t 29), none⟩,
 ⟨none, none, .storeo (.t 30) 28, none⟩])
 (.keep [0] (.ops [⟨some 31, none, .mv (.t 0), none⟩,
 ⟨some 32, none, .nilck (.t 31), none⟩,
 ⟨some 33, none, .fld 3 (.t 32), none⟩,
 ⟨none, none, .store 1 (.t 33) (.c (.bool true)), none⟩])))))
 (.seq (.ops [⟨some 35, none, .fld 0 (.t 3), none⟩,
 ⟨some 36, none, .load none (.t 35), none⟩,
 ⟨some 37, none, .bin .eql (.t 36) (.c (.int .i64 6)), none⟩,
 ⟨some 38, none, .mv (.t 37), none⟩,
 ⟨some 39, (some (38, true)), .mv (.t 0), none⟩,
 ⟨some 40, (some (38, true)), .call (.f 63) [(.t 39)], none⟩,
 ⟨some 41, (some (38, true)), .bin .neq (.t 40) (.c (.int .i64 5)), none⟩,
 ⟨some 42, none, .pick (.t 38) (.t 41) (.c (.bool false)), none⟩,
 ⟨some 34, none, .mv (.t 42), none⟩])
 (.keep [0, 34] (.cond (.t 34)
 (.seq (.seq (.ops [⟨some 43, none, .mv (.t 0), none⟩,
 ⟨some 44, none, .nilck (.t 43), none⟩,
 ⟨some 45, none, .fld 2 (.t 44), none⟩,
 ⟨some 46, none, .load none (.t 45), none⟩,
 ⟨some 47, none, .bin .eql (.t 46) (.c (.int .i64 100)), none⟩])
 (.keep [0, 47] (.cond (.t 47)
 (.seq (.ops [⟨some 4, none, .mv (.c (.int .i64 3)), none⟩])
 (.ret))
 (.skip))))
 (.keep [0] (.seq (.ops [⟨some 48, none, .mv (.t 0), none⟩,
 ⟨some 49, none, .mv (.t 0), none⟩,
 ⟨some 50, none, .nilck (.t 49), none⟩,
 ⟨some 51, none, .fld 1 (.t 50), none⟩,
 ⟨some 52, none, .k (.ld (.t 51)), none⟩,
 ⟨some 53, none, .bsl 3 1 1 [(.int .i64 0)] [(0, 1, (.c (.int .i64 6)))], none⟩,
 ⟨some 54, none, .k (.ap 3 8 52 (.t 53)), none⟩,
 ⟨some 55, none, .nilck (.t 48), none⟩,
 ⟨some 56, none, .fld 1 (.t 55), none⟩,
 ⟨none, none, .k (.st (.t 56) 54), none⟩])
 (.keep [0] (.ops [⟨some 57, none, .mv (.t 0), none⟩,
 ⟨some 58, none, .nilck (.t 57), none⟩,
 ⟨some 59, none, .fld 2 (.t 58), none⟩,
 ⟨some 60, none, .load none (.t 59), none⟩,
 ⟨some 61, none, .bin .add (.t 60) (.c (.int .i64 1)), none⟩,
 ⟨some 62, none, .nilck (.t 57), none⟩,
 ⟨some 63, none, .fld 2 (.t 62), none⟩,
 ⟨none, none, .store 1 (.t 63) (.t 61), none⟩])))))
 (.seq (.ops [⟨some 4, none, .mv (.c (.int .i64 2)), none⟩])
 (.ret)))))))))
 (J_expr_reader_part_j1)))⟩
theorem J_expr_reader_part_ok : chkFn Try.prog 62 J_expr_reader_part = true := by kernel_rfl
def J_expr_reader_top : AFn :=
 ⟨21, [.t 2], .seq (.ops [⟨some 2, none, .mv (.c (.int .i64 0)), none⟩])
 (.keep [0] (.seq (.seq (.nmo 0 1 (.ops [⟨some 3, none, .mv (.t 0), none⟩,
 ⟨some 4, none, .nilck (.t 3), none⟩,
 ⟨some 5, none, .fld 1 (.t 4), none⟩,
 ⟨some 6, none, .load none (.t 5), none⟩,
 ⟨some 7, none, .k (.len (.t 6)), none⟩,
 ⟨some 8, none, .bin .eql (.t 7) (.c (.int .i64 0)), none⟩]))
 (.keep [0, 8] (.cond (.t 8)
 (.seq (.ops [⟨some 2, none, .mv (.c (.int .i64 0)), none⟩])
 (.ret))
 (.skip))))
 (.keep [0] (.seq (.nmo 0 1 (.draw [2] [⟨some 9, none, .mv (.t 0), none⟩,
 ⟨some 10, none, .nilck (.t 9), none⟩,
 ⟨some 11, none, .fld 1 (.t 10), none⟩,
 ⟨some 12, none, .load none (.t 11), none⟩,
 ⟨some 13, none, .mv (.t 0), none⟩,
 ⟨some 14, none, .nilck (.t 13), none⟩,
 ⟨some 15, none, .fld 1 (.t 14), none⟩,
 ⟨some 16, none, .load none (.t 15), none⟩,
 ⟨some 17, none, .k (.len (.t 16)), none⟩,
 ⟨some 18, none, .bin .sub (.t 17) (.c (.int .i64 1)), none⟩,
 ⟨some 19, none, .k (.ix (.t 12) (.t 18)), none⟩,
 ⟨some 20, none, .k (.po (.t 11) (.t 19)), none⟩,
 ⟨some 2, none, .mv (.t 20), none⟩]))
 (.ret)))))⟩
theorem J_expr_reader_top_ok : chkFn Try.prog 63 J_expr_reader_top = true := by kernel_rfl
end Go.Proofs.Ytmbijfcjfhdnjaa

/- The abstract layer: laws of the walk for rows that grow and shrink, and for calls that only look. -/
namespace Go.Proofs.Ytmbijfcjfhdnjaa
set_option linter.unusedSimpArgs false
set_option linter.unusedVariables false
open Go.RowKit Go.Lib

theorem wop_k (P : Program) (d : Option Nat) (o : KOp) (fr : Fr) (h : Hp) (K : Fr → Hp → Prop) : wop P d (.k o) fr h K = (kF o fr h (fun a h' => K (put d a (ktk o fr)) h')) := id rfl
theorem eff_k (P : Program) (o : KOp) (fr : Fr) (h : Hp) (R : AV → Hp → Prop) : eff P (.k o) fr h R = (kF o fr h R) := id rfl
theorem tk_k (o : KOp) (fr : Fr) : tk (.k o) fr = (ktk o fr) := id rfl
theorem effF_kld (P : Program) (b : FB) (x : Opd) (fr : Fr) (h : Hp) (R : AV → Hp → Prop) : effF P b (.k (.ld x)) fr h R = (sameId (ev fr x) (fbId b fr h) ∧ kF (.ld x) fr h R) := id rfl
theorem wop_callr (P : Program) (d : Option Nat) (f : Opd) (args : List Opd) (fr : Fr) (h : Hp) (K : Fr → Hp → Prop) : wop P d (.callr f args) fr h K = (match ev fr f, evs fr args with
    | some (.fn f' caps), some l => ACalls P f' (l ++ caps) h (kcall d fr K)
    | _, _ => False) := id rfl
theorem eff_callr (P : Program) (f : Opd) (args : List Opd) (fr : Fr) (h : Hp) (R : AV → Hp → Prop) : eff P (.callr f args) fr h R = (match ev fr f, evs fr args with
    | some (.fn f' caps), some l => ∃ v, (∀ h0 : Hp, SameU h0 h → ACalls P f' (l ++ caps) h0 (fun a h' => a = v ∧ h' = h0)) ∧ R v h
    | _, _ => False) := id rfl
theorem tk_callr (f : Opd) (args : List Opd) (fr : Fr) : tk (.callr f args) fr = (fr) := id rfl
theorem kF_mk (e : Nat) (x : Opd) (fr : Fr) (h : Hp) (R : AV → Hp → Prop) : kF (.mk e x) fr h R = (match ev fr x with
    | some (.lst .clip 0 []) => R (.stk e none []) h
    | _ => False) := id rfl
theorem kF_mv (k : Nat) (fr : Fr) (h : Hp) (R : AV → Hp → Prop) : kF (.mv k) fr h R = (match lk fr k with
    | some (.stk e o l) => R (.stk e o l) h
    | _ => False) := id rfl
theorem kF_ld (x : Opd) (fr : Fr) (h : Hp) (R : AV → Hp → Prop) : kF (.ld x) fr h R = (match ev fr x with
    | some (.ptr id off) => (match h[id]? with
      | some (some (false, c)) => (match c[off]? with
        | some (.stk e o l) => R (.stk e o l) (h.set id (some (false, c.set off .opq)))
        | _ => False)
      | _ => False)
    | _ => False) := id rfl
theorem kF_st (a : Opd) (k : Nat) (fr : Fr) (h : Hp) (R : AV → Hp → Prop) : kF (.st a k) fr h R = (match ev fr a, lk fr k with
    | some (.ptr id off), some (.stk e o l) => (match h[id]? with
      | some (some (false, c)) => off < c.length ∧ R .nilp (h.set id (some (false, c.set off (.stk e o l))))
      | _ => False)
    | _, _ => False) := id rfl
theorem kF_ap (e b k : Nat) (y : Opd) (fr : Fr) (h : Hp) (R : AV → Hp → Prop) : kF (.ap e b k y) fr h R = (match lk fr k, ev fr y with
    | some (.stk e' _ l), some (.lst _ 1 [.int .i64 x]) => (e' = e ∧ l.length + 1 ≤ 9223372036854775807 ∧ (l.length + 1) * b ≤ 140737488355328) ∧ R (.stk e none (l ++ [x])) h
    | _, _ => False) := id rfl
theorem kF_cut (k : Nat) (j : Opd) (fr : Fr) (h : Hp) (R : AV → Hp → Prop) : kF (.cut k j) fr h R = (match lk fr k, ev fr j with
    | some (.stk e _ l), some (.int _ m) => (0 ≤ m ∧ m ≤ l.length) ∧ R (.stk e none (l.take m.toNat)) h
    | _, _ => False) := id rfl
theorem kF_pop (a x : Opd) (fr : Fr) (h : Hp) (R : AV → Hp → Prop) : kF (.pop a x) fr h R = (match ev fr a, ev fr x with
    | some (.ptr id off), some (.raw v n) => (match h[id]? with
      | some (some (false, c)) => (match c[off]? with
        | some (.stk e (some u) l) => (n ≤ l.length ∧ v = cutV u n) ∧ R .nilp (h.set id (some (false, c.set off (.stk e (some v) (l.take n)))))
        | _ => False)
      | _ => False)
    | _, _ => False) := id rfl
theorem kF_pk (k : Nat) (x : Opd) (fr : Fr) (h : Hp) (R : AV → Hp → Prop) : kF (.pk k x) fr h R = (match lk fr k, ev fr x with
    | some (.stk _ (some u) l), some (.rawp v i) => (v = u ∧ i < l.length) ∧ R (.int .i64 (l.getD i 0)) h
    | _, _ => False) := id rfl
theorem kF_po (a x : Opd) (fr : Fr) (h : Hp) (R : AV → Hp → Prop) : kF (.po a x) fr h R = (match ev fr a, ev fr x with
    | some (.ptr id off), some (.rawp v i) => (match h[id]? with
      | some (some (false, c)) => (match c[off]? with
        | some (.stk _ (some u) l) => (v = u ∧ i < l.length) ∧ R (.int .i64 (l.getD i 0)) h
        | _ => False)
      | _ => False)
    | _, _ => False) := id rfl
theorem kF_len (x : Opd) (fr : Fr) (h : Hp) (R : AV → Hp → Prop) : kF (.len x) fr h R = (match ev fr x with
    | some (.raw _ n) => R (.int .i64 n) h
    | _ => False) := id rfl
theorem kF_sl (x j : Opd) (fr : Fr) (h : Hp) (R : AV → Hp → Prop) : kF (.sl x j) fr h R = (match ev fr x, ev fr j with
    | some (.raw v n), some (.int _ m) => (0 ≤ m ∧ m ≤ n) ∧ R (.raw (cutV v m.toNat) m.toNat) h
    | _, _ => False) := id rfl
theorem kF_ix (x i : Opd) (fr : Fr) (h : Hp) (R : AV → Hp → Prop) : kF (.ix x i) fr h R = (match ev fr x, ev fr i with
    | some (.raw v n), some (.int _ i) => (0 ≤ i ∧ i < n) ∧ R (.rawp v i.toNat) h
    | _, _ => False) := id rfl
theorem kF_new (l : List AV) (u : List (Nat × Nat × Nat)) (ks : List (Nat × Nat)) (fr : Fr) (h : Hp) (R : AV → Hp → Prop) : kF (.new l u ks) fr h R = (upgK u l (fun l' => ksetK ks l' (fun l'' => R (.ptr h.length 0) (h ++ [some (false, l'')])))) := id rfl
theorem ksetK_nil (l : List AV) (K : List AV → Prop) : ksetK [] l K = (K l) := id rfl
theorem ksetK_cons (i e : Nat) (r : List (Nat × Nat)) (l : List AV) (K : List AV → Prop) : ksetK ((i, e) :: r) l K = (match l[i]? with
    | some (.lst .clip 0 []) => ksetK r (l.set i (.stk e none [])) K
    | _ => False) := id rfl
theorem ktk_mk (e : Nat) (x : Opd) (fr : Fr) : ktk (.mk e x) fr = (fr) := id rfl
theorem ktk_mv (k : Nat) (fr : Fr) : ktk (.mv k) fr = (degr k fr) := id rfl
theorem ktk_ld (x : Opd) (fr : Fr) : ktk (.ld x) fr = (fr) := id rfl
theorem ktk_st (a : Opd) (k : Nat) (fr : Fr) : ktk (.st a k) fr = (degr k fr) := id rfl
theorem ktk_ap (e b k : Nat) (y : Opd) (fr : Fr) : ktk (.ap e b k y) fr = (degr k fr) := id rfl
theorem ktk_cut (k : Nat) (j : Opd) (fr : Fr) : ktk (.cut k j) fr = (degr k fr) := id rfl
theorem ktk_pop (a x : Opd) (fr : Fr) : ktk (.pop a x) fr = (fr) := id rfl
theorem ktk_pk (k : Nat) (x : Opd) (fr : Fr) : ktk (.pk k x) fr = (fr) := id rfl
theorem ktk_po (a x : Opd) (fr : Fr) : ktk (.po a x) fr = (fr) := id rfl
theorem ktk_len (x : Opd) (fr : Fr) : ktk (.len x) fr = (fr) := id rfl
theorem ktk_sl (x j : Opd) (fr : Fr) : ktk (.sl x j) fr = (fr) := id rfl
theorem ktk_ix (x i : Opd) (fr : Fr) : ktk (.ix x i) fr = (fr) := id rfl
theorem ktk_new (l : List AV) (u : List (Nat × Nat × Nat)) (ks : List (Nat × Nat)) (fr : Fr) : ktk (.new l u ks) fr = (fr) := id rfl
theorem W_nms (P : Program) (k : Nat) (a : ACode) (fr : Fr) (h : Hp) (Q : Exit → Fr → Hp → Prop) : W P (.nms k a) fr h Q = (match lk fr k with
    | some (.stk e none l) => ∀ v, W P a ((k, .stk e (some v) l) :: fr) h Q
    | _ => W P a fr h Q) := id rfl
theorem W_nmo (P : Program) (k off : Nat) (a : ACode) (fr : Fr) (h : Hp) (Q : Exit → Fr → Hp → Prop) : W P (.nmo k off a) fr h Q = (match lk fr k with
    | some (.ptr id _) => (match h[id]? with
      | some (some (false, c)) => (match c[off]? with
        | some (.stk e none l) => ∀ v, W P a fr (h.set id (some (false, c.set off (.stk e (some v) l)))) Q
        | _ => W P a fr h Q)
      | _ => W P a fr h Q)
    | _ => W P a fr h Q) := id rfl
theorem deg_stks (e : TypeId) (v : Value) (l : List Int) : deg (.stk e (some v) l) = (.raw v l.length) := id rfl
theorem deg_stkn (e : TypeId) (l : List Int) : deg (.stk e none l) = (.opq) := id rfl
theorem deg_raw (v : Value) (n : Nat) : deg (.raw v n) = (.raw v n) := id rfl
theorem isTup_raw (v : Value) (n : Nat) : isTup (.raw v n) = (false) := id rfl
theorem cellsOf_raw (v : Value) (n : Nat) : cellsOf (.raw v n) = ([.raw v n]) := id rfl
theorem deg_rawp (v : Value) (n : Nat) : deg (.rawp v n) = (.rawp v n) := id rfl
theorem isTup_rawp (v : Value) (n : Nat) : isTup (.rawp v n) = (false) := id rfl
theorem cellsOf_rawp (v : Value) (n : Nat) : cellsOf (.rawp v n) = ([.rawp v n]) := id rfl
/-- a row's name is forgotten -/
theorem Sim.unname {P : Program} {g : Gh} {h : Hp} {w : World} {id off : Nat} {c : List AV} {e : TypeId} {u : Value} {l : List Int} (hl : h[id]? = some (some (false, c))) (hc : c[off]? = some (.stk e none l)) (hs : Sim P g (h.set id (some (false, c.set off (.stk e (some u) l)))) w) : Sim P g h w := by
  have hidlt : id < h.length := (List.getElem?_eq_some_iff.1 hl).1
  have hofflt : off < c.length := (List.getElem?_eq_some_iff.1 hc).1
  have hat : (h.set id (some (false, c.set off (.stk e (some u) l))))[id]? = some (some (false, c.set off (.stk e (some u) l))) := by simp [hidlt]
  refine ⟨hs.prot, ?_, hs.inj, fun i b hb => by have := hs.dom i b hb; rw [List.length_set] at this; exact this, hs.flt, hs.olt, fun i hi => hs.hole i ?_⟩
  · intro id' s l' hl'
    by_cases e1 : id' = id
    · subst e1
      rw [hl] at hl'
      simp only [Option.some.injEq, Prod.mk.injEq] at hl'
      obtain ⟨rfl, rfl⟩ := hl'
      obtain ⟨b, arr, e', p1, p2, p3, p4, p5, p6, p7, p8, p9⟩ := hs.obj id' false _ hat
      have hx : (c.set off (.stk e (some u) l))[off]? = some (.stk e (some u) l) := by simp [hofflt]
      obtain ⟨v, hv, hr⟩ := p3.get off _ hx
      obtain ⟨a, cc, rfl, q1, q2, q3⟩ := stk_slice hr
      have hcc : (c.set off (.stk e (some u) l)).set off (.stk e none l) = c := by
        rw [List.set_set]
        apply List.ext_getElem?
        intro j
        rw [List.getElem?_set]
        split
        · next ej => subst ej; first | rw [hc] | rw [if_pos hofflt, hc]
        · rfl
      have hrl := p3.setR off hv (.stk a cc e none l q1 q2 (fun v h => by cases h))
      rw [hcc] at hrl
      refine ⟨b, arr, e', p1, p2, hrl, p4, fun i x y hx2 hy => ?_, p6, (fun h => by cases h), p8, p9⟩
      by_cases ei : i = off
      · subst ei
        rw [hc] at hy
        simp only [Option.some.injEq] at hy
        subst hy
        have hq := p5 i x _ hx2 hx
        exact hq
      · exact p5 i x y hx2 (by rw [List.getElem?_set_ne (fun e => ei e.symm)]; exact hy)
    · exact hs.obj id' s l' (by rw [List.getElem?_set_ne (fun e => e1 e.symm)]; exact hl')
  · rw [List.getElem?_set_ne (fun e => by subst e; rw [hl] at hi; cases hi)]
    exact hi
theorem ACalls.unname {P : Program} {f : FuncId} {args : List AV} {h : Hp} {R : AV → Prop} {id off : Nat} {c : List AV} {e : TypeId} {l : List Int} (hl : h[id]? = some (some (false, c))) (hc : c[off]? = some (.stk e none l))
    (hA : ACalls P f args h (fun a h' => (∃ u, h' = h.set id (some (false, c.set off (.stk e (some u) l)))) ∧ R a)) : ACalls P f args h (fun a h' => R a ∧ h' = h) :=
  ⟨hA.1, fun g w vargs h1 h2 h3 h4 => (hA.2 g w vargs h1 h2 h3 h4).mono fun _ _ ⟨x, a, h', g', q1, q2, q3, q4, q5, q6, ⟨u, q7⟩, q8⟩ => ⟨x, a, h, g', q1, q2, Sim.unname hl hc (by rw [← q7]; exact q3), q4, q5, q6, q8, rfl⟩⟩
theorem wkr : type_of% (And.intro (And.intro (And.intro (And.intro (And.intro (@wop_k) (@eff_k)) (And.intro (@tk_k) (And.intro (@effF_kld) (@wop_callr)))) (And.intro (And.intro (@eff_callr) (And.intro (@tk_callr) (@kF_mk))) (And.intro (@kF_mv) (And.intro (@kF_ld) (@kF_st))))) (And.intro (And.intro (And.intro (@kF_ap) (@kF_cut)) (And.intro (@kF_pop) (And.intro (@kF_pk) (@kF_po)))) (And.intro (And.intro (@kF_len) (And.intro (@kF_sl) (@kF_ix))) (And.intro (@kF_new) (And.intro (@ksetK_nil) (@ksetK_cons)))))) (And.intro (And.intro (And.intro (And.intro (@ktk_mk) (@ktk_mv)) (And.intro (@ktk_ld) (And.intro (@ktk_st) (@ktk_ap)))) (And.intro (And.intro (@ktk_cut) (And.intro (@ktk_pop) (@ktk_pk))) (And.intro (@ktk_po) (And.intro (@ktk_len) (@ktk_sl))))) (And.intro (And.intro (And.intro (@ktk_ix) (And.intro (@ktk_new) (@W_nms))) (And.intro (@W_nmo) (And.intro (@deg_stks) (@deg_stkn)))) (And.intro (And.intro (@deg_raw) (And.intro (@isTup_raw) (@cellsOf_raw))) (And.intro (@deg_rawp) (And.intro (@isTup_rawp) (@cellsOf_rawp))))))) :=
  And.intro (And.intro (And.intro (And.intro (And.intro (@wop_k) (@eff_k)) (And.intro (@tk_k) (And.intro (@effF_kld) (@wop_callr)))) (And.intro (And.intro (@eff_callr) (And.intro (@tk_callr) (@kF_mk))) (And.intro (@kF_mv) (And.intro (@kF_ld) (@kF_st))))) (And.intro (And.intro (And.intro (@kF_ap) (@kF_cut)) (And.intro (@kF_pop) (And.intro (@kF_pk) (@kF_po)))) (And.intro (And.intro (@kF_len) (And.intro (@kF_sl) (@kF_ix))) (And.intro (@kF_new) (And.intro (@ksetK_nil) (@ksetK_cons)))))) (And.intro (And.intro (And.intro (And.intro (@ktk_mk) (@ktk_mv)) (And.intro (@ktk_ld) (And.intro (@ktk_st) (@ktk_ap)))) (And.intro (And.intro (@ktk_cut) (And.intro (@ktk_pop) (@ktk_pk))) (And.intro (@ktk_po) (And.intro (@ktk_len) (@ktk_sl))))) (And.intro (And.intro (And.intro (@ktk_ix) (And.intro (@ktk_new) (@W_nms))) (And.intro (@W_nmo) (And.intro (@deg_stks) (@deg_stkn)))) (And.intro (And.intro (@deg_raw) (And.intro (@isTup_raw) (@cellsOf_raw))) (And.intro (@deg_rawp) (And.intro (@isTup_rawp) (@cellsOf_rawp))))))
end Go.Proofs.Ytmbijfcjfhdnjaa

/- Names; the library's searches; the program's number, Word, name, sign. -/
namespace Go.Proofs.Ytmbijfcjfhdnjaa
set_option linter.unusedSimpArgs false
set_option linter.unusedVariables false
open Go.RowKit Go.Lib

def mayL (l : List UInt8) : Bool := decide (1 ≤ l.length) && (decide (l.length ≤ 24) && (lttI ((l.headD 0).toNat) && l.all fun b => innI b.toNat))
def mayN (s : ByteArray) : Bool := mayL s.data.toList
theorem mayL_bad {l : List UInt8} {i : Nat} (h : i < l.length) (hb : innI (l[i]).toNat = false) : mayL l = false := by
  have : l.all (fun b => innI b.toNat) = false := by
    rw [List.all_eq_false]; exact ⟨_, List.getElem_mem h, fun h2 => by rw [hb] at h2; cases h2⟩
  unfold mayL
  rw [this]; simp
theorem headD_get {l : List UInt8} (h : 0 < l.length) : l.headD 0 = l[0] := by
  cases l with
  | nil => simp at h
  | cons b r => rfl
set_option maxHeartbeats 4000000 in
theorem p_amay (s : ByteArray) (hs : s.size ≤ 9223372036854775807) : PCalls Try.prog 59 [.str s] (.bool (mayN s)) := by
  have hl := len_size s
  have no : mayN s = false → AV.bool false = .bool (mayN s) := fun h => by rw [h]
  refine pcalls_of (by first | rfl | simp [free, free.frees, frees_str, frees_u8, frees_u16]) (by first | rfl | simp [free, free.frees, frees_str, frees_u8, frees_u16]) (acalls_of mixed J_atom_May_ok (Nat.le_of_ble_eq_true rfl) ?_); simp only [J_atom_May, wk,if_true,if_false,forall_const,implies_true,ne_eq,eq_self,Nat.reduceEqDiff,Nat.reduceAdd,Nat.reduceMul,Nat.reduceSub,Nat.reduceLeDiff,Nat.reduceLT,Int.reduceEq,Int.reduceLT,Int.reduceLE,Int.reduceAdd,Int.reduceSub,Int.reduceMul,Int.reduceNeg,Int.reduceNe,reduceCtorEq,Int.reduceToNat,↓reduceIte]
  refine ⟨fun h1 => ⟨fun h2 => no ?_, fun h2 => ?_⟩, fun h1 => no ?_⟩
  · have : ¬ s.data.toList.length ≤ 24 := by omega
    unfold mayN mayL; rw [decide_eq_false this]; simp only [Bool.false_and, Bool.and_false]
  rotate_left
  · have : ¬ 1 ≤ s.data.toList.length := by omega
    unfold mayN mayL; rw [decide_eq_false this]; simp only [Bool.false_and]
  refine W_loop (fun m fr h' => ∃ n : Nat, n ≤ s.data.toList.length ∧ m = s.data.toList.length - n ∧ fr = [(0, .str s), (3, .int .i64 n)] ∧ (∀ b ∈ s.data.toList.take n, innI b.toNat = true) ∧ (0 < n → lttI ((s.data.toList.headD 0).toNat) = true)) s.data.toList.length ⟨0, by omega, by omega, rfl, by simp, by simp⟩ ?_
  rintro m fr h' ⟨n, hn, rfl, rfl, hall, hhd⟩
  simp only [J_atom_May_j3, wk,if_true,if_false,forall_const,implies_true,ne_eq,eq_self,Nat.reduceEqDiff,Nat.reduceAdd,Nat.reduceMul,Nat.reduceSub,Nat.reduceLeDiff,Nat.reduceLT,Int.reduceEq,Int.reduceLT,Int.reduceLE,Int.reduceAdd,Int.reduceSub,Int.reduceMul,Int.reduceNeg,Int.reduceNe,reduceCtorEq,Int.reduceToNat,↓reduceIte]
  refine ⟨fun hlt => ⟨⟨by omega, by omega⟩, ?_⟩, fun hge => ?_⟩
  · have hnl : n < s.data.toList.length := by omega
    rw [Int.toNat_natCast, byte_at hnl]
    obtain ⟨b, hb⟩ : ∃ b, b = s.data.toList[n] := ⟨_, rfl⟩
    rw [← hb]
    have hnx : innI b.toNat = true → (n = 0 → lttI b.toNat = true) → inR ((n : Int) + 1) ∧ ∃ m, m < s.data.toList.length - n ∧ ∃ n' : Nat, n' ≤ s.data.toList.length ∧ m = s.data.toList.length - n' ∧ [(0, AV.str s), (3, .int .i64 ((n : Int) + 1))] = [(0, .str s), (3, .int .i64 n')] ∧ (∀ b ∈ s.data.toList.take n', innI b.toNat = true) ∧ (0 < n' → lttI ((s.data.toList.headD 0).toNat) = true) := fun hi hz =>
      ⟨inR_of (by omega) (by omega), s.data.toList.length - (n + 1), by omega, n + 1, by omega, rfl, by simp, fun c hc => by
        rw [List.take_succ_eq_append_getElem hnl] at hc
        rcases List.mem_append.1 hc with hc | hc
        · exact hall c hc
        · simp at hc; subst hc; rw [hb] at hi; simpa using hi, fun _ => by
        rcases Nat.eq_zero_or_pos n with h0 | h0
        · subst h0; rw [headD_get (by omega), ← hb]; exact hz rfl
        · exact hhd h0⟩
    have hbad : innI b.toNat = false → mayN s = false := fun h => mayL_bad hnl (by rw [← hb]; exact h)
    have hbad0 : n = 0 → lttI b.toNat = false → mayN s = false := fun h0 h => by
      subst h0
      unfold mayN mayL
      rw [headD_get (by omega), ← hb, h]
      simp only [Bool.false_and, Bool.and_false]
    repeat' (first | (with_reducible refine And.intro ?_ ?_) | intro _)
    all_goals first
      | (simp only [J_atom_May_j2, wk,if_true,if_false,forall_const,implies_true,ne_eq,eq_self,Nat.reduceEqDiff,Nat.reduceAdd,Nat.reduceMul,Nat.reduceSub,Nat.reduceLeDiff,Nat.reduceLT,Int.reduceEq,Int.reduceLT,Int.reduceLE,Int.reduceAdd,Int.reduceSub,Int.reduceMul,Int.reduceNeg,Int.reduceNe,reduceCtorEq,Int.reduceToNat,↓reduceIte]; exact hnx (by simp [innI, digI, lttI]; omega) (by intro _; simp [lttI]; omega))
      | exact no (hbad (by simp [innI, digI, lttI]; omega))
      | exact no (hbad0 (by omega) (by simp [lttI]; omega))
  · rw [List.take_of_length_le (by omega)] at hall
    simp only [J_atom_May_j1, wk,if_true,if_false,forall_const,implies_true,ne_eq,eq_self,Nat.reduceEqDiff,Nat.reduceAdd,Nat.reduceMul,Nat.reduceSub,Nat.reduceLeDiff,Nat.reduceLT,Int.reduceEq,Int.reduceLT,Int.reduceLE,Int.reduceAdd,Int.reduceSub,Int.reduceMul,Int.reduceNeg,Int.reduceNe,reduceCtorEq,Int.reduceToNat,↓reduceIte]
    congr 1
    symm
    unfold mayN mayL
    have h3 := hhd (by omega)
    have h4 : s.data.toList.all (fun b => innI b.toNat) = true := List.all_eq_true.2 hall
    simp only [h3, h4, Bool.and_true, Bool.and_eq_true, decide_eq_true_eq]
    omega
set_option maxRecDepth 100000 in
set_option maxHeartbeats 4000000 in
theorem p_rmay01 (s : ByteArray) (hs : s.size ≤ 9223372036854775807) : PCalls Try.prog 49 [.str s] (.bool (mayN s)) := by
  have hl := len_size s
  have no : mayN s = false → AV.bool false = .bool (mayN s) := fun h => by rw [h]
  refine pcalls_of (by first | rfl | simp [free, free.frees, frees_str, frees_u8, frees_u16]) (by first | rfl | simp [free, free.frees, frees_str, frees_u8, frees_u16]) (acalls_of mixed J_ref01_May_ok (Nat.le_of_ble_eq_true rfl) ?_); simp only [J_ref01_May, wk,if_true,if_false,forall_const,implies_true,ne_eq,eq_self,Nat.reduceEqDiff,Nat.reduceAdd,Nat.reduceMul,Nat.reduceSub,Nat.reduceLeDiff,Nat.reduceLT,Int.reduceEq,Int.reduceLT,Int.reduceLE,Int.reduceAdd,Int.reduceSub,Int.reduceMul,Int.reduceNeg,Int.reduceNe,reduceCtorEq,Int.reduceToNat,↓reduceIte]
  refine ⟨fun h1 => ⟨fun h2 => no ?_, fun h2 => ?_⟩, fun h1 => no ?_⟩
  · have : ¬ s.data.toList.length ≤ 24 := by omega
    unfold mayN mayL; rw [decide_eq_false this]; simp only [Bool.false_and, Bool.and_false]
  rotate_left
  · have : ¬ 1 ≤ s.data.toList.length := by omega
    unfold mayN mayL; rw [decide_eq_false this]; simp only [Bool.false_and]
  refine W_loop (fun m fr h' => ∃ n : Nat, n ≤ s.data.toList.length ∧ m = s.data.toList.length - n ∧ fr = [(0, .str s), (3, .int .i64 n)] ∧ (∀ b ∈ s.data.toList.take n, innI b.toNat = true) ∧ (0 < n → lttI ((s.data.toList.headD 0).toNat) = true)) s.data.toList.length ⟨0, by omega, by omega, rfl, by simp, by simp⟩ ?_
  rintro m fr h' ⟨n, hn, rfl, rfl, hall, hhd⟩
  simp only [J_ref01_May_j2, wk,if_true,if_false,forall_const,implies_true,ne_eq,eq_self,Nat.reduceEqDiff,Nat.reduceAdd,Nat.reduceMul,Nat.reduceSub,Nat.reduceLeDiff,Nat.reduceLT,Int.reduceEq,Int.reduceLT,Int.reduceLE,Int.reduceAdd,Int.reduceSub,Int.reduceMul,Int.reduceNeg,Int.reduceNe,reduceCtorEq,Int.reduceToNat,↓reduceIte]
  refine ⟨fun hlt => ⟨⟨by omega, by omega⟩, ?_⟩, fun hge => ?_⟩
  · have hnl : n < s.data.toList.length := by omega
    rw [Int.toNat_natCast, byte_at hnl]
    obtain ⟨b, hb⟩ : ∃ b, b = s.data.toList[n] := ⟨_, rfl⟩
    rw [← hb]
    have hnx : innI b.toNat = true → (n = 0 → lttI b.toNat = true) → inR ((n : Int) + 1) ∧ ∃ m, m < s.data.toList.length - n ∧ ∃ n' : Nat, n' ≤ s.data.toList.length ∧ m = s.data.toList.length - n' ∧ [(0, AV.str s), (3, .int .i64 ((n : Int) + 1))] = [(0, .str s), (3, .int .i64 n')] ∧ (∀ b ∈ s.data.toList.take n', innI b.toNat = true) ∧ (0 < n' → lttI ((s.data.toList.headD 0).toNat) = true) := fun hi hz =>
      ⟨inR_of (by omega) (by omega), s.data.toList.length - (n + 1), by omega, n + 1, by omega, rfl, by simp, fun c hc => by
        rw [List.take_succ_eq_append_getElem hnl] at hc
        rcases List.mem_append.1 hc with hc | hc
        · exact hall c hc
        · simp at hc; subst hc; rw [hb] at hi; simpa using hi, fun _ => by
        rcases Nat.eq_zero_or_pos n with h0 | h0
        · subst h0; rw [headD_get (by omega), ← hb]; exact hz rfl
        · exact hhd h0⟩
    have hbad : innI b.toNat = false → mayN s = false := fun h => mayL_bad hnl (by rw [← hb]; exact h)
    have hbad0 : n = 0 → lttI b.toNat = false → mayN s = false := fun h0 h => by
      subst h0
      unfold mayN mayL
      rw [headD_get (by omega), ← hb, h]
      simp only [Bool.false_and, Bool.and_false]
    repeat' (first | (with_reducible refine And.intro ?_ ?_) | intro _)
    all_goals first
      | exact no (hbad (by simp [innI, digI, lttI]; omega))
      | exact no (hbad0 (by omega) (by simp [lttI]; omega))
      | exact (hnx (by simp [innI, digI, lttI]; omega) (by intro _; simp [lttI]; omega)).1
      | exact (hnx (by simp [innI, digI, lttI]; omega) (by intro _; simp [lttI]; omega)).2
  · rw [List.take_of_length_le (by omega)] at hall
    simp only [J_ref01_May_j1, wk,if_true,if_false,forall_const,implies_true,ne_eq,eq_self,Nat.reduceEqDiff,Nat.reduceAdd,Nat.reduceMul,Nat.reduceSub,Nat.reduceLeDiff,Nat.reduceLT,Int.reduceEq,Int.reduceLT,Int.reduceLE,Int.reduceAdd,Int.reduceSub,Int.reduceMul,Int.reduceNeg,Int.reduceNe,reduceCtorEq,Int.reduceToNat,↓reduceIte]
    congr 1
    symm
    unfold mayN mayL
    have h3 := hhd (by omega)
    have h4 : s.data.toList.all (fun b => innI b.toNat) = true := List.all_eq_true.2 hall
    simp only [h3, h4, Bool.and_true, Bool.and_eq_true, decide_eq_true_eq]
    omega
def signsS : ByteArray := ⟨#[61, 44, 59, 60, 62, 33, 63, 42]⟩
theorem find_sign : ∀ n : Fin 256, decide (0 ≤ indexByte signsS.data.toList (UInt8.ofNat n)) = sigB n := by decide +kernel
theorem p_ibyte (s : ByteArray) (c : Int) : PCalls Try.prog 86 [.str s, .int .u8 c] (.int .i64 (indexByte s.data.toList c.toNat.toUInt8)) := by
  refine pcalls_of (by first | rfl | simp [free, free.frees, frees_str, frees_u8, frees_u16]) (by first | rfl | simp [free, free.frees, frees_str, frees_u8, frees_u16]) (acalls_of mixed J_internal_stringslite_IndexByte_ok (Nat.le_of_ble_eq_true rfl) ?_); simp only [J_internal_stringslite_IndexByte, wk,if_true,if_false,forall_const,implies_true,ne_eq,eq_self,Nat.reduceEqDiff,Nat.reduceAdd,Nat.reduceMul,Nat.reduceSub,Nat.reduceLeDiff,Nat.reduceLT,Int.reduceEq,Int.reduceLT,Int.reduceLE,Int.reduceAdd,Int.reduceSub,Int.reduceMul,Int.reduceNeg,Int.reduceNe,reduceCtorEq,Int.reduceToNat,↓reduceIte]
theorem p_sibyte (s : ByteArray) (c : Int) : PCalls Try.prog 82 [.str s, .int .u8 c] (.int .i64 (indexByte s.data.toList c.toNat.toUInt8)) := by
  refine pcalls_of (by first | rfl | simp [free, free.frees, frees_str, frees_u8, frees_u16]) (by first | rfl | simp [free, free.frees, frees_str, frees_u8, frees_u16]) (acalls_of mixed J_strings_IndexByte_ok (Nat.le_of_ble_eq_true rfl) ?_); simp only [J_strings_IndexByte, wk,if_true,if_false,forall_const,implies_true,ne_eq,eq_self,Nat.reduceEqDiff,Nat.reduceAdd,Nat.reduceMul,Nat.reduceSub,Nat.reduceLeDiff,Nat.reduceLT,Int.reduceEq,Int.reduceLT,Int.reduceLE,Int.reduceAdd,Int.reduceSub,Int.reduceMul,Int.reduceNeg,Int.reduceNe,reduceCtorEq,Int.reduceToNat,↓reduceIte]
  refine PCalls.use (p_ibyte s c) ?_; simp only [wk,if_true,if_false,forall_const,implies_true,ne_eq,eq_self,Nat.reduceEqDiff,Nat.reduceAdd,Nat.reduceMul,Nat.reduceSub,Nat.reduceLeDiff,Nat.reduceLT,Int.reduceEq,Int.reduceLT,Int.reduceLE,Int.reduceAdd,Int.reduceSub,Int.reduceMul,Int.reduceNeg,Int.reduceNe,reduceCtorEq,Int.reduceToNat,↓reduceIte]
theorem p_lindex (s x : ByteArray) (hx : x.size = 1) : PCalls Try.prog 78 [.str s, .str x] (.int .i64 (indexByte s.data.toList (byteAt x 0).toUInt8)) := by
  obtain ⟨b, rfl⟩ := one_byte hx
  have e0 : byteAt ⟨#[b]⟩ 0 = b.toNat := rfl
  refine pcalls_of (by first | rfl | simp [free, free.frees, frees_str, frees_u8, frees_u16]) (by first | rfl | simp [free, free.frees, frees_str, frees_u8, frees_u16]) (acalls_of mixed J_internal_stringslite_Index_ok (Nat.le_of_ble_eq_true rfl) ?_); simp only [J_internal_stringslite_Index, wk,if_true,if_false,forall_const,implies_true,ne_eq,eq_self,Nat.reduceEqDiff,Nat.reduceAdd,Nat.reduceMul,Nat.reduceSub,Nat.reduceLeDiff,Nat.reduceLT,Int.reduceEq,Int.reduceLT,Int.reduceLE,Int.reduceAdd,Int.reduceSub,Int.reduceMul,Int.reduceNeg,Int.reduceNe,reduceCtorEq,Int.reduceToNat,↓reduceIte]
  rw [e0]
  have e1 : ((⟨#[b]⟩ : ByteArray).size : Int) = 1 := rfl
  have q := p_ibyte s b.toNat
  rw [Int.toNat_natCast] at q
  refine ⟨fun _ => ⟨fun h => ?_, fun h => ⟨fun _ => ⟨by omega, PCalls.use q ?_⟩, fun h => absurd e1 h⟩⟩, fun h => by omega⟩
  · rw [← h]
    have : b.toNat.toUInt8 = b := by simp
    simp [indexByte, this]
  · simp only [wk,if_true,if_false,forall_const,implies_true,ne_eq,eq_self,Nat.reduceEqDiff,Nat.reduceAdd,Nat.reduceMul,Nat.reduceSub,Nat.reduceLeDiff,Nat.reduceLT,Int.reduceEq,Int.reduceLT,Int.reduceLE,Int.reduceAdd,Int.reduceSub,Int.reduceMul,Int.reduceNeg,Int.reduceNe,reduceCtorEq,Int.reduceToNat,↓reduceIte]
theorem p_sindex (s x : ByteArray) (hx : x.size = 1) : PCalls Try.prog 61 [.str s, .str x] (.int .i64 (indexByte s.data.toList (byteAt x 0).toUInt8)) := by
  refine pcalls_of (by first | rfl | simp [free, free.frees, frees_str, frees_u8, frees_u16]) (by first | rfl | simp [free, free.frees, frees_str, frees_u8, frees_u16]) (acalls_of mixed J_strings_Index_ok (Nat.le_of_ble_eq_true rfl) ?_); simp only [J_strings_Index, wk,if_true,if_false,forall_const,implies_true,ne_eq,eq_self,Nat.reduceEqDiff,Nat.reduceAdd,Nat.reduceMul,Nat.reduceSub,Nat.reduceLeDiff,Nat.reduceLT,Int.reduceEq,Int.reduceLT,Int.reduceLE,Int.reduceAdd,Int.reduceSub,Int.reduceMul,Int.reduceNeg,Int.reduceNe,reduceCtorEq,Int.reduceToNat,↓reduceIte]
  refine PCalls.use (p_lindex s x hx) ?_; simp only [wk,if_true,if_false,forall_const,implies_true,ne_eq,eq_self,Nat.reduceEqDiff,Nat.reduceAdd,Nat.reduceMul,Nat.reduceSub,Nat.reduceLeDiff,Nat.reduceLT,Int.reduceEq,Int.reduceLT,Int.reduceLE,Int.reduceAdd,Int.reduceSub,Int.reduceMul,Int.reduceNeg,Int.reduceNe,reduceCtorEq,Int.reduceToNat,↓reduceIte]
theorem sign_find (n : Nat) (h : n < 256) : decide (0 ≤ indexByte signsS.data.toList n.toUInt8) = sigB n := by
  have := find_sign ⟨n, h⟩
  simpa using this
theorem p_contains1 (x : ByteArray) (hx : x.size = 1) : PCalls Try.prog 37 [.str signsS, .str x] (.bool (sigB (byteAt x 0))) := by
  obtain ⟨b, rfl⟩ := one_byte hx
  have e0 : byteAt ⟨#[b]⟩ 0 = b.toNat := rfl
  have hf := sign_find b.toNat b.toNat_lt
  refine pcalls_of (by first | rfl | simp [free, free.frees, frees_str, frees_u8, frees_u16]) (by first | rfl | simp [free, free.frees, frees_str, frees_u8, frees_u16]) (acalls_of mixed J_strings_Contains_ok (Nat.le_of_ble_eq_true rfl) ?_); simp only [J_strings_Contains, wk,if_true,if_false,forall_const,implies_true,ne_eq,eq_self,Nat.reduceEqDiff,Nat.reduceAdd,Nat.reduceMul,Nat.reduceSub,Nat.reduceLeDiff,Nat.reduceLT,Int.reduceEq,Int.reduceLT,Int.reduceLE,Int.reduceAdd,Int.reduceSub,Int.reduceMul,Int.reduceNeg,Int.reduceNe,reduceCtorEq,Int.reduceToNat,↓reduceIte]
  refine PCalls.use (p_sindex signsS ⟨#[b]⟩ hx) ?_; simp only [wk,if_true,if_false,forall_const,implies_true,ne_eq,eq_self,Nat.reduceEqDiff,Nat.reduceAdd,Nat.reduceMul,Nat.reduceSub,Nat.reduceLeDiff,Nat.reduceLT,Int.reduceEq,Int.reduceLT,Int.reduceLE,Int.reduceAdd,Int.reduceSub,Int.reduceMul,Int.reduceNeg,Int.reduceNe,reduceCtorEq,Int.reduceToNat,↓reduceIte]
  rw [e0, ← hf]
theorem p_validRune (r : Int) : PCalls Try.prog 83 [.int .i32 r] (.bool ((decide (0 ≤ r) && decide (r < 55296)) || (decide (57343 < r) && decide (r ≤ 1114111)))) := by
  refine pcalls_of (by first | rfl | simp [free, free.frees, frees_str, frees_u8, frees_u16]) (by first | rfl | simp [free, free.frees, frees_str, frees_u8, frees_u16]) (acalls_of mixed J_unicode_utf8_ValidRune_ok (Nat.le_of_ble_eq_true rfl) ?_); simp only [J_unicode_utf8_ValidRune, wk,if_true,if_false,forall_const,implies_true,ne_eq,eq_self,Nat.reduceEqDiff,Nat.reduceAdd,Nat.reduceMul,Nat.reduceSub,Nat.reduceLeDiff,Nat.reduceLT,Int.reduceEq,Int.reduceLT,Int.reduceLE,Int.reduceAdd,Int.reduceSub,Int.reduceMul,Int.reduceNeg,Int.reduceNe,reduceCtorEq,Int.reduceToNat,↓reduceIte]
  repeat' (first | (with_reducible refine And.intro ?_ ?_) | intro _)
  all_goals (congr 1; simp_all; try omega)
theorem ibyte_no {c : UInt8} (hc : 128 ≤ c.toNat) : ∀ {l : List UInt8}, (∀ b ∈ l, b.toNat < 128) → indexByte l c = -1
  | [], _ => rfl
  | b :: l, h => by
    have h1 := h b (by simp)
    have h2 := ibyte_no hc (l := l) (fun x hx => h x (by simp [hx]))
    have h3 : (b == c) = false := by
      rw [beq_eq_false_iff_ne]; intro e; subst e; omega
    simp [indexByte, h2, h3]
theorem enc_hi {r : Int} (h0 : 128 ≤ r) (h1 : r ≤ 1114111) (hv : Utf8.valid r = true) : 2 ≤ (Utf8.encode r).size ∧ (Utf8.encode r).size ≤ 4 ∧ 128 ≤ byteAt (Utf8.encode r) ((Utf8.encode r).size - 1) ∧ byteAt (Utf8.encode r) ((Utf8.encode r).size - 1) < 256 := by
  have e : (if Utf8.valid r = true then r.toNat else Utf8.runeError) = r.toNat := if_pos hv
  have h80 : ∀ n : Nat, 128 ≤ (UInt8.ofNat (128 + n % 64)).toNat ∧ (UInt8.ofNat (128 + n % 64)).toNat < 256 := fun n => by
    rw [UInt8.toNat_ofNat']; omega
  unfold Utf8.encode
  simp only [e]
  rw [if_neg (by omega)]
  split
  · exact ⟨Nat.le_of_ble_eq_true rfl, Nat.le_of_ble_eq_true rfl, h80 _⟩
  · split
    · exact ⟨Nat.le_of_ble_eq_true rfl, Nat.le_of_ble_eq_true rfl, h80 _⟩
    · exact ⟨Nat.le_of_ble_eq_true rfl, Nat.le_of_ble_eq_true rfl, h80 _⟩
theorem signs_lo : ∀ b ∈ signsS.data.toList, b.toNat < 128 := by decide
set_option maxRecDepth 100000 in
set_option maxHeartbeats 4000000 in
theorem p_indexRune (r : Int) (h0 : 0 ≤ r) (h1 : r ≤ 1114111) (hv : 128 ≤ r → Utf8.valid r = true) : PCalls Try.prog 75 [.str signsS, .int .i32 r] (.int .i64 (if r < 128 then indexByte signsS.data.toList r.toNat.toUInt8 else -1)) := by
  refine pcalls_of (by first | rfl | simp [free, free.frees, frees_str, frees_u8, frees_u16]) (by first | rfl | simp [free, free.frees, frees_str, frees_u8, frees_u16]) (acalls_of mixed J_strings_IndexRune_ok (Nat.le_of_ble_eq_true rfl) ?_); simp only [J_strings_IndexRune, wk,if_true,if_false,forall_const,implies_true,ne_eq,eq_self,Nat.reduceEqDiff,Nat.reduceAdd,Nat.reduceMul,Nat.reduceSub,Nat.reduceLeDiff,Nat.reduceLT,Int.reduceEq,Int.reduceLT,Int.reduceLE,Int.reduceAdd,Int.reduceSub,Int.reduceMul,Int.reduceNeg,Int.reduceNe,reduceCtorEq,Int.reduceToNat,↓reduceIte]
  refine ⟨fun _ => ⟨fun hlt => ?_, fun hge => ⟨fun h65 => ?_, fun h65 => ?_⟩⟩, fun hn => absurd h0 hn⟩
  · have hw : IntKind.u8.wrap r = r := by rw [IntKind.wrap_u8]; omega
    rw [hw]
    refine PCalls.use (p_sibyte signsS r) ?_; simp only [wk,if_true,if_false,forall_const,implies_true,ne_eq,eq_self,Nat.reduceEqDiff,Nat.reduceAdd,Nat.reduceMul,Nat.reduceSub,Nat.reduceLeDiff,Nat.reduceLT,Int.reduceEq,Int.reduceLT,Int.reduceLE,Int.reduceAdd,Int.reduceSub,Int.reduceMul,Int.reduceNeg,Int.reduceNe,reduceCtorEq,Int.reduceToNat,↓reduceIte]
    rw [if_pos hlt]
  · rw [if_neg hge]
    refine W_loop (fun m fr h' => ∃ p : Nat, p ≤ signsS.data.toList.length ∧ m = signsS.data.toList.length - p ∧ fr = [(175, .itr signsS p)]) 8 ⟨0, by omega, by decide, rfl⟩ ?_
    rintro m fr h' ⟨p, hp, rfl, rfl⟩
    have hl := len_size signsS
    simp only [J_strings_IndexRune_j2, wk,if_true,if_false,forall_const,implies_true,ne_eq,eq_self,Nat.reduceEqDiff,Nat.reduceAdd,Nat.reduceMul,Nat.reduceSub,Nat.reduceLeDiff,Nat.reduceLT,Int.reduceEq,Int.reduceLT,Int.reduceLE,Int.reduceAdd,Int.reduceSub,Int.reduceMul,Int.reduceNeg,Int.reduceNe,reduceCtorEq,Int.reduceToNat,↓reduceIte]
    refine ⟨fun hlt => ?_, fun hge2 => ?_⟩
    · have hpl : p < signsS.data.toList.length := by omega
      have hlo := signs_lo _ (List.getElem_mem hpl)
      rw [dec_lt hpl hlo]
      refine ⟨fun h => ?_, fun _ => ?_⟩
      · exfalso; simp only at h; omega
      · exact ⟨signsS.data.toList.length - (p + 1), by omega, p + 1, by omega, rfl, rfl⟩
    · simp only [J_strings_IndexRune_j1, wk,if_true,if_false,forall_const,implies_true,ne_eq,eq_self,Nat.reduceEqDiff,Nat.reduceAdd,Nat.reduceMul,Nat.reduceSub,Nat.reduceLeDiff,Nat.reduceLT,Int.reduceEq,Int.reduceLT,Int.reduceLE,Int.reduceAdd,Int.reduceSub,Int.reduceMul,Int.reduceNeg,Int.reduceNe,reduceCtorEq,Int.reduceToNat,↓reduceIte]
  · rw [if_neg hge]
    have hv' := hv (by omega)
    have qv := p_validRune r
    rw [show ((decide (0 ≤ r) && decide (r < 55296)) || (decide (57343 < r) && decide (r ≤ 1114111))) = true by
      unfold Utf8.valid at hv'
      simp only [Bool.or_eq_true, Bool.and_eq_true, decide_eq_true_eq] at hv' ⊢
      omega] at qv
    obtain ⟨g1, g2, g3, g4⟩ := enc_hi (by omega) h1 hv'
    obtain ⟨E, hE⟩ : ∃ E, E = Utf8.encode r := ⟨_, rfl⟩
    rw [← hE] at g1 g2 g3 g4
    refine PCalls.use (qv) ?_; simp only [wk,if_true,if_false,forall_const,implies_true,ne_eq,eq_self,Nat.reduceEqDiff,Nat.reduceAdd,Nat.reduceMul,Nat.reduceSub,Nat.reduceLeDiff,Nat.reduceLT,Int.reduceEq,Int.reduceLT,Int.reduceLE,Int.reduceAdd,Int.reduceSub,Int.reduceMul,Int.reduceNeg,Int.reduceNe,reduceCtorEq,Int.reduceToNat,↓reduceIte]
    rw [← hE]
    refine ⟨inR_of (by omega) (by omega), ?_⟩
    refine W_loop (fun m fr h' => fr = [(0, .str signsS), (7, .str E), (8, .int .i64 (E.size - 1)), (9, .int .i64 (E.size - 1))]) 0 rfl ?_
    rintro m fr h' rfl
    have hs8 : signsS.size = 8 := rfl
    have hl := len_size signsS
    have e1 : ((E.size : Int) - 1).toNat = E.size - 1 := by omega
    have e2 : ((E.size : Int) - 1 + 1).toNat = E.size := by omega
    have hlo := signs_lo _ (List.getElem_mem (show E.size - 1 < signsS.data.toList.length by omega))
    have hne : ((byteAt signsS (E.size - 1) : Nat) : Int) ≠ (byteAt E (E.size - 1) : Nat) := by
      rw [byte_at (show E.size - 1 < signsS.data.toList.length by omega)]; omega
    simp only [J_strings_IndexRune_j12, e1, e2, hs8, hne, wk,if_true,if_false,forall_const,implies_true,ne_eq,eq_self,Nat.reduceEqDiff,Nat.reduceAdd,Nat.reduceMul,Nat.reduceSub,Nat.reduceLeDiff,Nat.reduceLT,Int.reduceEq,Int.reduceLT,Int.reduceLE,Int.reduceAdd,Int.reduceSub,Int.reduceMul,Int.reduceNeg,Int.reduceNe,reduceCtorEq,Int.reduceToNat,↓reduceIte]
    have qi := p_sibyte (signsS.extract E.size ((8 : Nat) : Int).toNat) (byteAt E (E.size - 1))
    rw [ibyte_no (by rw [Int.toNat_natCast]; rw [show (byteAt E (E.size - 1)).toUInt8.toNat = byteAt E (E.size - 1) by simp; omega]; exact g3) (fun b hb => by
      refine signs_lo b ?_
      simp only [ByteArray.data_extract, Array.toList_extract, List.extract_eq_take_drop] at hb
      exact List.mem_of_mem_drop (List.mem_of_mem_take hb))] at qi
    refine ⟨fun _ => ⟨⟨by omega, by omega⟩, ⟨by omega, by omega⟩, inR_of (by omega) (by omega), ⟨by omega, by omega, by omega⟩, ⟨by omega, by omega⟩, _, qi, ?_⟩, fun h => absurd (by omega) h⟩
    simp only [wk,if_true,if_false,forall_const,implies_true,ne_eq,eq_self,Nat.reduceEqDiff,Nat.reduceAdd,Nat.reduceMul,Nat.reduceSub,Nat.reduceLeDiff,Nat.reduceLT,Int.reduceEq,Int.reduceLT,Int.reduceLE,Int.reduceAdd,Int.reduceSub,Int.reduceMul,Int.reduceNeg,Int.reduceNe,reduceCtorEq,Int.reduceToNat,↓reduceIte]
/-- is a rune among the signs? -/
theorem p_containsRune (r : Int) (h0 : 0 ≤ r) (h1 : r ≤ 1114111) (hv : 128 ≤ r → Utf8.valid r = true) : PCalls Try.prog 54 [.str signsS, .int .i32 r] (.bool (sigB r.toNat)) := by
  refine pcalls_of (by first | rfl | simp [free, free.frees, frees_str, frees_u8, frees_u16]) (by first | rfl | simp [free, free.frees, frees_str, frees_u8, frees_u16]) (acalls_of mixed J_strings_ContainsRune_ok (Nat.le_of_ble_eq_true rfl) ?_); simp only [J_strings_ContainsRune, wk,if_true,if_false,forall_const,implies_true,ne_eq,eq_self,Nat.reduceEqDiff,Nat.reduceAdd,Nat.reduceMul,Nat.reduceSub,Nat.reduceLeDiff,Nat.reduceLT,Int.reduceEq,Int.reduceLT,Int.reduceLE,Int.reduceAdd,Int.reduceSub,Int.reduceMul,Int.reduceNeg,Int.reduceNe,reduceCtorEq,Int.reduceToNat,↓reduceIte]
  refine PCalls.use (p_indexRune r h0 h1 hv) ?_; simp only [wk,if_true,if_false,forall_const,implies_true,ne_eq,eq_self,Nat.reduceEqDiff,Nat.reduceAdd,Nat.reduceMul,Nat.reduceSub,Nat.reduceLeDiff,Nat.reduceLT,Int.reduceEq,Int.reduceLT,Int.reduceLE,Int.reduceAdd,Int.reduceSub,Int.reduceMul,Int.reduceNeg,Int.reduceNe,reduceCtorEq,Int.reduceToNat,↓reduceIte]
  by_cases hlt : r < 128
  · rw [if_pos hlt]
    have := sign_find r.toNat (by omega)
    rw [this]
  · rw [if_neg hlt]
    have : sigB r.toNat = false := by simp [sigB]; omega
    rw [this]
    rfl
end Go.Proofs.Ytmbijfcjfhdnjaa

/- How a token is written: the program's Word, and the reference's. -/
namespace Go.Proofs.Ytmbijfcjfhdnjaa
set_option linter.unusedSimpArgs false
set_option linter.unusedVariables false
open Go.RowKit Go.Lib

theorem stop_all {q : Int → Bool} {l : List UInt8} : (stopN q l = l.length) ↔ l.all (fun b => q b.toNat) = true := by
  rw [List.all_eq_true]
  constructor
  · intro h b hb
    obtain ⟨i, hi, rfl⟩ := List.mem_iff_getElem.1 hb
    exact stopN_at hi (by omega)
  · intro h
    unfold stopN
    exact tw_len (Nat.le_refl _) (by rw [List.take_length]; exact h) (fun h => by omega)
theorem p_number (s : ByteArray) (hs : s.size ≤ 1000000) : PCalls Try.prog 36 [.str s] (.bool (numW s)) := by
  have hl := len_size s
  have q := p_stop (f := 55) p_digit hi_dig s 0 hs (by omega)
  rw [List.drop_zero] at q
  have hst := stop_all (q := digI) (l := s.data.toList)
  have no : numW s = false → AV.bool false = .bool (numW s) := fun h => by rw [h]
  refine pcalls_of (by first | rfl | simp [free, free.frees, frees_str, frees_u8, frees_u16]) (by first | rfl | simp [free, free.frees, frees_str, frees_u8, frees_u16]) (acalls_of mixed J_token_number_ok (Nat.le_of_ble_eq_true rfl) ?_); simp only [J_token_number, wk,if_true,if_false,forall_const,implies_true,ne_eq,eq_self,Nat.reduceEqDiff,Nat.reduceAdd,Nat.reduceMul,Nat.reduceSub,Nat.reduceLeDiff,Nat.reduceLT,Int.reduceEq,Int.reduceLT,Int.reduceLE,Int.reduceAdd,Int.reduceSub,Int.reduceMul,Int.reduceNeg,Int.reduceNe,reduceCtorEq,Int.reduceToNat,↓reduceIte]
  have fin : (1 ≤ s.size ∧ s.size ≤ 9 ∧ (byteAt s 0 ≠ 48 ∨ s.size = 1)) → ∀ x : Int, x = (0 : Nat) + (stopN digI s.data.toList : Nat) → AV.bool (decide (x = s.size)) = .bool (numW s) := by
    rintro ⟨h1, h2, h3⟩ x rfl
    congr 1
    unfold numW
    rw [Bool.eq_iff_iff]
    simp only [decide_eq_true_eq, Bool.and_eq_true, Bool.or_eq_true]
    rw [← hst]
    omega
  repeat' (first | (refine PCalls.use q ?_; simp only [wk,if_true,if_false,forall_const,implies_true,ne_eq,eq_self,Nat.reduceEqDiff,Nat.reduceAdd,Nat.reduceMul,Nat.reduceSub,Nat.reduceLeDiff,Nat.reduceLT,Int.reduceEq,Int.reduceLT,Int.reduceLE,Int.reduceAdd,Int.reduceSub,Int.reduceMul,Int.reduceNeg,Int.reduceNe,reduceCtorEq,Int.reduceToNat,↓reduceIte]) | (with_reducible refine And.intro ?_ ?_) | intro _)
  all_goals first
    | omega
    | exact fin (by omega) _ rfl
    | (apply no; unfold numW; simp_all; done)
    | (apply no; unfold numW; simp_all; omega)
def atomW (o : Int) (w : ByteArray) : ByteArray :=
  if o = 0 then (if w = ⟨#[68]⟩ then w else ⟨#[]⟩)
  else if mayN w = true then (if o = 1 ∨ o = 2 ∨ o = 4 ∨ o = 5 then preW o ++ w else if o = 3 ∧ keyW w = 0 then w else ⟨#[]⟩) else ⟨#[]⟩
def wordT (k : Int) (w : ByteArray) (o : Int) : ByteArray :=
  if k = 1 then atomW o w
  else if o ≠ 0 then ⟨#[]⟩
  else if k = 8 then (if numW w = true then w else ⟨#[]⟩)
  else if k = 9 then (if sigW w = true then w else ⟨#[]⟩)
  else if w ≠ ⟨#[]⟩ then ⟨#[]⟩
  else if k = 2 then ⟨#[97, 110, 100]⟩
  else if k = 3 then ⟨#[102, 111, 114]⟩
  else if k = 5 then ⟨#[97, 115]⟩
  else if k = 4 then ⟨#[124]⟩
  else if k = 6 then ⟨#[40]⟩
  else if k = 7 then ⟨#[41]⟩
  else ⟨#[]⟩
set_option maxRecDepth 100000 in
set_option maxHeartbeats 4000000 in
theorem p_atomWord (o : Int) (w : ByteArray) (hw : w.size ≤ 1000000) : PCalls Try.prog 35 [.int .i64 o, .str w] (.str (atomW o w)) := by
  have qm := p_amay w (by omega)
  have qk := p_keyword w
  refine pcalls_of (by first | rfl | simp [free, free.frees, frees_str, frees_u8, frees_u16]) (by first | rfl | simp [free, free.frees, frees_str, frees_u8, frees_u16]) (acalls_of mixed J_token_atomWord_ok (Nat.le_of_ble_eq_true rfl) ?_); simp only [J_token_atomWord, wk,if_true,if_false,forall_const,implies_true,ne_eq,eq_self,Nat.reduceEqDiff,Nat.reduceAdd,Nat.reduceMul,Nat.reduceSub,Nat.reduceLeDiff,Nat.reduceLT,Int.reduceEq,Int.reduceLT,Int.reduceLE,Int.reduceAdd,Int.reduceSub,Int.reduceMul,Int.reduceNeg,Int.reduceNe,reduceCtorEq,Int.reduceToNat,↓reduceIte]
  repeat' (first | (refine PCalls.use qm ?_; simp only [wk,if_true,if_false,forall_const,implies_true,ne_eq,eq_self,Nat.reduceEqDiff,Nat.reduceAdd,Nat.reduceMul,Nat.reduceSub,Nat.reduceLeDiff,Nat.reduceLT,Int.reduceEq,Int.reduceLT,Int.reduceLE,Int.reduceAdd,Int.reduceSub,Int.reduceMul,Int.reduceNeg,Int.reduceNe,reduceCtorEq,Int.reduceToNat,↓reduceIte]) | (refine PCalls.use qk ?_; simp only [wk,if_true,if_false,forall_const,implies_true,ne_eq,eq_self,Nat.reduceEqDiff,Nat.reduceAdd,Nat.reduceMul,Nat.reduceSub,Nat.reduceLeDiff,Nat.reduceLT,Int.reduceEq,Int.reduceLT,Int.reduceLE,Int.reduceAdd,Int.reduceSub,Int.reduceMul,Int.reduceNeg,Int.reduceNe,reduceCtorEq,Int.reduceToNat,↓reduceIte]) | (with_reducible refine And.intro ?_ ?_) | intro _)
  all_goals first
    | (simp only [J_token_atomWord_j1, wk,if_true,if_false,forall_const,implies_true,ne_eq,eq_self,Nat.reduceEqDiff,Nat.reduceAdd,Nat.reduceMul,Nat.reduceSub,Nat.reduceLeDiff,Nat.reduceLT,Int.reduceEq,Int.reduceLT,Int.reduceLE,Int.reduceAdd,Int.reduceSub,Int.reduceMul,Int.reduceNeg,Int.reduceNe,reduceCtorEq,Int.reduceToNat,↓reduceIte]; congr 1; unfold atomW; simp_all; done)
    | (congr 1; unfold atomW preW; simp_all; done)
    | exact (show ∀ n : Nat, n ≤ 6 → n + w.size ≤ 9223372036854775807 from fun n h => by omega) _ (Nat.le_of_ble_eq_true rfl)
theorem sigW_one {w : ByteArray} (h : w.size = 1) : sigW w = sigB (byteAt w 0) := by unfold sigW; simp [h]
set_option maxRecDepth 100000 in
set_option maxHeartbeats 4000000 in
theorem p_word (k : Int) (w : ByteArray) (o a : Int) (hw : w.size ≤ 1000000) : PCalls Try.prog 14 [.agg [.int .i64 k, .str w, .int .i64 o, .int .i64 a]] (.str (wordT k w o)) := by
  have qa := p_atomWord o w hw
  have qn := p_number w hw
  refine pcalls_of (by first | rfl | simp [free, free.frees, frees_str, frees_u8, frees_u16]) (by first | rfl | simp [free, free.frees, frees_str, frees_u8, frees_u16]) (acalls_of mixed J_token_Word_ok (Nat.le_of_ble_eq_true rfl) ?_); simp only [J_token_Word, wk,if_true,if_false,forall_const,implies_true,ne_eq,eq_self,Nat.reduceEqDiff,Nat.reduceAdd,Nat.reduceMul,Nat.reduceSub,Nat.reduceLeDiff,Nat.reduceLT,Int.reduceEq,Int.reduceLT,Int.reduceLE,Int.reduceAdd,Int.reduceSub,Int.reduceMul,Int.reduceNeg,Int.reduceNe,reduceCtorEq,Int.reduceToNat,↓reduceIte]
  repeat' (first | (refine PCalls.use qa ?_; simp only [wk,if_true,if_false,forall_const,implies_true,ne_eq,eq_self,Nat.reduceEqDiff,Nat.reduceAdd,Nat.reduceMul,Nat.reduceSub,Nat.reduceLeDiff,Nat.reduceLT,Int.reduceEq,Int.reduceLT,Int.reduceLE,Int.reduceAdd,Int.reduceSub,Int.reduceMul,Int.reduceNeg,Int.reduceNe,reduceCtorEq,Int.reduceToNat,↓reduceIte]) | (refine PCalls.use qn ?_; simp only [wk,if_true,if_false,forall_const,implies_true,ne_eq,eq_self,Nat.reduceEqDiff,Nat.reduceAdd,Nat.reduceMul,Nat.reduceSub,Nat.reduceLeDiff,Nat.reduceLT,Int.reduceEq,Int.reduceLT,Int.reduceLE,Int.reduceAdd,Int.reduceSub,Int.reduceMul,Int.reduceNeg,Int.reduceNe,reduceCtorEq,Int.reduceToNat,↓reduceIte]) | (refine PCalls.use (p_contains1 w (by omega)) ?_; simp only [wk,if_true,if_false,forall_const,implies_true,ne_eq,eq_self,Nat.reduceEqDiff,Nat.reduceAdd,Nat.reduceMul,Nat.reduceSub,Nat.reduceLeDiff,Nat.reduceLT,Int.reduceEq,Int.reduceLT,Int.reduceLE,Int.reduceAdd,Int.reduceSub,Int.reduceMul,Int.reduceNeg,Int.reduceNe,reduceCtorEq,Int.reduceToNat,↓reduceIte]) | (with_reducible refine And.intro ?_ ?_) | intro _)
  all_goals first
    | (congr 1; unfold wordT; simp_all; done)
    | (congr 1; unfold wordT; rw [sigW_one (by omega)]; simp_all; done)
    | (congr 1; unfold wordT sigW; simp_all; done)
    | (have hz : ¬ w.size = 1 := by omega
       congr 1; unfold wordT sigW; simp_all; done)
theorem preW_size (o : Int) : (preW o).size ≤ 6 := by
  unfold preW
  repeat' split
  all_goals decide
theorem ba_empty (w : ByteArray) : (⟨#[]⟩ : ByteArray) ++ w = w := by
  apply ByteArray.ext; apply Array.ext'; simp
theorem word_atom {k : Int} {w : ByteArray} {o : Int} (h1 : k = 1) (h2 : mayN w = true) (h3 : 1 ≤ o) (h4 : o ≤ 5) (h5 : o = 3 → keyW w = 0) : preW o ++ w = wordT k w o := by
  subst h1
  rcases (show o = 1 ∨ o = 2 ∨ o = 3 ∨ o = 4 ∨ o = 5 by omega) with rfl | rfl | rfl | rfl | rfl
  all_goals simp [wordT, atomW, h2, preW, ba_empty]
  exact (fun h => absurd (h5 rfl) h)
theorem word_atom3 {k : Int} {w : ByteArray} {o : Int} (h1 : k = 1) (h2 : mayN w = true) (h3 : o = 3) (h5 : ¬ keyW w = 0) : (⟨#[]⟩ : ByteArray) = wordT k w o := by
  subst h1; subst h3
  simp [wordT, atomW, h2, h5]
theorem word_none {k : Int} {w : ByteArray} {o : Int} (h1 : k = 1) (h0 : ¬ o = 0) (h2 : o < 1 ∨ 5 < o) : (⟨#[]⟩ : ByteArray) = wordT k w o := by
  subst h1
  have e1 : ¬ o = 1 := by omega
  have e2 : ¬ o = 2 := by omega
  have e3 : ¬ o = 3 := by omega
  have e4 : ¬ o = 4 := by omega
  have e5 : ¬ o = 5 := by omega
  simp [wordT, atomW, h0, e1, e2, e3, e4, e5]
theorem word_far {k : Int} {w : ByteArray} {o : Int} (h1 : ¬ k = 1) (h2 : ¬ k = 8) (h3 : ¬ k = 9) (h4 : k < 2 ∨ 7 < k) : (⟨#[]⟩ : ByteArray) = wordT k w o := by
  have e2 : ¬ k = 2 := by omega
  have e3 : ¬ k = 3 := by omega
  have e4 : ¬ k = 4 := by omega
  have e5 : ¬ k = 5 := by omega
  have e6 : ¬ k = 6 := by omega
  have e7 : ¬ k = 7 := by omega
  simp [wordT, h1, h2, h3, e2, e3, e4, e5, e6, e7]
theorem word_key {k : Int} {w : ByteArray} {o : Int} {K : AV → Prop} (h0 : o = 0) (hw : w = ⟨#[]⟩) (h1 : 2 ≤ k) (h2 : k ≤ 7) (hK : K (.str (wordT k w o))) :
    loadK none (List.drop (k - 2).toNat [AV.str ⟨#[97, 110, 100]⟩, .str ⟨#[102, 111, 114]⟩, .str ⟨#[124]⟩, .str ⟨#[97, 115]⟩, .str ⟨#[40]⟩, .str ⟨#[41]⟩]) K := by
  subst h0; subst hw
  rcases (show k = 2 ∨ k = 3 ∨ k = 4 ∨ k = 5 ∨ k = 6 ∨ k = 7 by omega) with rfl | rfl | rfl | rfl | rfl | rfl <;> exact hK
set_option maxRecDepth 100000 in
set_option maxHeartbeats 4000000 in
theorem p_rword04 (k : Int) (w : ByteArray) (o a : Int) (hw : w.size ≤ 1000000) : PCalls Try.prog 30 [.agg [.int .i64 k, .str w, .int .i64 o, .int .i64 a]] (.str (wordT k w o)) := by
  have qm := p_rmay01 w (by omega)
  have qk := p_rkeyword w
  have qn := p_rnumber w hw
  have qs := p_isSign w
  have qp := p_prefix o
  refine pcalls_of (by first | rfl | simp [free, free.frees, frees_str, frees_u8, frees_u16]) (by first | rfl | simp [free, free.frees, frees_str, frees_u8, frees_u16]) (acalls_of mixed J_ref04_Word_ok (Nat.le_of_ble_eq_true rfl) ?_); simp only [J_ref04_Word, wk,if_true,if_false,forall_const,implies_true,ne_eq,eq_self,Nat.reduceEqDiff,Nat.reduceAdd,Nat.reduceMul,Nat.reduceSub,Nat.reduceLeDiff,Nat.reduceLT,Int.reduceEq,Int.reduceLT,Int.reduceLE,Int.reduceAdd,Int.reduceSub,Int.reduceMul,Int.reduceNeg,Int.reduceNe,reduceCtorEq,Int.reduceToNat,↓reduceIte]
  repeat' (first | (refine PCalls.use qm ?_; simp only [wk,if_true,if_false,forall_const,implies_true,ne_eq,eq_self,Nat.reduceEqDiff,Nat.reduceAdd,Nat.reduceMul,Nat.reduceSub,Nat.reduceLeDiff,Nat.reduceLT,Int.reduceEq,Int.reduceLT,Int.reduceLE,Int.reduceAdd,Int.reduceSub,Int.reduceMul,Int.reduceNeg,Int.reduceNe,reduceCtorEq,Int.reduceToNat,↓reduceIte]) | (refine PCalls.use qk ?_; simp only [wk,if_true,if_false,forall_const,implies_true,ne_eq,eq_self,Nat.reduceEqDiff,Nat.reduceAdd,Nat.reduceMul,Nat.reduceSub,Nat.reduceLeDiff,Nat.reduceLT,Int.reduceEq,Int.reduceLT,Int.reduceLE,Int.reduceAdd,Int.reduceSub,Int.reduceMul,Int.reduceNeg,Int.reduceNe,reduceCtorEq,Int.reduceToNat,↓reduceIte]) | (refine PCalls.use qn ?_; simp only [wk,if_true,if_false,forall_const,implies_true,ne_eq,eq_self,Nat.reduceEqDiff,Nat.reduceAdd,Nat.reduceMul,Nat.reduceSub,Nat.reduceLeDiff,Nat.reduceLT,Int.reduceEq,Int.reduceLT,Int.reduceLE,Int.reduceAdd,Int.reduceSub,Int.reduceMul,Int.reduceNeg,Int.reduceNe,reduceCtorEq,Int.reduceToNat,↓reduceIte]) | (refine PCalls.use qs ?_; simp only [wk,if_true,if_false,forall_const,implies_true,ne_eq,eq_self,Nat.reduceEqDiff,Nat.reduceAdd,Nat.reduceMul,Nat.reduceSub,Nat.reduceLeDiff,Nat.reduceLT,Int.reduceEq,Int.reduceLT,Int.reduceLE,Int.reduceAdd,Int.reduceSub,Int.reduceMul,Int.reduceNeg,Int.reduceNe,reduceCtorEq,Int.reduceToNat,↓reduceIte]) | (refine ⟨_, qp, ?_⟩; simp only [wk,if_true,if_false,forall_const,implies_true,ne_eq,eq_self,Nat.reduceEqDiff,Nat.reduceAdd,Nat.reduceMul,Nat.reduceSub,Nat.reduceLeDiff,Nat.reduceLT,Int.reduceEq,Int.reduceLT,Int.reduceLE,Int.reduceAdd,Int.reduceSub,Int.reduceMul,Int.reduceNeg,Int.reduceNe,reduceCtorEq,Int.reduceToNat,↓reduceIte]) | (with_reducible refine And.intro ?_ ?_) | intro _)
  all_goals first
    | (congr 1; unfold wordT; simp_all; done)
    | (congr 1; unfold wordT atomW; simp_all; done)
    | (have := preW_size o; omega)
    | (refine inR_of ?_ ?_ <;> omega)
    | (congr 1; apply word_atom <;> first | assumption | omega | (intro _; first | assumption | omega))
    | (congr 1; apply word_atom3 <;> first | assumption | omega)
    | (congr 1; apply word_none <;> first | assumption | omega)
    | (congr 1; apply word_far <;> first | assumption | omega)
    | (refine word_key (by assumption) (by assumption) (by omega) (by omega) ?_; simp only [wk,if_true,if_false,forall_const,implies_true,ne_eq,eq_self,Nat.reduceEqDiff,Nat.reduceAdd,Nat.reduceMul,Nat.reduceSub,Nat.reduceLeDiff,Nat.reduceLT,Int.reduceEq,Int.reduceLT,Int.reduceLE,Int.reduceAdd,Int.reduceSub,Int.reduceMul,Int.reduceNeg,Int.reduceNe,reduceCtorEq,Int.reduceToNat,↓reduceIte])
end Go.Proofs.Ytmbijfcjfhdnjaa

/- Expressions: how closely signs bind; what waits last. -/
-- fast
-- rows
namespace Go.Proofs.Ytmbijfcjfhdnjaa
set_option linter.unusedSimpArgs false
set_option linter.unusedVariables false
open Go.RowKit Go.Lib

/-- how closely a term binds -/
def bindP (k : Int) : Int := if k = 1 then 5 else bindK k
theorem bindP_ne {k : Int} (h : k ≠ 1) : bindP k = bindK k := by unfold bindP; rw [if_neg h]
set_option maxRecDepth 100000 in
theorem p_bind (k : Int) : PCalls Try.prog 44 [.int .i64 k] (.int .i64 (bindP k)) := by
  refine pcalls_of (by first | rfl | simp [free, free.frees, frees_str, frees_u8, frees_u16]) (by first | rfl | simp [free, free.frees, frees_str, frees_u8, frees_u16]) (acalls_of mixed J_expr_bind_ok (Nat.le_of_ble_eq_true rfl) ?_); simp only [J_expr_bind, wkr,wk,if_true,if_false,forall_const,implies_true,ne_eq,eq_self,Nat.reduceEqDiff,Nat.reduceAdd,Nat.reduceMul,Nat.reduceSub,Nat.reduceLeDiff,Nat.reduceLT,Int.reduceEq,Int.reduceLT,Int.reduceLE,Int.reduceAdd,Int.reduceSub,Int.reduceMul,Int.reduceNeg,Int.reduceNe,reduceCtorEq,Int.reduceToNat,↓reduceIte]
  repeat' refine And.intro (fun h => ?_) (fun h => ?_)
  all_goals (congr 1; simp_all [bindP, bindK])
/-- terms as cells -/
def trC (t : Trm) : List AV := [.int .i64 t.op, .int .i64 t.of, .str t.name]
def trsC (l : List Trm) : List AV := l.flatMap trC
def vTrs (l : List Trm) : AV := .lst .ro l.length (trsC l)
abbrev rob (o : Option Value) (r : Rdr) : Option (Bool × List AV) := some (false, [.lst (.own 45) r.out.length (trsC r.out), .stk 3 o r.w.reverse, .int .i64 r.opn, .bool r.beh])
theorem hset1 {h : Hp} {id : Nat} {y : Option (Bool × List AV)} (ho : h[id]? = some y) (x : Option (Bool × List AV)) : (h.set id x)[id]? = some x := by
  have : id < h.length := (List.getElem?_eq_some_iff.1 ho).1
  rw [List.getElem?_set_self this]
theorem hself1 {h : Hp} {id : Nat} {y : Option (Bool × List AV)} (ho : h[id]? = some y) : h.set id y = h := by
  obtain ⟨h1, h2⟩ := List.getElem?_eq_some_iff.1 ho
  rw [← h2, List.set_getElem_self]
theorem rev_last {w : List Int} : w.reverse.getD (w.length - 1) 0 = w.headD 0 := by
  cases w with
  | nil => rfl
  | cons a w => simp
set_option maxRecDepth 100000 in
theorem a_top_some {h : Hp} {id : Nat} {x : AV} {rest : List AV} {w : List Int} {v : Value} (ho : h[id]? = some (some (false, x :: .stk 3 (some v) w.reverse :: rest))) (hl : w.length ≤ 1000000) : ACalls Try.prog 63 [.ptr id 0] h (fun a h' => a = .int .i64 (w.headD 0) ∧ h' = h) := by
  have hr : w.reverse.length = w.length := List.length_reverse
  refine acalls_of mixed J_expr_reader_top_ok (Nat.le_of_ble_eq_true rfl) ?_; simp only [J_expr_reader_top, wkr,wk,if_true,if_false,forall_const,implies_true,ne_eq,eq_self,Nat.reduceEqDiff,Nat.reduceAdd,Nat.reduceMul,Nat.reduceSub,Nat.reduceLeDiff,Nat.reduceLT,Int.reduceEq,Int.reduceLT,Int.reduceLE,Int.reduceAdd,Int.reduceSub,Int.reduceMul,Int.reduceNeg,Int.reduceNe,reduceCtorEq,Int.reduceToNat,↓reduceIte]
  simp only [wkr,wk,if_true,if_false,forall_const,implies_true,ne_eq,eq_self,Nat.reduceEqDiff,Nat.reduceAdd,Nat.reduceMul,Nat.reduceSub,Nat.reduceLeDiff,Nat.reduceLT,Int.reduceEq,Int.reduceLT,Int.reduceLE,Int.reduceAdd,Int.reduceSub,Int.reduceMul,Int.reduceNeg,Int.reduceNe,reduceCtorEq,Int.reduceToNat,↓reduceIte, ho]
  refine ⟨fun h0 => ?_, fun h0 => ⟨inR_of (by omega) (by omega), ⟨by omega, by omega⟩, by omega, ?_⟩⟩
  · have : w = [] := List.eq_nil_of_length_eq_zero (by omega)
    subst this; rfl
  · congr 1
    rw [hr, show ((w.length : Int) - 1).toNat = w.length - 1 by omega, rev_last]
set_option maxRecDepth 100000 in
theorem a_top {h : Hp} {id : Nat} {x : AV} {rest : List AV} {w : List Int} {o : Option Value} (ho : h[id]? = some (some (false, x :: .stk 3 o w.reverse :: rest))) (hl : w.length ≤ 1000000) : ACalls Try.prog 63 [.ptr id 0] h (fun a h' => a = .int .i64 (w.headD 0) ∧ h' = h) := by
  cases o with
  | some v => exact a_top_some ho hl
  | none =>
    have hr : w.reverse.length = w.length := List.length_reverse
    have hs : ∀ y, (h.set id (some (false, y)))[id]? = some (some (false, y)) := fun y => hset1 ho _
    refine ACalls.unname (off := 1) ho rfl ?_
    refine acalls_of mixed J_expr_reader_top_ok (Nat.le_of_ble_eq_true rfl) ?_; simp only [J_expr_reader_top, wkr,wk,if_true,if_false,forall_const,implies_true,ne_eq,eq_self,Nat.reduceEqDiff,Nat.reduceAdd,Nat.reduceMul,Nat.reduceSub,Nat.reduceLeDiff,Nat.reduceLT,Int.reduceEq,Int.reduceLT,Int.reduceLE,Int.reduceAdd,Int.reduceSub,Int.reduceMul,Int.reduceNeg,Int.reduceNe,reduceCtorEq,Int.reduceToNat,↓reduceIte]
    simp only [wkr,wk,if_true,if_false,forall_const,implies_true,ne_eq,eq_self,Nat.reduceEqDiff,Nat.reduceAdd,Nat.reduceMul,Nat.reduceSub,Nat.reduceLeDiff,Nat.reduceLT,Int.reduceEq,Int.reduceLT,Int.reduceLE,Int.reduceAdd,Int.reduceSub,Int.reduceMul,Int.reduceNeg,Int.reduceNe,reduceCtorEq,Int.reduceToNat,↓reduceIte, ho]
    intro v
    simp only [wkr,wk,if_true,if_false,forall_const,implies_true,ne_eq,eq_self,Nat.reduceEqDiff,Nat.reduceAdd,Nat.reduceMul,Nat.reduceSub,Nat.reduceLeDiff,Nat.reduceLT,Int.reduceEq,Int.reduceLT,Int.reduceLE,Int.reduceAdd,Int.reduceSub,Int.reduceMul,Int.reduceNeg,Int.reduceNe,reduceCtorEq,Int.reduceToNat,↓reduceIte, hs]
    refine ⟨fun h0 => ?_, fun h0 => ⟨inR_of (by omega) (by omega), ⟨by omega, by omega⟩, by omega, ?_⟩⟩
    · have : w = [] := List.eq_nil_of_length_eq_zero (by omega)
      subst this; exact ⟨⟨v, rfl⟩, rfl⟩
    · refine ⟨⟨v, rfl⟩, ?_⟩
      congr 1
      rw [hr, show ((w.length : Int) - 1).toNat = w.length - 1 by omega, rev_last]
theorem sameU_stk {h0 h : Hp} {id : Nat} {x : AV} {rest : List AV} {e : TypeId} {o : Option Value} {l : List Int} (hs : SameU h0 h) (ho : h[id]? = some (some (false, x :: .stk e o l :: rest))) : ∃ x' rest', h0[id]? = some (some (false, x' :: .stk e o l :: rest')) := by
  have h1 := congrArg (fun m : List (Option (Bool × List AV)) => m[id]?) hs
  simp only [List.getElem?_map, ho, Option.map_some, unfO, List.map_cons] at h1
  cases h2 : h0[id]? with
  | none => rw [h2] at h1; cases h1
  | some y =>
    rw [h2] at h1
    cases y with
    | none => simp [unfO] at h1
    | some z =>
      obtain ⟨s, c⟩ := z
      simp only [Option.map_some, unfO, Option.some.injEq, Prod.mk.injEq] at h1
      obtain ⟨rfl, h3⟩ := h1
      cases c with
      | nil => simp at h3
      | cons a c =>
        cases c with
        | nil => simp at h3
        | cons b c =>
          simp only [List.map_cons, List.cons.injEq] at h3
          have hb : b = .stk e o l := by
            have h4 := h3.2.1
            cases b <;> simp only [unf] at h4 <;> first | exact h4 | (split at h4 <;> first | cases h4 | exact h4) | cases h4
          subst hb
          exact ⟨a, c, rfl⟩
theorem a_topr {h : Hp} {id : Nat} {x : AV} {rest : List AV} {w : List Int} {o : Option Value} (ho : h[id]? = some (some (false, x :: .stk 3 o w.reverse :: rest))) (hl : w.length ≤ 1000000) : ∀ h0 : Hp, SameU h0 h → ACalls Try.prog 63 [.ptr id 0] h0 (fun a h' => a = .int .i64 (w.headD 0) ∧ h' = h0) := fun h0 hs => by
  obtain ⟨x', rest', h2⟩ := sameU_stk hs ho
  exact a_top h2 hl
/-- names of what waits are forgotten -/
theorem ACalls.unn {P : Program} {f : FuncId} {args : List AV} {h : Hp} {R : AV → Prop} {id : Nat} {r : Rdr} {y : Option (Bool × List AV)} (hid : h[id]? = some y)
    (hA : ACalls P f args h (fun a h' => R a ∧ ∃ o, h' = h.set id (rob o r))) : ACalls P f args h (fun a h' => R a ∧ h' = h.set id (rob none r)) :=
  ⟨hA.1, fun g w vargs h1 h2 h3 h4 => (hA.2 g w vargs h1 h2 h3 h4).mono fun _ _ ⟨x, a, h', g', q1, q2, q3, q4, q5, q6, q8, o, q7⟩ => by
    have hl := hset1 hid (rob none r)
    refine ⟨x, a, h.set id (rob none r), g', q1, q2, ?_, q4, q5, q6, q8, rfl⟩
    cases o with
    | none => rw [← q7]; exact q3
    | some u =>
      refine Sim.unname (off := 1) (u := u) hl rfl ?_
      rw [List.set_set]
      show Sim P g' (h.set id (rob (some u) r)) _
      rw [← q7]; exact q3⟩
/-- the signs that wait last are laid -/
def layR (m : Int) (r : Rdr) : Rdr := ⟨r.out ++ (popL m r.w).map sgn, popR m r.w, r.opn, r.beh⟩
theorem trsC_sn (l : List Trm) (t : Trm) : trsC (l ++ [t]) = trsC l ++ [.int .i64 t.op, .int .i64 t.of, .str t.name] := by simp [trsC, trC]
set_option maxRecDepth 100000 in
theorem a_lay {h : Hp} {id : Nat} {r : Rdr} {m : Int} {o : Option Value} (ho : h[id]? = some (rob o r)) (hm : 0 < m) (hw : ∀ k ∈ r.w, k = 6 ∨ 0 < bindK k) (hl : r.w.length ≤ 10000) (hl2 : r.out.length ≤ 100000) : ACalls Try.prog 39 [.ptr id 0, .int .i64 m] h (fun a h' => a = .tup [] ∧ h' = h.set id (rob none (layR m r))) := by
  refine ACalls.unn ho ?_
  refine acalls_of mixed J_expr_reader_lay_ok (Nat.le_of_ble_eq_true rfl) ?_; simp only [J_expr_reader_lay, wkr,wk,if_true,if_false,forall_const,implies_true,ne_eq,eq_self,Nat.reduceEqDiff,Nat.reduceAdd,Nat.reduceMul,Nat.reduceSub,Nat.reduceLeDiff,Nat.reduceLT,Int.reduceEq,Int.reduceLT,Int.reduceLE,Int.reduceAdd,Int.reduceSub,Int.reduceMul,Int.reduceNeg,Int.reduceNe,reduceCtorEq,Int.reduceToNat,↓reduceIte]
  refine W_loop (fun n fr h' => ∃ (w2 : List Int) (a : List Int) (o : Option Value), n = w2.length ∧ popL m r.w = a ++ popL m w2 ∧ popR m r.w = popR m w2 ∧ a.length + w2.length = r.w.length ∧ (∀ k ∈ w2, k = 6 ∨ 0 < bindK k) ∧ h' = h.set id (rob o ⟨r.out ++ a.map sgn, w2, r.opn, r.beh⟩) ∧ fr = [(0, .ptr id 0), (1, .int .i64 m)]) r.w.length ⟨r.w, [], o, rfl, rfl, rfl, by simp, hw, by simp [hself1 ho], rfl⟩ ?_
  rintro n fr h' ⟨w2, a, o2, rfl, e1, e2, e3, hw2, rfl, rfl⟩
  have ho2 := hset1 ho (rob o2 ⟨r.out ++ a.map sgn, w2, r.opn, r.beh⟩)
  simp only [J_expr_reader_lay_j1, wkr,wk,if_true,if_false,forall_const,implies_true,ne_eq,eq_self,Nat.reduceEqDiff,Nat.reduceAdd,Nat.reduceMul,Nat.reduceSub,Nat.reduceLeDiff,Nat.reduceLT,Int.reduceEq,Int.reduceLT,Int.reduceLE,Int.reduceAdd,Int.reduceSub,Int.reduceMul,Int.reduceNeg,Int.reduceNe,reduceCtorEq,Int.reduceToNat,↓reduceIte]
  have hws : w2.length ≤ 10000 := by omega
  have hb : bindP (w2.headD 0) = bindK (w2.headD 0) := by
    refine bindP_ne ?_
    cases w2 with
    | nil => decide
    | cons k w2 =>
      have := hw2 k (by simp)
      show k ≠ 1
      rintro rfl
      rcases this with h | h
      · omega
      · rw [bind1] at h; omega
  refine ACalls.use (a_top ho2 (show w2.length ≤ 1000000 by omega)) ?_; rintro _ _ ⟨rfl, rfl⟩; simp only [wkr,wk,if_true,if_false,forall_const,implies_true,ne_eq,eq_self,Nat.reduceEqDiff,Nat.reduceAdd,Nat.reduceMul,Nat.reduceSub,Nat.reduceLeDiff,Nat.reduceLT,Int.reduceEq,Int.reduceLT,Int.reduceLE,Int.reduceAdd,Int.reduceSub,Int.reduceMul,Int.reduceNeg,Int.reduceNe,reduceCtorEq,Int.reduceToNat,↓reduceIte, ho2]
  refine PCalls.use (p_bind (w2.headD 0)) ?_; simp only [wkr,wk,if_true,if_false,forall_const,implies_true,ne_eq,eq_self,Nat.reduceEqDiff,Nat.reduceAdd,Nat.reduceMul,Nat.reduceSub,Nat.reduceLeDiff,Nat.reduceLT,Int.reduceEq,Int.reduceLT,Int.reduceLE,Int.reduceAdd,Int.reduceSub,Int.reduceMul,Int.reduceNeg,Int.reduceNe,reduceCtorEq,Int.reduceToNat,↓reduceIte]
  simp only [hb]
  have hs : ∀ y z, ((h.set id z).set id (some (false, y)))[id]? = some (some (false, y)) := fun y z => hset1 (hset1 ho z) _
  have hs1 : ∀ y, (h.set id (some (false, y)))[id]? = some (some (false, y)) := fun y => hset1 ho _
  refine ⟨fun hge => ?_, fun hlt => ?_⟩
  · simp only [rob] at ho2
    simp only [wkr,wk,if_true,if_false,forall_const,implies_true,ne_eq,eq_self,Nat.reduceEqDiff,Nat.reduceAdd,Nat.reduceMul,Nat.reduceSub,Nat.reduceLeDiff,Nat.reduceLT,Int.reduceEq,Int.reduceLT,Int.reduceLE,Int.reduceAdd,Int.reduceSub,Int.reduceMul,Int.reduceNeg,Int.reduceNe,reduceCtorEq,Int.reduceToNat,↓reduceIte, ho2]
    refine ⟨_, a_topr (hs1 _) (show w2.length ≤ 1000000 by omega), ?_⟩
    have hol : (r.out ++ a.map sgn).length = r.out.length + a.length := by simp
    simp only [wkr,wk,if_true,if_false,forall_const,implies_true,ne_eq,eq_self,Nat.reduceEqDiff,Nat.reduceAdd,Nat.reduceMul,Nat.reduceSub,Nat.reduceLeDiff,Nat.reduceLT,Int.reduceEq,Int.reduceLT,Int.reduceLE,Int.reduceAdd,Int.reduceSub,Int.reduceMul,Int.reduceNeg,Int.reduceNe,reduceCtorEq,Int.reduceToNat,↓reduceIte, hs, hs1]
    refine ⟨⟨by omega, by omega⟩, ?_⟩
    cases w2 with
    | nil => exact absurd hge (by show ¬ m ≤ bindK 0; simp only [bindK]; omega)
    | cons k w3 =>
      have hge : m ≤ bindK k := hge
      have hrl : (k :: w3).reverse.length = w3.length + 1 := by simp
      have hw3 : w3.length + 1 ≤ 10000 := by simpa using hws
      have hrt : (k :: w3).reverse.take w3.length = w3.reverse := by
        have := List.take_left (l₁ := w3.reverse) (l₂ := [k])
        rw [List.length_reverse] at this
        rw [List.reverse_cons]; exact this
      have ht : (((k :: w3).reverse.length : Int) - 1).toNat = w3.length := by omega
      have fin : ∀ v : Value, ∃ m_1, m_1 < (k :: w3).length ∧ ∃ (w2_1 : List Int) (a_1 : List Int) (o : Option Value), m_1 = w2_1.length ∧ popL m r.w = a_1 ++ popL m w2_1 ∧ popR m r.w = popR m w2_1 ∧ a_1.length + w2_1.length = r.w.length ∧ (∀ k ∈ w2_1, k = 6 ∨ 0 < bindK k) ∧ h.set id (some (false, [.lst (.own 45) ((r.out ++ a.map sgn).length + 1) (trsC (r.out ++ a.map sgn) ++ [.int .i64 ((k :: w3).headD 0), .int .i64 0, .str ⟨#[]⟩]), .stk 3 (some v) w3.reverse, .int .i64 r.opn, .bool r.beh])) = h.set id (rob o ⟨r.out ++ a_1.map sgn, w2_1, r.opn, r.beh⟩) := fun v => by
        refine ⟨w3.length, by simp, w3, a ++ [k], some v, rfl, ?_, ?_, ?_, fun q hq => hw2 q (by simp [hq]), ?_⟩
        · rw [e1]; simp [popL, hge]
        · rw [e2]; simp [popR, hge]
        · rw [List.length_cons] at e3; rw [List.length_append, List.length_singleton]; omega
        · rw [List.map_append, ← List.append_assoc, rob]
          simp only [List.map_cons, List.map_nil, trsC_sn, List.length_append, List.length_singleton, List.headD_cons]
          rfl
      cases o2 with
      | none =>
        intro v
        rw [ht, hrt]
        exact ⟨inR_of (by omega) (by omega), ⟨by omega, by omega⟩, by omega, fin _⟩
      | some v =>
        simp only [wkr,wk,if_true,if_false,forall_const,implies_true,ne_eq,eq_self,Nat.reduceEqDiff,Nat.reduceAdd,Nat.reduceMul,Nat.reduceSub,Nat.reduceLeDiff,Nat.reduceLT,Int.reduceEq,Int.reduceLT,Int.reduceLE,Int.reduceAdd,Int.reduceSub,Int.reduceMul,Int.reduceNeg,Int.reduceNe,reduceCtorEq,Int.reduceToNat,↓reduceIte]
        rw [ht, hrt]
        exact ⟨inR_of (by omega) (by omega), ⟨by omega, by omega⟩, by omega, fin _⟩
  · have hp : popL m w2 = [] ∧ popR m w2 = w2 := by
      cases w2 with
      | nil => exact ⟨rfl, rfl⟩
      | cons k w2 =>
        have : ¬ m ≤ bindK k := hlt
        simp [popL, popR, this]
    rw [hp.1, List.append_nil] at e1
    rw [hp.2] at e2
    exact ⟨o2, by unfold layR; rw [e1, e2]⟩
end Go.Proofs.Ytmbijfcjfhdnjaa

/- Expressions: the reader takes a token. -/
-- fast
-- rows
namespace Go.Proofs.Ytmbijfcjfhdnjaa
set_option linter.unusedSimpArgs false
set_option linter.unusedVariables false
open Go.RowKit Go.Lib

theorem frees_trs : ∀ l : List Trm, free.frees (trsC l) = true
  | [] => rfl
  | t :: l => by
    have := frees_trs l
    simp only [trsC, List.flatMap_cons, trC, List.cons_append, List.nil_append, free.frees, free, Bool.true_and] at this ⊢
    exact this
theorem rob_low {n : Nat} {o : Option Value} {r : Rdr} {s : Bool} {l : List AV} (h : rob o r = some (s, l)) : low.lows n l = true := by
  simp only [rob, Option.some.injEq, Prod.mk.injEq] at h
  obtain ⟨_, rfl⟩ := h
  simp [low.lows, low, lows_free (frees_trs r.out)]
theorem trimR {h ex : Hp} {id : Nat} {o : Option Value} {r : Rdr} {a c : Int} (hc : a = c) : ∃ h2 ex', h.set id (rob o r) ++ ex = h2 ++ ex' ∧ h.length ≤ h2.length ∧ low h2.length (.int .i64 a) = true ∧ (∀ (j : Nat) s l, h2[j]? = some (some (s, l)) → (∃ s', h[j]? = some (some (s', l))) ∨ low.lows h2.length l = true) ∧ (.int .i64 a = AV.int .i64 c ∧ ∃ o, h2 = h.set id (rob o r)) := by
  refine ⟨_, ex, rfl, by simp, rfl, fun j s' l' hj => ?_, by rw [hc], o, rfl⟩
  rw [List.getElem?_set] at hj
  split at hj
  · split at hj
    · exact .inr (rob_low (o := o) (r := r) (by simpa using hj))
    · cases hj
  · exact .inl ⟨_, hj⟩
theorem trimR1 {h ex : Hp} {id : Nat} {o : Option Value} {r : Rdr} {a : Int} : ∃ h2 ex', h.set id (rob o r) ++ ex = h2 ++ ex' ∧ h.length ≤ h2.length ∧ low h2.length (.int .i64 a) = true ∧ (∀ (j : Nat) s l, h2[j]? = some (some (s, l)) → (∃ s', h[j]? = some (some (s', l))) ∨ low.lows h2.length l = true) ∧ (∃ o, h2 = h.set id (rob o r)) := by
  obtain ⟨h2, ex', p1, p2, p3, p4, _, p5⟩ := trimR (h := h) (ex := ex) (id := id) (o := o) (r := r) (a := a) (c := a) rfl
  exact ⟨h2, ex', p1, p2, p3, p4, p5⟩
theorem trimR0 {h ex : Hp} {id : Nat} {o : Option Value} {r r' : Rdr} {a c : Int} (ho : h[id]? = some (rob o r)) (hc : c = a ∧ r' = r) : ∃ h2 ex', h ++ ex = h2 ++ ex' ∧ h.length ≤ h2.length ∧ low h2.length (.int .i64 a) = true ∧ (∀ (j : Nat) s l, h2[j]? = some (some (s, l)) → (∃ s', h[j]? = some (some (s', l))) ∨ low.lows h2.length l = true) ∧ (.int .i64 a = AV.int .i64 c ∧ ∃ o, h2 = h.set id (rob o r')) :=
  ⟨h, ex, rfl, Nat.le_refl _, rfl, fun _ s _ hl => .inl ⟨s, hl⟩, by rw [hc.1], o, by rw [hc.2]; exact (hself1 ho).symm⟩
theorem holdE {h : Hp} {id : Nat} {y : Option (Bool × List AV)} (ho : h[id]? = some y) (ex : Hp) : (h ++ ex)[id]? = some y := by
  rw [List.getElem?_append_left (List.getElem?_eq_some_iff.1 ho).1]; exact ho
theorem setlE {h : Hp} {id : Nat} {y : Option (Bool × List AV)} (ho : h[id]? = some y) (ex : Hp) (z : Option (Bool × List AV)) : (h ++ ex).set id z = h.set id z ++ ex :=
  List.set_append_left _ _ (List.getElem?_eq_some_iff.1 ho).1
theorem boxE {h : Hp} {y : Option (Bool × List AV)} : (h ++ [y])[h.length]? = some y := by simp
theorem boxE2 {h : Hp} {id : Nat} {x y z : Option (Bool × List AV)} (ho : h[id]? = some x) : ((h ++ [y]).set id z)[h.length]? = some y := by
  rw [setlE ho, List.getElem?_append_right (by simp), List.length_set, Nat.sub_self]; rfl
theorem rob_eq {o : Option Value} {k : Nat} {l : List AV} {s : List Int} {i : Int} {b : Bool} (r : Rdr) (h1 : k = r.out.length) (h2 : l = trsC r.out) (h3 : s = r.w.reverse) (h4 : i = r.opn) (h5 : b = r.beh) : (some (false, [.lst (.own 45) k l, .stk 3 o s, .int .i64 i, .bool b]) : Option (Bool × List AV)) = rob o r := by
  subst h1; subst h2; subst h3; subst h4; subst h5; rfl
def codeR (r : Rdr) (t : Tok) : Int := match takeR r t with
  | .inl e => e
  | .inr _ => 0
def nextR (r : Rdr) (t : Tok) : Rdr := match takeR r t with
  | .inl _ => r
  | .inr r' => r'
theorem take_inl {r : Rdr} {t : Tok} {e : Int} (h : takeR r t = .inl e) : codeR r t = e ∧ nextR r t = r := by unfold codeR nextR; rw [h]; exact ⟨rfl, rfl⟩
theorem take_inr {r r' : Rdr} {t : Tok} (h : takeR r t = .inr r') : codeR r t = 0 ∧ nextR r t = r' := by unfold codeR nextR; rw [h]; exact ⟨rfl, rfl⟩
set_option maxRecDepth 100000 in
set_option maxHeartbeats 4000000 in
theorem a_part {h : Hp} {id : Nat} {r : Rdr} {o : Option Value} {t : Tok} (ho : h[id]? = some (rob o r)) (hb : r.beh = false) (hl : r.w.length ≤ 10000) (hl2 : r.out.length ≤ 100000) (hl3 : r.opn ≤ 10000) : ACalls Try.prog 62 [.ptr id 0, .agg (tC t)] h (fun a h' => a = .int .i64 (codeR r t) ∧ h' = h.set id (rob none (nextR r t))) := by
  refine ACalls.unn ho ?_
  obtain ⟨out, w, n, b⟩ := r
  simp only at hb hl hl2 hl3
  subst hb
  have ho1 := holdE ho [some (false, tC t)]
  have hs1 : ∀ z, ((h ++ [some (false, tC t)]).set id z)[id]? = some z := fun z => hset1 ho1 z
  have hbx : (h ++ [some (false, tC t)])[h.length]? = some (some (false, tC t)) := boxE
  have hbx2 : ∀ z, ((h ++ [some (false, tC t)]).set id z)[h.length]? = some (some (false, tC t)) := fun z => boxE2 ho
  have hset := setlE ho [some (false, tC t)]
  have hrl : w.reverse.length = w.length := List.length_reverse
  simp only [tC] at ho1 hs1 hbx hbx2 hset ⊢
  refine ACalls.trim (acalls_of mixed J_expr_reader_part_ok (Nat.le_of_ble_eq_true rfl) ?_); simp only [J_expr_reader_part, hbx, wkr,wk,if_true,if_false,forall_const,implies_true,ne_eq,eq_self,Nat.reduceEqDiff,Nat.reduceAdd,Nat.reduceMul,Nat.reduceSub,Nat.reduceLeDiff,Nat.reduceLT,Int.reduceEq,Int.reduceLT,Int.reduceLE,Int.reduceAdd,Int.reduceSub,Int.reduceMul,Int.reduceNeg,Int.reduceNe,reduceCtorEq,Int.reduceToNat,↓reduceIte]
  have hid := (List.getElem?_eq_some_iff.1 ho).1
  have n1 : (id = h.length) = False := by simp; omega
  have n2 : (h.length = id) = False := by simp; omega
  refine ⟨fun k1 => ?_, fun k1 => ?_⟩
  · have hfin : ¬ (w.headD 0 = 5 ∧ t.of ≠ 5) → codeR ⟨out, w, n, false⟩ t = 0 ∧ nextR ⟨out, w, n, false⟩ t = ⟨out ++ [leaf t], w, n, true⟩ := fun hn => take_inr (by
      unfold takeR; rw [if_pos rfl, if_pos k1, if_neg hn])
    refine ACalls.use (a_top ho1 (show w.length ≤ 1000000 by omega)) ?_; rintro _ _ ⟨rfl, rfl⟩; simp only [wkr,wk,if_true,if_false,forall_const,implies_true,ne_eq,eq_self,Nat.reduceEqDiff,Nat.reduceAdd,Nat.reduceMul,Nat.reduceSub,Nat.reduceLeDiff,Nat.reduceLT,Int.reduceEq,Int.reduceLT,Int.reduceLE,Int.reduceAdd,Int.reduceSub,Int.reduceMul,Int.reduceNeg,Int.reduceNe,reduceCtorEq,Int.reduceToNat,↓reduceIte, ho1, hbx, hbx2, hs1, n1, n2]
    refine ⟨fun h5 => ⟨fun h6 => trimR0 ho (take_inl ?_), fun h6 => ?_⟩, fun h5 => ?_⟩
    · unfold takeR; rw [if_pos rfl, if_pos k1, if_pos ⟨h5, h6⟩]
    · obtain ⟨g1, g2⟩ := hfin (fun x => x.2 h6)
      simp only [J_expr_reader_part_j1, wkr,wk,if_true,if_false,forall_const,implies_true,ne_eq,eq_self,Nat.reduceEqDiff,Nat.reduceAdd,Nat.reduceMul,Nat.reduceSub,Nat.reduceLeDiff,Nat.reduceLT,Int.reduceEq,Int.reduceLT,Int.reduceLE,Int.reduceAdd,Int.reduceSub,Int.reduceMul,Int.reduceNeg,Int.reduceNe,reduceCtorEq,Int.reduceToNat,↓reduceIte]
      refine ⟨⟨by omega, by omega⟩, ?_⟩
      rw [hset, rob_eq ⟨out ++ [leaf t], w, n, true⟩ (by simp) (by simp [trsC_sn, leaf]) rfl rfl rfl, g1, g2]
      exact trimR rfl
    · obtain ⟨g1, g2⟩ := hfin (fun x => h5 x.1)
      simp only [J_expr_reader_part_j1, wkr,wk,if_true,if_false,forall_const,implies_true,ne_eq,eq_self,Nat.reduceEqDiff,Nat.reduceAdd,Nat.reduceMul,Nat.reduceSub,Nat.reduceLeDiff,Nat.reduceLT,Int.reduceEq,Int.reduceLT,Int.reduceLE,Int.reduceAdd,Int.reduceSub,Int.reduceMul,Int.reduceNeg,Int.reduceNe,reduceCtorEq,Int.reduceToNat,↓reduceIte]
      refine ⟨⟨by omega, by omega⟩, ?_⟩
      rw [hset, rob_eq ⟨out ++ [leaf t], w, n, true⟩ (by simp) (by simp [trsC_sn, leaf]) rfl rfl rfl, g1, g2]
      exact trimR rfl
  · have no : t.kind ≠ 6 ∨ w.headD 0 = 5 → takeR ⟨out, w, n, false⟩ t = .inl 2 := fun hn => by
      unfold takeR
      rw [if_pos rfl, if_neg k1, if_neg (by rintro ⟨a, b⟩; rcases hn with h | h; exact h a; exact b h)]
    refine ⟨fun k6 => ?_, fun k6 => ?_⟩
    · refine ACalls.use (a_top ho1 (show w.length ≤ 1000000 by omega)) ?_; rintro _ _ ⟨rfl, rfl⟩; simp only [wkr,wk,if_true,if_false,forall_const,implies_true,ne_eq,eq_self,Nat.reduceEqDiff,Nat.reduceAdd,Nat.reduceMul,Nat.reduceSub,Nat.reduceLeDiff,Nat.reduceLT,Int.reduceEq,Int.reduceLT,Int.reduceLE,Int.reduceAdd,Int.reduceSub,Int.reduceMul,Int.reduceNeg,Int.reduceNe,reduceCtorEq,Int.reduceToNat,↓reduceIte, ho1, hbx, hbx2, hs1, n1, n2]
      refine ⟨fun h5 => ⟨fun h1 => trimR0 ho (take_inl ?_), fun h1 => ⟨⟨by omega, by omega⟩, inR_of (by omega) (by omega), ?_⟩⟩, fun h5 => ?_⟩
      · unfold takeR; rw [if_pos rfl, if_neg k1, if_pos ⟨k6, h5⟩, if_pos (by show n = 100; omega)]
      · simp only [J_expr_reader_part_j1, wkr,wk,if_true,if_false,forall_const,implies_true,ne_eq,eq_self,Nat.reduceEqDiff,Nat.reduceAdd,Nat.reduceMul,Nat.reduceSub,Nat.reduceLeDiff,Nat.reduceLT,Int.reduceEq,Int.reduceLT,Int.reduceLE,Int.reduceAdd,Int.reduceSub,Int.reduceMul,Int.reduceNeg,Int.reduceNe,reduceCtorEq,Int.reduceToNat,↓reduceIte]
        obtain ⟨g1, g2⟩ := take_inr (r := ⟨out, w, n, false⟩) (t := t) (r' := ⟨out, 6 :: w, n + 1, false⟩) (by
          unfold takeR; rw [if_pos rfl, if_neg k1, if_pos ⟨k6, h5⟩, if_neg (by show ¬ n = 100; omega)])
        rw [hset, rob_eq ⟨out, 6 :: w, n + 1, false⟩ rfl rfl (by simp) (by simp) rfl, g1, g2]
        exact trimR rfl
      · exact trimR0 ho (take_inl (no (.inr h5)))
    · exact trimR0 ho (take_inl (no (.inl k6)))
set_option maxRecDepth 100000 in
set_option maxHeartbeats 4000000 in
theorem a_take {h : Hp} {id : Nat} {r : Rdr} {o : Option Value} {t : Tok} (ho : h[id]? = some (rob o r)) (hw : rcnt r) (hl : r.w.length ≤ 10000) (hl2 : r.out.length + r.w.length ≤ 10000) (hl3 : r.opn ≤ 10000) : ACalls Try.prog 38 [.ptr id 0, .agg (tC t)] h (fun a h' => a = .int .i64 (codeR r t) ∧ h' = h.set id (rob none (nextR r t))) := by
  refine ACalls.unn ho ?_
  obtain ⟨out, w, n, b⟩ := r
  obtain ⟨kd, nm, tf, ta⟩ := t
  simp only at hl hl2 hl3
  have ho1 := holdE ho [some (false, tC ⟨kd, nm, tf, ta⟩)]
  have hs1 : ∀ z, ((h ++ [some (false, tC ⟨kd, nm, tf, ta⟩)]).set id z)[id]? = some z := fun z => hset1 ho1 z
  have hbx : (h ++ [some (false, tC ⟨kd, nm, tf, ta⟩)])[h.length]? = some (some (false, tC ⟨kd, nm, tf, ta⟩)) := boxE
  have hbx2 : ∀ z, ((h ++ [some (false, tC ⟨kd, nm, tf, ta⟩)]).set id z)[h.length]? = some (some (false, tC ⟨kd, nm, tf, ta⟩)) := fun z => boxE2 ho
  have hset := setlE ho [some (false, tC ⟨kd, nm, tf, ta⟩)]
  have hid := (List.getElem?_eq_some_iff.1 ho).1
  have n1 : (id = h.length) = False := by simp; omega
  have n2 : (h.length = id) = False := by simp; omega
  have hpart : b = false → _ := fun hb => a_part (h := h ++ [some (false, tC ⟨kd, nm, tf, ta⟩)]) (t := ⟨kd, nm, tf, ta⟩) ho1 hb hl (by show out.length ≤ _; omega) hl3
  have hlay : ∀ m : Int, 0 < m → _ := fun m hm => a_lay (h := h ++ [some (false, tC ⟨kd, nm, tf, ta⟩)]) (m := m) ho1 hm hw.2 hl (by show out.length ≤ _; omega)
  have hrc : ∀ m, (popR m w).reverse.length = (popR m w).length := fun m => List.length_reverse
  have hrl : ∀ m, (popR m w).length ≤ w.length := fun m => (List.dropWhile_suffix _).length_le
  simp only [tC] at ho1 hs1 hbx hbx2 hset hpart hlay ⊢
  cases b with
  | false =>
    refine ACalls.trim (acalls_of mixed J_expr_reader_take_ok (Nat.le_of_ble_eq_true rfl) ?_); simp only [J_expr_reader_take, ho1, hbx, wkr,wk,if_true,if_false,forall_const,implies_true,ne_eq,eq_self,Nat.reduceEqDiff,Nat.reduceAdd,Nat.reduceMul,Nat.reduceSub,Nat.reduceLeDiff,Nat.reduceLT,Int.reduceEq,Int.reduceLT,Int.reduceLE,Int.reduceAdd,Int.reduceSub,Int.reduceMul,Int.reduceNeg,Int.reduceNe,reduceCtorEq,Int.reduceToNat,↓reduceIte]
    refine ACalls.use (hpart rfl) ?_; rintro _ _ ⟨rfl, rfl⟩; simp only [wkr,wk,if_true,if_false,forall_const,implies_true,ne_eq,eq_self,Nat.reduceEqDiff,Nat.reduceAdd,Nat.reduceMul,Nat.reduceSub,Nat.reduceLeDiff,Nat.reduceLT,Int.reduceEq,Int.reduceLT,Int.reduceLE,Int.reduceAdd,Int.reduceSub,Int.reduceMul,Int.reduceNeg,Int.reduceNe,reduceCtorEq,Int.reduceToNat,↓reduceIte]
    rw [hset]
    exact trimR1
  | true =>
    by_cases hk : 0 < bindK kd
    · have hk1 := bind_pos hk
      obtain ⟨g1, g2⟩ := take_inr (r := ⟨out, w, n, true⟩) (t := ⟨kd, nm, tf, ta⟩) (r' := ⟨out ++ (popL (bindK kd) w).map sgn, kd :: popR (bindK kd) w, n, false⟩) (by
        unfold takeR; rw [if_neg (by simp), if_pos hk])
      have hla := hlay _ hk
      simp only [layR, rob] at hla
      have qb := p_bind kd
      rw [bindP_ne (bind_ne hk).1] at qb
      have hrl2 := hrl (bindK kd)
      have hrc2 := hrc (bindK kd)
      rw [g1, g2]
      rcases hk1 with rfl | rfl | rfl | rfl
      all_goals
        refine ACalls.trim (acalls_of mixed J_expr_reader_take_ok (Nat.le_of_ble_eq_true rfl) ?_); simp only [J_expr_reader_take, ho1, hbx, wkr,wk,if_true,if_false,forall_const,implies_true,ne_eq,eq_self,Nat.reduceEqDiff,Nat.reduceAdd,Nat.reduceMul,Nat.reduceSub,Nat.reduceLeDiff,Nat.reduceLT,Int.reduceEq,Int.reduceLT,Int.reduceLE,Int.reduceAdd,Int.reduceSub,Int.reduceMul,Int.reduceNeg,Int.reduceNe,reduceCtorEq,Int.reduceToNat,↓reduceIte]
        simp only [J_expr_reader_take_j2, hbx, wkr,wk,if_true,if_false,forall_const,implies_true,ne_eq,eq_self,Nat.reduceEqDiff,Nat.reduceAdd,Nat.reduceMul,Nat.reduceSub,Nat.reduceLeDiff,Nat.reduceLT,Int.reduceEq,Int.reduceLT,Int.reduceLE,Int.reduceAdd,Int.reduceSub,Int.reduceMul,Int.reduceNeg,Int.reduceNe,reduceCtorEq,Int.reduceToNat,↓reduceIte]
        refine PCalls.use (qb) ?_; simp only [wkr,wk,if_true,if_false,forall_const,implies_true,ne_eq,eq_self,Nat.reduceEqDiff,Nat.reduceAdd,Nat.reduceMul,Nat.reduceSub,Nat.reduceLeDiff,Nat.reduceLT,Int.reduceEq,Int.reduceLT,Int.reduceLE,Int.reduceAdd,Int.reduceSub,Int.reduceMul,Int.reduceNeg,Int.reduceNe,reduceCtorEq,Int.reduceToNat,↓reduceIte]
        refine ACalls.use (hla) ?_; rintro _ _ ⟨rfl, rfl⟩; simp only [wkr,wk,if_true,if_false,forall_const,implies_true,ne_eq,eq_self,Nat.reduceEqDiff,Nat.reduceAdd,Nat.reduceMul,Nat.reduceSub,Nat.reduceLeDiff,Nat.reduceLT,Int.reduceEq,Int.reduceLT,Int.reduceLE,Int.reduceAdd,Int.reduceSub,Int.reduceMul,Int.reduceNeg,Int.reduceNe,reduceCtorEq,Int.reduceToNat,↓reduceIte, ho1, hbx, hbx2, hs1, n1, n2]
        simp only [J_expr_reader_take_j1, wkr,wk,if_true,if_false,forall_const,implies_true,ne_eq,eq_self,Nat.reduceEqDiff,Nat.reduceAdd,Nat.reduceMul,Nat.reduceSub,Nat.reduceLeDiff,Nat.reduceLT,Int.reduceEq,Int.reduceLT,Int.reduceLE,Int.reduceAdd,Int.reduceSub,Int.reduceMul,Int.reduceNeg,Int.reduceNe,reduceCtorEq,Int.reduceToNat,↓reduceIte]
        refine ⟨⟨by omega, by omega⟩, ?_⟩
        rw [hset, rob_eq ⟨out ++ (popL _ w).map sgn, _ :: popR _ w, n, false⟩ rfl rfl List.reverse_cons.symm rfl rfl]
        exact trimR1
    · have nb : ∀ k : Int, 0 < bindK k → (kd = k) = False := fun k hk2 => by simp; rintro rfl; exact hk hk2
      have e2 := nb 2 (by decide)
      have e3 := nb 3 (by decide)
      have e4 := nb 4 (by decide)
      have e5 := nb 5 (by decide)
      by_cases k7 : kd = 7
      · subst k7
        by_cases hn : n = 0
        · subst hn
          obtain ⟨g1, g2⟩ := take_inl (r := ⟨out, w, 0, true⟩) (t := ⟨7, nm, tf, ta⟩) (e := 2) (by unfold takeR; rw [if_neg (by simp), if_neg hk, if_pos rfl, if_pos rfl])
          refine ACalls.trim (acalls_of mixed J_expr_reader_take_ok (Nat.le_of_ble_eq_true rfl) ?_); simp only [J_expr_reader_take, ho1, hbx, wkr,wk,if_true,if_false,forall_const,implies_true,ne_eq,eq_self,Nat.reduceEqDiff,Nat.reduceAdd,Nat.reduceMul,Nat.reduceSub,Nat.reduceLeDiff,Nat.reduceLT,Int.reduceEq,Int.reduceLT,Int.reduceLE,Int.reduceAdd,Int.reduceSub,Int.reduceMul,Int.reduceNeg,Int.reduceNe,reduceCtorEq,Int.reduceToNat,↓reduceIte]
          simp only [J_expr_reader_take_j2, ho1, hbx, (show (((0 : Nat) : Int) = 0) = True by simp), wkr,wk,if_true,if_false,forall_const,implies_true,ne_eq,eq_self,Nat.reduceEqDiff,Nat.reduceAdd,Nat.reduceMul,Nat.reduceSub,Nat.reduceLeDiff,Nat.reduceLT,Int.reduceEq,Int.reduceLT,Int.reduceLE,Int.reduceAdd,Int.reduceSub,Int.reduceMul,Int.reduceNeg,Int.reduceNe,reduceCtorEq,Int.reduceToNat,↓reduceIte]
          exact trimR0 ho ⟨g1, g2⟩
        · obtain ⟨g1, g2⟩ := take_inr (r := ⟨out, w, n, true⟩) (t := ⟨7, nm, tf, ta⟩) (r' := ⟨out ++ (popL 1 w).map sgn, (popR 1 w).tail, n - 1, true⟩) (by
            unfold takeR; rw [if_neg (by simp), if_neg hk, if_pos rfl, if_neg hn])
          have hla := hlay 1 (by decide)
          simp only [layR, rob] at hla
          refine ACalls.trim (acalls_of mixed J_expr_reader_take_ok (Nat.le_of_ble_eq_true rfl) ?_); simp only [J_expr_reader_take, ho1, hbx, wkr,wk,if_true,if_false,forall_const,implies_true,ne_eq,eq_self,Nat.reduceEqDiff,Nat.reduceAdd,Nat.reduceMul,Nat.reduceSub,Nat.reduceLeDiff,Nat.reduceLT,Int.reduceEq,Int.reduceLT,Int.reduceLE,Int.reduceAdd,Int.reduceSub,Int.reduceMul,Int.reduceNeg,Int.reduceNe,reduceCtorEq,Int.reduceToNat,↓reduceIte]
          simp only [J_expr_reader_take_j2, ho1, hbx, (show ((n : Int) = 0) = False by simp; omega), wkr,wk,if_true,if_false,forall_const,implies_true,ne_eq,eq_self,Nat.reduceEqDiff,Nat.reduceAdd,Nat.reduceMul,Nat.reduceSub,Nat.reduceLeDiff,Nat.reduceLT,Int.reduceEq,Int.reduceLT,Int.reduceLE,Int.reduceAdd,Int.reduceSub,Int.reduceMul,Int.reduceNeg,Int.reduceNe,reduceCtorEq,Int.reduceToNat,↓reduceIte]
          refine ACalls.use (hla) ?_; rintro _ _ ⟨rfl, rfl⟩; simp only [wkr,wk,if_true,if_false,forall_const,implies_true,ne_eq,eq_self,Nat.reduceEqDiff,Nat.reduceAdd,Nat.reduceMul,Nat.reduceSub,Nat.reduceLeDiff,Nat.reduceLT,Int.reduceEq,Int.reduceLT,Int.reduceLE,Int.reduceAdd,Int.reduceSub,Int.reduceMul,Int.reduceNeg,Int.reduceNe,reduceCtorEq,Int.reduceToNat,↓reduceIte, ho1, hbx, hbx2, hs1, n1, n2]
          intro v
          obtain ⟨R, e1, _⟩ := popR_close (P := w) (by have := hw.1; simp only at this; omega) hw.2
          have hR := hrl 1
          rw [e1] at hR g2
          rw [List.length_cons] at hR
          have q1 : (6 :: R).reverse.length = R.length + 1 := by simp
          have q2 : (((6 :: R).reverse.length : Int) - 1).toNat = R.length := by omega
          have q3 : (6 :: R).reverse.take R.length = R.reverse := by
            have := List.take_left (l₁ := R.reverse) (l₂ := [6])
            rw [List.length_reverse] at this
            rw [List.reverse_cons]; exact this
          rw [e1, q2, q3]
          refine ⟨inR_of (by omega) (by omega), ⟨by omega, by omega⟩, by omega, inR_of (by omega) (by omega), ?_⟩
          simp only [J_expr_reader_take_j1, wkr,wk,if_true,if_false,forall_const,implies_true,ne_eq,eq_self,Nat.reduceEqDiff,Nat.reduceAdd,Nat.reduceMul,Nat.reduceSub,Nat.reduceLeDiff,Nat.reduceLT,Int.reduceEq,Int.reduceLT,Int.reduceLE,Int.reduceAdd,Int.reduceSub,Int.reduceMul,Int.reduceNeg,Int.reduceNe,reduceCtorEq,Int.reduceToNat,↓reduceIte]
          rw [hset, rob_eq ⟨out ++ (popL 1 w).map sgn, R, n - 1, true⟩ rfl rfl rfl (by show (n : Int) - 1 = ((n - 1 : Nat) : Int); omega) rfl, g1, g2]
          exact trimR rfl
      · have e7 : (kd = 7) = False := by simpa using k7
        refine ACalls.trim (acalls_of mixed J_expr_reader_take_ok (Nat.le_of_ble_eq_true rfl) ?_); simp only [J_expr_reader_take, ho1, hbx, e2, e3, e4, e5, wkr,wk,if_true,if_false,forall_const,implies_true,ne_eq,eq_self,Nat.reduceEqDiff,Nat.reduceAdd,Nat.reduceMul,Nat.reduceSub,Nat.reduceLeDiff,Nat.reduceLT,Int.reduceEq,Int.reduceLT,Int.reduceLE,Int.reduceAdd,Int.reduceSub,Int.reduceMul,Int.reduceNeg,Int.reduceNe,reduceCtorEq,Int.reduceToNat,↓reduceIte]
        simp only [J_expr_reader_take_j2, ho1, hbx, e7, wkr,wk,if_true,if_false,forall_const,implies_true,ne_eq,eq_self,Nat.reduceEqDiff,Nat.reduceAdd,Nat.reduceMul,Nat.reduceSub,Nat.reduceLeDiff,Nat.reduceLT,Int.reduceEq,Int.reduceLT,Int.reduceLE,Int.reduceAdd,Int.reduceSub,Int.reduceMul,Int.reduceNeg,Int.reduceNe,reduceCtorEq,Int.reduceToNat,↓reduceIte]
        exact trimR0 ho (take_inl (by unfold takeR; rw [if_neg (by simp), if_neg hk, if_neg k7]))
end Go.Proofs.Ytmbijfcjfhdnjaa
