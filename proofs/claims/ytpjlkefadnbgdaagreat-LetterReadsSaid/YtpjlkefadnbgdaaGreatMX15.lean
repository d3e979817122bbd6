/- Texts of one proof, laid together: Po Pi Pj Pb Pc Az In FnR Pr Inr Aw FnM. -/
import Derived.Test.YtpjlkefadnbgdaaGreatMX14
import Derived.Test.YtpjlkefadnbgdaaGreatProg
import Derived.Test.YtpjlkefadnbgdaaGreatMX13

/- What pack's Out and its reference do, over the abstract code. -/
namespace Go.Proofs.YtpjlkefadnbgdaaGreat
set_option linter.unusedSimpArgs false
set_option linter.unusedVariables false
open Go.RowKit Go.Lib

theorem hset {h : Hp} {id : Nat} {y : Option (Bool × List AV)} (ho : h[id]? = some y) (x : Option (Bool × List AV)) : (h.set id x)[id]? = some x := by
  have : id < h.length := (List.getElem?_eq_some_iff.1 ho).1
  rw [List.getElem?_set_self this]
theorem hself {h : Hp} {id : Nat} {y : Option (Bool × List AV)} (ho : h[id]? = some y) : h.set id y = h := by
  obtain ⟨h1, h2⟩ := List.getElem?_eq_some_iff.1 ho
  rw [← h2, List.set_getElem_self]

def eI : Bool → Int
  | true => 2
  | false => 0
theorem a_well {h : Hp} {id : Nat} {fl bad : Bool} {rest : List AV} (ho : h[id]? = some (some (fl, .int .i64 (eI bad) :: rest))) :
    ACalls Tryz.prog 91 [.ptr id 0] h (fun a h' => a = .bool (!bad) ∧ h = h') := by
  refine acalls_of mixed F_pack_met_well_ok (Nat.le_of_ble_eq_true rfl) ?_; simp only [F_pack_met_well, wk,if_true,if_false,forall_const,implies_true,ne_eq,eq_self,Nat.reduceEqDiff,Nat.reduceAdd,Nat.reduceMul,Nat.reduceSub,Nat.reduceLeDiff,Nat.reduceLT,Int.reduceEq,Int.reduceLT,Int.reduceLE,Int.reduceAdd,Int.reduceSub,Int.reduceMul,Int.reduceNeg,Int.reduceNe,reduceCtorEq,Int.reduceToNat,↓reduceIte]
  simp only [wk,if_true,if_false,forall_const,implies_true,ne_eq,eq_self,Nat.reduceEqDiff,Nat.reduceAdd,Nat.reduceMul,Nat.reduceSub,Nat.reduceLeDiff,Nat.reduceLT,Int.reduceEq,Int.reduceLT,Int.reduceLE,Int.reduceAdd,Int.reduceSub,Int.reduceMul,Int.reduceNeg,Int.reduceNe,reduceCtorEq,Int.reduceToNat,↓reduceIte, ho]
  cases bad <;> rfl
theorem a_fail {h : Hp} {id : Nat} {bad : Bool} {rest : List AV} (ho : h[id]? = some (some (false, .int .i64 (eI bad) :: rest))) :
    ACalls Tryz.prog 90 [.ptr id 0] h (fun a h' => a = .tup [] ∧ h' = h.set id (some (false, .int .i64 (eI true) :: rest))) := by
  refine acalls_of mixed F_pack_met_fail_ok (Nat.le_of_ble_eq_true rfl) ?_; simp only [F_pack_met_fail, wk,if_true,if_false,forall_const,implies_true,ne_eq,eq_self,Nat.reduceEqDiff,Nat.reduceAdd,Nat.reduceMul,Nat.reduceSub,Nat.reduceLeDiff,Nat.reduceLT,Int.reduceEq,Int.reduceLT,Int.reduceLE,Int.reduceAdd,Int.reduceSub,Int.reduceMul,Int.reduceNeg,Int.reduceNe,reduceCtorEq,Int.reduceToNat,↓reduceIte]
  refine ACalls.use (a_well ho) ?_; rintro _ _ ⟨rfl, rfl⟩; simp only [wk,if_true,if_false,forall_const,implies_true,ne_eq,eq_self,Nat.reduceEqDiff,Nat.reduceAdd,Nat.reduceMul,Nat.reduceSub,Nat.reduceLeDiff,Nat.reduceLT,Int.reduceEq,Int.reduceLT,Int.reduceLE,Int.reduceAdd,Int.reduceSub,Int.reduceMul,Int.reduceNeg,Int.reduceNe,reduceCtorEq,Int.reduceToNat,↓reduceIte]
  simp only [wk,if_true,if_false,forall_const,implies_true,ne_eq,eq_self,Nat.reduceEqDiff,Nat.reduceAdd,Nat.reduceMul,Nat.reduceSub,Nat.reduceLeDiff,Nat.reduceLT,Int.reduceEq,Int.reduceLT,Int.reduceLE,Int.reduceAdd,Int.reduceSub,Int.reduceMul,Int.reduceNeg,Int.reduceNe,reduceCtorEq,Int.reduceToNat,↓reduceIte, ho]
  refine ⟨fun h0 => ?_, fun h0 => ?_⟩
  · rfl
  · subst h0; rw [hself ho]

abbrev oObj (s : Bool × List UInt8) : Option (Bool × List AV) := some (false, [.int .i64 (eI s.1), .lst (.own 5) s.2.length (u8s s.2)])
def wri (ok : Bool) (add : List UInt8) (s : Bool × List UInt8) : Bool × List UInt8 := if s.1 then s else if ok then (false, s.2 ++ add) else (true, s.2)
def okNum (z : Int) : Bool := decide (0 ≤ z ∧ z ≤ 4611686018427387904)
theorem or_128 (m : Nat) : bitV .or .u8 (IntKind.u8.wrap (m : Int)) 128 = ((UInt8.ofNat (m % 128 + 128)).toNat : Int) := by
  have e1 : IntKind.u8.wrap (m : Int) = ((m % 256 : Nat) : Int) := by rw [IntKind.wrap_u8]; omega
  rw [e1]
  show bits .or .u8 _ ((128 : Nat) : Int) = _
  rw [u8_or_nat _ _ (by omega) (by omega)]
  have : m % 256 ||| 128 = m % 128 + 128 := by
    by_cases hb : m % 256 < 128
    · rw [Nat.or_comm, nat_join 7 128 (m % 256) (by omega) (by omega)]; omega
    · have h1 : m % 256 = 128 ||| (m % 128) := by rw [nat_join 7 128 (m % 128) (by omega) (by omega)]; omega
      rw [h1, Nat.or_comm, ← Nat.or_assoc, Nat.or_self, nat_join 7 128 (m % 128) (by omega) (by omega)]; omega
  rw [this]; simp only [UInt8.toNat_ofNat']; omega
theorem shr_7 (m : Nat) : (m : Int).fdiv (2 ^ (min 7 IntKind.i64.bits)) = ((m / 128 : Nat) : Int) := by
  rw [show (min 7 IntKind.i64.bits) = 7 by decide, Int.fdiv_eq_ediv_of_nonneg _ (by omega)]; omega
theorem wri_bad {ok : Bool} {add bs : List UInt8} : wri ok add (true, bs) = (true, bs) := rfl
theorem wri_not {add bs : List UInt8} {bad : Bool} : wri false add (bad, bs) = (true, bs) := by cases bad <;> rfl
theorem wri_yes {add bs : List UInt8} : wri true add (false, bs) = (false, bs ++ add) := rfl
set_option maxHeartbeats 1000000 in
theorem a_onum {h : Hp} {id : Nat} {s : Bool × List UInt8} (z : Int) (ho : h[id]? = some (oObj s)) (hl : s.2.length ≤ 1000000000000) :
    ACalls Tryz.prog 43 [.ptr id 0, .int .i64 z] h (fun a h' => a = .tup [] ∧ h' = h.set id (oObj (wri (okNum z) (num z.toNat) s))) := by
  obtain ⟨bad, bs⟩ := s
  simp only [oObj] at ho hl ⊢
  refine acalls_of mixed F_pack_Out_Num_ok (Nat.le_of_ble_eq_true rfl) ?_; simp only [F_pack_Out_Num, wk,if_true,if_false,forall_const,implies_true,ne_eq,eq_self,Nat.reduceEqDiff,Nat.reduceAdd,Nat.reduceMul,Nat.reduceSub,Nat.reduceLeDiff,Nat.reduceLT,Int.reduceEq,Int.reduceLT,Int.reduceLE,Int.reduceAdd,Int.reduceSub,Int.reduceMul,Int.reduceNeg,Int.reduceNe,reduceCtorEq,Int.reduceToNat,↓reduceIte]
  refine ⟨fun h0 => ⟨fun h1 => ?_, fun h1 => ?_⟩, fun h0 => ?_⟩
  · refine ACalls.use (a_fail ho) ?_; rintro _ _ ⟨rfl, rfl⟩; simp only [wk,if_true,if_false,forall_const,implies_true,ne_eq,eq_self,Nat.reduceEqDiff,Nat.reduceAdd,Nat.reduceMul,Nat.reduceSub,Nat.reduceLeDiff,Nat.reduceLT,Int.reduceEq,Int.reduceLT,Int.reduceLE,Int.reduceAdd,Int.reduceSub,Int.reduceMul,Int.reduceNeg,Int.reduceNe,reduceCtorEq,Int.reduceToNat,↓reduceIte, hset ho]
    refine ACalls.use (a_well (hset ho _)) ?_; rintro _ _ ⟨rfl, rfl⟩; simp only [wk,if_true,if_false,forall_const,implies_true,ne_eq,eq_self,Nat.reduceEqDiff,Nat.reduceAdd,Nat.reduceMul,Nat.reduceSub,Nat.reduceLeDiff,Nat.reduceLT,Int.reduceEq,Int.reduceLT,Int.reduceLE,Int.reduceAdd,Int.reduceSub,Int.reduceMul,Int.reduceNeg,Int.reduceNe,reduceCtorEq,Int.reduceToNat,↓reduceIte, hset ho]
    rw [show okNum z = false by unfold okNum; rw [decide_eq_false_iff_not]; omega, wri_not]
  · refine ACalls.use (a_well ho) ?_; rintro _ _ ⟨rfl, rfl⟩; simp only [wk,if_true,if_false,forall_const,implies_true,ne_eq,eq_self,Nat.reduceEqDiff,Nat.reduceAdd,Nat.reduceMul,Nat.reduceSub,Nat.reduceLeDiff,Nat.reduceLT,Int.reduceEq,Int.reduceLT,Int.reduceLE,Int.reduceAdd,Int.reduceSub,Int.reduceMul,Int.reduceNeg,Int.reduceNe,reduceCtorEq,Int.reduceToNat,↓reduceIte, ho]
    refine ⟨fun hb => ?_, fun hb => ?_⟩
    · subst hb; rw [wri_bad, hself ho]
    subst hb
    obtain ⟨n, rfl⟩ : ∃ n : Nat, z = n := ⟨z.toNat, by omega⟩
    rw [show okNum (n : Int) = true by unfold okNum; rw [decide_eq_true_eq]; omega, wri_yes]
    have hn9 := num_len9 (n := n) (by omega)
    refine W_loop (fun k fr h' => ∃ (pre : List UInt8) (m : Nat), k = m ∧ m ≤ n ∧ pre ++ num m = num n ∧ fr = [(0, .ptr id 0), (1, .int .i64 m)] ∧ h' = h.set id (oObj (false, bs ++ pre))) n ⟨[], n, rfl, by omega, rfl, rfl, by rw [List.append_nil, hself ho]⟩ ?_
    rintro k fr h' ⟨pre, m, rfl, hm, hpre, rfl, rfl⟩
    have htot : pre.length + (num k).length = (num n).length := by rw [← hpre, List.length_append]
    have hb1 : bs.length + pre.length + 1 ≤ 9223372036854775807 := by omega
    have hla : (bs ++ pre).length = bs.length + pre.length := List.length_append
    simp only [wk,if_true,if_false,forall_const,implies_true,ne_eq,eq_self,Nat.reduceEqDiff,Nat.reduceAdd,Nat.reduceMul,Nat.reduceSub,Nat.reduceLeDiff,Nat.reduceLT,Int.reduceEq,Int.reduceLT,Int.reduceLE,Int.reduceAdd,Int.reduceSub,Int.reduceMul,Int.reduceNeg,Int.reduceNe,reduceCtorEq,Int.reduceToNat,↓reduceIte, oObj]
    refine ⟨fun hge => ?_, fun hlt => ?_⟩
    · have hk := num_ge (n := k) (by omega)
      simp only [wk,if_true,if_false,forall_const,implies_true,ne_eq,eq_self,Nat.reduceEqDiff,Nat.reduceAdd,Nat.reduceMul,Nat.reduceSub,Nat.reduceLeDiff,Nat.reduceLT,Int.reduceEq,Int.reduceLT,Int.reduceLE,Int.reduceAdd,Int.reduceSub,Int.reduceMul,Int.reduceNeg,Int.reduceNe,reduceCtorEq,Int.reduceToNat,↓reduceIte, hset ho]
      (repeat (refine And.intro (by first | omega | exact inR_of (by omega) (by omega) | exact ⟨by omega, by omega⟩ | exact ⟨by omega, by omega, by omega⟩ | rfl) ?_))
      rw [shr_7, or_128]
      refine ⟨k / 128, by omega, pre ++ [UInt8.ofNat (k % 128 + 128)], k / 128, rfl, by omega, ?_, rfl, ?_⟩
      · rw [← hpre, hk]; simp
      · simp [Nat.add_assoc]
    · have hk := num_lt (n := k) (by omega)
      simp only [wk,if_true,if_false,forall_const,implies_true,ne_eq,eq_self,Nat.reduceEqDiff,Nat.reduceAdd,Nat.reduceMul,Nat.reduceSub,Nat.reduceLeDiff,Nat.reduceLT,Int.reduceEq,Int.reduceLT,Int.reduceLE,Int.reduceAdd,Int.reduceSub,Int.reduceMul,Int.reduceNeg,Int.reduceNe,reduceCtorEq,Int.reduceToNat,↓reduceIte, hset ho]
      (repeat (refine And.intro (by first | omega | exact inR_of (by omega) (by omega) | exact ⟨by omega, by omega⟩ | exact ⟨by omega, by omega, by omega⟩ | rfl) ?_))
      have e1 : IntKind.u8.wrap (k : Int) = ((UInt8.ofNat k).toNat : Int) := by rw [IntKind.wrap_u8]; simp only [UInt8.toNat_ofNat']; omega
      rw [e1, Int.toNat_natCast, ← hpre, hk]
      simp [Nat.add_assoc]
  · refine ACalls.use (a_fail ho) ?_; rintro _ _ ⟨rfl, rfl⟩; simp only [wk,if_true,if_false,forall_const,implies_true,ne_eq,eq_self,Nat.reduceEqDiff,Nat.reduceAdd,Nat.reduceMul,Nat.reduceSub,Nat.reduceLeDiff,Nat.reduceLT,Int.reduceEq,Int.reduceLT,Int.reduceLE,Int.reduceAdd,Int.reduceSub,Int.reduceMul,Int.reduceNeg,Int.reduceNe,reduceCtorEq,Int.reduceToNat,↓reduceIte, hset ho]
    refine ACalls.use (a_well (hset ho _)) ?_; rintro _ _ ⟨rfl, rfl⟩; simp only [wk,if_true,if_false,forall_const,implies_true,ne_eq,eq_self,Nat.reduceEqDiff,Nat.reduceAdd,Nat.reduceMul,Nat.reduceSub,Nat.reduceLeDiff,Nat.reduceLT,Int.reduceEq,Int.reduceLT,Int.reduceLE,Int.reduceAdd,Int.reduceSub,Int.reduceMul,Int.reduceNeg,Int.reduceNe,reduceCtorEq,Int.reduceToNat,↓reduceIte, hset ho]
    rw [show okNum z = false by unfold okNum; rw [decide_eq_false_iff_not]; omega, wri_not]
theorem ba_len (s : ByteArray) : s.data.toList.length = s.size := by simp
set_option maxHeartbeats 1000000 in
theorem a_otext {h : Hp} {id : Nat} {s : Bool × List UInt8} (x : ByteArray) (ho : h[id]? = some (oObj s)) (hl : s.2.length ≤ 1000000000000) (hx : x.size ≤ 1000000000000) :
    ACalls Tryz.prog 146 [.ptr id 0, .str x] h (fun a h' => a = .tup [] ∧ h' = h.set id (oObj (wri true (num x.size ++ x.data.toList) s))) := by
  obtain ⟨bad, bs⟩ := s
  refine acalls_of mixed F_pack_Out_Text_ok (Nat.le_of_ble_eq_true rfl) ?_; simp only [F_pack_Out_Text, wk,if_true,if_false,forall_const,implies_true,ne_eq,eq_self,Nat.reduceEqDiff,Nat.reduceAdd,Nat.reduceMul,Nat.reduceSub,Nat.reduceLeDiff,Nat.reduceLT,Int.reduceEq,Int.reduceLT,Int.reduceLE,Int.reduceAdd,Int.reduceSub,Int.reduceMul,Int.reduceNeg,Int.reduceNe,reduceCtorEq,Int.reduceToNat,↓reduceIte]
  refine ACalls.use (a_onum (x.size : Int) ho hl) ?_; rintro _ _ ⟨rfl, rfl⟩; simp only [wk,if_true,if_false,forall_const,implies_true,ne_eq,eq_self,Nat.reduceEqDiff,Nat.reduceAdd,Nat.reduceMul,Nat.reduceSub,Nat.reduceLeDiff,Nat.reduceLT,Int.reduceEq,Int.reduceLT,Int.reduceLE,Int.reduceAdd,Int.reduceSub,Int.reduceMul,Int.reduceNeg,Int.reduceNe,reduceCtorEq,Int.reduceToNat,↓reduceIte, oObj]
  rw [show okNum (x.size : Int) = true by unfold okNum; rw [decide_eq_true_eq]; omega, Int.toNat_natCast]
  refine ACalls.use (a_well (hset ho _)) ?_; rintro _ _ ⟨rfl, rfl⟩; simp only [wk,if_true,if_false,forall_const,implies_true,ne_eq,eq_self,Nat.reduceEqDiff,Nat.reduceAdd,Nat.reduceMul,Nat.reduceSub,Nat.reduceLeDiff,Nat.reduceLT,Int.reduceEq,Int.reduceLT,Int.reduceLE,Int.reduceAdd,Int.reduceSub,Int.reduceMul,Int.reduceNeg,Int.reduceNe,reduceCtorEq,Int.reduceToNat,↓reduceIte, hset ho]
  have hn9 := num_len9 (n := x.size) (by omega)
  cases bad with
  | true => refine ⟨fun hb => (nomatch hb), fun hb => ?_⟩; rfl
  | false =>
    refine ⟨fun hb => ?_, fun hb => (nomatch hb)⟩
    simp only [wri_yes]
    refine ⟨?_, ?_⟩
    · rw [List.length_append]; simp only at hl; omega
    · simp [Nat.add_assoc]
set_option maxHeartbeats 1000000 in
theorem a_oword {h : Hp} {id : Nat} {s : Bool × List UInt8} (x : ByteArray) (ho : h[id]? = some (oObj s)) (hl : s.2.length ≤ 1000000000000) (hx : x.size ≤ 1000000000000) :
    ACalls Tryz.prog 89 [.ptr id 0, .str x] h (fun a h' => a = .tup [] ∧ h' = h.set id (oObj (wri (wordMay x) (wordBytes x) s))) := by
  obtain ⟨bad, bs⟩ := s
  simp only [oObj] at ho hl ⊢
  refine acalls_of mixed F_pack_Out_Word_ok (Nat.le_of_ble_eq_true rfl) ?_; simp only [F_pack_Out_Word, wk,if_true,if_false,forall_const,implies_true,ne_eq,eq_self,Nat.reduceEqDiff,Nat.reduceAdd,Nat.reduceMul,Nat.reduceSub,Nat.reduceLeDiff,Nat.reduceLT,Int.reduceEq,Int.reduceLT,Int.reduceLE,Int.reduceAdd,Int.reduceSub,Int.reduceMul,Int.reduceNeg,Int.reduceNe,reduceCtorEq,Int.reduceToNat,↓reduceIte]
  refine PCalls.use (p_wmay x (by omega)) ?_; simp only [wk,if_true,if_false,forall_const,implies_true,ne_eq,eq_self,Nat.reduceEqDiff,Nat.reduceAdd,Nat.reduceMul,Nat.reduceSub,Nat.reduceLeDiff,Nat.reduceLT,Int.reduceEq,Int.reduceLT,Int.reduceLE,Int.reduceAdd,Int.reduceSub,Int.reduceMul,Int.reduceNeg,Int.reduceNe,reduceCtorEq,Int.reduceToNat,↓reduceIte]
  refine ⟨fun hw => ?_, fun hw => ?_⟩
  · refine ACalls.use (a_fail ho) ?_; rintro _ _ ⟨rfl, rfl⟩; simp only [wk,if_true,if_false,forall_const,implies_true,ne_eq,eq_self,Nat.reduceEqDiff,Nat.reduceAdd,Nat.reduceMul,Nat.reduceSub,Nat.reduceLeDiff,Nat.reduceLT,Int.reduceEq,Int.reduceLT,Int.reduceLE,Int.reduceAdd,Int.reduceSub,Int.reduceMul,Int.reduceNeg,Int.reduceNe,reduceCtorEq,Int.reduceToNat,↓reduceIte, hset ho]
    refine ACalls.use (a_well (hset ho _)) ?_; rintro _ _ ⟨rfl, rfl⟩; simp only [wk,if_true,if_false,forall_const,implies_true,ne_eq,eq_self,Nat.reduceEqDiff,Nat.reduceAdd,Nat.reduceMul,Nat.reduceSub,Nat.reduceLeDiff,Nat.reduceLT,Int.reduceEq,Int.reduceLT,Int.reduceLE,Int.reduceAdd,Int.reduceSub,Int.reduceMul,Int.reduceNeg,Int.reduceNe,reduceCtorEq,Int.reduceToNat,↓reduceIte, hset ho]
    rw [hw, wri_not]
  · refine ACalls.use (a_well ho) ?_; rintro _ _ ⟨rfl, rfl⟩; simp only [wk,if_true,if_false,forall_const,implies_true,ne_eq,eq_self,Nat.reduceEqDiff,Nat.reduceAdd,Nat.reduceMul,Nat.reduceSub,Nat.reduceLeDiff,Nat.reduceLT,Int.reduceEq,Int.reduceLT,Int.reduceLE,Int.reduceAdd,Int.reduceSub,Int.reduceMul,Int.reduceNeg,Int.reduceNe,reduceCtorEq,Int.reduceToNat,↓reduceIte, ho]
    refine ⟨fun hb => ?_, fun hb => ?_⟩
    · subst hb
      refine ⟨_, p_wlen x (by omega), ?_⟩; simp only [wk,if_true,if_false,forall_const,implies_true,ne_eq,eq_self,Nat.reduceEqDiff,Nat.reduceAdd,Nat.reduceMul,Nat.reduceSub,Nat.reduceLeDiff,Nat.reduceLT,Int.reduceEq,Int.reduceLT,Int.reduceLE,Int.reduceAdd,Int.reduceSub,Int.reduceMul,Int.reduceNeg,Int.reduceNe,reduceCtorEq,Int.reduceToNat,↓reduceIte]
      simp only [wk,if_true,if_false,forall_const,implies_true,ne_eq,eq_self,Nat.reduceEqDiff,Nat.reduceAdd,Nat.reduceMul,Nat.reduceSub,Nat.reduceLeDiff,Nat.reduceLT,Int.reduceEq,Int.reduceLT,Int.reduceLE,Int.reduceAdd,Int.reduceSub,Int.reduceMul,Int.reduceNeg,Int.reduceNe,reduceCtorEq,Int.reduceToNat,↓reduceIte, hset ho]
      (repeat (refine And.intro (by first | omega | exact inR_of (by omega) (by omega) | exact ⟨by omega, by omega⟩ | exact ⟨by omega, by omega, by omega⟩ | rfl) ?_))
      rw [hw, wri_yes]
      have e1 : IntKind.u8.wrap ((x.size / 2 : Nat) : Int) = ((UInt8.ofNat (x.size / 2)).toNat : Int) := by rw [IntKind.wrap_u8]; simp only [UInt8.toNat_ofNat']; omega
      rw [e1]
      rw [Nat.add_assoc]
      simp [wordBytes, Nat.add_comm]
    · subst hb; rw [wri_bad, hself ho]
theorem setMay_word {l : List ByteArray} (h : setMay l = true) : ∀ x ∈ l, wordMay x = true := (setMay_words h).2
set_option maxHeartbeats 1000000 in
theorem a_oset {h : Hp} {id : Nat} {s : Bool × List UInt8} (l : List ByteArray) (ho : h[id]? = some (oObj s)) (hl : s.2.length ≤ 1000000000) (hx : l.length ≤ 10000) (hs : ∀ x ∈ l, x.size ≤ 10000) :
    ACalls Tryz.prog 147 [.ptr id 0, .lst .ro l.length (l.map .str)] h (fun a h' => a = .tup [] ∧ h' = h.set id (oObj (wri (setMay l) (setBytes l) s))) := by
  obtain ⟨bad, bs⟩ := s
  simp only [oObj] at ho hl ⊢
  refine acalls_of mixed F_pack_Out_Set_ok (Nat.le_of_ble_eq_true rfl) ?_; simp only [F_pack_Out_Set, wk,if_true,if_false,forall_const,implies_true,ne_eq,eq_self,Nat.reduceEqDiff,Nat.reduceAdd,Nat.reduceMul,Nat.reduceSub,Nat.reduceLeDiff,Nat.reduceLT,Int.reduceEq,Int.reduceLT,Int.reduceLE,Int.reduceAdd,Int.reduceSub,Int.reduceMul,Int.reduceNeg,Int.reduceNe,reduceCtorEq,Int.reduceToNat,↓reduceIte]
  refine PCalls.use (p_smay l (by omega) (fun x h => by have := hs x h; omega)) ?_; simp only [wk,if_true,if_false,forall_const,implies_true,ne_eq,eq_self,Nat.reduceEqDiff,Nat.reduceAdd,Nat.reduceMul,Nat.reduceSub,Nat.reduceLeDiff,Nat.reduceLT,Int.reduceEq,Int.reduceLT,Int.reduceLE,Int.reduceAdd,Int.reduceSub,Int.reduceMul,Int.reduceNeg,Int.reduceNe,reduceCtorEq,Int.reduceToNat,↓reduceIte]
  refine ⟨fun hw => ?_, fun hw => ?_⟩
  · refine ACalls.use (a_fail ho) ?_; rintro _ _ ⟨rfl, rfl⟩; simp only [wk,if_true,if_false,forall_const,implies_true,ne_eq,eq_self,Nat.reduceEqDiff,Nat.reduceAdd,Nat.reduceMul,Nat.reduceSub,Nat.reduceLeDiff,Nat.reduceLT,Int.reduceEq,Int.reduceLT,Int.reduceLE,Int.reduceAdd,Int.reduceSub,Int.reduceMul,Int.reduceNeg,Int.reduceNe,reduceCtorEq,Int.reduceToNat,↓reduceIte, hset ho]
    refine ACalls.use (a_well (hset ho _)) ?_; rintro _ _ ⟨rfl, rfl⟩; simp only [wk,if_true,if_false,forall_const,implies_true,ne_eq,eq_self,Nat.reduceEqDiff,Nat.reduceAdd,Nat.reduceMul,Nat.reduceSub,Nat.reduceLeDiff,Nat.reduceLT,Int.reduceEq,Int.reduceLT,Int.reduceLE,Int.reduceAdd,Int.reduceSub,Int.reduceMul,Int.reduceNeg,Int.reduceNe,reduceCtorEq,Int.reduceToNat,↓reduceIte, hset ho]
    rw [hw, wri_not]
  · refine ACalls.use (a_well ho) ?_; rintro _ _ ⟨rfl, rfl⟩; simp only [wk,if_true,if_false,forall_const,implies_true,ne_eq,eq_self,Nat.reduceEqDiff,Nat.reduceAdd,Nat.reduceMul,Nat.reduceSub,Nat.reduceLeDiff,Nat.reduceLT,Int.reduceEq,Int.reduceLT,Int.reduceLE,Int.reduceAdd,Int.reduceSub,Int.reduceMul,Int.reduceNeg,Int.reduceNe,reduceCtorEq,Int.reduceToNat,↓reduceIte, ho]
    refine ⟨fun hb => ?_, fun hb => ?_⟩
    · subst hb; rw [wri_bad, hself ho]
    · subst hb
      simp only [wk,if_true,if_false,forall_const,implies_true,ne_eq,eq_self,Nat.reduceEqDiff,Nat.reduceAdd,Nat.reduceMul,Nat.reduceSub,Nat.reduceLeDiff,Nat.reduceLT,Int.reduceEq,Int.reduceLT,Int.reduceLE,Int.reduceAdd,Int.reduceSub,Int.reduceMul,Int.reduceNeg,Int.reduceNe,reduceCtorEq,Int.reduceToNat,↓reduceIte, hset ho]
      (repeat (refine And.intro (by first | omega | exact inR_of (by omega) (by omega) | exact ⟨by omega, by omega⟩ | exact ⟨by omega, by omega, by omega⟩ | rfl) ?_))
      have e1 : IntKind.u8.wrap ((l.length : Nat) : Int) = ((UInt8.ofNat l.length).toNat : Int) := by rw [IntKind.wrap_u8]; simp only [UInt8.toNat_ofNat']; omega
      rw [e1]
      have hlen : ∀ i, ((l.take i).flatMap wordBytes).length ≤ 20000 * i := by
        intro i
        induction i with
        | zero => simp
        | succ i ih =>
          by_cases h : i < l.length
          · rw [List.take_succ_eq_append_getElem h, List.flatMap_append, List.length_append]
            have := hs l[i] (List.getElem_mem h)
            have e : l[i].data.toList.length = l[i].size := by simp
            simp only [List.flatMap_cons, List.flatMap_nil, List.append_nil, wordBytes, List.length_cons, e]; omega
          · rw [List.take_of_length_le (by omega)] at ih ⊢; omega
      refine W_loop (fun k fr h' => ∃ i : Nat, i ≤ l.length ∧ k = l.length - i ∧ fr = [(0, .ptr id 0), (30, .lst .ro l.length (l.map .str)), (31, .int .i64 l.length), (32, .int .i64 i)] ∧ h' = h.set id (oObj (false, bs ++ UInt8.ofNat l.length :: (l.take i).flatMap wordBytes))) l.length ⟨0, by omega, by omega, rfl, by simp [oObj]⟩ ?_
      rintro k fr h' ⟨i, hi, rfl, rfl, rfl⟩
      simp only [wk,if_true,if_false,forall_const,implies_true,ne_eq,eq_self,Nat.reduceEqDiff,Nat.reduceAdd,Nat.reduceMul,Nat.reduceSub,Nat.reduceLeDiff,Nat.reduceLT,Int.reduceEq,Int.reduceLT,Int.reduceLE,Int.reduceAdd,Int.reduceSub,Int.reduceMul,Int.reduceNeg,Int.reduceNe,reduceCtorEq,Int.reduceToNat,↓reduceIte]
      refine ⟨fun hlt => ?_, fun hge => ?_⟩
      · have hil : i < l.length := by omega
        refine ⟨⟨by omega, hlt⟩, ?_⟩
        rw [show (i : Int).toNat = i by omega, drop_str hil]
        simp only [wk,if_true,if_false,forall_const,implies_true,ne_eq,eq_self,Nat.reduceEqDiff,Nat.reduceAdd,Nat.reduceMul,Nat.reduceSub,Nat.reduceLeDiff,Nat.reduceLT,Int.reduceEq,Int.reduceLT,Int.reduceLE,Int.reduceAdd,Int.reduceSub,Int.reduceMul,Int.reduceNeg,Int.reduceNe,reduceCtorEq,Int.reduceToNat,↓reduceIte]
        have h1 := hlen i
        have h2 := hs l[i] (List.getElem_mem hil)
        refine ACalls.use (a_oword l[i] (hset ho _) (by simp only [List.length_append, List.length_cons]; omega) (by omega)) ?_; rintro _ _ ⟨rfl, rfl⟩; simp only [wk,if_true,if_false,forall_const,implies_true,ne_eq,eq_self,Nat.reduceEqDiff,Nat.reduceAdd,Nat.reduceMul,Nat.reduceSub,Nat.reduceLeDiff,Nat.reduceLT,Int.reduceEq,Int.reduceLT,Int.reduceLE,Int.reduceAdd,Int.reduceSub,Int.reduceMul,Int.reduceNeg,Int.reduceNe,reduceCtorEq,Int.reduceToNat,↓reduceIte]
        refine ⟨inR_of (by omega) (by omega), l.length - (i + 1), by omega, i + 1, by omega, rfl, rfl, ?_⟩
        rw [setMay_word hw _ (List.getElem_mem hil), wri_yes, List.take_succ_eq_append_getElem hil, List.flatMap_append]
        simp
      · have : i = l.length := by omega
        subst this
        rw [hw, wri_yes, List.take_length, setBytes]
theorem words_len (l : List ByteArray) (hs : ∀ x ∈ l, x.size ≤ 1000) : (l.flatMap wordBytes).length ≤ 1001 * l.length := by
  induction l with
  | nil => simp
  | cons x l ih =>
    have h1 := ih (fun y hy => hs y (List.mem_cons_of_mem _ hy))
    have h2 := hs x List.mem_cons_self
    rw [List.flatMap_cons, List.length_append, wordBytes, List.length_cons, ba_len, List.length_cons]; omega
theorem setBytes_len (l : List ByteArray) (hl : l.length ≤ 1000) (hs : ∀ x ∈ l, x.size ≤ 1000) : (setBytes l).length ≤ 1002000 := by
  have := words_len l hs
  rw [setBytes, List.length_cons]; omega
def told (s : Bool × List UInt8) : AV := .tup [.str (if s.1 then ⟨#[]⟩ else ⟨s.2.toArray⟩), .int .i64 (eI s.1)]
theorem a_odone {h : Hp} {id : Nat} {s : Bool × List UInt8} (ho : h[id]? = some (oObj s)) :
    ACalls Tryz.prog 44 [.ptr id 0] h (fun a h' => a = told s ∧ h = h') := by
  obtain ⟨bad, bs⟩ := s
  simp only [oObj] at ho ⊢
  refine acalls_of mixed F_pack_Out_Done_ok (Nat.le_of_ble_eq_true rfl) ?_; simp only [F_pack_Out_Done, wk,if_true,if_false,forall_const,implies_true,ne_eq,eq_self,Nat.reduceEqDiff,Nat.reduceAdd,Nat.reduceMul,Nat.reduceSub,Nat.reduceLeDiff,Nat.reduceLT,Int.reduceEq,Int.reduceLT,Int.reduceLE,Int.reduceAdd,Int.reduceSub,Int.reduceMul,Int.reduceNeg,Int.reduceNe,reduceCtorEq,Int.reduceToNat,↓reduceIte]
  refine ACalls.use (a_well ho) ?_; rintro _ _ ⟨rfl, rfl⟩; simp only [wk,if_true,if_false,forall_const,implies_true,ne_eq,eq_self,Nat.reduceEqDiff,Nat.reduceAdd,Nat.reduceMul,Nat.reduceSub,Nat.reduceLeDiff,Nat.reduceLT,Int.reduceEq,Int.reduceLT,Int.reduceLE,Int.reduceAdd,Int.reduceSub,Int.reduceMul,Int.reduceNeg,Int.reduceNe,reduceCtorEq,Int.reduceToNat,↓reduceIte, ho]
  cases bad with
  | true => exact ⟨fun _ => rfl, fun hb => (nomatch hb)⟩
  | false => exact ⟨fun hb => (nomatch hb), fun _ => ⟨bs, rfl, rfl, rfl⟩⟩

theorem ba_size (l : List UInt8) : (⟨l.toArray⟩ : ByteArray).size = l.length := by show l.toArray.size = _; simp
end Go.Proofs.YtpjlkefadnbgdaaGreat

/- What pack's In does, over the abstract code. -/
namespace Go.Proofs.YtpjlkefadnbgdaaGreat
set_option linter.unusedSimpArgs false
set_option linter.unusedVariables false
open Go.RowKit Go.Lib

abbrev iObj (S : ByteArray) (s : Bool × Nat) : Option (Bool × List AV) := some (false, [.int .i64 (eI s.1), .str S, .int .i64 s.2])
abbrev jObj (S : ByteArray) (s : Bool × Nat) : Option (Bool × List AV) := some (false, [.str S, .int .i64 s.2, .bool s.1])
theorem wrap_small {z : Int} (h0 : 0 ≤ z) (h1 : z ≤ 4611686018427387904) : IntKind.i64.wrap z = z := by
  rw [IntKind.wrap_i64]; omega
def nums : Option (Nat × Nat) → AV
  | some (n, m) => .tup [.int .i64 n, .int .i64 m]
  | none => .tup [.int .i64 0, .int .i64 0]
theorem and_127 (c : Nat) (h : c < 256) : bitV .and .u8 (c : Int) 127 = ((c % 128 : Nat) : Int) := by
  show bits .and .u8 _ ((127 : Nat) : Int) = _
  rw [u8_and_nat _ _ h (by omega), nat_mask7]
theorem shl_7k (c k : Nat) (hk : k ≤ 8) (hc : c < 128) : IntKind.u64.wrap (IntKind.u64.wrap (c : Int) * 2 ^ (min (7 * (k : Int)).toNat IntKind.u64.bits)) = ((c * 128 ^ k : Nat) : Int) := by
  have e0 : min (7 * (k : Int)).toNat IntKind.u64.bits = 7 * k := by rw [show IntKind.u64.bits = 64 by decide]; omega
  have e1 : IntKind.u64.wrap (c : Int) = c := by rw [IntKind.wrap_u64]; omega
  have e2 : (2 : Int) ^ (7 * k) = ((128 ^ k : Nat) : Int) := by rw [show (128 : Nat) = 2 ^ 7 by rfl, ← Nat.pow_mul]; simp
  have e3 : c * 128 ^ k < 18446744073709551616 := by
    have h1 : 128 ^ k ≤ 128 ^ 8 := Nat.pow_le_pow_right (by omega) hk
    have h2 : c * 128 ^ k ≤ 127 * 128 ^ 8 := Nat.mul_le_mul (by omega) h1
    omega
  rw [e0, e1, e2, IntKind.wrap_u64]
  rw [← Int.natCast_mul]; omega
theorem or_acc (a c k : Nat) (hk : k ≤ 8) (hc : c < 128) (ha : a < 128 ^ k) : bitV .or .u64 (a : Int) ((c * 128 ^ k : Nat) : Int) = ((a + c * 128 ^ k : Nat) : Int) := by
  have h1 : 128 ^ k ≤ 128 ^ 8 := Nat.pow_le_pow_right (by omega) hk
  have h2 : c * 128 ^ k ≤ 127 * 128 ^ 8 := Nat.mul_le_mul (by omega) h1
  have e : 128 ^ k = 2 ^ (7 * k) := by rw [Nat.pow_mul]
  show bits .or .u64 _ _ = _
  rw [u64_or_nat _ _ (by omega) (by omega), Nat.or_comm, nat_join (7 * k) _ _ (by rw [e]; exact Nat.mul_mod_left _ _) (by rw [← e]; exact ha), Nat.add_comm]
set_option maxRecDepth 100000 in
set_option maxHeartbeats 1000000 in
theorem p_number (s : ByteArray) (hs : s.size ≤ 1000000000000) : PCalls Tryz.prog 104 [.str s] (nums (rdNum s.data.toList)) := by
  refine pcalls_of rfl (by cases rdNum s.data.toList <;> rfl) (acalls_of mixed F_pack_number_ok (Nat.le_of_ble_eq_true rfl) ?_); simp only [F_pack_number, wk,if_true,if_false,forall_const,implies_true,ne_eq,eq_self,Nat.reduceEqDiff,Nat.reduceAdd,Nat.reduceMul,Nat.reduceSub,Nat.reduceLeDiff,Nat.reduceLT,Int.reduceEq,Int.reduceLT,Int.reduceLE,Int.reduceAdd,Int.reduceSub,Int.reduceMul,Int.reduceNeg,Int.reduceNe,reduceCtorEq,Int.reduceToNat,↓reduceIte]
  refine W_loop (fun n fr h => ∃ (k acc : Nat), k ≤ 9 ∧ n = 9 - k ∧ k ≤ s.size ∧ acc < 128 ^ k ∧ fr = [(0, .str s), (4, .int .u64 acc), (5, .int .i64 k)] ∧ rdNum s.data.toList = rdNumAt k acc (s.data.toList.drop k)) 9 ⟨0, 0, by omega, rfl, by omega, by simp, rfl, rfl⟩ ?_
  rintro n fr h ⟨k, acc, hk9, rfl, hks, hacc, rfl, hrd⟩
  simp only [wk,if_true,if_false,forall_const,implies_true,ne_eq,eq_self,Nat.reduceEqDiff,Nat.reduceAdd,Nat.reduceMul,Nat.reduceSub,Nat.reduceLeDiff,Nat.reduceLT,Int.reduceEq,Int.reduceLT,Int.reduceLE,Int.reduceAdd,Int.reduceSub,Int.reduceMul,Int.reduceNeg,Int.reduceNe,reduceCtorEq,Int.reduceToNat,↓reduceIte]
  refine ⟨fun hlt => ⟨fun h9 => ?_, fun h9 => ?_⟩, fun hge => ?_⟩
  · have hkl : k < s.size := by omega
    have hkd : k < s.data.toList.length := by simpa using hkl
    have hdrop : s.data.toList.drop k = s[k] :: s.data.toList.drop (k + 1) := by rw [List.drop_eq_getElem_cons hkd]; rfl
    have hb := s[k].toNat_lt
    (repeat (refine And.intro (by first | omega | exact inR_of (by omega) (by omega) | exact ⟨by omega, by omega⟩ | exact ⟨by omega, by omega, by omega⟩ | rfl) ?_))
    rw [show (k : Int).toNat = k by omega, byteAt_eq hkl, and_127 _ hb, shl_7k _ k (by omega) (by omega), or_acc _ _ k (by omega) (by omega) hacc]
    rw [hdrop, rdNumAt, if_neg (by omega)] at hrd
    have hp1 : 128 ^ k ≤ 128 ^ 8 := Nat.pow_le_pow_right (by omega) (by omega)
    have hp2 : s[k].toNat % 128 * 128 ^ k ≤ 127 * 128 ^ 8 := Nat.mul_le_mul (by omega) hp1
    have hp3 : acc + s[k].toNat % 128 * 128 ^ k < 128 ^ (k + 1) := by
      have : s[k].toNat % 128 * 128 ^ k ≤ 127 * 128 ^ k := Nat.mul_le_mul (by omega) (Nat.le_refl _)
      rw [Nat.pow_succ]; omega
    have hsm : ¬ 128 ≤ s[k].toNat → s[k].toNat % 128 = s[k].toNat := fun h => Nat.mod_eq_of_lt (by omega)
    have hA : ¬ 128 ≤ s[k].toNat → ¬ (0 < k ∧ s[k].toNat = 0) → (4611686018427387904 : Int) < ((acc + s[k].toNat % 128 * 128 ^ k : Nat) : Int) → AV.tup [.int .i64 0, .int .i64 0] = nums (rdNum s.data.toList) := by
      intro h1 h2 h3
      rw [hsm h1] at h3
      rw [hrd, if_neg h2, if_neg h1, if_pos (by omega)]; rfl
    have hB : ¬ 128 ≤ s[k].toNat → ¬ (0 < k ∧ s[k].toNat = 0) → ¬ (4611686018427387904 : Int) < ((acc + s[k].toNat % 128 * 128 ^ k : Nat) : Int) → inR ((k : Int) + 1) ∧ AV.tup [.int .i64 (IntKind.i64.wrap ((acc + s[k].toNat % 128 * 128 ^ k : Nat) : Int)), .int .i64 ((k : Int) + 1)] = nums (rdNum s.data.toList) := by
      intro h1 h2 h3
      rw [hsm h1] at h3 ⊢
      refine ⟨inR_of (by omega) (by omega), ?_⟩
      rw [hrd, if_neg h2, if_neg h1, if_neg (by omega), wrap_small (by omega) (by omega)]
      rfl
    refine ⟨fun hc => ⟨inR_of (by omega) (by omega), 9 - (k + 1), by omega, k + 1, _, by omega, rfl, by omega, hp3, rfl, ?_⟩, fun hc => ⟨fun h0 => ⟨fun hz => ⟨hA (by omega) (by omega), hB (by omega) (by omega)⟩, fun hz => ?_⟩, fun h0 => ⟨hA (by omega) (by omega), hB (by omega) (by omega)⟩⟩⟩
    · rw [hrd, if_neg (by omega), if_pos (by omega)]
    · rw [hrd, if_pos (by omega)]; rfl
  · rw [hrd, rdNumAt_nine (by omega)]; rfl
  · rw [hrd, List.drop_eq_nil_of_le (by simp; omega)]; rfl
theorem a_from {h : Hp} (S : ByteArray) : ACalls Tryz.prog 47 [.str S] h (fun a h' => a = .ptr h.length 0 ∧ h' = h ++ [iObj S (false, 0)]) := by
  refine acalls_of mixed F_pack_From_ok (Nat.le_of_ble_eq_true rfl) ?_; simp only [F_pack_From, wk,if_true,if_false,forall_const,implies_true,ne_eq,eq_self,Nat.reduceEqDiff,Nat.reduceAdd,Nat.reduceMul,Nat.reduceSub,Nat.reduceLeDiff,Nat.reduceLT,Int.reduceEq,Int.reduceLT,Int.reduceLE,Int.reduceAdd,Int.reduceSub,Int.reduceMul,Int.reduceNeg,Int.reduceNe,reduceCtorEq,Int.reduceToNat,↓reduceIte]
  rfl
theorem a_left {h : Hp} {id : Nat} {S : ByteArray} {s : Bool × Nat} (ho : h[id]? = some (iObj S s)) (hs : S.size ≤ 1000000000000) (hp : s.2 ≤ S.size) :
    ACalls Tryz.prog 105 [.ptr id 0] h (fun a h' => a = .int .i64 (if s.1 then 0 else ((S.size - s.2 : Nat) : Int)) ∧ h = h') := by
  obtain ⟨bad, p⟩ := s
  simp only [iObj] at ho hp ⊢
  refine acalls_of mixed F_pack_In_Left_ok (Nat.le_of_ble_eq_true rfl) ?_; simp only [F_pack_In_Left, wk,if_true,if_false,forall_const,implies_true,ne_eq,eq_self,Nat.reduceEqDiff,Nat.reduceAdd,Nat.reduceMul,Nat.reduceSub,Nat.reduceLeDiff,Nat.reduceLT,Int.reduceEq,Int.reduceLT,Int.reduceLE,Int.reduceAdd,Int.reduceSub,Int.reduceMul,Int.reduceNeg,Int.reduceNe,reduceCtorEq,Int.reduceToNat,↓reduceIte]
  refine ACalls.use (a_well ho) ?_; rintro _ _ ⟨rfl, rfl⟩; simp only [wk,if_true,if_false,forall_const,implies_true,ne_eq,eq_self,Nat.reduceEqDiff,Nat.reduceAdd,Nat.reduceMul,Nat.reduceSub,Nat.reduceLeDiff,Nat.reduceLT,Int.reduceEq,Int.reduceLT,Int.reduceLE,Int.reduceAdd,Int.reduceSub,Int.reduceMul,Int.reduceNeg,Int.reduceNe,reduceCtorEq,Int.reduceToNat,↓reduceIte, ho]
  refine ⟨fun hb => ?_, fun hb => ?_⟩ <;> subst hb
  · rfl
  · exact ⟨inR_of (by omega) (by omega), int_eq (by simp; omega)⟩
theorem a_idone {h : Hp} {id : Nat} {S : ByteArray} {s : Bool × Nat} (ho : h[id]? = some (iObj S s)) (hs : S.size ≤ 1000000000000) (hp : s.2 ≤ S.size) :
    ACalls Tryz.prog 50 [.ptr id 0] h (fun a h' => a = .int .i64 (eI (s.1 || decide (s.2 < S.size))) ∧ h' = h.set id (iObj S (s.1 || decide (s.2 < S.size), s.2))) := by
  obtain ⟨bad, p⟩ := s
  simp only [iObj] at ho hp ⊢
  refine acalls_of mixed F_pack_In_Done_ok (Nat.le_of_ble_eq_true rfl) ?_; simp only [F_pack_In_Done, wk,if_true,if_false,forall_const,implies_true,ne_eq,eq_self,Nat.reduceEqDiff,Nat.reduceAdd,Nat.reduceMul,Nat.reduceSub,Nat.reduceLeDiff,Nat.reduceLT,Int.reduceEq,Int.reduceLT,Int.reduceLE,Int.reduceAdd,Int.reduceSub,Int.reduceMul,Int.reduceNeg,Int.reduceNe,reduceCtorEq,Int.reduceToNat,↓reduceIte]
  refine ACalls.use (a_left (s := (bad, p)) ho hs hp) ?_; rintro _ _ ⟨rfl, rfl⟩; simp only [wk,if_true,if_false,forall_const,implies_true,ne_eq,eq_self,Nat.reduceEqDiff,Nat.reduceAdd,Nat.reduceMul,Nat.reduceSub,Nat.reduceLeDiff,Nat.reduceLT,Int.reduceEq,Int.reduceLT,Int.reduceLE,Int.reduceAdd,Int.reduceSub,Int.reduceMul,Int.reduceNeg,Int.reduceNe,reduceCtorEq,Int.reduceToNat,↓reduceIte, ho]
  have hself' := hself ho
  cases bad with
  | true => exact ⟨fun h => absurd h (by simp), fun _ => ⟨rfl, hself'.symm⟩⟩
  | false =>
    refine ⟨fun hl => ?_, fun hl => ?_⟩
    · have hlt : p < S.size := by simp at hl; omega
      refine ACalls.use (a_fail ho) ?_; rintro _ _ ⟨rfl, rfl⟩; simp only [wk,if_true,if_false,forall_const,implies_true,ne_eq,eq_self,Nat.reduceEqDiff,Nat.reduceAdd,Nat.reduceMul,Nat.reduceSub,Nat.reduceLeDiff,Nat.reduceLT,Int.reduceEq,Int.reduceLT,Int.reduceLE,Int.reduceAdd,Int.reduceSub,Int.reduceMul,Int.reduceNeg,Int.reduceNe,reduceCtorEq,Int.reduceToNat,↓reduceIte, hset ho]
      rw [decide_eq_true hlt]; exact ⟨rfl, rfl⟩
    · have hlt : ¬ p < S.size := by simp at hl; omega
      rw [decide_eq_false hlt]; exact ⟨rfl, hself'.symm⟩
def stO {α : Type} (r : Option (α × Nat)) (q : Nat) : Bool × Nat :=
  match r with
  | some (_, p) => (false, p)
  | none => (true, q)
def vI : Option (Nat × Nat) → AV
  | some (n, _) => .int .i64 n
  | none => .int .i64 0
def vS : Option (ByteArray × Nat) → AV
  | some (s, _) => .str s
  | none => .str ⟨#[]⟩
def rNum (S : ByteArray) (most : Int) (p : Nat) : Option (Nat × Nat) :=
  match rdNum (S.data.toList.drop p) with
  | some (n, m) => if (n : Int) ≤ most then some (n, p + m) else none
  | none => none
theorem extract_end (S : ByteArray) (p : Nat) : (S.extract p S.size).data.toList = S.data.toList.drop p := by
  simp only [ByteArray.data_extract, Array.toList_extract, List.extract_eq_take_drop]
  rw [List.take_of_length_le (by simp)]
theorem rNum_le {S : ByteArray} {most : Int} {p n q : Nat} (h : rNum S most p = some (n, q)) (hp : p ≤ S.size) : p < q ∧ q ≤ S.size ∧ n ≤ 4611686018427387904 ∧ (n : Int) ≤ most := by
  unfold rNum at h
  split at h
  · next n' m hr =>
    have := rdNumAt_size _ _ _ _ _ hr
    simp at this
    split at h
    · simp only [Option.some.injEq, Prod.mk.injEq] at h; omega
    · cases h
  · cases h
set_option maxHeartbeats 1000000 in
theorem a_inum {h : Hp} {id : Nat} {S : ByteArray} {s : Bool × Nat} (most : Int) (ho : h[id]? = some (iObj S s)) (hs : S.size ≤ 1000000000000) (hp : s.2 ≤ S.size) :
    ACalls Tryz.prog 49 [.ptr id 0, .int .i64 most] h (fun a h' => a = vI (if s.1 then none else rNum S most s.2) ∧ h' = h.set id (iObj S (stO (if s.1 then none else rNum S most s.2) s.2))) := by
  obtain ⟨bad, p⟩ := s
  simp only [iObj] at ho hp ⊢
  refine acalls_of mixed F_pack_In_Num_ok (Nat.le_of_ble_eq_true rfl) ?_; simp only [F_pack_In_Num, wk,if_true,if_false,forall_const,implies_true,ne_eq,eq_self,Nat.reduceEqDiff,Nat.reduceAdd,Nat.reduceMul,Nat.reduceSub,Nat.reduceLeDiff,Nat.reduceLT,Int.reduceEq,Int.reduceLT,Int.reduceLE,Int.reduceAdd,Int.reduceSub,Int.reduceMul,Int.reduceNeg,Int.reduceNe,reduceCtorEq,Int.reduceToNat,↓reduceIte]
  refine ACalls.use (a_well ho) ?_; rintro _ _ ⟨rfl, rfl⟩; simp only [wk,if_true,if_false,forall_const,implies_true,ne_eq,eq_self,Nat.reduceEqDiff,Nat.reduceAdd,Nat.reduceMul,Nat.reduceSub,Nat.reduceLeDiff,Nat.reduceLT,Int.reduceEq,Int.reduceLT,Int.reduceLE,Int.reduceAdd,Int.reduceSub,Int.reduceMul,Int.reduceNeg,Int.reduceNe,reduceCtorEq,Int.reduceToNat,↓reduceIte, ho]
  refine ⟨fun hb => ?_, fun hb => ?_⟩ <;> subst hb
  · exact ⟨rfl, (hself ho).symm⟩
  refine ⟨⟨by omega, by omega, by omega⟩, ?_⟩
  rw [show (p : Int).toNat = p by omega, show (S.size : Int).toNat = S.size by omega]
  refine ⟨_, p_number (S.extract p S.size) (by simp; omega), ?_⟩
  rw [extract_end]
  simp only [rNum, Bool.false_eq_true, if_false]
  cases hr : rdNum (S.data.toList.drop p) with
  | none =>
    simp only [wk,if_true,if_false,forall_const,implies_true,ne_eq,eq_self,Nat.reduceEqDiff,Nat.reduceAdd,Nat.reduceMul,Nat.reduceSub,Nat.reduceLeDiff,Nat.reduceLT,Int.reduceEq,Int.reduceLT,Int.reduceLE,Int.reduceAdd,Int.reduceSub,Int.reduceMul,Int.reduceNeg,Int.reduceNe,reduceCtorEq,Int.reduceToNat,↓reduceIte, nums]
    refine ACalls.use (a_fail ho) ?_; rintro _ _ ⟨rfl, rfl⟩; simp only [wk,if_true,if_false,forall_const,implies_true,ne_eq,eq_self,Nat.reduceEqDiff,Nat.reduceAdd,Nat.reduceMul,Nat.reduceSub,Nat.reduceLeDiff,Nat.reduceLT,Int.reduceEq,Int.reduceLT,Int.reduceLE,Int.reduceAdd,Int.reduceSub,Int.reduceMul,Int.reduceNeg,Int.reduceNe,reduceCtorEq,Int.reduceToNat,↓reduceIte, hset ho]
    exact ⟨rfl, rfl⟩
  | some nm =>
    obtain ⟨n, m⟩ := nm
    have hsz := rdNumAt_size _ _ _ _ _ hr
    simp at hsz
    simp only [wk,if_true,if_false,forall_const,implies_true,ne_eq,eq_self,Nat.reduceEqDiff,Nat.reduceAdd,Nat.reduceMul,Nat.reduceSub,Nat.reduceLeDiff,Nat.reduceLT,Int.reduceEq,Int.reduceLT,Int.reduceLE,Int.reduceAdd,Int.reduceSub,Int.reduceMul,Int.reduceNeg,Int.reduceNe,reduceCtorEq,Int.reduceToNat,↓reduceIte, nums]
    refine ⟨fun hm => ⟨fun hgt => ?_, fun hle => ?_⟩, fun hm => by omega⟩
    · refine ACalls.use (a_fail ho) ?_; rintro _ _ ⟨rfl, rfl⟩; simp only [wk,if_true,if_false,forall_const,implies_true,ne_eq,eq_self,Nat.reduceEqDiff,Nat.reduceAdd,Nat.reduceMul,Nat.reduceSub,Nat.reduceLeDiff,Nat.reduceLT,Int.reduceEq,Int.reduceLT,Int.reduceLE,Int.reduceAdd,Int.reduceSub,Int.reduceMul,Int.reduceNeg,Int.reduceNe,reduceCtorEq,Int.reduceToNat,↓reduceIte, hset ho]
      rw [if_neg (by omega)]; exact ⟨rfl, rfl⟩
    · simp only [wk,if_true,if_false,forall_const,implies_true,ne_eq,eq_self,Nat.reduceEqDiff,Nat.reduceAdd,Nat.reduceMul,Nat.reduceSub,Nat.reduceLeDiff,Nat.reduceLT,Int.reduceEq,Int.reduceLT,Int.reduceLE,Int.reduceAdd,Int.reduceSub,Int.reduceMul,Int.reduceNeg,Int.reduceNe,reduceCtorEq,Int.reduceToNat,↓reduceIte, ho]
      (repeat (refine And.intro (by first | omega | exact inR_of (by omega) (by omega) | exact ⟨by omega, by omega⟩ | exact ⟨by omega, by omega, by omega⟩ | rfl) ?_))
      rw [if_pos (by omega)]
      exact ⟨rfl, rfl⟩
set_option maxHeartbeats 1000000 in
theorem a_take {h : Hp} {id : Nat} {S : ByteArray} {s : Bool × Nat} (n : Nat) (ho : h[id]? = some (iObj S s)) (hs : S.size ≤ 1000000000000) (hp : s.2 ≤ S.size) (hn : n ≤ 4611686018427387904) :
    ACalls Tryz.prog 154 [.ptr id 0, .int .i64 n] h (fun a h' => a = vS (if s.1 ∨ S.size < s.2 + n then none else some (S.extract s.2 (s.2 + n), s.2 + n)) ∧ h' = h.set id (iObj S (stO (if s.1 ∨ S.size < s.2 + n then none else some (S.extract s.2 (s.2 + n), s.2 + n)) s.2))) := by
  obtain ⟨bad, p⟩ := s
  simp only [iObj] at ho hp ⊢
  refine acalls_of mixed F_pack_In_take_ok (Nat.le_of_ble_eq_true rfl) ?_; simp only [F_pack_In_take, wk,if_true,if_false,forall_const,implies_true,ne_eq,eq_self,Nat.reduceEqDiff,Nat.reduceAdd,Nat.reduceMul,Nat.reduceSub,Nat.reduceLeDiff,Nat.reduceLT,Int.reduceEq,Int.reduceLT,Int.reduceLE,Int.reduceAdd,Int.reduceSub,Int.reduceMul,Int.reduceNeg,Int.reduceNe,reduceCtorEq,Int.reduceToNat,↓reduceIte]
  refine ⟨_, _, (a_well ho).mono (fun _ _ h => ⟨h.1, h.2.symm⟩), SealEq.refl h, ?_⟩
  simp only [wk,if_true,if_false,forall_const,implies_true,ne_eq,eq_self,Nat.reduceEqDiff,Nat.reduceAdd,Nat.reduceMul,Nat.reduceSub,Nat.reduceLeDiff,Nat.reduceLT,Int.reduceEq,Int.reduceLT,Int.reduceLE,Int.reduceAdd,Int.reduceSub,Int.reduceMul,Int.reduceNeg,Int.reduceNe,reduceCtorEq,Int.reduceToNat,↓reduceIte, ho]
  refine ⟨fun hb => ⟨inR_of (by omega) (by omega), fun hgt => ?_, fun hle => ?_⟩, fun hb => ?_⟩ <;> subst hb
  · refine ACalls.use (a_fail ho) ?_; rintro _ _ ⟨rfl, rfl⟩; simp only [wk,if_true,if_false,forall_const,implies_true,ne_eq,eq_self,Nat.reduceEqDiff,Nat.reduceAdd,Nat.reduceMul,Nat.reduceSub,Nat.reduceLeDiff,Nat.reduceLT,Int.reduceEq,Int.reduceLT,Int.reduceLE,Int.reduceAdd,Int.reduceSub,Int.reduceMul,Int.reduceNeg,Int.reduceNe,reduceCtorEq,Int.reduceToNat,↓reduceIte, hset ho]
    refine ACalls.use (a_well (hset ho _)) ?_; rintro _ _ ⟨rfl, rfl⟩; simp only [wk,if_true,if_false,forall_const,implies_true,ne_eq,eq_self,Nat.reduceEqDiff,Nat.reduceAdd,Nat.reduceMul,Nat.reduceSub,Nat.reduceLeDiff,Nat.reduceLT,Int.reduceEq,Int.reduceLT,Int.reduceLE,Int.reduceAdd,Int.reduceSub,Int.reduceMul,Int.reduceNeg,Int.reduceNe,reduceCtorEq,Int.reduceToNat,↓reduceIte, hset ho]
    rw [if_pos (Or.inr (by omega))]; exact ⟨rfl, rfl⟩
  · refine ACalls.use (a_well ho) ?_; rintro _ _ ⟨rfl, rfl⟩; simp only [wk,if_true,if_false,forall_const,implies_true,ne_eq,eq_self,Nat.reduceEqDiff,Nat.reduceAdd,Nat.reduceMul,Nat.reduceSub,Nat.reduceLeDiff,Nat.reduceLT,Int.reduceEq,Int.reduceLT,Int.reduceLE,Int.reduceAdd,Int.reduceSub,Int.reduceMul,Int.reduceNeg,Int.reduceNe,reduceCtorEq,Int.reduceToNat,↓reduceIte, ho]
    (repeat (refine And.intro (by first | omega | exact inR_of (by omega) (by omega) | exact ⟨by omega, by omega⟩ | exact ⟨by omega, by omega, by omega⟩ | rfl) ?_))
    rw [if_neg (by simp; omega), show (p : Int).toNat = p by omega, show ((p : Int) + n).toNat = p + n by omega]
    exact ⟨rfl, rfl⟩
  · refine ACalls.use (a_well ho) ?_; rintro _ _ ⟨rfl, rfl⟩; simp only [wk,if_true,if_false,forall_const,implies_true,ne_eq,eq_self,Nat.reduceEqDiff,Nat.reduceAdd,Nat.reduceMul,Nat.reduceSub,Nat.reduceLeDiff,Nat.reduceLT,Int.reduceEq,Int.reduceLT,Int.reduceLE,Int.reduceAdd,Int.reduceSub,Int.reduceMul,Int.reduceNeg,Int.reduceNe,reduceCtorEq,Int.reduceToNat,↓reduceIte, ho]
    exact ⟨rfl, (hself ho).symm⟩
end Go.Proofs.YtpjlkefadnbgdaaGreat

/- What pack's In does: counts, texts, words, sets. -/
-- tight
namespace Go.Proofs.YtpjlkefadnbgdaaGreat
set_option linter.unusedSimpArgs false
set_option linter.unusedVariables false
open Go.RowKit Go.Lib

def rTake (S : ByteArray) (n p : Nat) : Option (ByteArray × Nat) := if S.size < p + n then none else some (S.extract p (p + n), p + n)
theorem a_take' {h : Hp} {id : Nat} {S : ByteArray} {s : Bool × Nat} (n : Nat) (ho : h[id]? = some (iObj S s)) (hs : S.size ≤ 1000000000000) (hp : s.2 ≤ S.size) (hn : n ≤ 4611686018427387904) :
    ACalls Tryz.prog 154 [.ptr id 0, .int .i64 n] h (fun a h' => a = vS (if s.1 then none else rTake S n s.2) ∧ h' = h.set id (iObj S (stO (if s.1 then none else rTake S n s.2) s.2))) := by
  have := a_take n ho hs hp hn
  have e : (if s.1 = true ∨ S.size < s.2 + n then none else some (S.extract s.2 (s.2 + n), s.2 + n)) = (if s.1 = true then none else rTake S n s.2) := by
    unfold rTake
    by_cases h1 : s.1 = true
    · rw [if_pos (Or.inl h1), if_pos h1]
    · rw [if_neg h1]
      by_cases h2 : S.size < s.2 + n
      · rw [if_pos (Or.inr h2), if_pos h2]
      · rw [if_neg (by simp [h1, h2]), if_neg h2]
  rw [e] at this
  exact this
def rCount (S : ByteArray) (most p : Nat) : Option (Nat × Nat) := if S.size < p + 1 then none else if 1 ≤ byteAt S p ∧ byteAt S p ≤ most then some (byteAt S p, p + 1) else none
def qCount (S : ByteArray) (bad : Bool) (p : Nat) : Nat := if bad ∨ S.size < p + 1 then p else p + 1
theorem byteAt_extract {S : ByteArray} {p n : Nat} (h : p + n ≤ S.size) (hn : 0 < n) : byteAt (S.extract p (p + n)) 0 = byteAt S p := by
  rw [byteAt_eq (by simp; omega), byteAt_eq (by omega)]
  simp [ByteArray.getElem_extract]
theorem byteAt_lt (S : ByteArray) (p : Nat) : byteAt S p < 256 := by
  unfold byteAt
  cases S.data.toList[p]? with
  | none => simp
  | some b => exact b.toNat_lt
theorem deg_vS (r : Option (ByteArray × Nat)) : deg (vS r) = vS r := by cases r <;> rfl
theorem wrap_byte (n : Nat) (h : n < 256) : IntKind.i64.wrap (n : Int) = n := by rw [IntKind.wrap_i64]; omega
set_option maxHeartbeats 1000000 in
theorem a_count {h : Hp} {id : Nat} {S : ByteArray} {s : Bool × Nat} (most : Nat) (ho : h[id]? = some (iObj S s)) (hs : S.size ≤ 1000000000000) (hp : s.2 ≤ S.size) :
    ACalls Tryz.prog 155 [.ptr id 0, .int .i64 most] h (fun a h' => a = vI (if s.1 then none else rCount S most s.2) ∧ h' = h.set id (iObj S (stO (if s.1 then none else rCount S most s.2) (qCount S s.1 s.2)))) := by
  obtain ⟨bad, p⟩ := s
  refine acalls_of mixed F_pack_In_count_ok (Nat.le_of_ble_eq_true rfl) ?_; simp only [F_pack_In_count, wk,if_true,if_false,forall_const,implies_true,ne_eq,eq_self,Nat.reduceEqDiff,Nat.reduceAdd,Nat.reduceMul,Nat.reduceSub,Nat.reduceLeDiff,Nat.reduceLT,Int.reduceEq,Int.reduceLT,Int.reduceLE,Int.reduceAdd,Int.reduceSub,Int.reduceMul,Int.reduceNeg,Int.reduceNe,reduceCtorEq,Int.reduceToNat,↓reduceIte]
  refine ACalls.use (a_take' (s := (bad, p)) 1 ho hs hp (by omega)) ?_; rintro _ _ ⟨rfl, rfl⟩; simp only [wk,if_true,if_false,forall_const,implies_true,ne_eq,eq_self,Nat.reduceEqDiff,Nat.reduceAdd,Nat.reduceMul,Nat.reduceSub,Nat.reduceLeDiff,Nat.reduceLT,Int.reduceEq,Int.reduceLT,Int.reduceLE,Int.reduceAdd,Int.reduceSub,Int.reduceMul,Int.reduceNeg,Int.reduceNe,reduceCtorEq,Int.reduceToNat,↓reduceIte]
  have hbt := byteAt_lt S p
  cases bad with
  | true =>
    simp only [if_true, stO, vS, wk,if_true,if_false,forall_const,implies_true,ne_eq,eq_self,Nat.reduceEqDiff,Nat.reduceAdd,Nat.reduceMul,Nat.reduceSub,Nat.reduceLeDiff,Nat.reduceLT,Int.reduceEq,Int.reduceLT,Int.reduceLE,Int.reduceAdd,Int.reduceSub,Int.reduceMul,Int.reduceNeg,Int.reduceNe,reduceCtorEq,Int.reduceToNat,↓reduceIte]
    refine ACalls.use (a_well (bad := true) (hset ho _)) ?_; rintro _ _ ⟨rfl, rfl⟩; simp only [wk,if_true,if_false,forall_const,implies_true,ne_eq,eq_self,Nat.reduceEqDiff,Nat.reduceAdd,Nat.reduceMul,Nat.reduceSub,Nat.reduceLeDiff,Nat.reduceLT,Int.reduceEq,Int.reduceLT,Int.reduceLE,Int.reduceAdd,Int.reduceSub,Int.reduceMul,Int.reduceNeg,Int.reduceNe,reduceCtorEq,Int.reduceToNat,↓reduceIte, hset ho]
    exact ⟨rfl, by simp [qCount, stO]⟩
  | false =>
    simp only [Bool.false_eq_true, if_false, rTake, rCount, qCount, false_or]
    by_cases hz : S.size < p + 1
    · simp only [if_pos hz, stO, vS, wk,if_true,if_false,forall_const,implies_true,ne_eq,eq_self,Nat.reduceEqDiff,Nat.reduceAdd,Nat.reduceMul,Nat.reduceSub,Nat.reduceLeDiff,Nat.reduceLT,Int.reduceEq,Int.reduceLT,Int.reduceLE,Int.reduceAdd,Int.reduceSub,Int.reduceMul,Int.reduceNeg,Int.reduceNe,reduceCtorEq,Int.reduceToNat,↓reduceIte]
      refine ACalls.use (a_well (bad := true) (hset ho _)) ?_; rintro _ _ ⟨rfl, rfl⟩; simp only [wk,if_true,if_false,forall_const,implies_true,ne_eq,eq_self,Nat.reduceEqDiff,Nat.reduceAdd,Nat.reduceMul,Nat.reduceSub,Nat.reduceLeDiff,Nat.reduceLT,Int.reduceEq,Int.reduceLT,Int.reduceLE,Int.reduceAdd,Int.reduceSub,Int.reduceMul,Int.reduceNeg,Int.reduceNe,reduceCtorEq,Int.reduceToNat,↓reduceIte, hset ho]
      rfl
    · simp only [if_neg hz, stO, vS, wk,if_true,if_false,forall_const,implies_true,ne_eq,eq_self,Nat.reduceEqDiff,Nat.reduceAdd,Nat.reduceMul,Nat.reduceSub,Nat.reduceLeDiff,Nat.reduceLT,Int.reduceEq,Int.reduceLT,Int.reduceLE,Int.reduceAdd,Int.reduceSub,Int.reduceMul,Int.reduceNeg,Int.reduceNe,reduceCtorEq,Int.reduceToNat,↓reduceIte]
      refine ACalls.use (a_well (bad := false) (hset ho _)) ?_; rintro _ _ ⟨rfl, rfl⟩; simp only [wk,if_true,if_false,forall_const,implies_true,ne_eq,eq_self,Nat.reduceEqDiff,Nat.reduceAdd,Nat.reduceMul,Nat.reduceSub,Nat.reduceLeDiff,Nat.reduceLT,Int.reduceEq,Int.reduceLT,Int.reduceLE,Int.reduceAdd,Int.reduceSub,Int.reduceMul,Int.reduceNeg,Int.reduceNe,reduceCtorEq,Int.reduceToNat,↓reduceIte, hset ho]
      refine ⟨by simp; omega, ?_⟩
      rw [byteAt_extract (by omega) (by omega), wrap_byte _ hbt]
      refine ⟨fun h1 => ⟨fun h2 => ?_, fun h2 => ?_⟩, fun h1 => ?_⟩
      · refine ACalls.use (a_fail (hset ho _)) ?_; rintro _ _ ⟨rfl, rfl⟩; simp only [wk,if_true,if_false,forall_const,implies_true,ne_eq,eq_self,Nat.reduceEqDiff,Nat.reduceAdd,Nat.reduceMul,Nat.reduceSub,Nat.reduceLeDiff,Nat.reduceLT,Int.reduceEq,Int.reduceLT,Int.reduceLE,Int.reduceAdd,Int.reduceSub,Int.reduceMul,Int.reduceNeg,Int.reduceNe,reduceCtorEq,Int.reduceToNat,↓reduceIte, hset ho]
        rw [if_neg (by omega)]; exact ⟨rfl, rfl⟩
      · rw [if_pos (by omega)]; exact ⟨rfl, rfl⟩
      · refine ACalls.use (a_fail (hset ho _)) ?_; rintro _ _ ⟨rfl, rfl⟩; simp only [wk,if_true,if_false,forall_const,implies_true,ne_eq,eq_self,Nat.reduceEqDiff,Nat.reduceAdd,Nat.reduceMul,Nat.reduceSub,Nat.reduceLeDiff,Nat.reduceLT,Int.reduceEq,Int.reduceLT,Int.reduceLE,Int.reduceAdd,Int.reduceSub,Int.reduceMul,Int.reduceNeg,Int.reduceNe,reduceCtorEq,Int.reduceToNat,↓reduceIte, hset ho]
        rw [if_neg (by omega)]; exact ⟨rfl, rfl⟩
def rText (S : ByteArray) (most : Int) (p : Nat) : Option (ByteArray × Nat) :=
  match rNum S most p with
  | some (n, q) => rTake S n q
  | none => none
set_option maxHeartbeats 1000000 in
theorem a_itext {h : Hp} {id : Nat} {S : ByteArray} {s : Bool × Nat} (most : Int) (ho : h[id]? = some (iObj S s)) (hs : S.size ≤ 1000000000000) (hp : s.2 ≤ S.size) :
    ∃ q, q ≤ S.size ∧ ACalls Tryz.prog 152 [.ptr id 0, .int .i64 most] h (fun a h' => a = vS (if s.1 then none else rText S most s.2) ∧ h' = h.set id (iObj S (stO (if s.1 then none else rText S most s.2) q))) := by
  obtain ⟨bad, p⟩ := s
  simp only at hp
  refine ⟨(stO (if bad then none else rNum S most p) p).2, ?_, ?_⟩
  · cases hr : (if bad then none else rNum S most p) with
    | none => exact hp
    | some x =>
      split at hr
      · cases hr
      · have := rNum_le hr hp
        simp only [stO]; omega
  refine acalls_of mixed F_pack_In_Text_ok (Nat.le_of_ble_eq_true rfl) ?_; simp only [F_pack_In_Text, wk,if_true,if_false,forall_const,implies_true,ne_eq,eq_self,Nat.reduceEqDiff,Nat.reduceAdd,Nat.reduceMul,Nat.reduceSub,Nat.reduceLeDiff,Nat.reduceLT,Int.reduceEq,Int.reduceLT,Int.reduceLE,Int.reduceAdd,Int.reduceSub,Int.reduceMul,Int.reduceNeg,Int.reduceNe,reduceCtorEq,Int.reduceToNat,↓reduceIte]
  refine ACalls.use (a_inum (s := (bad, p)) most ho hs hp) ?_; rintro _ _ ⟨rfl, rfl⟩; simp only [wk,if_true,if_false,forall_const,implies_true,ne_eq,eq_self,Nat.reduceEqDiff,Nat.reduceAdd,Nat.reduceMul,Nat.reduceSub,Nat.reduceLeDiff,Nat.reduceLT,Int.reduceEq,Int.reduceLT,Int.reduceLE,Int.reduceAdd,Int.reduceSub,Int.reduceMul,Int.reduceNeg,Int.reduceNe,reduceCtorEq,Int.reduceToNat,↓reduceIte, hset ho, iObj]
  cases hr : (if bad = true then none else rNum S most p) with
  | none =>
    have hr' : (if bad = true then none else rText S most p) = none := by
      cases bad with
      | true => rfl
      | false =>
        simp only [Bool.false_eq_true, if_false] at hr ⊢
        simp only [rText, hr]
    rw [hr']
    simp only [vI, stO, wk,if_true,if_false,forall_const,implies_true,ne_eq,eq_self,Nat.reduceEqDiff,Nat.reduceAdd,Nat.reduceMul,Nat.reduceSub,Nat.reduceLeDiff,Nat.reduceLT,Int.reduceEq,Int.reduceLT,Int.reduceLE,Int.reduceAdd,Int.reduceSub,Int.reduceMul,Int.reduceNeg,Int.reduceNe,reduceCtorEq,Int.reduceToNat,↓reduceIte]
    refine ⟨fun hgt => by omega, fun _ => ?_⟩
    refine ACalls.use (a_take' (s := (true, p)) 0 (hset ho _) hs hp (by omega)) ?_; rintro _ _ ⟨rfl, rfl⟩; simp only [wk,if_true,if_false,forall_const,implies_true,ne_eq,eq_self,Nat.reduceEqDiff,Nat.reduceAdd,Nat.reduceMul,Nat.reduceSub,Nat.reduceLeDiff,Nat.reduceLT,Int.reduceEq,Int.reduceLT,Int.reduceLE,Int.reduceAdd,Int.reduceSub,Int.reduceMul,Int.reduceNeg,Int.reduceNe,reduceCtorEq,Int.reduceToNat,↓reduceIte, hset ho]
    exact ⟨rfl, rfl⟩
  | some x =>
    obtain ⟨n, q⟩ := x
    have hb : bad = false := by cases bad with
      | true => simp at hr
      | false => rfl
    subst hb
    simp only [Bool.false_eq_true, if_false] at hr ⊢
    have hle := rNum_le hr hp
    have hr' : rText S most p = rTake S n q := by simp only [rText, hr]
    rw [hr']
    simp only [vI, stO, wk,if_true,if_false,forall_const,implies_true,ne_eq,eq_self,Nat.reduceEqDiff,Nat.reduceAdd,Nat.reduceMul,Nat.reduceSub,Nat.reduceLeDiff,Nat.reduceLT,Int.reduceEq,Int.reduceLT,Int.reduceLE,Int.reduceAdd,Int.reduceSub,Int.reduceMul,Int.reduceNeg,Int.reduceNe,reduceCtorEq,Int.reduceToNat,↓reduceIte]
    refine ⟨fun hgt => ?_, fun hng => ?_⟩
    · refine ACalls.use (a_fail (bad := false) (hset ho _)) ?_; rintro _ _ ⟨rfl, rfl⟩; simp only [wk,if_true,if_false,forall_const,implies_true,ne_eq,eq_self,Nat.reduceEqDiff,Nat.reduceAdd,Nat.reduceMul,Nat.reduceSub,Nat.reduceLeDiff,Nat.reduceLT,Int.reduceEq,Int.reduceLT,Int.reduceLE,Int.reduceAdd,Int.reduceSub,Int.reduceMul,Int.reduceNeg,Int.reduceNe,reduceCtorEq,Int.reduceToNat,↓reduceIte, hset ho]
      simp only [rTake]
      rw [if_pos (by omega)]; exact ⟨rfl, rfl⟩
    · refine ACalls.use (a_take' (s := (false, q)) n (hset ho _) hs hle.2.1 (by omega)) ?_; rintro _ _ ⟨rfl, rfl⟩; simp only [wk,if_true,if_false,forall_const,implies_true,ne_eq,eq_self,Nat.reduceEqDiff,Nat.reduceAdd,Nat.reduceMul,Nat.reduceSub,Nat.reduceLeDiff,Nat.reduceLT,Int.reduceEq,Int.reduceLT,Int.reduceLE,Int.reduceAdd,Int.reduceSub,Int.reduceMul,Int.reduceNeg,Int.reduceNe,reduceCtorEq,Int.reduceToNat,↓reduceIte, hset ho, deg_vS]
      (try first | exact ⟨rfl, rfl⟩ | rfl | trivial)
def rWord (S : ByteArray) (p : Nat) : Option (ByteArray × Nat) :=
  if S.size < p + 1 then none else if S.size < p + 1 + 2 * byteAt S p then none else
  if wordMay (S.extract (p + 1) (p + 1 + 2 * byteAt S p)) then some (S.extract (p + 1) (p + 1 + 2 * byteAt S p), p + 1 + 2 * byteAt S p) else none
theorem rWord_eq (S : ByteArray) (p : Nat) : rWord S p = match rCount S 8 p with
    | some (n, q) => (match rTake S (2 * n) q with
      | some (w, q') => if wordMay w then some (w, q') else none
      | none => none)
    | none => none := by
  unfold rWord rCount
  by_cases h1 : S.size < p + 1
  · rw [if_pos h1, if_pos h1]
  · rw [if_neg h1, if_neg h1]
    by_cases h2 : 1 ≤ byteAt S p ∧ byteAt S p ≤ 8
    · rw [if_pos h2]
      simp only [rTake]
      by_cases h3 : S.size < p + 1 + 2 * byteAt S p
      · rw [if_pos h3, if_pos h3]
      · rw [if_neg h3, if_neg h3]
    · rw [if_neg h2]
      by_cases h3 : S.size < p + 1 + 2 * byteAt S p
      · rw [if_pos h3]
      · rw [if_neg h3, if_neg]
        intro hw
        have := wordMay_size hw
        simp at this
        omega
theorem wordMay_empty : wordMay ⟨#[]⟩ = false := by
  cases h : wordMay ⟨#[]⟩ with
  | false => rfl
  | true => have := wordMay_size h; exact absurd this.2.1 (by decide)
theorem rTake_le {S w : ByteArray} {n p q : Nat} (h : rTake S n p = some (w, q)) : q = p + n ∧ q ≤ S.size ∧ w = S.extract p q := by
  unfold rTake at h
  split at h
  · cases h
  · simp only [Option.some.injEq, Prod.mk.injEq] at h; obtain ⟨rfl, rfl⟩ := h; exact ⟨rfl, by omega, rfl⟩
theorem rCount_le {S : ByteArray} {most n p q : Nat} (h : rCount S most p = some (n, q)) : q = p + 1 ∧ q ≤ S.size ∧ 1 ≤ n ∧ n ≤ most ∧ n = byteAt S p := by
  unfold rCount at h
  split at h
  · cases h
  · split at h
    · simp only [Option.some.injEq, Prod.mk.injEq] at h; omega
    · cases h
theorem qCount_le {S : ByteArray} {bad : Bool} {p : Nat} (hp : p ≤ S.size) : qCount S bad p ≤ S.size := by
  unfold qCount
  split
  · exact hp
  · next h => simp at h; omega
set_option maxHeartbeats 1000000 in
theorem a_iword {h : Hp} {id : Nat} {S : ByteArray} {s : Bool × Nat} (ho : h[id]? = some (iObj S s)) (hs : S.size ≤ 1000000000000) (hp : s.2 ≤ S.size) :
    ∃ q, q ≤ S.size ∧ ACalls Tryz.prog 103 [.ptr id 0] h (fun a h' => a = vS (if s.1 then none else rWord S s.2) ∧ h' = h.set id (iObj S (stO (if s.1 then none else rWord S s.2) q))) := by
  obtain ⟨bad, p⟩ := s
  simp only at hp ⊢
  have hq1 := qCount_le (S := S) (bad := bad) hp
  have hgo : ∀ q, W Tryz.prog F_pack_In_Word.code (args0 0 [.ptr id 0]) h (kret F_pack_In_Word.rs (fun a h' => a = vS (if bad then none else rWord S p) ∧ h' = h.set id (iObj S (stO (if bad then none else rWord S p) q)))) → ACalls Tryz.prog 103 [.ptr id 0] h (fun a h' => a = vS (if bad then none else rWord S p) ∧ h' = h.set id (iObj S (stO (if bad then none else rWord S p) q))) := fun q hw => acalls_of mixed F_pack_In_Word_ok (Nat.le_of_ble_eq_true rfl) hw
  cases hr : (if bad = true then none else rCount S 8 p) with
  | none =>
    have hrw : (if bad = true then none else rWord S p) = none := by
      cases bad with
      | true => rfl
      | false =>
        simp only [Bool.false_eq_true, if_false] at hr ⊢
        rw [rWord_eq, hr]
    refine ⟨qCount S bad p, hq1, hgo _ ?_⟩
    rw [hrw]
    simp only [F_pack_In_Word, wk,if_true,if_false,forall_const,implies_true,ne_eq,eq_self,Nat.reduceEqDiff,Nat.reduceAdd,Nat.reduceMul,Nat.reduceSub,Nat.reduceLeDiff,Nat.reduceLT,Int.reduceEq,Int.reduceLT,Int.reduceLE,Int.reduceAdd,Int.reduceSub,Int.reduceMul,Int.reduceNeg,Int.reduceNe,reduceCtorEq,Int.reduceToNat,↓reduceIte]
    have hc := a_count (s := (bad, p)) 8 ho hs hp
    simp only [hr, vI, stO] at hc
    refine ACalls.use (hc) ?_; rintro _ _ ⟨rfl, rfl⟩; simp only [wk,if_true,if_false,forall_const,implies_true,ne_eq,eq_self,Nat.reduceEqDiff,Nat.reduceAdd,Nat.reduceMul,Nat.reduceSub,Nat.reduceLeDiff,Nat.reduceLT,Int.reduceEq,Int.reduceLT,Int.reduceLE,Int.reduceAdd,Int.reduceSub,Int.reduceMul,Int.reduceNeg,Int.reduceNe,reduceCtorEq,Int.reduceToNat,↓reduceIte, hset ho]
    refine ⟨inR_of (by omega) (by omega), ?_⟩
    refine ACalls.use (a_take' (s := (true, qCount S bad p)) 0 (hset ho _) hs hq1 (by omega)) ?_; rintro _ _ ⟨rfl, rfl⟩; simp only [wk,if_true,if_false,forall_const,implies_true,ne_eq,eq_self,Nat.reduceEqDiff,Nat.reduceAdd,Nat.reduceMul,Nat.reduceSub,Nat.reduceLeDiff,Nat.reduceLT,Int.reduceEq,Int.reduceLT,Int.reduceLE,Int.reduceAdd,Int.reduceSub,Int.reduceMul,Int.reduceNeg,Int.reduceNe,reduceCtorEq,Int.reduceToNat,↓reduceIte, hset ho, stO, vS, iObj]
    refine PCalls.use (p_wmay ⟨#[]⟩ (by decide)) ?_; simp only [wk,if_true,if_false,forall_const,implies_true,ne_eq,eq_self,Nat.reduceEqDiff,Nat.reduceAdd,Nat.reduceMul,Nat.reduceSub,Nat.reduceLeDiff,Nat.reduceLT,Int.reduceEq,Int.reduceLT,Int.reduceLE,Int.reduceAdd,Int.reduceSub,Int.reduceMul,Int.reduceNeg,Int.reduceNe,reduceCtorEq,Int.reduceToNat,↓reduceIte]
    rw [wordMay_empty]
    simp only [wk,if_true,if_false,forall_const,implies_true,ne_eq,eq_self,Nat.reduceEqDiff,Nat.reduceAdd,Nat.reduceMul,Nat.reduceSub,Nat.reduceLeDiff,Nat.reduceLT,Int.reduceEq,Int.reduceLT,Int.reduceLE,Int.reduceAdd,Int.reduceSub,Int.reduceMul,Int.reduceNeg,Int.reduceNe,reduceCtorEq,Int.reduceToNat,↓reduceIte]
    refine ACalls.use (a_fail (hset ho _)) ?_; rintro _ _ ⟨rfl, rfl⟩; simp only [wk,if_true,if_false,forall_const,implies_true,ne_eq,eq_self,Nat.reduceEqDiff,Nat.reduceAdd,Nat.reduceMul,Nat.reduceSub,Nat.reduceLeDiff,Nat.reduceLT,Int.reduceEq,Int.reduceLT,Int.reduceLE,Int.reduceAdd,Int.reduceSub,Int.reduceMul,Int.reduceNeg,Int.reduceNe,reduceCtorEq,Int.reduceToNat,↓reduceIte, hset ho]
    (try first | exact ⟨rfl, rfl⟩ | rfl | trivial)
  | some x =>
    obtain ⟨n, q⟩ := x
    have hb : bad = false := by cases bad with
      | true => simp at hr
      | false => rfl
    subst hb
    simp only [Bool.false_eq_true, if_false] at hr hgo ⊢
    have hle := rCount_le hr
    cases hr2 : rTake S (2 * n) q with
    | none =>
      have hrw : rWord S p = none := by rw [rWord_eq, hr]; simp only [hr2]
      refine ⟨q, hle.2.1, hgo _ ?_⟩
      rw [hrw]
      simp only [F_pack_In_Word, wk,if_true,if_false,forall_const,implies_true,ne_eq,eq_self,Nat.reduceEqDiff,Nat.reduceAdd,Nat.reduceMul,Nat.reduceSub,Nat.reduceLeDiff,Nat.reduceLT,Int.reduceEq,Int.reduceLT,Int.reduceLE,Int.reduceAdd,Int.reduceSub,Int.reduceMul,Int.reduceNeg,Int.reduceNe,reduceCtorEq,Int.reduceToNat,↓reduceIte]
      have hc := a_count (s := (false, p)) 8 ho hs hp
      simp only [Bool.false_eq_true, if_false, hr, vI, stO] at hc
      refine ACalls.use (hc) ?_; rintro _ _ ⟨rfl, rfl⟩; simp only [wk,if_true,if_false,forall_const,implies_true,ne_eq,eq_self,Nat.reduceEqDiff,Nat.reduceAdd,Nat.reduceMul,Nat.reduceSub,Nat.reduceLeDiff,Nat.reduceLT,Int.reduceEq,Int.reduceLT,Int.reduceLE,Int.reduceAdd,Int.reduceSub,Int.reduceMul,Int.reduceNeg,Int.reduceNe,reduceCtorEq,Int.reduceToNat,↓reduceIte, hset ho]
      refine ⟨inR_of (by omega) (by omega), ?_⟩
      have ht := a_take' (s := (false, q)) (2 * n) (hset ho (iObj S (false, q))) hs hle.2.1 (by omega)
      simp only [Bool.false_eq_true, if_false, hr2, vS, stO] at ht
      rw [show ((2 : Int) * (n : Int)) = ((2 * n : Nat) : Int) by omega]
      refine ACalls.use (ht) ?_; rintro _ _ ⟨rfl, rfl⟩; simp only [wk,if_true,if_false,forall_const,implies_true,ne_eq,eq_self,Nat.reduceEqDiff,Nat.reduceAdd,Nat.reduceMul,Nat.reduceSub,Nat.reduceLeDiff,Nat.reduceLT,Int.reduceEq,Int.reduceLT,Int.reduceLE,Int.reduceAdd,Int.reduceSub,Int.reduceMul,Int.reduceNeg,Int.reduceNe,reduceCtorEq,Int.reduceToNat,↓reduceIte, hset ho]
      refine PCalls.use (p_wmay ⟨#[]⟩ (by decide)) ?_; simp only [wk,if_true,if_false,forall_const,implies_true,ne_eq,eq_self,Nat.reduceEqDiff,Nat.reduceAdd,Nat.reduceMul,Nat.reduceSub,Nat.reduceLeDiff,Nat.reduceLT,Int.reduceEq,Int.reduceLT,Int.reduceLE,Int.reduceAdd,Int.reduceSub,Int.reduceMul,Int.reduceNeg,Int.reduceNe,reduceCtorEq,Int.reduceToNat,↓reduceIte]
      rw [wordMay_empty]
      simp only [wk,if_true,if_false,forall_const,implies_true,ne_eq,eq_self,Nat.reduceEqDiff,Nat.reduceAdd,Nat.reduceMul,Nat.reduceSub,Nat.reduceLeDiff,Nat.reduceLT,Int.reduceEq,Int.reduceLT,Int.reduceLE,Int.reduceAdd,Int.reduceSub,Int.reduceMul,Int.reduceNeg,Int.reduceNe,reduceCtorEq,Int.reduceToNat,↓reduceIte]
      refine ACalls.use (a_fail (bad := true) (hset ho _)) ?_; rintro _ _ ⟨rfl, rfl⟩; simp only [wk,if_true,if_false,forall_const,implies_true,ne_eq,eq_self,Nat.reduceEqDiff,Nat.reduceAdd,Nat.reduceMul,Nat.reduceSub,Nat.reduceLeDiff,Nat.reduceLT,Int.reduceEq,Int.reduceLT,Int.reduceLE,Int.reduceAdd,Int.reduceSub,Int.reduceMul,Int.reduceNeg,Int.reduceNe,reduceCtorEq,Int.reduceToNat,↓reduceIte, hset ho]
      (try first | exact ⟨rfl, rfl⟩ | rfl | trivial)
    | some y =>
      obtain ⟨w, q2⟩ := y
      have hle2 := rTake_le hr2
      refine ⟨q2, hle2.2.1, hgo _ ?_⟩
      have hrw : rWord S p = if wordMay w then some (w, q2) else none := by rw [rWord_eq, hr]; simp only [hr2]
      rw [hrw]
      simp only [F_pack_In_Word, wk,if_true,if_false,forall_const,implies_true,ne_eq,eq_self,Nat.reduceEqDiff,Nat.reduceAdd,Nat.reduceMul,Nat.reduceSub,Nat.reduceLeDiff,Nat.reduceLT,Int.reduceEq,Int.reduceLT,Int.reduceLE,Int.reduceAdd,Int.reduceSub,Int.reduceMul,Int.reduceNeg,Int.reduceNe,reduceCtorEq,Int.reduceToNat,↓reduceIte]
      have hc := a_count (s := (false, p)) 8 ho hs hp
      simp only [Bool.false_eq_true, if_false, hr, vI, stO] at hc
      refine ACalls.use (hc) ?_; rintro _ _ ⟨rfl, rfl⟩; simp only [wk,if_true,if_false,forall_const,implies_true,ne_eq,eq_self,Nat.reduceEqDiff,Nat.reduceAdd,Nat.reduceMul,Nat.reduceSub,Nat.reduceLeDiff,Nat.reduceLT,Int.reduceEq,Int.reduceLT,Int.reduceLE,Int.reduceAdd,Int.reduceSub,Int.reduceMul,Int.reduceNeg,Int.reduceNe,reduceCtorEq,Int.reduceToNat,↓reduceIte, hset ho]
      refine ⟨inR_of (by omega) (by omega), ?_⟩
      have ht := a_take' (s := (false, q)) (2 * n) (hset ho (iObj S (false, q))) hs hle.2.1 (by omega)
      simp only [Bool.false_eq_true, if_false, hr2, vS, stO] at ht
      rw [show ((2 : Int) * (n : Int)) = ((2 * n : Nat) : Int) by omega]
      refine ACalls.use (ht) ?_; rintro _ _ ⟨rfl, rfl⟩; simp only [wk,if_true,if_false,forall_const,implies_true,ne_eq,eq_self,Nat.reduceEqDiff,Nat.reduceAdd,Nat.reduceMul,Nat.reduceSub,Nat.reduceLeDiff,Nat.reduceLT,Int.reduceEq,Int.reduceLT,Int.reduceLE,Int.reduceAdd,Int.reduceSub,Int.reduceMul,Int.reduceNeg,Int.reduceNe,reduceCtorEq,Int.reduceToNat,↓reduceIte, hset ho]
      refine PCalls.use (p_wmay w (by rw [hle2.2.2]; simp; omega)) ?_; simp only [wk,if_true,if_false,forall_const,implies_true,ne_eq,eq_self,Nat.reduceEqDiff,Nat.reduceAdd,Nat.reduceMul,Nat.reduceSub,Nat.reduceLeDiff,Nat.reduceLT,Int.reduceEq,Int.reduceLT,Int.reduceLE,Int.reduceAdd,Int.reduceSub,Int.reduceMul,Int.reduceNeg,Int.reduceNe,reduceCtorEq,Int.reduceToNat,↓reduceIte]
      refine ⟨fun hw => ?_, fun hw => ?_⟩
      · refine ACalls.use (a_fail (bad := false) (hset ho _)) ?_; rintro _ _ ⟨rfl, rfl⟩; simp only [wk,if_true,if_false,forall_const,implies_true,ne_eq,eq_self,Nat.reduceEqDiff,Nat.reduceAdd,Nat.reduceMul,Nat.reduceSub,Nat.reduceLeDiff,Nat.reduceLT,Int.reduceEq,Int.reduceLT,Int.reduceLE,Int.reduceAdd,Int.reduceSub,Int.reduceMul,Int.reduceNeg,Int.reduceNe,reduceCtorEq,Int.reduceToNat,↓reduceIte, hset ho]
        rw [hw]; (try first | exact ⟨rfl, rfl⟩ | rfl | trivial)
      · rw [hw]; (try first | exact ⟨rfl, rfl⟩ | rfl | trivial)
def rWords (S : ByteArray) (p : Nat) : Nat → Option (List ByteArray × Nat)
  | 0 => some ([], p)
  | k + 1 => match rWords S p k with
    | some (l, q) => (match rWord S q with
      | some (w, q') => some (l ++ [w], q')
      | none => none)
    | none => none
def rSet (S : ByteArray) (p : Nat) : Option (List ByteArray × Nat) :=
  if S.size < p + 1 then none else
  match rWords S (p + 1) (byteAt S p) with
  | some (l, q) => if setMay l then some (l, q) else none
  | none => none
theorem rWord_le {S w : ByteArray} {p q : Nat} (h : rWord S p = some (w, q)) : p < q ∧ q ≤ S.size ∧ wordMay w = true ∧ w = S.extract (p + 1) q ∧ q = p + 1 + 2 * byteAt S p := by
  unfold rWord at h
  split at h
  · cases h
  · split at h
    · cases h
    · split at h
      · next hw =>
        simp only [Option.some.injEq, Prod.mk.injEq] at h
        obtain ⟨rfl, rfl⟩ := h
        exact ⟨by omega, by omega, hw, rfl, rfl⟩
      · cases h
theorem rWords_le {S : ByteArray} {p : Nat} (hp : p ≤ S.size) : ∀ {k : Nat} {l : List ByteArray} {q : Nat}, rWords S p k = some (l, q) → l.length = k ∧ p ≤ q ∧ q ≤ S.size ∧ ∀ w ∈ l, wordMay w = true
  | 0, l, q, h => by
    simp only [rWords, Option.some.injEq, Prod.mk.injEq] at h
    obtain ⟨rfl, rfl⟩ := h
    exact ⟨rfl, Nat.le_refl _, hp, fun w hw => by simp at hw⟩
  | k + 1, l, q, h => by
    simp only [rWords] at h
    split at h
    · next l' q' hr =>
      have ih := rWords_le hp hr
      split at h
      · next w q2 hr2 =>
        simp only [Option.some.injEq, Prod.mk.injEq] at h
        obtain ⟨rfl, rfl⟩ := h
        have h2 := rWord_le hr2
        refine ⟨by simp; omega, by omega, h2.2.1, fun x hx => ?_⟩
        simp only [List.mem_append, List.mem_singleton] at hx
        rcases hx with hx | rfl
        · exact ih.2.2.2 x hx
        · exact h2.2.2.1
      · cases h
    · cases h
def vL : Option (List ByteArray × Nat) → AV
  | some (l, _) => .lst .ro l.length (l.map .str)
  | none => .lst .clip 0 []
theorem rSet_eq (S : ByteArray) (p : Nat) (hp : p ≤ S.size) : rSet S p = match rCount S 16 p with
    | some (n, q) => (match rWords S q n with
      | some (l, q') => if setMay l then some (l, q') else none
      | none => none)
    | none => none := by
  unfold rSet rCount
  by_cases h1 : S.size < p + 1
  · rw [if_pos h1, if_pos h1]
  · rw [if_neg h1, if_neg h1]
    by_cases h2 : 1 ≤ byteAt S p ∧ byteAt S p ≤ 16
    · rw [if_pos h2]
    · rw [if_neg h2]
      cases hr : rWords S (p + 1) (byteAt S p) with
      | none => rfl
      | some x =>
        obtain ⟨l, q⟩ := x
        have := rWords_le (by omega) hr
        simp only
        rw [if_neg]
        intro hm
        have := (setMay_words hm).1
        omega
theorem vS_str (r : Option (ByteArray × Nat)) : ∃ w, vS r = .str w ∧ (∀ x q, r = some (x, q) → x = w) := by
  cases r with
  | none => exact ⟨_, rfl, fun _ _ h => by cases h⟩
  | some x => exact ⟨_, rfl, fun _ _ h => by cases h; rfl⟩
set_option maxRecDepth 100000 in
set_option maxHeartbeats 2000000 in
theorem a_iset {h : Hp} {id : Nat} {S : ByteArray} {s : Bool × Nat} (ho : h[id]? = some (iObj S s)) (hs : S.size ≤ 1000000000000) (hp : s.2 ≤ S.size) :
    ACalls Tryz.prog 153 [.ptr id 0] h (fun a h' => a = vL (if s.1 then none else rSet S s.2) ∧ ∃ q, q ≤ S.size ∧ h' = h.set id (iObj S (stO (if s.1 then none else rSet S s.2) q))) := by
  obtain ⟨bad, p⟩ := s
  simp only at hp ⊢
  have hq1 := qCount_le (S := S) (bad := bad) hp
  refine acalls_of mixed F_pack_In_Set_ok (Nat.le_of_ble_eq_true rfl) ?_; simp only [F_pack_In_Set, wk,if_true,if_false,forall_const,implies_true,ne_eq,eq_self,Nat.reduceEqDiff,Nat.reduceAdd,Nat.reduceMul,Nat.reduceSub,Nat.reduceLeDiff,Nat.reduceLT,Int.reduceEq,Int.reduceLT,Int.reduceLE,Int.reduceAdd,Int.reduceSub,Int.reduceMul,Int.reduceNeg,Int.reduceNe,reduceCtorEq,Int.reduceToNat,↓reduceIte]
  have hc := a_count (s := (bad, p)) 16 ho hs hp
  cases hr : (if bad = true then none else rCount S 16 p) with
  | none =>
    have hrw : (if bad = true then none else rSet S p) = none := by
      cases bad with
      | true => rfl
      | false =>
        simp only [Bool.false_eq_true, if_false] at hr ⊢
        rw [rSet_eq S p hp, hr]
    rw [hrw]
    simp only [hr, vI, stO] at hc
    refine ACalls.use (hc) ?_; rintro _ _ ⟨rfl, rfl⟩; simp only [wk,if_true,if_false,forall_const,implies_true,ne_eq,eq_self,Nat.reduceEqDiff,Nat.reduceAdd,Nat.reduceMul,Nat.reduceSub,Nat.reduceLeDiff,Nat.reduceLT,Int.reduceEq,Int.reduceLT,Int.reduceLE,Int.reduceAdd,Int.reduceSub,Int.reduceMul,Int.reduceNeg,Int.reduceNe,reduceCtorEq,Int.reduceToNat,↓reduceIte, hset ho]
    (repeat (refine And.intro (by first | omega | exact inR_of (by omega) (by omega) | exact ⟨by omega, by omega⟩ | exact ⟨by omega, by omega, by omega⟩ | rfl) ?_))
    refine W_loop (fun k fr h' => k = 0 ∧ fr = [(0, .ptr id 0), (4, .lst (.own 31) 0 []), (9, .int .i64 0), (10, .int .i64 0)] ∧ h' = h.set id (iObj S (true, qCount S bad p))) 0 ⟨rfl, rfl, rfl⟩ ?_
    rintro k fr h' ⟨rfl, rfl, rfl⟩
    simp only [wk,if_true,if_false,forall_const,implies_true,ne_eq,eq_self,Nat.reduceEqDiff,Nat.reduceAdd,Nat.reduceMul,Nat.reduceSub,Nat.reduceLeDiff,Nat.reduceLT,Int.reduceEq,Int.reduceLT,Int.reduceLE,Int.reduceAdd,Int.reduceSub,Int.reduceMul,Int.reduceNeg,Int.reduceNe,reduceCtorEq,Int.reduceToNat,↓reduceIte]
    refine ACalls.use (a_well (bad := true) (hset ho _)) ?_; rintro _ _ ⟨rfl, rfl⟩; simp only [wk,if_true,if_false,forall_const,implies_true,ne_eq,eq_self,Nat.reduceEqDiff,Nat.reduceAdd,Nat.reduceMul,Nat.reduceSub,Nat.reduceLeDiff,Nat.reduceLT,Int.reduceEq,Int.reduceLT,Int.reduceLE,Int.reduceAdd,Int.reduceSub,Int.reduceMul,Int.reduceNeg,Int.reduceNe,reduceCtorEq,Int.reduceToNat,↓reduceIte, hset ho]
    refine ACalls.use (a_fail (bad := true) (hset ho _)) ?_; rintro _ _ ⟨rfl, rfl⟩; simp only [wk,if_true,if_false,forall_const,implies_true,ne_eq,eq_self,Nat.reduceEqDiff,Nat.reduceAdd,Nat.reduceMul,Nat.reduceSub,Nat.reduceLeDiff,Nat.reduceLT,Int.reduceEq,Int.reduceLT,Int.reduceLE,Int.reduceAdd,Int.reduceSub,Int.reduceMul,Int.reduceNeg,Int.reduceNe,reduceCtorEq,Int.reduceToNat,↓reduceIte, hset ho]
    exact ⟨rfl, _, hq1, rfl⟩
  | some x =>
    obtain ⟨n, q⟩ := x
    have hb : bad = false := by cases bad with
      | true => simp at hr
      | false => rfl
    subst hb
    simp only [Bool.false_eq_true, if_false] at hr hc ⊢
    have hle := rCount_le hr
    have hrw := rSet_eq S p hp
    rw [hr] at hrw
    simp only at hrw
    rw [hrw]
    simp only [hr, vI, stO] at hc
    refine ACalls.use (hc) ?_; rintro _ _ ⟨rfl, rfl⟩; simp only [wk,if_true,if_false,forall_const,implies_true,ne_eq,eq_self,Nat.reduceEqDiff,Nat.reduceAdd,Nat.reduceMul,Nat.reduceSub,Nat.reduceLeDiff,Nat.reduceLT,Int.reduceEq,Int.reduceLT,Int.reduceLE,Int.reduceAdd,Int.reduceSub,Int.reduceMul,Int.reduceNeg,Int.reduceNe,reduceCtorEq,Int.reduceToNat,↓reduceIte, hset ho]
    refine ⟨⟨by omega, by omega, by omega⟩, ?_⟩
    refine W_loop (fun k fr h' => ∃ (i : Nat) (ws : List ByteArray) (q' : Nat), i ≤ n ∧ k = n - i ∧ ws.length = i ∧ q' ≤ S.size ∧ fr = [(0, .ptr id 0), (4, .lst (.own 31) i (ws.map .str)), (9, .int .i64 n), (10, .int .i64 i)] ∧ h' = h.set id (iObj S (stO (rWords S q i) q')) ∧ ∀ l q'', rWords S q i = some (l, q'') → ws = l) n ⟨0, [], q, by omega, by omega, rfl, hle.2.1, rfl, rfl, fun l q'' h => by simp only [rWords, Option.some.injEq, Prod.mk.injEq] at h; exact h.1⟩ ?_
    rintro k fr h' ⟨i, ws, q', hi, rfl, hwl, hq', rfl, rfl, hws⟩
    have hst : (stO (rWords S q i) q').2 ≤ S.size := by
      cases hw : rWords S q i with
      | none => exact hq'
      | some x => exact (rWords_le hle.2.1 hw).2.2.1
    simp only [wk,if_true,if_false,forall_const,implies_true,ne_eq,eq_self,Nat.reduceEqDiff,Nat.reduceAdd,Nat.reduceMul,Nat.reduceSub,Nat.reduceLeDiff,Nat.reduceLT,Int.reduceEq,Int.reduceLT,Int.reduceLE,Int.reduceAdd,Int.reduceSub,Int.reduceMul,Int.reduceNeg,Int.reduceNe,reduceCtorEq,Int.reduceToNat,↓reduceIte]
    refine ⟨fun hlt => ?_, fun hge => ?_⟩
    · obtain ⟨q2, hq2, hword⟩ := a_iword (s := stO (rWords S q i) q') (hset ho (iObj S (stO (rWords S q i) q'))) hs hst
      have hstep : stO (if (stO (rWords S q i) q').1 = true then none else rWord S (stO (rWords S q i) q').2) q2 = stO (rWords S q (i + 1)) q2 := by
        cases hw : rWords S q i with
        | none => simp only [rWords, hw, stO, if_true]
        | some x =>
          obtain ⟨l, q3⟩ := x
          simp only [rWords, hw, stO, Bool.false_eq_true, if_false]
          cases rWord S q3 <;> rfl
      obtain ⟨w, hwv, hwx⟩ := vS_str (if (stO (rWords S q i) q').1 = true then none else rWord S (stO (rWords S q i) q').2)
      have hval : ∀ l q'', rWords S q (i + 1) = some (l, q'') → ws ++ [w] = l := by
        intro l q'' he
        cases hw : rWords S q i with
        | none => simp only [rWords, hw] at he; cases he
        | some x =>
          obtain ⟨l', q3⟩ := x
          simp only [rWords, hw] at he
          simp only [hw, stO, Bool.false_eq_true, if_false] at hwx
          cases hw2 : rWord S q3 with
          | none => rw [hw2] at he; cases he
          | some y =>
            obtain ⟨w', q4⟩ := y
            rw [hw2] at he
            simp only [Option.some.injEq, Prod.mk.injEq] at he
            rw [hws l' q3 hw, ← hwx w' q4 hw2, he.1]
      rw [hwv, hstep] at hword
      refine ACalls.use (hword) ?_; rintro _ _ ⟨rfl, rfl⟩; simp only [wk,if_true,if_false,forall_const,implies_true,ne_eq,eq_self,Nat.reduceEqDiff,Nat.reduceAdd,Nat.reduceMul,Nat.reduceSub,Nat.reduceLeDiff,Nat.reduceLT,Int.reduceEq,Int.reduceLT,Int.reduceLE,Int.reduceAdd,Int.reduceSub,Int.reduceMul,Int.reduceNeg,Int.reduceNe,reduceCtorEq,Int.reduceToNat,↓reduceIte]
      (repeat (refine And.intro (by first | omega | exact inR_of (by omega) (by omega) | exact ⟨by omega, by omega⟩ | exact ⟨by omega, by omega, by omega⟩ | rfl) ?_))
      exact ⟨n - (i + 1), by omega, i + 1, ws ++ [w], q2, by omega, rfl, by simp [hwl], hq2, by simp, rfl, hval⟩
    · have hin : i = n := by omega
      subst hin
      cases hw : rWords S q i with
      | none =>
        simp only [stO, wk,if_true,if_false,forall_const,implies_true,ne_eq,eq_self,Nat.reduceEqDiff,Nat.reduceAdd,Nat.reduceMul,Nat.reduceSub,Nat.reduceLeDiff,Nat.reduceLT,Int.reduceEq,Int.reduceLT,Int.reduceLE,Int.reduceAdd,Int.reduceSub,Int.reduceMul,Int.reduceNeg,Int.reduceNe,reduceCtorEq,Int.reduceToNat,↓reduceIte]
        refine ACalls.use (a_well (bad := true) (hset ho _)) ?_; rintro _ _ ⟨rfl, rfl⟩; simp only [wk,if_true,if_false,forall_const,implies_true,ne_eq,eq_self,Nat.reduceEqDiff,Nat.reduceAdd,Nat.reduceMul,Nat.reduceSub,Nat.reduceLeDiff,Nat.reduceLT,Int.reduceEq,Int.reduceLT,Int.reduceLE,Int.reduceAdd,Int.reduceSub,Int.reduceMul,Int.reduceNeg,Int.reduceNe,reduceCtorEq,Int.reduceToNat,↓reduceIte, hset ho]
        refine ACalls.use (a_fail (bad := true) (hset ho _)) ?_; rintro _ _ ⟨rfl, rfl⟩; simp only [wk,if_true,if_false,forall_const,implies_true,ne_eq,eq_self,Nat.reduceEqDiff,Nat.reduceAdd,Nat.reduceMul,Nat.reduceSub,Nat.reduceLeDiff,Nat.reduceLT,Int.reduceEq,Int.reduceLT,Int.reduceLE,Int.reduceAdd,Int.reduceSub,Int.reduceMul,Int.reduceNeg,Int.reduceNe,reduceCtorEq,Int.reduceToNat,↓reduceIte, hset ho]
        exact ⟨rfl, _, hq', rfl⟩
      | some x =>
        obtain ⟨l, q3⟩ := x
        have hl := hws l q3 hw
        subst hl
        have hwl' := rWords_le hle.2.1 hw
        simp only [stO, wk,if_true,if_false,forall_const,implies_true,ne_eq,eq_self,Nat.reduceEqDiff,Nat.reduceAdd,Nat.reduceMul,Nat.reduceSub,Nat.reduceLeDiff,Nat.reduceLT,Int.reduceEq,Int.reduceLT,Int.reduceLE,Int.reduceAdd,Int.reduceSub,Int.reduceMul,Int.reduceNeg,Int.reduceNe,reduceCtorEq,Int.reduceToNat,↓reduceIte]
        refine ACalls.use (a_well (bad := false) (hset ho _)) ?_; rintro _ _ ⟨rfl, rfl⟩; simp only [wk,if_true,if_false,forall_const,implies_true,ne_eq,eq_self,Nat.reduceEqDiff,Nat.reduceAdd,Nat.reduceMul,Nat.reduceSub,Nat.reduceLeDiff,Nat.reduceLT,Int.reduceEq,Int.reduceLT,Int.reduceLE,Int.reduceAdd,Int.reduceSub,Int.reduceMul,Int.reduceNeg,Int.reduceNe,reduceCtorEq,Int.reduceToNat,↓reduceIte, hset ho]
        rw [← hwl]
        refine PCalls.use (p_smay ws (by omega) (fun x hx => by have := wordMay_size (hwl'.2.2.2 x hx); omega)) ?_; simp only [wk,if_true,if_false,forall_const,implies_true,ne_eq,eq_self,Nat.reduceEqDiff,Nat.reduceAdd,Nat.reduceMul,Nat.reduceSub,Nat.reduceLeDiff,Nat.reduceLT,Int.reduceEq,Int.reduceLT,Int.reduceLE,Int.reduceAdd,Int.reduceSub,Int.reduceMul,Int.reduceNeg,Int.reduceNe,reduceCtorEq,Int.reduceToNat,↓reduceIte]
        refine ⟨fun hm => ?_, fun hm => ?_⟩
        · refine ACalls.use (a_fail (bad := false) (hset ho _)) ?_; rintro _ _ ⟨rfl, rfl⟩; simp only [wk,if_true,if_false,forall_const,implies_true,ne_eq,eq_self,Nat.reduceEqDiff,Nat.reduceAdd,Nat.reduceMul,Nat.reduceSub,Nat.reduceLeDiff,Nat.reduceLT,Int.reduceEq,Int.reduceLT,Int.reduceLE,Int.reduceAdd,Int.reduceSub,Int.reduceMul,Int.reduceNeg,Int.reduceNe,reduceCtorEq,Int.reduceToNat,↓reduceIte, hset ho]
          rw [hm]; exact ⟨rfl, _, hwl'.2.2.1, rfl⟩
        · rw [hm]; exact ⟨rfl, q3, hwl'.2.2.1, rfl⟩
end Go.Proofs.YtpjlkefadnbgdaaGreat

/- The plain law of reading: what is read was written so. -/
namespace Go.Proofs.YtpjlkefadnbgdaaGreat
set_option linter.unusedSimpArgs false
set_option linter.unusedVariables false
open Go.RowKit Go.Lib

def upTo (S : ByteArray) (p : Nat) : List UInt8 := S.data.toList.take p
theorem upTo_add (S : ByteArray) (p m : Nat) : upTo S (p + m) = upTo S p ++ (S.data.toList.drop p).take m := by
  unfold upTo; rw [List.take_add]
theorem upTo_size (S : ByteArray) : upTo S S.size = S.data.toList := by unfold upTo; rw [List.take_of_length_le (by simp)]
theorem ext_list (S : ByteArray) (p m : Nat) : (S.extract p (p + m)).data.toList = (S.data.toList.drop p).take m := by
  simp [List.extract_eq_take_drop]
theorem upTo_num {S : ByteArray} {most : Int} {p n q : Nat} (h : rNum S most p = some (n, q)) : upTo S q = upTo S p ++ num n := by
  unfold rNum at h
  split at h
  · next n' m hr =>
    split at h
    · simp only [Option.some.injEq, Prod.mk.injEq] at h
      obtain ⟨rfl, rfl⟩ := h
      rw [upTo_add, rdNum_back hr]
    · cases h
  · cases h
theorem upTo_take {S w : ByteArray} {n p q : Nat} (h : rTake S n p = some (w, q)) : upTo S q = upTo S p ++ w.data.toList ∧ w.size = n := by
  obtain ⟨rfl, h2, rfl⟩ := rTake_le h
  rw [upTo_add, ext_list]
  exact ⟨rfl, by simp; omega⟩
theorem upTo_text {S w : ByteArray} {most : Int} {p q : Nat} (h : rText S most p = some (w, q)) : upTo S q = upTo S p ++ (num w.size ++ w.data.toList) := by
  unfold rText at h
  split at h
  · next n q1 hr =>
    obtain ⟨h1, h2⟩ := upTo_take h
    rw [h1, upTo_num hr, h2, List.append_assoc]
  · cases h
theorem upTo_word {S w : ByteArray} {p q : Nat} (h : rWord S p = some (w, q)) : upTo S q = upTo S p ++ wordBytes w := by
  obtain ⟨h1, h2, h3, h4, h5⟩ := rWord_le h
  have hlt : p < S.data.toList.length := by simp; omega
  have hw : w.size = 2 * byteAt S p := by rw [h4]; simp; omega
  have hb := byteAt_lt S p
  have e : byteAt S p = S.data.toList[p].toNat := by
    unfold byteAt
    rw [List.getElem?_eq_getElem hlt]; rfl
  rw [show q = p + (1 + 2 * byteAt S p) by omega, upTo_add, List.drop_eq_getElem_cons hlt, Nat.add_comm 1, List.take_succ_cons, wordBytes]
  congr 2
  · rw [hw, show 2 * byteAt S p / 2 = byteAt S p by omega, e]; simp
  · rw [h4, show q = p + 1 + 2 * byteAt S p by omega, ext_list]
theorem upTo_words {S : ByteArray} {p : Nat} : ∀ {k : Nat} {l : List ByteArray} {q : Nat}, rWords S p k = some (l, q) → upTo S q = upTo S p ++ l.flatMap wordBytes
  | 0, l, q, h => by
    simp only [rWords, Option.some.injEq, Prod.mk.injEq] at h
    obtain ⟨rfl, rfl⟩ := h
    simp
  | k + 1, l, q, h => by
    simp only [rWords] at h
    split at h
    · next l' q' hr =>
      split at h
      · next w q2 hr2 =>
        simp only [Option.some.injEq, Prod.mk.injEq] at h
        obtain ⟨rfl, rfl⟩ := h
        rw [upTo_word hr2, upTo_words hr]
        simp
      · cases h
    · cases h
theorem upTo_set {S : ByteArray} {l : List ByteArray} {p q : Nat} (h : rSet S p = some (l, q)) : upTo S q = upTo S p ++ setBytes l ∧ setMay l = true ∧ p < q ∧ q ≤ S.size := by
  unfold rSet at h
  split at h
  · cases h
  · next hlt =>
    split at h
    · next l' q' hr =>
      split at h
      · next hm =>
        simp only [Option.some.injEq, Prod.mk.injEq] at h
        obtain ⟨rfl, rfl⟩ := h
        have hl := rWords_le (by omega) hr
        have hp : p < S.data.toList.length := by simp; omega
        refine ⟨?_, hm, by omega, hl.2.2.1⟩
        have e : byteAt S p = S.data.toList[p].toNat := by
          unfold byteAt
          rw [List.getElem?_eq_getElem hp]; rfl
        rw [upTo_words hr, upTo_add, List.drop_eq_getElem_cons hp, setBytes, hl.1, e]
        simp
      · cases h
    · cases h
theorem rText_le {S w : ByteArray} {most : Int} {p q : Nat} (h : rText S most p = some (w, q)) (hp : p ≤ S.size) : p < q ∧ q ≤ S.size ∧ w.size ≤ S.size := by
  unfold rText at h
  split at h
  · next n q1 hr =>
    have h1 := rNum_le hr hp
    obtain ⟨h2, h3, h4⟩ := rTake_le h
    exact ⟨by omega, h3, by rw [h4]; simp; omega⟩
  · cases h
end Go.Proofs.YtpjlkefadnbgdaaGreat

/- The plain law of writing: what is written is read. -/
namespace Go.Proofs.YtpjlkefadnbgdaaGreat
set_option linter.unusedSimpArgs false
set_option linter.unusedVariables false
open Go.RowKit Go.Lib

theorem snocRec {α : Type} {p : List α → Prop} (nil : p []) (append_singleton : ∀ (l : List α) (x : α), p l → p (l ++ [x])) (l : List α) : p l := by
  rw [← List.reverse_reverse l]
  induction l.reverse with
  | nil => exact nil
  | cons x r ih => rw [List.reverse_cons]; exact append_singleton _ _ ih
theorem rNum_at {S : ByteArray} {most : Int} {p n : Nat} {r : List UInt8} (h : S.data.toList.drop p = num n ++ r) (hn : n ≤ 4611686018427387904) (hm : (n : Int) ≤ most) : rNum S most p = some (n, p + (num n).length) := by
  unfold rNum
  rw [h, rdNum_num r hn]
  simp only
  rw [if_pos hm]
theorem drop_more {S : ByteArray} {p : Nat} {a r : List UInt8} (h : S.data.toList.drop p = a ++ r) : S.data.toList.drop (p + a.length) = r := by
  rw [← List.drop_drop, h, List.drop_left]
theorem drop_len {S : ByteArray} {p : Nat} {a r : List UInt8} (h : S.data.toList.drop p = a ++ r) : p + a.length ≤ S.size ∨ a = [] := by
  have := congrArg List.length h
  simp only [List.length_drop, List.length_append, ba_len] at this
  by_cases ha : a = []
  · exact .inr ha
  · have : 0 < a.length := List.length_pos_iff.2 ha
    exact .inl (by omega)
theorem rTake_at {S w : ByteArray} {p : Nat} {r : List UInt8} (h : S.data.toList.drop p = w.data.toList ++ r) (hp : p ≤ S.size) : rTake S w.size p = some (w, p + w.size) := by
  have hl := congrArg List.length h
  simp only [List.length_drop, List.length_append, ba_len] at hl
  unfold rTake
  rw [if_neg (by omega)]
  congr 2
  apply WideShapes.bytes_inj
  rw [ext_list, h, ← ba_len w, List.take_left]
theorem rText_at {S w : ByteArray} {p : Nat} {r : List UInt8} (h : S.data.toList.drop p = (num w.size ++ w.data.toList) ++ r) (hp : p ≤ S.size) (hw : w.size ≤ 4611686018427387904) : rText S w.size p = some (w, p + (num w.size ++ w.data.toList).length) := by
  unfold rText
  rw [List.append_assoc] at h
  rw [rNum_at h hw (by omega)]
  have h1 := drop_more h
  have hq : p + (num w.size).length ≤ S.size := by
    rcases drop_len h with h2 | h2
    · exact h2
    · rw [h2]; exact hp
  simp only
  rw [rTake_at h1 hq, List.length_append, ba_len, Nat.add_assoc]
theorem rWord_at {S w : ByteArray} {p : Nat} {r : List UInt8} (h : S.data.toList.drop p = wordBytes w ++ r) (hw : wordMay w = true) : rWord S p = some (w, p + (wordBytes w).length) := by
  have hs := wordMay_size hw
  have hl := congrArg List.length h
  have hwl : (wordBytes w).length = 1 + w.size := by rw [wordBytes, List.length_cons, ba_len]; omega
  simp only [List.length_drop, List.length_append, ba_len, hwl] at hl
  have hp : p < S.data.toList.length := by rw [ba_len]; omega
  have hb : byteAt S p = w.size / 2 := by
    unfold byteAt
    rw [← List.head?_drop, h]
    simp [wordBytes]; omega
  have h1 : S.data.toList.drop (p + 1) = w.data.toList ++ r := by
    rw [← List.drop_drop, h, wordBytes]; rfl
  unfold rWord
  rw [if_neg (by omega), hb, show 2 * (w.size / 2) = w.size by omega, if_neg (by omega)]
  have e : S.extract (p + 1) (p + 1 + w.size) = w := by
    apply WideShapes.bytes_inj
    rw [ext_list, h1, ← ba_len w, List.take_left]
  rw [e, hw, if_pos rfl, hwl]
  congr 2; omega
theorem rWords_at {S : ByteArray} : ∀ (l : List ByteArray) {p : Nat} {r : List UInt8}, S.data.toList.drop p = l.flatMap wordBytes ++ r → (∀ w ∈ l, wordMay w = true) → rWords S p l.length = some (l, p + (l.flatMap wordBytes).length) := by
  intro l
  induction l using snocRec with
  | nil => intro p r _ _; rfl
  | append_singleton l w ih =>
    intro p r h hw
    rw [List.flatMap_append, List.append_assoc] at h
    have h1 := drop_more h
    rw [List.length_append]
    simp only [List.length_cons, List.length_nil, Nat.zero_add, rWords]
    rw [ih h (fun x hx => hw x (by simp [hx]))]
    simp only [List.flatMap_cons, List.flatMap_nil, List.append_nil] at h1
    simp only
    rw [rWord_at h1 (hw w (by simp))]
    simp [Nat.add_assoc]
theorem rSet_at {S : ByteArray} {l : List ByteArray} {p : Nat} {r : List UInt8} (h : S.data.toList.drop p = setBytes l ++ r) (hm : setMay l = true) : rSet S p = some (l, p + (setBytes l).length) := by
  have hs := setMay_words hm
  have hl := congrArg List.length h
  have hwl : (setBytes l).length = 1 + (l.flatMap wordBytes).length := by rw [setBytes, List.length_cons]; omega
  simp only [List.length_drop, List.length_append, ba_len, hwl] at hl
  have hb : byteAt S p = l.length := by
    unfold byteAt
    rw [← List.head?_drop, h]
    simp [setBytes]; omega
  have h1 : S.data.toList.drop (p + 1) = l.flatMap wordBytes ++ r := by
    rw [← List.drop_drop, h, setBytes]; rfl
  unfold rSet
  rw [if_neg (by omega), hb, rWords_at l h1 hs.2]
  simp only
  rw [hm, if_pos rfl, hwl]
  congr 2; omega

end Go.Proofs.YtpjlkefadnbgdaaGreat

/- The abstract layer: full slices as ones that are only read, however deep; results that are objects as ones that stay. -/
namespace Go.Proofs.YtpjlkefadnbgdaaGreat
set_option linter.unusedSimpArgs false
set_option linter.unusedVariables false
open Go.RowKit Go.Lib

mutual
def rdp : AV → AV
  | .lst .clip n l => .lst .ro n (rdps l)
  | .lst f n l => .lst f n (rdps l)
  | .agg l => .agg (rdps l)
  | .tup l => .tup (rdps l)
  | .fp l => .fp (rdps l)
  | .fn f l => .fn f (rdps l)
  | .fnb f l => .fnb f (rdps l)
  | a => a
def rdps : List AV → List AV
  | [] => []
  | a :: l => rdp a :: rdps l
end
theorem plain_rdp (a : AV) (h : plain a = true) : plain (rdp a) = true := by
  cases a with
  | lst f n l => cases f <;> first | (simp [plain] at h; done) | simp [rdp, plain]
  | itr s p => simp [plain] at h
  | stk e o l => simp [plain] at h
  | _ => simp [rdp, plain]
theorem plains_rdp : ∀ {l : List AV}, plains l → plains (rdps l)
  | [], _ => by intro a ha; simp [rdps] at ha
  | a :: l, h => by
    intro b hb
    simp only [rdps, List.mem_cons] at hb
    rcases hb with rfl | hb
    · exact plain_rdp a (h a (by simp))
    · exact plains_rdp (fun x hx => h x (by simp [hx])) b hb
mutual
theorem Rep.rdp {g : Gh} : ∀ {v : Value} {a : AV}, Rep g v a → Rep g v (rdp a)
  | _, _, .bool b => by simp only [Go.Proofs.YtpjlkefadnbgdaaGreat.rdp]; exact .bool b
  | _, _, .int k n => by simp only [Go.Proofs.YtpjlkefadnbgdaaGreat.rdp]; exact .int k n
  | _, _, .str s => by simp only [Go.Proofs.YtpjlkefadnbgdaaGreat.rdp]; exact .str s
  | _, _, .nilp => by simp only [Go.Proofs.YtpjlkefadnbgdaaGreat.rdp]; exact .nilp
  | _, _, .ptr id off b h => by simp only [Go.Proofs.YtpjlkefadnbgdaaGreat.rdp]; exact .ptr id off b h
  | _, _, .fp b off vs l h hp hl => by simp only [Go.Proofs.YtpjlkefadnbgdaaGreat.rdp]; exact .fp b off vs _ h (plains_rdp hp) (RepL.rdp hl)
  | _, _, .lst b off n c .clip vs l h hp h1 h2 hl => by simp only [Go.Proofs.YtpjlkefadnbgdaaGreat.rdp]; exact .lst b off n c .ro vs _ h (plains_rdp hp) h1 (fun e => by cases e) (RepL.rdp hl)
  | _, _, .lst b off n c .ro vs l h hp h1 h2 hl => by simp only [Go.Proofs.YtpjlkefadnbgdaaGreat.rdp]; exact .lst b off n c .ro vs _ h (plains_rdp hp) h1 (fun e => by cases e) (RepL.rdp hl)
  | _, _, .lst b off n c (.own e) vs l h hp h1 h2 hl => by simp only [Go.Proofs.YtpjlkefadnbgdaaGreat.rdp]; exact .lst b off n c (.own e) vs _ h (plains_rdp hp) h1 (fun e => by cases e) (RepL.rdp hl)
  | _, _, .lst0 a c .clip h => by simp only [Go.Proofs.YtpjlkefadnbgdaaGreat.rdp, rdps]; exact .lst0 a c .ro (fun e => by cases e)
  | _, _, .lst0 a c .ro h => by simp only [Go.Proofs.YtpjlkefadnbgdaaGreat.rdp, rdps]; exact .lst0 a c .ro (fun e => by cases e)
  | _, _, .lst0 a c (.own e) h => by simp only [Go.Proofs.YtpjlkefadnbgdaaGreat.rdp, rdps]; exact .lst0 a c (.own e) (fun e => by cases e)
  | _, _, .hs id b n c h h1 => by simp only [Go.Proofs.YtpjlkefadnbgdaaGreat.rdp]; exact .hs id b n c h h1
  | _, _, .agg vs l h hp hl => by simp only [Go.Proofs.YtpjlkefadnbgdaaGreat.rdp]; exact .agg vs _ h (plains_rdp hp) (RepL.rdp hl)
  | _, _, .tup vs l hp hl => by simp only [Go.Proofs.YtpjlkefadnbgdaaGreat.rdp]; exact .tup vs _ (plains_rdp hp) (RepL.rdp hl)
  | _, _, .fn f vs l hp hl => by simp only [Go.Proofs.YtpjlkefadnbgdaaGreat.rdp]; exact .fn f vs _ (plains_rdp hp) (RepL.rdp hl)
  | _, _, .fnb f vs l hp hl => by simp only [Go.Proofs.YtpjlkefadnbgdaaGreat.rdp]; exact .fnb f vs _ (plains_rdp hp) (RepL.rdp hl)
  | _, _, .nilf => by simp only [Go.Proofs.YtpjlkefadnbgdaaGreat.rdp]; exact .nilf
  | _, _, .opq v h h' => by simp only [Go.Proofs.YtpjlkefadnbgdaaGreat.rdp]; exact .opq v h h'
  | _, _, .frn v Q S W0 h h' h3 h4 => by simp only [Go.Proofs.YtpjlkefadnbgdaaGreat.rdp]; exact .frn v Q S W0 h h' h3 h4
  | _, _, .itr b s p => by simp only [Go.Proofs.YtpjlkefadnbgdaaGreat.rdp]; exact .itr b s p
  | _, _, .stk a c e o l h1 h2 h3 => by simp only [Go.Proofs.YtpjlkefadnbgdaaGreat.rdp]; exact .stk a c e o l h1 h2 h3
  | _, _, .raw a m c h1 h2 => by simp only [Go.Proofs.YtpjlkefadnbgdaaGreat.rdp]; exact .raw a m c h1 h2
  | _, _, .rawp b i m c => by simp only [Go.Proofs.YtpjlkefadnbgdaaGreat.rdp]; exact .rawp b i m c
theorem RepL.rdp {g : Gh} : ∀ {vs : List Value} {l : List AV}, RepL g vs l → RepL g vs (rdps l)
  | _, _, .nil => by simp only [rdps]; exact .nil
  | _, _, .cons h hl => by simp only [rdps]; exact .cons (Rep.rdp h) (RepL.rdp hl)
end
theorem ACalls.deep {P : Program} {f : FuncId} {args : List AV} {h : Hp} {R : AV → Hp → Prop} (hc : ACalls P f args h (fun a h' => R (rdp a) h')) : ACalls P f args h R :=
  ⟨hc.1, fun g w vargs h1 h2 h3 h4 => (hc.2 g w vargs h1 h2 h3 h4).mono fun _ _ ⟨x, a, h', g', q1, q2, q3, q4, q5, q6, q7⟩ => ⟨x, _, h', g', q1, q2, q3, q4, q5.rdp, plain_rdp _ q6, q7⟩⟩
theorem ACalls.argd {P : Program} {f : FuncId} {args : List AV} {h : Hp} {R : AV → Hp → Prop} (hc : ACalls P f (rdps args) h R) : ACalls P f args h R :=
  ⟨hc.1, fun g w vargs h1 h2 h3 h4 => hc.2 g w vargs h1 h2 h3.rdp (plains_rdp h4)⟩
mutual
theorem free_rdp : ∀ a : AV, free (rdp a) = free a
  | .lst .clip n l => by simp only [rdp, free, frees_rdp l]
  | .lst .ro n l => by simp only [rdp, free, frees_rdp l]
  | .lst (.own e) n l => by simp only [rdp, free, frees_rdp l]
  | .agg l => by simp only [rdp, free, frees_rdp l]
  | .tup l => by simp only [rdp, free, frees_rdp l]
  | .fp l => by simp only [rdp, free, frees_rdp l]
  | .fn f l => by simp only [rdp, free, frees_rdp l]
  | .fnb f l => by simp only [rdp, free, frees_rdp l]
  | .bool _ => by simp only [rdp]
  | .int _ _ => by simp only [rdp]
  | .str _ => by simp only [rdp]
  | .nilp => by simp only [rdp]
  | .ptr _ _ => by simp only [rdp]
  | .hs _ _ => by simp only [rdp]
  | .nilf => by simp only [rdp]
  | .opq => by simp only [rdp]
  | .frn _ => by simp only [rdp]
  | .itr _ _ => by simp only [rdp]
  | .stk _ _ _ => by simp only [rdp]
  | .raw _ _ => by simp only [rdp]
  | .rawp _ _ => by simp only [rdp]
theorem frees_rdp : ∀ l : List AV, free.frees (rdps l) = free.frees l
  | [] => rfl
  | a :: l => by simp only [rdps, free.frees, free_rdp a, frees_rdp l]
end
theorem PCalls.argd {P : Program} {f : FuncId} {args : List AV} {v : AV} (hc : PCalls P f (rdps args) v) : PCalls P f args v :=
  ⟨by rw [← frees_rdp]; exact hc.1, hc.2.1, ACalls.argd hc.2.2⟩
theorem rdps_nil : rdps [] = [] := by simp only [rdps]
theorem rdps_cons (a : AV) (l : List AV) : rdps (a :: l) = rdp a :: rdps l := by simp only [rdps]
theorem rdp_bool (b : Bool) : rdp (.bool b) = .bool b := by simp only [rdp]
theorem rdp_int (k : IntKind) (n : Int) : rdp (.int k n) = .int k n := by simp only [rdp]
theorem rdp_str (s : ByteArray) : rdp (.str s) = .str s := by simp only [rdp]
theorem rdp_nilp : rdp .nilp = .nilp := by simp only [rdp]
theorem rdp_hs (i n : Nat) : rdp (.hs i n) = .hs i n := by simp only [rdp]
theorem rdp_ptr (i n : Nat) : rdp (.ptr i n) = .ptr i n := by simp only [rdp]
theorem rdp_ro (n : Nat) (l : List AV) : rdp (.lst .ro n l) = .lst .ro n (rdps l) := by simp only [rdp]
theorem rdp_clip (n : Nat) (l : List AV) : rdp (.lst .clip n l) = .lst .ro n (rdps l) := by simp only [rdp]
theorem rdp_agg (l : List AV) : rdp (.agg l) = .agg (rdps l) := by simp only [rdp]
theorem rdp_tup (l : List AV) : rdp (.tup l) = .tup (rdps l) := by simp only [rdp]
theorem rdps_str : ∀ l : List ByteArray, rdps (l.map .str) = l.map .str
  | [] => rdps_nil
  | a :: l => by simp only [List.map_cons, rdps_cons, rdp_str, rdps_str l]
theorem rdpw : type_of% (And.intro @rdps_nil (And.intro @rdps_cons (And.intro @rdp_bool (And.intro @rdp_int (And.intro @rdp_str (And.intro @rdp_nilp (And.intro @rdp_hs (And.intro @rdp_ptr (And.intro @rdp_ro (And.intro @rdp_clip (And.intro @rdp_agg (And.intro @rdp_tup @rdps_str)))))))))))) :=
  And.intro @rdps_nil (And.intro @rdps_cons (And.intro @rdp_bool (And.intro @rdp_int (And.intro @rdp_str (And.intro @rdp_nilp (And.intro @rdp_hs (And.intro @rdp_ptr (And.intro @rdp_ro (And.intro @rdp_clip (And.intro @rdp_agg (And.intro @rdp_tup @rdps_str)))))))))))
theorem valL (fr : Fr) (h : Hp) (s : Option Nat) (x : Opd) (K : AV → Prop) : val fr h (.load s x) K = (match ev fr x with
    | some (.ptr id off) => (match h[id]? with
      | some (some (_, l)) => loadK s (l.drop off) K
      | _ => False)
    | some (.fp l) => loadK s l K
    | _ => False) := id rfl
end Go.Proofs.YtpjlkefadnbgdaaGreat

/- What is read of bytes, told for all states of a reader alike. -/
namespace Go.Proofs.YtpjlkefadnbgdaaGreat
set_option linter.unusedSimpArgs false
set_option linter.unusedVariables false
open Go.RowKit Go.Lib

def nI : Option (Nat × Nat) → Nat
  | some (n, _) => n
  | none => 0
def nS : Option (ByteArray × Nat) → ByteArray
  | some (s, _) => s
  | none => ⟨#[]⟩
def nL : Option (List ByteArray × Nat) → List ByteArray
  | some (l, _) => l
  | none => []
theorem vI_n (r : Option (Nat × Nat)) : vI r = .int .i64 (nI r) := by cases r <;> rfl
theorem vS_n (r : Option (ByteArray × Nat)) : vS r = .str (nS r) := by cases r <;> rfl
def rN (S : ByteArray) (m : Int) (s : Bool × Nat) : Option (Nat × Nat) := if s.1 = true then none else rNum S m s.2
def rW (S : ByteArray) (s : Bool × Nat) : Option (ByteArray × Nat) := if s.1 = true then none else rWord S s.2
def rL (S : ByteArray) (s : Bool × Nat) : Option (List ByteArray × Nat) := if s.1 = true then none else rSet S s.2
theorem rN_eq (S : ByteArray) (m : Int) (s : Bool × Nat) : (if s.1 = true then none else rNum S m s.2) = rN S m s := rfl
theorem rW_eq (S : ByteArray) (s : Bool × Nat) : (if s.1 = true then none else rWord S s.2) = rW S s := rfl
theorem rL_eq (S : ByteArray) (s : Bool × Nat) : (if s.1 = true then none else rSet S s.2) = rL S s := rfl
theorem rN_le {S : ByteArray} {m : Int} {s : Bool × Nat} {q : Nat} (hs : s.2 ≤ S.size) (hq : q ≤ S.size) : (stO (rN S m s) q).2 ≤ S.size := by
  unfold rN
  split
  · exact hq
  · cases h : rNum S m s.2 with
    | none => exact hq
    | some x => obtain ⟨n, p⟩ := x; exact (rNum_le h hs).2.1
theorem rW_le {S : ByteArray} {s : Bool × Nat} {q : Nat} (hq : q ≤ S.size) : (stO (rW S s) q).2 ≤ S.size := by
  unfold rW
  split
  · exact hq
  · cases h : rWord S s.2 with
    | none => exact hq
    | some x => obtain ⟨n, p⟩ := x; exact (rWord_le h).2.1
theorem rL_le {S : ByteArray} {s : Bool × Nat} {q : Nat} (hq : q ≤ S.size) : (stO (rL S s) q).2 ≤ S.size := by
  unfold rL
  split
  · exact hq
  · cases h : rSet S s.2 with
    | none => exact hq
    | some x => obtain ⟨n, p⟩ := x; exact (upTo_set h).2.2.2
theorem nI_le {S : ByteArray} {m : Int} {s : Bool × Nat} (hs : s.2 ≤ S.size) : nI (rN S m s) ≤ 4611686018427387904 ∧ (0 ≤ m → (nI (rN S m s) : Int) ≤ m) := by
  unfold rN
  split
  · exact ⟨by simp [nI], fun h => by simpa [nI] using h⟩
  · cases h : rNum S m s.2 with
    | none => exact ⟨by simp [nI], fun h => by simpa [nI] using h⟩
    | some x => obtain ⟨n, p⟩ := x; obtain ⟨_, _, h3, h4⟩ := rNum_le h hs; exact ⟨h3, fun _ => h4⟩
theorem rW_small {S : ByteArray} {s : Bool × Nat} : (nS (rW S s)).size ≤ 16 := by
  unfold rW
  split
  · exact Nat.zero_le _
  · cases h : rWord S s.2 with
    | none => exact Nat.zero_le _
    | some x => obtain ⟨n, p⟩ := x; have := wordMay_size (rWord_le h).2.2.1; show n.size ≤ 16; omega
theorem rL_small {S : ByteArray} {s : Bool × Nat} : (nL (rL S s)).length ≤ 16 ∧ ∀ x ∈ nL (rL S s), x.size ≤ 16 := by
  unfold rL
  split
  · simp [nL]
  · cases h : rSet S s.2 with
    | none => simp [nL]
    | some x => obtain ⟨n, p⟩ := x; exact setMay_small (upTo_set h).2.1
def fL (r : Option (List ByteArray × Nat)) : Fl := match r with
  | some _ => .ro
  | none => .clip
theorem vL_n (r : Option (List ByteArray × Nat)) : vL r = .lst (fL r) (nL r).length ((nL r).map .str) := by cases r <;> rfl
theorem deg_fL (r : Option (List ByteArray × Nat)) (n : Nat) (l : List AV) : deg (.lst (fL r) n l) = .lst (fL r) n l := by cases r <;> rfl
theorem a_num' {h : Hp} {id : Nat} {S : ByteArray} {s : Bool × Nat} (most : Int) (ho : h[id]? = some (iObj S s)) (hs : S.size ≤ 1000000) (hp : s.2 ≤ S.size) {r : Option (Nat × Nat)} (e : r = rN S most s) {s' : Bool × Nat} (d : s' = stO r s.2) :
    ACalls Tryz.prog 49 [.ptr id 0, .int .i64 most] h (fun a h' => a = .int .i64 (nI r) ∧ h' = h.set id (iObj S s')) := by
  have := a_inum most ho (by omega) hp
  rw [rN_eq, ← e, vI_n, ← d] at this
  exact this
theorem a_word' {h : Hp} {id : Nat} {S : ByteArray} {s : Bool × Nat} (ho : h[id]? = some (iObj S s)) (hs : S.size ≤ 1000000) (hp : s.2 ≤ S.size) {r : Option (ByteArray × Nat)} (e : r = rW S s) :
    ∃ q, q ≤ S.size ∧ ACalls Tryz.prog 103 [.ptr id 0] h (fun a h' => a = .str (nS r) ∧ h' = h.set id (iObj S (stO r q))) := by
  obtain ⟨q, hq, hc⟩ := a_iword ho (by omega) hp
  rw [rW_eq, ← e, vS_n] at hc
  exact ⟨q, hq, hc⟩
theorem a_set' {h : Hp} {id : Nat} {S : ByteArray} {s : Bool × Nat} (ho : h[id]? = some (iObj S s)) (hs : S.size ≤ 1000000) (hp : s.2 ≤ S.size) {r : Option (List ByteArray × Nat)} (e : r = rL S s) :
    ACalls Tryz.prog 153 [.ptr id 0] h (fun a h' => a = .lst (fL r) (nL r).length ((nL r).map .str) ∧ ∃ q, q ≤ S.size ∧ h' = h.set id (iObj S (stO r q))) := by
  have := a_iset ho (by omega) hp
  rw [rL_eq, ← e, vL_n] at this
  exact this
end Go.Proofs.YtpjlkefadnbgdaaGreat

namespace Go.Proofs.YtpjlkefadnbgdaaGreat
open Go.RowKit
def J_ref07_In_Num_j1 : ACode :=
 .keep [0] (.seq (.ops [⟨some 68, none, .mv (.t 0), none⟩,
 ⟨some 69, none, .nilck (.t 68), none⟩,
 ⟨some 70, none, .fld 2 (.t 69), none⟩,
 ⟨none, none, .store 1 (.t 70) (.c (.bool true)), none⟩])
 (.keep [] (.seq (.ops [⟨some 4, none, .mv (.c (.int .i64 0)), none⟩])
 (.ret))))
def J_ref07_In_Num_j2 : ACode :=
 .seq (.seq (.ops [⟨some 13, none, .mv (.t 7), none⟩,
 ⟨some 14, none, .bin .lss (.t 13) (.c (.int .i64 9)), none⟩])
 (.keep [0, 1, 5, 6, 7, 14] (.cond (.t 14)
 (.skip)
 (.exit 0))))
 (.keep [0, 1, 5, 6, 7] (.seq (.block 1 (.seq (.seq (.draw [0, 1, 5, 6, 7, 26] [⟨some 17, none, .mv (.t 0), none⟩,
 ⟨some 18, none, .nilck (.t 17), none⟩,
 ⟨some 19, none, .fld 1 (.t 18), none⟩,
 ⟨some 20, none, .load none (.t 19), none⟩,
 ⟨some 21, none, .mv (.t 0), none⟩,
 ⟨some 22, none, .nilck (.t 21), none⟩,
 ⟨some 23, none, .fld 0 (.t 22), none⟩,
 ⟨some 24, none, .load none (.t 23), none⟩,
 ⟨some 25, none, .lens (.t 24), none⟩,
 ⟨some 26, none, .bin .geq (.t 20) (.t 25), none⟩])
 (.keep [0, 1, 5, 6, 7, 26] (.cond (.t 26)
 (.exit 0)
 (.skip))))
 (.keep [0, 1, 5, 6, 7] (.seq (.draw [0, 1, 5, 6, 7, 8] [⟨some 27, none, .mv (.t 0), none⟩,
 ⟨some 28, none, .nilck (.t 27), none⟩,
 ⟨some 29, none, .fld 0 (.t 28), none⟩,
 ⟨some 30, none, .load none (.t 29), none⟩,
 ⟨some 31, none, .mv (.t 0), none⟩,
 ⟨some 32, none, .nilck (.t 31), none⟩,
 ⟨some 33, none, .fld 1 (.t 32), none⟩,
 ⟨some 34, none, .load none (.t 33), none⟩,
 ⟨some 35, none, .idxs (.t 30) (.t 34), none⟩,
 ⟨some 36, none, .conv .i64 (.t 35), none⟩,
 ⟨some 8, none, .mv (.t 36), none⟩])
 (.keep [0, 1, 5, 6, 7, 8] (.seq (.ops [⟨some 37, none, .mv (.t 0), none⟩,
 ⟨some 38, none, .nilck (.t 37), none⟩,
 ⟨some 39, none, .fld 1 (.t 38), none⟩,
 ⟨some 40, none, .load none (.t 39), none⟩,
 ⟨some 41, none, .bin .add (.t 40) (.c (.int .i64 1)), none⟩,
 ⟨some 42, none, .nilck (.t 37), none⟩,
 ⟨some 43, none, .fld 1 (.t 42), none⟩,
 ⟨none, none, .store 1 (.t 43) (.t 41), none⟩])
 (.keep [0, 1, 5, 6, 7, 8] (.seq (.seq (.ops [⟨some 44, none, .mv (.t 7), none⟩,
 ⟨some 45, none, .bin .gtr (.t 44) (.c (.int .i64 0)), none⟩,
 ⟨some 46, none, .mv (.t 45), none⟩,
 ⟨some 47, (some (46, true)), .mv (.t 8), none⟩,
 ⟨some 48, (some (46, true)), .bin .eql (.t 47) (.c (.int .i64 0)), none⟩,
 ⟨some 49, none, .pick (.t 46) (.t 48) (.c (.bool false)), none⟩])
 (.keep [0, 1, 5, 6, 7, 8, 49] (.cond (.t 49)
 (.exit 0)
 (.skip))))
 (.keep [0, 1, 5, 6, 7, 8] (.seq (.ops [⟨some 50, none, .mv (.t 5), none⟩,
 ⟨some 51, none, .mv (.t 8), none⟩,
 ⟨some 52, none, .bin .rem (.t 51) (.c (.int .i64 128)), none⟩,
 ⟨some 53, none, .mv (.t 6), none⟩,
 ⟨some 54, none, .ex (.binw .mul) [(.t 52), (.t 53)], none⟩,
 ⟨some 55, none, .bin .add (.t 50) (.t 54), none⟩,
 ⟨some 5, none, .mv (.t 55), none⟩])
 (.keep [0, 1, 5, 6, 7, 8] (.seq (.seq (.ops [⟨some 56, none, .mv (.t 8), none⟩,
 ⟨some 57, none, .bin .lss (.t 56) (.c (.int .i64 128)), none⟩])
 (.keep [0, 1, 5, 6, 7, 57] (.cond (.t 57)
 (.seq (.seq (.ops [⟨some 58, none, .mv (.t 5), none⟩,
 ⟨some 59, none, .mv (.t 1), none⟩,
 ⟨some 60, none, .bin .gtr (.t 58) (.t 59), none⟩,
 ⟨some 61, none, .mv (.t 60), none⟩,
 ⟨some 62, (some (61, false)), .mv (.t 5), none⟩,
 ⟨some 63, (some (61, false)), .bin .gtr (.t 62) (.c (.int .i64 4611686018427387904)), none⟩,
 ⟨some 64, none, .pick (.t 61) (.c (.bool true)) (.t 63), none⟩])
 (.keep [0, 5, 64] (.cond (.t 64)
 (.exit 0)
 (.skip))))
 (.keep [5] (.seq (.ops [⟨some 65, none, .mv (.t 5), none⟩,
 ⟨some 4, none, .mv (.t 65), none⟩])
 (.ret))))
 (.skip))))
 (.keep [0, 1, 5, 6, 7] (.ops [⟨some 66, none, .mv (.t 6), none⟩,
 ⟨some 67, none, .ex (.binw .mul) [(.t 66), (.c (.int .i64 128))], none⟩,
 ⟨some 6, none, .mv (.t 67), none⟩]))))))))))))))
 (.keep [0, 1, 5, 6, 7] (.ops [⟨some 15, none, .mv (.t 7), none⟩,
 ⟨some 16, none, .bin .add (.t 15) (.c (.int .i64 1)), none⟩,
 ⟨some 7, none, .mv (.t 16), none⟩]))))
def J_ref07_In_Num : AFn :=
 ⟨71, [.t 4], .seq (.ops [⟨some 4, none, .mv (.c (.int .i64 0)), none⟩])
 (.keep [0, 1] (.seq (.seq (.ops [⟨some 9, none, .mv (.t 0), none⟩,
 ⟨some 10, none, .nilck (.t 9), none⟩,
 ⟨some 11, none, .fld 2 (.t 10), none⟩,
 ⟨some 12, none, .load none (.t 11), none⟩])
 (.keep [0, 1, 12] (.cond (.t 12)
 (.seq (.ops [⟨some 4, none, .mv (.c (.int .i64 0)), none⟩])
 (.ret))
 (.skip))))
 (.keep [0, 1] (.seq (.ops [⟨some 5, none, .mv (.c (.int .i64 0)), none⟩])
 (.keep [0, 1, 5] (.seq (.ops [⟨some 6, none, .mv (.c (.int .i64 1)), none⟩])
 (.keep [0, 1, 5, 6] (.seq (.seq (.ops [⟨some 7, none, .mv (.c (.int .i64 0)), none⟩])
 (.keep [0, 1, 5, 6, 7] (.block 0 (.loop [0, 1, 5, 6, 7] (J_ref07_In_Num_j2)))))
 (J_ref07_In_Num_j1)))))))))⟩
theorem J_ref07_In_Num_ok : chkFn Tryz.prog 51 J_ref07_In_Num = true := by kernel_rfl
def J_ref07_In_Set_j1 : ACode :=
 .keep [0, 4] (.seq (.seq (.ops [⟨some 60, none, .mv (.t 0), none⟩,
 ⟨some 61, none, .nilck (.t 60), none⟩,
 ⟨some 62, none, .fld 2 (.t 61), none⟩,
 ⟨some 63, none, .load none (.t 62), none⟩,
 ⟨some 64, none, .mv (.t 63), none⟩,
 ⟨some 65, (some (64, false)), .mv (.t 4), none⟩,
 ⟨some 66, (some (64, false)), .call (.f 69) [(.t 65)], none⟩,
 ⟨some 67, (some (64, false)), .not (.t 66), none⟩,
 ⟨some 68, none, .pick (.t 64) (.c (.bool true)) (.t 67), none⟩])
 (.keep [0, 4, 68] (.cond (.t 68)
 (.seq (.ops [⟨some 69, none, .mv (.t 0), none⟩,
 ⟨some 70, none, .nilck (.t 69), none⟩,
 ⟨some 71, none, .fld 2 (.t 70), none⟩,
 ⟨none, none, .store 1 (.t 71) (.c (.bool true)), none⟩])
 (.keep [] (.seq (.ops [⟨some 2, none, .mv (.c (.lst .clip 0 [])), none⟩])
 (.ret))))
 (.skip))))
 (.keep [4] (.seq (.ops [⟨some 72, none, .mv (.t 4), none⟩,
 ⟨some 2, none, .mv (.t 72), none⟩])
 (.ret))))
def J_ref07_In_Set_j2 : ACode :=
 .seq (.seq (.ops [⟨some 43, none, .mv (.t 5), none⟩,
 ⟨some 44, none, .mv (.t 3), none⟩,
 ⟨some 45, none, .bin .lss (.t 43) (.t 44), none⟩,
 ⟨some 46, none, .mv (.t 45), none⟩,
 ⟨some 47, (some (46, true)), .mv (.t 0), none⟩,
 ⟨some 48, (some (46, true)), .nilck (.t 47), none⟩,
 ⟨some 49, (some (46, true)), .fld 2 (.t 48), none⟩,
 ⟨some 50, (some (46, true)), .load none (.t 49), none⟩,
 ⟨some 51, (some (46, true)), .not (.t 50), none⟩,
 ⟨some 52, none, .pick (.t 46) (.t 51) (.c (.bool false)), none⟩])
 (.keep [0, 3, 4, 5, 52] (.cond (.t 52)
 (.skip)
 (.exit 0))))
 (.keep [0, 3, 4, 5] (.seq (.block 1 (.ops [⟨some 55, none, .mvo 4, none⟩,
 ⟨some 56, none, .mv (.t 0), none⟩,
 ⟨some 57, none, .call (.f 53) [(.t 56)], none⟩,
 ⟨some 58, none, .bsl 31 1 1 [(.str ⟨#[]⟩)] [(0, 1, (.t 57))], none⟩,
 ⟨some 59, none, .appo 31 1 16 55 (.t 58), none⟩,
 ⟨some 4, none, .mvo 59, none⟩]))
 (.keep [0, 3, 4, 5] (.ops [⟨some 53, none, .mv (.t 5), none⟩,
 ⟨some 54, none, .bin .add (.t 53) (.c (.int .i64 1)), none⟩,
 ⟨some 5, none, .mv (.t 54), none⟩]))))
def J_ref07_In_Set : AFn :=
 ⟨73, [.t 2], .seq (.ops [⟨some 2, none, .mv (.c (.lst .clip 0 [])), none⟩])
 (.keep [0] (.seq (.seq (.draw [0, 21] [⟨some 6, none, .mv (.t 0), none⟩,
 ⟨some 7, none, .nilck (.t 6), none⟩,
 ⟨some 8, none, .fld 2 (.t 7), none⟩,
 ⟨some 9, none, .load none (.t 8), none⟩,
 ⟨some 10, none, .mv (.t 9), none⟩,
 ⟨some 11, (some (10, false)), .mv (.t 0), none⟩,
 ⟨some 12, (some (10, false)), .nilck (.t 11), none⟩,
 ⟨some 13, (some (10, false)), .fld 1 (.t 12), none⟩,
 ⟨some 14, (some (10, false)), .load none (.t 13), none⟩,
 ⟨some 15, (some (10, false)), .mv (.t 0), none⟩,
 ⟨some 16, (some (10, false)), .nilck (.t 15), none⟩,
 ⟨some 17, (some (10, false)), .fld 0 (.t 16), none⟩,
 ⟨some 18, (some (10, false)), .load none (.t 17), none⟩,
 ⟨some 19, (some (10, false)), .lens (.t 18), none⟩,
 ⟨some 20, (some (10, false)), .bin .geq (.t 14) (.t 19), none⟩,
 ⟨some 21, none, .pick (.t 10) (.c (.bool true)) (.t 20), none⟩])
 (.keep [0, 21] (.cond (.t 21)
 (.seq (.ops [⟨some 22, none, .mv (.t 0), none⟩,
 ⟨some 23, none, .nilck (.t 22), none⟩,
 ⟨some 24, none, .fld 2 (.t 23), none⟩,
 ⟨none, none, .store 1 (.t 24) (.c (.bool true)), none⟩])
 (.keep [] (.seq (.ops [⟨some 2, none, .mv (.c (.lst .clip 0 [])), none⟩])
 (.ret))))
 (.skip))))
 (.keep [0] (.seq (.draw [0, 3] [⟨some 25, none, .mv (.t 0), none⟩,
 ⟨some 26, none, .nilck (.t 25), none⟩,
 ⟨some 27, none, .fld 0 (.t 26), none⟩,
 ⟨some 28, none, .load none (.t 27), none⟩,
 ⟨some 29, none, .mv (.t 0), none⟩,
 ⟨some 30, none, .nilck (.t 29), none⟩,
 ⟨some 31, none, .fld 1 (.t 30), none⟩,
 ⟨some 32, none, .load none (.t 31), none⟩,
 ⟨some 33, none, .idxs (.t 28) (.t 32), none⟩,
 ⟨some 34, none, .conv .i64 (.t 33), none⟩,
 ⟨some 3, none, .mv (.t 34), none⟩])
 (.keep [0, 3] (.seq (.ops [⟨some 35, none, .mv (.t 0), none⟩,
 ⟨some 36, none, .nilck (.t 35), none⟩,
 ⟨some 37, none, .fld 1 (.t 36), none⟩,
 ⟨some 38, none, .load none (.t 37), none⟩,
 ⟨some 39, none, .bin .add (.t 38) (.c (.int .i64 1)), none⟩,
 ⟨some 40, none, .nilck (.t 35), none⟩,
 ⟨some 41, none, .fld 1 (.t 40), none⟩,
 ⟨none, none, .store 1 (.t 41) (.t 39), none⟩])
 (.keep [0, 3] (.seq (.ops [⟨some 42, none, .bsl 31 1 0 [] [], none⟩,
 ⟨some 4, none, .mvo 42, none⟩])
 (.keep [0, 3, 4] (.seq (.seq (.ops [⟨some 5, none, .mv (.c (.int .i64 0)), none⟩])
 (.keep [0, 3, 4, 5] (.block 0 (.loop [0, 3, 4, 5] (J_ref07_In_Set_j2)))))
 (J_ref07_In_Set_j1)))))))))))⟩
theorem J_ref07_In_Set_ok : chkFn Tryz.prog 52 J_ref07_In_Set = true := by kernel_rfl
def J_ref07_In_Word : AFn :=
 ⟨99, [.t 2], .seq (.ops [⟨some 2, none, .mv (.c (.str ⟨#[]⟩)), none⟩])
 (.keep [0] (.seq (.seq (.draw [0, 20] [⟨some 5, none, .mv (.t 0), none⟩,
 ⟨some 6, none, .nilck (.t 5), none⟩,
 ⟨some 7, none, .fld 2 (.t 6), none⟩,
 ⟨some 8, none, .load none (.t 7), none⟩,
 ⟨some 9, none, .mv (.t 8), none⟩,
 ⟨some 10, (some (9, false)), .mv (.t 0), none⟩,
 ⟨some 11, (some (9, false)), .nilck (.t 10), none⟩,
 ⟨some 12, (some (9, false)), .fld 1 (.t 11), none⟩,
 ⟨some 13, (some (9, false)), .load none (.t 12), none⟩,
 ⟨some 14, (some (9, false)), .mv (.t 0), none⟩,
 ⟨some 15, (some (9, false)), .nilck (.t 14), none⟩,
 ⟨some 16, (some (9, false)), .fld 0 (.t 15), none⟩,
 ⟨some 17, (some (9, false)), .load none (.t 16), none⟩,
 ⟨some 18, (some (9, false)), .lens (.t 17), none⟩,
 ⟨some 19, (some (9, false)), .bin .geq (.t 13) (.t 18), none⟩,
 ⟨some 20, none, .pick (.t 9) (.c (.bool true)) (.t 19), none⟩])
 (.keep [0, 20] (.cond (.t 20)
 (.seq (.ops [⟨some 21, none, .mv (.t 0), none⟩,
 ⟨some 22, none, .nilck (.t 21), none⟩,
 ⟨some 23, none, .fld 2 (.t 22), none⟩,
 ⟨none, none, .store 1 (.t 23) (.c (.bool true)), none⟩])
 (.keep [] (.seq (.ops [⟨some 2, none, .mv (.c (.str ⟨#[]⟩)), none⟩])
 (.ret))))
 (.skip))))
 (.keep [0] (.seq (.draw [0, 3] [⟨some 24, none, .mv (.t 0), none⟩,
 ⟨some 25, none, .nilck (.t 24), none⟩,
 ⟨some 26, none, .fld 0 (.t 25), none⟩,
 ⟨some 27, none, .load none (.t 26), none⟩,
 ⟨some 28, none, .mv (.t 0), none⟩,
 ⟨some 29, none, .nilck (.t 28), none⟩,
 ⟨some 30, none, .fld 1 (.t 29), none⟩,
 ⟨some 31, none, .load none (.t 30), none⟩,
 ⟨some 32, none, .idxs (.t 27) (.t 31), none⟩,
 ⟨some 33, none, .conv .i64 (.t 32), none⟩,
 ⟨some 34, none, .bin .mul (.c (.int .i64 2)) (.t 33), none⟩,
 ⟨some 3, none, .mv (.t 34), none⟩])
 (.keep [0, 3] (.seq (.seq (.draw [0, 3, 68] [⟨some 35, none, .mv (.t 0), none⟩,
 ⟨some 36, none, .nilck (.t 35), none⟩,
 ⟨some 37, none, .fld 1 (.t 36), none⟩,
 ⟨some 38, none, .load none (.t 37), none⟩,
 ⟨some 39, none, .bin .add (.t 38) (.c (.int .i64 1)), none⟩,
 ⟨some 40, none, .mv (.t 3), none⟩,
 ⟨some 41, none, .bin .add (.t 39) (.t 40), none⟩,
 ⟨some 42, none, .mv (.t 0), none⟩,
 ⟨some 43, none, .nilck (.t 42), none⟩,
 ⟨some 44, none, .fld 0 (.t 43), none⟩,
 ⟨some 45, none, .load none (.t 44), none⟩,
 ⟨some 46, none, .lens (.t 45), none⟩,
 ⟨some 47, none, .bin .gtr (.t 41) (.t 46), none⟩,
 ⟨some 48, none, .mv (.t 47), none⟩,
 ⟨some 49, (some (48, false)), .mv (.t 0), none⟩,
 ⟨some 50, (some (48, false)), .nilck (.t 49), none⟩,
 ⟨some 51, (some (48, false)), .fld 0 (.t 50), none⟩,
 ⟨some 52, (some (48, false)), .load none (.t 51), none⟩,
 ⟨some 53, (some (48, false)), .mv (.t 0), none⟩,
 ⟨some 54, (some (48, false)), .nilck (.t 53), none⟩,
 ⟨some 55, (some (48, false)), .fld 1 (.t 54), none⟩,
 ⟨some 56, (some (48, false)), .load none (.t 55), none⟩,
 ⟨some 57, (some (48, false)), .bin .add (.t 56) (.c (.int .i64 1)), none⟩,
 ⟨some 58, (some (48, false)), .mv (.t 0), none⟩,
 ⟨some 59, (some (48, false)), .nilck (.t 58), none⟩,
 ⟨some 60, (some (48, false)), .fld 1 (.t 59), none⟩,
 ⟨some 61, (some (48, false)), .load none (.t 60), none⟩,
 ⟨some 62, (some (48, false)), .bin .add (.t 61) (.c (.int .i64 1)), none⟩,
 ⟨some 63, (some (48, false)), .mv (.t 3), none⟩,
 ⟨some 64, (some (48, false)), .bin .add (.t 62) (.t 63), none⟩,
 ⟨some 65, (some (48, false)), .slcs (.t 52) (some (.t 57)) (some (.t 64)), none⟩,
 ⟨some 66, (some (48, false)), .call (.f 96) [(.t 65)], none⟩,
 ⟨some 67, (some (48, false)), .not (.t 66), none⟩,
 ⟨some 68, none, .pick (.t 48) (.c (.bool true)) (.t 67), none⟩])
 (.keep [0, 3, 68] (.cond (.t 68)
 (.seq (.ops [⟨some 69, none, .mv (.t 0), none⟩,
 ⟨some 70, none, .nilck (.t 69), none⟩,
 ⟨some 71, none, .fld 2 (.t 70), none⟩,
 ⟨none, none, .store 1 (.t 71) (.c (.bool true)), none⟩])
 (.keep [] (.seq (.ops [⟨some 2, none, .mv (.c (.str ⟨#[]⟩)), none⟩])
 (.ret))))
 (.skip))))
 (.keep [0, 3] (.seq (.draw [0, 3, 4] [⟨some 72, none, .mv (.t 0), none⟩,
 ⟨some 73, none, .nilck (.t 72), none⟩,
 ⟨some 74, none, .fld 0 (.t 73), none⟩,
 ⟨some 75, none, .load none (.t 74), none⟩,
 ⟨some 76, none, .mv (.t 0), none⟩,
 ⟨some 77, none, .nilck (.t 76), none⟩,
 ⟨some 78, none, .fld 1 (.t 77), none⟩,
 ⟨some 79, none, .load none (.t 78), none⟩,
 ⟨some 80, none, .bin .add (.t 79) (.c (.int .i64 1)), none⟩,
 ⟨some 81, none, .mv (.t 0), none⟩,
 ⟨some 82, none, .nilck (.t 81), none⟩,
 ⟨some 83, none, .fld 1 (.t 82), none⟩,
 ⟨some 84, none, .load none (.t 83), none⟩,
 ⟨some 85, none, .bin .add (.t 84) (.c (.int .i64 1)), none⟩,
 ⟨some 86, none, .mv (.t 3), none⟩,
 ⟨some 87, none, .bin .add (.t 85) (.t 86), none⟩,
 ⟨some 88, none, .slcs (.t 75) (some (.t 80)) (some (.t 87)), none⟩,
 ⟨some 4, none, .mv (.t 88), none⟩])
 (.keep [0, 3, 4] (.seq (.ops [⟨some 89, none, .mv (.t 0), none⟩,
 ⟨some 90, none, .nilck (.t 89), none⟩,
 ⟨some 91, none, .fld 1 (.t 90), none⟩,
 ⟨some 92, none, .load none (.t 91), none⟩,
 ⟨some 93, none, .mv (.t 3), none⟩,
 ⟨some 94, none, .bin .add (.c (.int .i64 1)) (.t 93), none⟩,
 ⟨some 95, none, .bin .add (.t 92) (.t 94), none⟩,
 ⟨some 96, none, .nilck (.t 89), none⟩,
 ⟨some 97, none, .fld 1 (.t 96), none⟩,
 ⟨none, none, .store 1 (.t 97) (.t 95), none⟩])
 (.keep [4] (.seq (.ops [⟨some 98, none, .mv (.t 4), none⟩,
 ⟨some 2, none, .mv (.t 98), none⟩])
 (.ret)))))))))))))⟩
theorem J_ref07_In_Word_ok : chkFn Tryz.prog 53 J_ref07_In_Word = true := by kernel_rfl
def J_ref07_In_Text : AFn :=
 ⟨55, [.t 4], .seq (.ops [⟨some 4, none, .mv (.c (.str ⟨#[]⟩)), none⟩])
 (.keep [0, 1] (.seq (.ops [⟨some 7, none, .mv (.t 0), none⟩,
 ⟨some 8, none, .mv (.t 1), none⟩,
 ⟨some 9, none, .call (.f 51) [(.t 7), (.t 8)], none⟩,
 ⟨some 5, none, .mv (.t 9), none⟩])
 (.keep [0, 5] (.seq (.seq (.draw [0, 5, 27] [⟨some 10, none, .mv (.t 0), none⟩,
 ⟨some 11, none, .nilck (.t 10), none⟩,
 ⟨some 12, none, .fld 2 (.t 11), none⟩,
 ⟨some 13, none, .load none (.t 12), none⟩,
 ⟨some 14, none, .mv (.t 13), none⟩,
 ⟨some 15, (some (14, false)), .mv (.t 5), none⟩,
 ⟨some 16, (some (14, false)), .mv (.t 0), none⟩,
 ⟨some 17, (some (14, false)), .nilck (.t 16), none⟩,
 ⟨some 18, (some (14, false)), .fld 0 (.t 17), none⟩,
 ⟨some 19, (some (14, false)), .load none (.t 18), none⟩,
 ⟨some 20, (some (14, false)), .lens (.t 19), none⟩,
 ⟨some 21, (some (14, false)), .mv (.t 0), none⟩,
 ⟨some 22, (some (14, false)), .nilck (.t 21), none⟩,
 ⟨some 23, (some (14, false)), .fld 1 (.t 22), none⟩,
 ⟨some 24, (some (14, false)), .load none (.t 23), none⟩,
 ⟨some 25, (some (14, false)), .bin .sub (.t 20) (.t 24), none⟩,
 ⟨some 26, (some (14, false)), .bin .gtr (.t 15) (.t 25), none⟩,
 ⟨some 27, none, .pick (.t 14) (.c (.bool true)) (.t 26), none⟩])
 (.keep [0, 5, 27] (.cond (.t 27)
 (.seq (.ops [⟨some 28, none, .mv (.t 0), none⟩,
 ⟨some 29, none, .nilck (.t 28), none⟩,
 ⟨some 30, none, .fld 2 (.t 29), none⟩,
 ⟨none, none, .store 1 (.t 30) (.c (.bool true)), none⟩])
 (.keep [] (.seq (.ops [⟨some 4, none, .mv (.c (.str ⟨#[]⟩)), none⟩])
 (.ret))))
 (.skip))))
 (.keep [0, 5] (.seq (.draw [0, 5, 6] [⟨some 31, none, .mv (.t 0), none⟩,
 ⟨some 32, none, .nilck (.t 31), none⟩,
 ⟨some 33, none, .fld 0 (.t 32), none⟩,
 ⟨some 34, none, .load none (.t 33), none⟩,
 ⟨some 35, none, .mv (.t 0), none⟩,
 ⟨some 36, none, .nilck (.t 35), none⟩,
 ⟨some 37, none, .fld 1 (.t 36), none⟩,
 ⟨some 38, none, .load none (.t 37), none⟩,
 ⟨some 39, none, .mv (.t 0), none⟩,
 ⟨some 40, none, .nilck (.t 39), none⟩,
 ⟨some 41, none, .fld 1 (.t 40), none⟩,
 ⟨some 42, none, .load none (.t 41), none⟩,
 ⟨some 43, none, .mv (.t 5), none⟩,
 ⟨some 44, none, .bin .add (.t 42) (.t 43), none⟩,
 ⟨some 45, none, .slcs (.t 34) (some (.t 38)) (some (.t 44)), none⟩,
 ⟨some 6, none, .mv (.t 45), none⟩])
 (.keep [0, 5, 6] (.seq (.ops [⟨some 46, none, .mv (.t 0), none⟩,
 ⟨some 47, none, .nilck (.t 46), none⟩,
 ⟨some 48, none, .fld 1 (.t 47), none⟩,
 ⟨some 49, none, .load none (.t 48), none⟩,
 ⟨some 50, none, .mv (.t 5), none⟩,
 ⟨some 51, none, .bin .add (.t 49) (.t 50), none⟩,
 ⟨some 52, none, .nilck (.t 46), none⟩,
 ⟨some 53, none, .fld 1 (.t 52), none⟩,
 ⟨none, none, .store 1 (.t 53) (.t 51), none⟩])
 (.keep [6] (.seq (.ops [⟨some 54, none, .mv (.t 6), none⟩,
 ⟨some 4, none, .mv (.t 54), none⟩])
 (.ret)))))))))))⟩
theorem J_ref07_In_Text_ok : chkFn Tryz.prog 55 J_ref07_In_Text = true := by kernel_rfl
def J_ref07_In_Done : AFn :=
 ⟨22, [.t 2], .seq (.ops [⟨some 2, none, .mv (.c (.int .i64 0)), none⟩])
 (.keep [0] (.seq (.seq (.draw [0, 18] [⟨some 3, none, .mv (.t 0), none⟩,
 ⟨some 4, none, .nilck (.t 3), none⟩,
 ⟨some 5, none, .fld 2 (.t 4), none⟩,
 ⟨some 6, none, .load none (.t 5), none⟩,
 ⟨some 7, none, .mv (.t 6), none⟩,
 ⟨some 8, (some (7, false)), .mv (.t 0), none⟩,
 ⟨some 9, (some (7, false)), .nilck (.t 8), none⟩,
 ⟨some 10, (some (7, false)), .fld 1 (.t 9), none⟩,
 ⟨some 11, (some (7, false)), .load none (.t 10), none⟩,
 ⟨some 12, (some (7, false)), .mv (.t 0), none⟩,
 ⟨some 13, (some (7, false)), .nilck (.t 12), none⟩,
 ⟨some 14, (some (7, false)), .fld 0 (.t 13), none⟩,
 ⟨some 15, (some (7, false)), .load none (.t 14), none⟩,
 ⟨some 16, (some (7, false)), .lens (.t 15), none⟩,
 ⟨some 17, (some (7, false)), .bin .lss (.t 11) (.t 16), none⟩,
 ⟨some 18, none, .pick (.t 7) (.c (.bool true)) (.t 17), none⟩])
 (.keep [0, 18] (.cond (.t 18)
 (.seq (.ops [⟨some 19, none, .mv (.t 0), none⟩,
 ⟨some 20, none, .nilck (.t 19), none⟩,
 ⟨some 21, none, .fld 2 (.t 20), none⟩,
 ⟨none, none, .store 1 (.t 21) (.c (.bool true)), none⟩])
 (.keep [] (.seq (.ops [⟨some 2, none, .mv (.c (.int .i64 2)), none⟩])
 (.ret))))
 (.skip))))
 (.keep [] (.seq (.ops [⟨some 2, none, .mv (.c (.int .i64 0)), none⟩])
 (.ret)))))⟩
theorem J_ref07_In_Done_ok : chkFn Tryz.prog 56 J_ref07_In_Done = true := by kernel_rfl
end Go.Proofs.YtpjlkefadnbgdaaGreat

/- What the reference's In does, over the abstract code. -/
namespace Go.Proofs.YtpjlkefadnbgdaaGreat
set_option linter.unusedSimpArgs false
set_option linter.unusedVariables false
open Go.RowKit Go.Lib

def rdStop : Nat → List UInt8 → Nat
  | _, [] => 0
  | k, c :: r => if 9 ≤ k then 0 else if 0 < k ∧ c.toNat = 0 then 1 else if 128 ≤ c.toNat then 1 + rdStop (k + 1) r else 1
theorem rdStop_le : ∀ (l : List UInt8) (k : Nat), rdStop k l ≤ l.length
  | [], _ => by simp [rdStop]
  | c :: r, k => by
    have := rdStop_le r (k + 1)
    rw [rdStop, List.length_cons]
    split
    · omega
    · split
      · omega
      · split <;> omega
def jStop (S : ByteArray) (s : Bool × Nat) : Nat := if s.1 then s.2 else s.2 + rdStop 0 (S.data.toList.drop s.2)
theorem jStop_le {S : ByteArray} {s : Bool × Nat} (h : s.2 ≤ S.size) : jStop S s ≤ S.size := by
  unfold jStop
  split
  · exact h
  · have := rdStop_le (S.data.toList.drop s.2) 0
    rw [List.length_drop, ba_len] at this; omega
set_option maxRecDepth 100000 in
set_option maxRecDepth 100000 in
set_option maxHeartbeats 2000000 in
theorem r_inum {h : Hp} {id : Nat} {S : ByteArray} {s : Bool × Nat} (most : Int) (ho : h[id]? = some (jObj S s)) (hs : S.size ≤ 1000000000000) (hp : s.2 ≤ S.size) :
    ACalls Tryz.prog 51 [.ptr id 0, .int .i64 most] h (fun a h' => a = vI (if s.1 then none else rNum S most s.2) ∧ h' = h.set id (jObj S (stO (if s.1 then none else rNum S most s.2) (jStop S s)))) := by
  obtain ⟨bad, p⟩ := s
  simp only [jObj] at ho hp ⊢
  refine acalls_of mixed J_ref07_In_Num_ok (Nat.le_of_ble_eq_true rfl) ?_; simp only [J_ref07_In_Num, wk,if_true,if_false,forall_const,implies_true,ne_eq,eq_self,Nat.reduceEqDiff,Nat.reduceAdd,Nat.reduceMul,Nat.reduceSub,Nat.reduceLeDiff,Nat.reduceLT,Int.reduceEq,Int.reduceLT,Int.reduceLE,Int.reduceAdd,Int.reduceSub,Int.reduceMul,Int.reduceNeg,Int.reduceNe,reduceCtorEq,Int.reduceToNat,↓reduceIte]
  simp only [wk,if_true,if_false,forall_const,implies_true,ne_eq,eq_self,Nat.reduceEqDiff,Nat.reduceAdd,Nat.reduceMul,Nat.reduceSub,Nat.reduceLeDiff,Nat.reduceLT,Int.reduceEq,Int.reduceLT,Int.reduceLE,Int.reduceAdd,Int.reduceSub,Int.reduceMul,Int.reduceNeg,Int.reduceNe,reduceCtorEq,Int.reduceToNat,↓reduceIte, ho]
  cases bad with
  | true =>
    refine ⟨fun _ => ⟨rfl, ?_⟩, fun hb => (nomatch hb)⟩
    simp only [stO, if_true, jStop]
    exact (hself ho).symm
  | false =>
    refine ⟨fun hb => (nomatch hb), fun _ => ?_⟩
    simp only [Bool.false_eq_true, if_false, jStop]
    refine W_loop (fun n fr h' => ∃ (k acc : Nat), k ≤ 9 ∧ n = 9 - k ∧ p + k ≤ S.size ∧ acc < 128 ^ k ∧ (∃ part : Int, (k ≤ 8 → part = ((128 ^ k : Nat) : Int)) ∧ fr = [(0, .ptr id 0), (1, .int .i64 most), (5, .int .i64 acc), (6, .int .i64 part), (7, .int .i64 k)]) ∧ h' = h.set id (jObj S (false, p + k)) ∧ rdNum (S.data.toList.drop p) = rdNumAt k acc (S.data.toList.drop (p + k)) ∧ rdStop 0 (S.data.toList.drop p) = k + rdStop k (S.data.toList.drop (p + k))) 9
      ⟨0, 0, by omega, rfl, by omega, by simp, ⟨1, fun _ => rfl, rfl⟩, by rw [Nat.add_zero]; exact (hself ho).symm, rfl, by simp⟩ ?_
    rintro n fr h' ⟨k, acc, hk9, rfl, hks, hacc, ⟨part, hpart, rfl⟩, rfl, hrd, hst⟩
    have hone : ∀ (q : Nat) (fr0 : Fr) (Q : Exit → Fr → Hp → Prop), restr [0] fr0 = [(0, .ptr id 0)] → (∀ fr, ev fr (.t 4) = some (.int .i64 0) → Q .ret fr (h.set id (jObj S (true, q)))) → W Tryz.prog J_ref07_In_Num_j1 fr0 (h.set id (jObj S (false, q))) Q := by
      intro q fr0 Q hf0 hQ
      simp only [J_ref07_In_Num_j1, W_keep]
      rw [hf0]
      simp only [wk,if_true,if_false,forall_const,implies_true,ne_eq,eq_self,Nat.reduceEqDiff,Nat.reduceAdd,Nat.reduceMul,Nat.reduceSub,Nat.reduceLeDiff,Nat.reduceLT,Int.reduceEq,Int.reduceLT,Int.reduceLE,Int.reduceAdd,Int.reduceSub,Int.reduceMul,Int.reduceNeg,Int.reduceNe,reduceCtorEq,Int.reduceToNat,↓reduceIte, hset ho]
      exact hQ _ (by rfl)
    have hnone : rNum S most p = none → AV.int .i64 0 = vI (rNum S most p) ∧ ∀ q, p + rdStop 0 (S.data.toList.drop p) = q → h.set id (jObj S (true, q)) = h.set id (jObj S (stO (rNum S most p) (p + rdStop 0 (S.data.toList.drop p)))) := by
      intro hn
      rw [hn]
      exact ⟨rfl, fun q hq => by rw [hq]; rfl⟩
    by_cases hk : k < 9
    · simp only [J_ref07_In_Num_j2, hset ho, show ((k : Int) < 9) = True from eq_true (by omega), wk,if_true,if_false,forall_const,implies_true,ne_eq,eq_self,Nat.reduceEqDiff,Nat.reduceAdd,Nat.reduceMul,Nat.reduceSub,Nat.reduceLeDiff,Nat.reduceLT,Int.reduceEq,Int.reduceLT,Int.reduceLE,Int.reduceAdd,Int.reduceSub,Int.reduceMul,Int.reduceNeg,Int.reduceNe,reduceCtorEq,Int.reduceToNat,↓reduceIte]
      refine ⟨fun hge => ?_, fun hlt => ?_⟩
      · -- the end
        have hd : S.data.toList.drop (p + k) = [] := List.drop_eq_nil_of_le (by rw [ba_len]; omega)
        have hn : rNum S most p = none := by unfold rNum; rw [hrd, hd]; rfl
        refine hone _ _ _ rfl fun fr hb => ?_
        simp only [wk,if_true,if_false,forall_const,implies_true,ne_eq,eq_self,Nat.reduceEqDiff,Nat.reduceAdd,Nat.reduceMul,Nat.reduceSub,Nat.reduceLeDiff,Nat.reduceLT,Int.reduceEq,Int.reduceLT,Int.reduceLE,Int.reduceAdd,Int.reduceSub,Int.reduceMul,Int.reduceNeg,Int.reduceNe,reduceCtorEq,Int.reduceToNat,↓reduceIte, hb]
        refine ⟨(hnone hn).1, (hnone hn).2 _ ?_⟩
        rw [hst, hd]; rfl
      · have hkd : p + k < S.data.toList.length := by rw [ba_len]; omega
        have hkl : p + k < S.size := by omega
        have hdrop : S.data.toList.drop (p + k) = S[p + k] :: S.data.toList.drop (p + k + 1) := by rw [List.drop_eq_getElem_cons hkd]; rfl
        have hb := S[p + k].toNat_lt
        rw [hdrop, rdNumAt, if_neg (by omega)] at hrd
        rw [hdrop, rdStop, if_neg (by omega)] at hst
        have hpart := hpart (by omega)
        subst hpart
        have hp1 : 128 ^ k ≤ 128 ^ 8 := Nat.pow_le_pow_right (by omega) (by omega)
        have hp2 : S[p + k].toNat % 128 * 128 ^ k ≤ 127 * 128 ^ 8 := Nat.mul_le_mul (by omega) hp1
        have hp3 : acc + S[p + k].toNat % 128 * 128 ^ k < 128 ^ (k + 1) := by
          have : S[p + k].toNat % 128 * 128 ^ k ≤ 127 * 128 ^ k := Nat.mul_le_mul (by omega) (Nat.le_refl _)
          rw [Nat.pow_succ]; omega
        have hbyte : IntKind.i64.wrap (byteAt S ((p + k : Nat) : Int).toNat : Int) = (S[p + k].toNat : Int) := by
          rw [show ((p + k : Nat) : Int).toNat = p + k by omega, byteAt_eq hkl, wrap_byte _ hb]
        have hmod : (S[p + k].toNat : Int).tmod 128 = ((S[p + k].toNat % 128 : Nat) : Int) := by
          rw [Int.tmod_eq_emod_of_nonneg (by omega)]; omega
        have hmul : IntKind.i64.wrap (((S[p + k].toNat % 128 : Nat) : Int) * ((128 ^ k : Nat) : Int)) = ((S[p + k].toNat % 128 * 128 ^ k : Nat) : Int) := by
          rw [← Int.natCast_mul, IntKind.wrap_i64]; omega
        refine ⟨⟨by omega, by omega⟩, ?_⟩
        simp only [hbyte, hset ho, hmod, hmul, wk,if_true,if_false,forall_const,implies_true,ne_eq,eq_self,Nat.reduceEqDiff,Nat.reduceAdd,Nat.reduceMul,Nat.reduceSub,Nat.reduceLeDiff,Nat.reduceLT,Int.reduceEq,Int.reduceLT,Int.reduceLE,Int.reduceAdd,Int.reduceSub,Int.reduceMul,Int.reduceNeg,Int.reduceNe,reduceCtorEq,Int.reduceToNat,↓reduceIte]
        refine ⟨inR_of (by omega) (by omega), ?_⟩
        by_cases hz : 0 < k ∧ S[p + k].toNat = 0
        · have hn : rNum S most p = none := by unfold rNum; rw [hrd, if_pos hz]
          rw [if_pos hz] at hst
          refine ⟨fun h0 => ⟨fun h1 => ?_, fun h1 => absurd hz.2 (by omega)⟩, fun h0 => absurd hz.1 (by omega)⟩
          refine hone (p + k + 1) _ _ rfl fun fr hb => ?_
          simp only [wk,if_true,if_false,forall_const,implies_true,ne_eq,eq_self,Nat.reduceEqDiff,Nat.reduceAdd,Nat.reduceMul,Nat.reduceSub,Nat.reduceLeDiff,Nat.reduceLT,Int.reduceEq,Int.reduceLT,Int.reduceLE,Int.reduceAdd,Int.reduceSub,Int.reduceMul,Int.reduceNeg,Int.reduceNe,reduceCtorEq,Int.reduceToNat,↓reduceIte, hb]
          exact ⟨(hnone hn).1, (hnone hn).2 _ (by omega)⟩
        rw [if_neg hz] at hrd hst
        refine ⟨fun h0 => ⟨fun h1 => absurd ⟨by omega, by omega⟩ hz, fun h1 => ?_⟩, fun h0 => ?_⟩
        all_goals
          refine ⟨inR_of (by omega) (by omega), ?_⟩
          refine ⟨fun hlt8 => ?_, fun hge8 => ?_⟩
          · have hm : S[p + k].toNat % 128 = S[p + k].toNat := Nat.mod_eq_of_lt (by omega)
            rw [if_neg (by omega)] at hrd hst
            rw [hm] at hp2 hp3 ⊢
            refine ⟨fun hmo => ⟨fun hmx => ?_, fun hmx => ?_⟩, fun hmo => ?_⟩
            rotate_left 2
            · have hn : rNum S most p = none := by
                unfold rNum; rw [hrd]
                by_cases hbig : acc + S[p + k].toNat * 128 ^ k > 4611686018427387904
                · rw [if_pos hbig]
                · rw [if_neg hbig]; simp only; rw [if_neg (by omega)]
              refine hone (p + k + 1) _ _ rfl fun fr hb => ?_
              simp only [wk,if_true,if_false,forall_const,implies_true,ne_eq,eq_self,Nat.reduceEqDiff,Nat.reduceAdd,Nat.reduceMul,Nat.reduceSub,Nat.reduceLeDiff,Nat.reduceLT,Int.reduceEq,Int.reduceLT,Int.reduceLE,Int.reduceAdd,Int.reduceSub,Int.reduceMul,Int.reduceNeg,Int.reduceNe,reduceCtorEq,Int.reduceToNat,↓reduceIte, hb]
              exact ⟨(hnone hn).1, (hnone hn).2 _ (by omega)⟩
            · have hn : rNum S most p = none := by
                unfold rNum; rw [hrd, if_pos (by omega)]
              refine hone (p + k + 1) _ _ rfl fun fr hb => ?_
              simp only [wk,if_true,if_false,forall_const,implies_true,ne_eq,eq_self,Nat.reduceEqDiff,Nat.reduceAdd,Nat.reduceMul,Nat.reduceSub,Nat.reduceLeDiff,Nat.reduceLT,Int.reduceEq,Int.reduceLT,Int.reduceLE,Int.reduceAdd,Int.reduceSub,Int.reduceMul,Int.reduceNeg,Int.reduceNe,reduceCtorEq,Int.reduceToNat,↓reduceIte, hb]
              exact ⟨(hnone hn).1, (hnone hn).2 _ (by omega)⟩
            · have hn : rNum S most p = some (acc + S[p + k].toNat * 128 ^ k, p + (k + 1)) := by
                unfold rNum; rw [hrd, if_neg (by omega)]; simp only; rw [if_pos (by omega)]
              rw [hn]
              exact ⟨rfl, rfl⟩
          · rw [if_pos (by omega)] at hrd hst
            refine ⟨inR_of (by omega) (by omega), 9 - (k + 1), by omega, k + 1, _, by omega, rfl, by omega, hp3, ⟨_, fun h8 => ?_, rfl⟩, rfl, hrd, by rw [hst, show p + (k + 1) = p + k + 1 from rfl]; omega⟩
            rw [IntKind.wrap_i64, Nat.pow_succ]
            have hp8 : 128 ^ k ≤ 128 ^ 7 := Nat.pow_le_pow_right (by omega) (by omega)
            omega
    · have hk9' : k = 9 := by omega
      subst hk9'
      have hn : rNum S most p = none := by unfold rNum; rw [hrd, rdNumAt_nine (by omega)]
      simp only [J_ref07_In_Num_j2, show ((9 : Nat) : Int) = 9 from rfl, wk,if_true,if_false,forall_const,implies_true,ne_eq,eq_self,Nat.reduceEqDiff,Nat.reduceAdd,Nat.reduceMul,Nat.reduceSub,Nat.reduceLeDiff,Nat.reduceLT,Int.reduceEq,Int.reduceLT,Int.reduceLE,Int.reduceAdd,Int.reduceSub,Int.reduceMul,Int.reduceNeg,Int.reduceNe,reduceCtorEq,Int.reduceToNat,↓reduceIte]
      refine hone _ _ _ rfl fun fr hb => ?_
      simp only [wk,if_true,if_false,forall_const,implies_true,ne_eq,eq_self,Nat.reduceEqDiff,Nat.reduceAdd,Nat.reduceMul,Nat.reduceSub,Nat.reduceLeDiff,Nat.reduceLT,Int.reduceEq,Int.reduceLT,Int.reduceLE,Int.reduceAdd,Int.reduceSub,Int.reduceMul,Int.reduceNeg,Int.reduceNe,reduceCtorEq,Int.reduceToNat,↓reduceIte, hb]
      refine ⟨(hnone hn).1, (hnone hn).2 _ ?_⟩
      rw [hst]
      cases S.data.toList.drop (p + 9) with
      | nil => rfl
      | cons c r => rw [rdStop, if_pos (by omega)]
theorem r_idone {h : Hp} {id : Nat} {S : ByteArray} {s : Bool × Nat} (ho : h[id]? = some (jObj S s)) (hs : S.size ≤ 1000000000000) (hp : s.2 ≤ S.size) :
    ACalls Tryz.prog 56 [.ptr id 0] h (fun a h' => a = .int .i64 (eI (s.1 || decide (s.2 < S.size))) ∧ h' = h.set id (jObj S (s.1 || decide (s.2 < S.size), s.2))) := by
  obtain ⟨bad, p⟩ := s
  simp only [jObj] at ho hp ⊢
  refine acalls_of mixed J_ref07_In_Done_ok (Nat.le_of_ble_eq_true rfl) ?_; simp only [J_ref07_In_Done, wk,if_true,if_false,forall_const,implies_true,ne_eq,eq_self,Nat.reduceEqDiff,Nat.reduceAdd,Nat.reduceMul,Nat.reduceSub,Nat.reduceLeDiff,Nat.reduceLT,Int.reduceEq,Int.reduceLT,Int.reduceLE,Int.reduceAdd,Int.reduceSub,Int.reduceMul,Int.reduceNeg,Int.reduceNe,reduceCtorEq,Int.reduceToNat,↓reduceIte]
  simp only [wk,if_true,if_false,forall_const,implies_true,ne_eq,eq_self,Nat.reduceEqDiff,Nat.reduceAdd,Nat.reduceMul,Nat.reduceSub,Nat.reduceLeDiff,Nat.reduceLT,Int.reduceEq,Int.reduceLT,Int.reduceLE,Int.reduceAdd,Int.reduceSub,Int.reduceMul,Int.reduceNeg,Int.reduceNe,reduceCtorEq,Int.reduceToNat,↓reduceIte, ho]
  cases bad with
  | true =>
    refine ⟨fun hb => (nomatch hb), fun _ => ?_⟩
    exact ⟨rfl, rfl⟩
  | false =>
    refine ⟨fun _ => ⟨fun hl => ?_, fun hl => ?_⟩, fun hb => (nomatch hb)⟩
    · rw [decide_eq_true (show p < S.size by omega)]; exact ⟨rfl, rfl⟩
    · rw [decide_eq_false (show ¬ p < S.size by omega)]; exact ⟨rfl, (hself ho).symm⟩
set_option maxRecDepth 100000 in
set_option maxHeartbeats 2000000 in
theorem r_itext {h : Hp} {id : Nat} {S : ByteArray} {s : Bool × Nat} (most : Int) (ho : h[id]? = some (jObj S s)) (hs : S.size ≤ 1000000000000) (hp : s.2 ≤ S.size) :
    ACalls Tryz.prog 55 [.ptr id 0, .int .i64 most] h (fun a h' => a = vS (if s.1 then none else rText S most s.2) ∧ ∃ q, q ≤ S.size ∧ h' = h.set id (jObj S (stO (if s.1 then none else rText S most s.2) q))) := by
  obtain ⟨bad, p⟩ := s
  simp only at hp ⊢
  refine acalls_of mixed J_ref07_In_Text_ok (Nat.le_of_ble_eq_true rfl) ?_; simp only [J_ref07_In_Text, wk,if_true,if_false,forall_const,implies_true,ne_eq,eq_self,Nat.reduceEqDiff,Nat.reduceAdd,Nat.reduceMul,Nat.reduceSub,Nat.reduceLeDiff,Nat.reduceLT,Int.reduceEq,Int.reduceLT,Int.reduceLE,Int.reduceAdd,Int.reduceSub,Int.reduceMul,Int.reduceNeg,Int.reduceNe,reduceCtorEq,Int.reduceToNat,↓reduceIte]
  have hj := jStop_le (S := S) (s := (bad, p)) hp
  have hc := r_inum (s := (bad, p)) most ho hs hp
  cases hr : (if bad = true then none else rNum S most p) with
  | none =>
    have hr' : (if bad = true then none else rText S most p) = none := by
      cases bad with
      | true => rfl
      | false =>
        simp only [Bool.false_eq_true, if_false] at hr ⊢
        simp only [rText, hr]
    rw [hr']
    simp only [hr, vI, stO] at hc
    refine ACalls.use (hc) ?_; rintro _ _ ⟨rfl, rfl⟩; simp only [wk,if_true,if_false,forall_const,implies_true,ne_eq,eq_self,Nat.reduceEqDiff,Nat.reduceAdd,Nat.reduceMul,Nat.reduceSub,Nat.reduceLeDiff,Nat.reduceLT,Int.reduceEq,Int.reduceLT,Int.reduceLE,Int.reduceAdd,Int.reduceSub,Int.reduceMul,Int.reduceNeg,Int.reduceNe,reduceCtorEq,Int.reduceToNat,↓reduceIte, hset ho, jObj]
    exact ⟨rfl, _, hj, rfl⟩
  | some x =>
    obtain ⟨n, q⟩ := x
    have hb : bad = false := by cases bad with
      | true => simp at hr
      | false => rfl
    subst hb
    simp only [Bool.false_eq_true, if_false] at hr hc ⊢
    have hle := rNum_le hr hp
    have hr' : rText S most p = rTake S n q := by simp only [rText, hr]
    rw [hr']
    simp only [hr, vI, stO] at hc
    refine ACalls.use (hc) ?_; rintro _ _ ⟨rfl, rfl⟩; simp only [wk,if_true,if_false,forall_const,implies_true,ne_eq,eq_self,Nat.reduceEqDiff,Nat.reduceAdd,Nat.reduceMul,Nat.reduceSub,Nat.reduceLeDiff,Nat.reduceLT,Int.reduceEq,Int.reduceLT,Int.reduceLE,Int.reduceAdd,Int.reduceSub,Int.reduceMul,Int.reduceNeg,Int.reduceNe,reduceCtorEq,Int.reduceToNat,↓reduceIte, hset ho, jObj]
    refine ⟨inR_of (by omega) (by omega), fun hgt => ?_, fun hng => ?_⟩
    · simp only [rTake]
      rw [if_pos (by omega)]; exact ⟨rfl, _, hle.2.1, rfl⟩
    · refine ⟨inR_of (by omega) (by omega), ⟨by omega, by omega, by omega⟩, ?_⟩
      simp only [rTake]
      rw [if_neg (by omega), show (q : Int).toNat = q by omega, show ((q : Int) + n).toNat = q + n by omega]
      refine ⟨inR_of (by omega) (by omega), rfl, _, hp, ?_⟩
      simp only [stO, Int.natCast_add]
set_option maxRecDepth 100000 in
set_option maxHeartbeats 2000000 in
theorem r_iword {h : Hp} {id : Nat} {S : ByteArray} {s : Bool × Nat} (ho : h[id]? = some (jObj S s)) (hs : S.size ≤ 1000000000000) (hp : s.2 ≤ S.size) :
    ACalls Tryz.prog 53 [.ptr id 0] h (fun a h' => a = vS (if s.1 then none else rWord S s.2) ∧ h' = h.set id (jObj S (stO (if s.1 then none else rWord S s.2) s.2))) := by
  obtain ⟨bad, p⟩ := s
  simp only [jObj] at ho hp ⊢
  refine acalls_of mixed J_ref07_In_Word_ok (Nat.le_of_ble_eq_true rfl) ?_; simp only [J_ref07_In_Word, wk,if_true,if_false,forall_const,implies_true,ne_eq,eq_self,Nat.reduceEqDiff,Nat.reduceAdd,Nat.reduceMul,Nat.reduceSub,Nat.reduceLeDiff,Nat.reduceLT,Int.reduceEq,Int.reduceLT,Int.reduceLE,Int.reduceAdd,Int.reduceSub,Int.reduceMul,Int.reduceNeg,Int.reduceNe,reduceCtorEq,Int.reduceToNat,↓reduceIte]
  simp only [wk,if_true,if_false,forall_const,implies_true,ne_eq,eq_self,Nat.reduceEqDiff,Nat.reduceAdd,Nat.reduceMul,Nat.reduceSub,Nat.reduceLeDiff,Nat.reduceLT,Int.reduceEq,Int.reduceLT,Int.reduceLE,Int.reduceAdd,Int.reduceSub,Int.reduceMul,Int.reduceNeg,Int.reduceNe,reduceCtorEq,Int.reduceToNat,↓reduceIte, ho]
  cases bad with
  | true =>
    refine ⟨fun hb => (nomatch hb), fun _ => ?_⟩
    exact ⟨rfl, rfl⟩
  | false =>
    refine ⟨fun _ => ⟨fun hge => ?_, fun hlt => ?_⟩, fun hb => (nomatch hb)⟩
    · simp only [rWord, Bool.false_eq_true, if_false]
      rw [if_pos (by omega)]; exact ⟨rfl, rfl⟩
    · have hb := byteAt_lt S p
      refine ⟨⟨by omega, by omega⟩, ?_⟩
      rw [show (p : Int).toNat = p by omega, wrap_byte _ hb]
      refine ⟨inR_of (by omega) (by omega), inR_of (by omega) (by omega), inR_of (by omega) (by omega), ?_⟩
      simp only [Bool.false_eq_true, if_false, rWord]
      refine ⟨fun hng => ?_, fun hgt => ?_⟩
      · refine ⟨inR_of (by omega) (by omega), inR_of (by omega) (by omega), inR_of (by omega) (by omega), ⟨by omega, by omega, by omega⟩, ?_⟩
        rw [show ((p : Int) + 1).toNat = p + 1 by omega, show ((p : Int) + 1 + 2 * (byteAt S p : Int)).toNat = p + 1 + 2 * byteAt S p by omega, if_neg (by omega), if_neg (by omega)]
        refine ⟨_, p_rwmay (S.extract (p + 1) (p + 1 + 2 * byteAt S p)) (by simp; omega), ?_⟩
        simp only [wk,if_true,if_false,forall_const,implies_true,ne_eq,eq_self,Nat.reduceEqDiff,Nat.reduceAdd,Nat.reduceMul,Nat.reduceSub,Nat.reduceLeDiff,Nat.reduceLT,Int.reduceEq,Int.reduceLT,Int.reduceLE,Int.reduceAdd,Int.reduceSub,Int.reduceMul,Int.reduceNeg,Int.reduceNe,reduceCtorEq,Int.reduceToNat,↓reduceIte]
        refine ⟨fun hm => ?_, fun hm => ?_⟩
        · simp only [wk,if_true,if_false,forall_const,implies_true,ne_eq,eq_self,Nat.reduceEqDiff,Nat.reduceAdd,Nat.reduceMul,Nat.reduceSub,Nat.reduceLeDiff,Nat.reduceLT,Int.reduceEq,Int.reduceLT,Int.reduceLE,Int.reduceAdd,Int.reduceSub,Int.reduceMul,Int.reduceNeg,Int.reduceNe,reduceCtorEq,Int.reduceToNat,↓reduceIte, hm, ho]
          exact ⟨rfl, rfl⟩
        · simp only [wk,if_true,if_false,forall_const,implies_true,ne_eq,eq_self,Nat.reduceEqDiff,Nat.reduceAdd,Nat.reduceMul,Nat.reduceSub,Nat.reduceLeDiff,Nat.reduceLT,Int.reduceEq,Int.reduceLT,Int.reduceLE,Int.reduceAdd,Int.reduceSub,Int.reduceMul,Int.reduceNeg,Int.reduceNe,reduceCtorEq,Int.reduceToNat,↓reduceIte, hm, ho]
          refine ⟨inR_of (by omega) (by omega), inR_of (by omega) (by omega), inR_of (by omega) (by omega), ⟨by omega, by omega, by omega⟩, inR_of (by omega) (by omega), inR_of (by omega) (by omega), ?_⟩
          refine ⟨rfl, ?_⟩
          rw [show (p : Int) + (1 + 2 * (byteAt S p : Int)) = ((p + 1 + 2 * byteAt S p : Nat) : Int) by omega]
          rfl
      · rw [if_neg (by omega), if_pos (by omega)]; exact ⟨rfl, rfl⟩
set_option maxRecDepth 100000 in
set_option maxHeartbeats 2000000 in
theorem r_iset {h : Hp} {id : Nat} {S : ByteArray} {s : Bool × Nat} (ho : h[id]? = some (jObj S s)) (hs : S.size ≤ 1000000000000) (hp : s.2 ≤ S.size) :
    ACalls Tryz.prog 52 [.ptr id 0] h (fun a h' => a = vL (if s.1 then none else rSet S s.2) ∧ ∃ q, q ≤ S.size ∧ h' = h.set id (jObj S (stO (if s.1 then none else rSet S s.2) q))) := by
  obtain ⟨bad, p⟩ := s
  simp only [jObj] at ho hp ⊢
  refine acalls_of mixed J_ref07_In_Set_ok (Nat.le_of_ble_eq_true rfl) ?_; simp only [J_ref07_In_Set, wk,if_true,if_false,forall_const,implies_true,ne_eq,eq_self,Nat.reduceEqDiff,Nat.reduceAdd,Nat.reduceMul,Nat.reduceSub,Nat.reduceLeDiff,Nat.reduceLT,Int.reduceEq,Int.reduceLT,Int.reduceLE,Int.reduceAdd,Int.reduceSub,Int.reduceMul,Int.reduceNeg,Int.reduceNe,reduceCtorEq,Int.reduceToNat,↓reduceIte]
  simp only [wk,if_true,if_false,forall_const,implies_true,ne_eq,eq_self,Nat.reduceEqDiff,Nat.reduceAdd,Nat.reduceMul,Nat.reduceSub,Nat.reduceLeDiff,Nat.reduceLT,Int.reduceEq,Int.reduceLT,Int.reduceLE,Int.reduceAdd,Int.reduceSub,Int.reduceMul,Int.reduceNeg,Int.reduceNe,reduceCtorEq,Int.reduceToNat,↓reduceIte, ho]
  cases bad with
  | true =>
    refine ⟨fun hb => (nomatch hb), fun _ => ?_⟩
    exact ⟨rfl, _, hp, rfl⟩
  | false =>
    refine ⟨fun _ => ⟨fun hge => ?_, fun hlt => ?_⟩, fun hb => (nomatch hb)⟩
    · simp only [rSet, Bool.false_eq_true, if_false]
      rw [if_pos (by omega)]; exact ⟨rfl, _, hp, rfl⟩
    · have hb := byteAt_lt S p
      refine ⟨⟨by omega, by omega⟩, ?_⟩
      rw [show (p : Int).toNat = p by omega, wrap_byte _ hb]
      refine ⟨inR_of (by omega) (by omega), ?_⟩
      simp only [Bool.false_eq_true, if_false, rSet]
      rw [if_neg (by omega)]
      obtain ⟨n, hn⟩ : ∃ n, n = byteAt S p := ⟨_, rfl⟩
      rw [← hn] at hb ⊢
      rw [show (p : Int) + 1 = ((p + 1 : Nat) : Int) by omega]
      refine W_loop (fun k fr h' => ∃ (i q' : Nat) (ws : List ByteArray), i ≤ n ∧ k = n - i ∧ ws.length = i ∧ q' ≤ S.size ∧ fr = [(0, .ptr id 0), (3, .int .i64 n), (4, .lst (.own 31) i (ws.map .str)), (5, .int .i64 i)] ∧ h' = h.set id (jObj S (stO (rWords S (p + 1) i) q')) ∧ ∀ l q'', rWords S (p + 1) i = some (l, q'') → ws = l) n ⟨0, p, [], by omega, by omega, rfl, hp, rfl, rfl, fun l q'' h => by simp only [rWords, Option.some.injEq, Prod.mk.injEq] at h; exact h.1⟩ ?_
      rintro k fr h' ⟨i, q', ws, hi, rfl, hwl, hq', rfl, rfl, hws⟩
      have hdone : (rWords S (p + 1) i = none ∨ i = n) → ∀ Q, (∀ fr a h', ev fr (.t 2) = some a → a = vL (match rWords S (p + 1) n with | some (l, q) => if setMay l then some (l, q) else none | none => none) → (∃ q, q ≤ S.size ∧ h' = h.set id (jObj S (stO (match rWords S (p + 1) n with | some (l, q) => if setMay l then some (l, q) else none | none => none) q))) → Q .ret fr h') → ∀ fr0, restr [0, 4] fr0 = [(0, .ptr id 0), (4, .lst (.own 31) i (ws.map .str))] → W Tryz.prog J_ref07_In_Set_j1 fr0 (h.set id (jObj S (stO (rWords S (p + 1) i) q'))) Q := by
        intro hcase Q hQ fr0 hf0
        simp only [J_ref07_In_Set_j1, W_keep]
        rw [hf0]
        cases hw : rWords S (p + 1) i with
        | none =>
          have hwn : rWords S (p + 1) n = none := by
            have : ∀ j, rWords S (p + 1) (i + j) = none := by
              intro j
              induction j with
              | zero => exact hw
              | succ j ih => show rWords S (p + 1) (i + j + 1) = none; simp only [rWords, ih]
            have := this (n - i)
            rwa [show i + (n - i) = n by omega] at this
          simp only [hset ho, stO, wk,if_true,if_false,forall_const,implies_true,ne_eq,eq_self,Nat.reduceEqDiff,Nat.reduceAdd,Nat.reduceMul,Nat.reduceSub,Nat.reduceLeDiff,Nat.reduceLT,Int.reduceEq,Int.reduceLT,Int.reduceLE,Int.reduceAdd,Int.reduceSub,Int.reduceMul,Int.reduceNeg,Int.reduceNe,reduceCtorEq,Int.reduceToNat,↓reduceIte]
          rw [hwn] at hQ
          exact hQ _ _ _ (by rfl) rfl ⟨q', hq', rfl⟩
        | some x =>
          obtain ⟨l, q3⟩ := x
          have hin : i = n := by rcases hcase with h | h; (rw [h] at hw; cases hw); exact h
          subst hin
          have hl := hws l q3 hw
          subst hl
          have hwl' := rWords_le (by omega) hw
          simp only [hset ho, stO, wk,if_true,if_false,forall_const,implies_true,ne_eq,eq_self,Nat.reduceEqDiff,Nat.reduceAdd,Nat.reduceMul,Nat.reduceSub,Nat.reduceLeDiff,Nat.reduceLT,Int.reduceEq,Int.reduceLT,Int.reduceLE,Int.reduceAdd,Int.reduceSub,Int.reduceMul,Int.reduceNeg,Int.reduceNe,reduceCtorEq,Int.reduceToNat,↓reduceIte]
          rw [← hwl]
          refine PCalls.use (p_rsmay ws (by omega) (fun x hx => by have := wordMay_size (hwl'.2.2.2 x hx); omega)) ?_; simp only [wk,if_true,if_false,forall_const,implies_true,ne_eq,eq_self,Nat.reduceEqDiff,Nat.reduceAdd,Nat.reduceMul,Nat.reduceSub,Nat.reduceLeDiff,Nat.reduceLT,Int.reduceEq,Int.reduceLT,Int.reduceLE,Int.reduceAdd,Int.reduceSub,Int.reduceMul,Int.reduceNeg,Int.reduceNe,reduceCtorEq,Int.reduceToNat,↓reduceIte]
          rw [hw] at hQ
          simp only at hQ
          refine ⟨fun hm => ?_, fun hm => ?_⟩
          · simp only [wk,if_true,if_false,forall_const,implies_true,ne_eq,eq_self,Nat.reduceEqDiff,Nat.reduceAdd,Nat.reduceMul,Nat.reduceSub,Nat.reduceLeDiff,Nat.reduceLT,Int.reduceEq,Int.reduceLT,Int.reduceLE,Int.reduceAdd,Int.reduceSub,Int.reduceMul,Int.reduceNeg,Int.reduceNe,reduceCtorEq,Int.reduceToNat,↓reduceIte, hset ho]
            rw [hm] at hQ
            exact hQ _ _ _ (by rfl) rfl ⟨q3, hwl'.2.2.1, rfl⟩
          · rw [hm] at hQ
            exact hQ _ _ _ (by rfl) rfl ⟨q3, hwl'.2.2.1, rfl⟩
      have hret : ∀ {fr : Fr} {a : AV} {h' : Hp}, ev fr (.t 2) = some a → a = vL (match rWords S (p + 1) n with | some (l, q) => if setMay l then some (l, q) else none | none => none) → (∃ q, q ≤ S.size ∧ h' = h.set id (jObj S (stO (match rWords S (p + 1) n with | some (l, q) => if setMay l then some (l, q) else none | none => none) q))) → resL fr h' [.t 2] (res1 fun a => a = vL (match rWords S (p + 1) n with | some (l, q) => if setMay l then some (l, q) else none | none => none) ∧ ∃ q, q ≤ S.size ∧ h' = h.set id (jObj S (stO (match rWords S (p + 1) n with | some (l, q) => if setMay l then some (l, q) else none | none => none) q))) := by
        intro fr a h' h1 h2 h3
        simp only [wk,if_true,if_false,forall_const,implies_true,ne_eq,eq_self,Nat.reduceEqDiff,Nat.reduceAdd,Nat.reduceMul,Nat.reduceSub,Nat.reduceLeDiff,Nat.reduceLT,Int.reduceEq,Int.reduceLT,Int.reduceLE,Int.reduceAdd,Int.reduceSub,Int.reduceMul,Int.reduceNeg,Int.reduceNe,reduceCtorEq,Int.reduceToNat,↓reduceIte, h1]
        exact ⟨h2, h3⟩
      cases hw : rWords S (p + 1) i with
      | none =>
        rw [hw] at hdone
        simp only [J_ref07_In_Set_j2, stO, hset ho, wk,if_true,if_false,forall_const,implies_true,ne_eq,eq_self,Nat.reduceEqDiff,Nat.reduceAdd,Nat.reduceMul,Nat.reduceSub,Nat.reduceLeDiff,Nat.reduceLT,Int.reduceEq,Int.reduceLT,Int.reduceLE,Int.reduceAdd,Int.reduceSub,Int.reduceMul,Int.reduceNeg,Int.reduceNe,reduceCtorEq,Int.reduceToNat,↓reduceIte]
        refine ⟨fun hlt2 => hdone (.inl rfl) _ (fun fr a h' h1 h2 h3 => ?_) _ rfl, fun hge => hdone (.inl rfl) _ (fun fr a h' h1 h2 h3 => ?_) _ rfl⟩
        · simp only [wk,if_true,if_false,forall_const,implies_true,ne_eq,eq_self,Nat.reduceEqDiff,Nat.reduceAdd,Nat.reduceMul,Nat.reduceSub,Nat.reduceLeDiff,Nat.reduceLT,Int.reduceEq,Int.reduceLT,Int.reduceLE,Int.reduceAdd,Int.reduceSub,Int.reduceMul,Int.reduceNeg,Int.reduceNe,reduceCtorEq,Int.reduceToNat,↓reduceIte]
          exact hret h1 h2 h3
        · simp only [wk,if_true,if_false,forall_const,implies_true,ne_eq,eq_self,Nat.reduceEqDiff,Nat.reduceAdd,Nat.reduceMul,Nat.reduceSub,Nat.reduceLeDiff,Nat.reduceLT,Int.reduceEq,Int.reduceLT,Int.reduceLE,Int.reduceAdd,Int.reduceSub,Int.reduceMul,Int.reduceNeg,Int.reduceNe,reduceCtorEq,Int.reduceToNat,↓reduceIte]
          exact hret h1 h2 h3
      | some x =>
        obtain ⟨l, q3⟩ := x
        have hl := hws l q3 hw
        subst hl
        have hwl' := rWords_le (by omega) hw
        rw [hw] at hdone
        simp only [J_ref07_In_Set_j2, stO, hset ho, wk,if_true,if_false,forall_const,implies_true,ne_eq,eq_self,Nat.reduceEqDiff,Nat.reduceAdd,Nat.reduceMul,Nat.reduceSub,Nat.reduceLeDiff,Nat.reduceLT,Int.reduceEq,Int.reduceLT,Int.reduceLE,Int.reduceAdd,Int.reduceSub,Int.reduceMul,Int.reduceNeg,Int.reduceNe,reduceCtorEq,Int.reduceToNat,↓reduceIte]
        refine ⟨fun hlt2 => ?_, fun hge => hdone (.inr (by omega)) _ (fun fr a h' h1 h2 h3 => ?_) _ rfl⟩
        · have hword := r_iword (s := (false, q3)) (hset ho (jObj S (false, q3))) hs hwl'.2.2.1
          simp only [Bool.false_eq_true, if_false, List.set_set] at hword
          have hstep : rWords S (p + 1) (i + 1) = match rWord S q3 with | some (w, q'') => some (ws ++ [w], q'') | none => none := by
            simp only [rWords, hw] <;> (cases rWord S q3 <;> rfl)
          obtain ⟨w, hwv, hwx⟩ := vS_str (rWord S q3)
          rw [hwv] at hword
          refine ACalls.use (hword) ?_; rintro _ _ ⟨rfl, rfl⟩; simp only [wk,if_true,if_false,forall_const,implies_true,ne_eq,eq_self,Nat.reduceEqDiff,Nat.reduceAdd,Nat.reduceMul,Nat.reduceSub,Nat.reduceLeDiff,Nat.reduceLT,Int.reduceEq,Int.reduceLT,Int.reduceLE,Int.reduceAdd,Int.reduceSub,Int.reduceMul,Int.reduceNeg,Int.reduceNe,reduceCtorEq,Int.reduceToNat,↓reduceIte]
          (repeat (refine And.intro (by first | omega | exact inR_of (by omega) (by omega) | exact ⟨by omega, by omega⟩ | exact ⟨by omega, by omega, by omega⟩ | rfl) ?_))
          refine ⟨n - (i + 1), by omega, i + 1, q3, ws ++ [w], by omega, rfl, by simp [hwl], hwl'.2.2.1, by simp, ?_, ?_⟩
          · rw [hstep] <;> (cases rWord S q3 <;> rfl)
          · intro l q'' he
            rw [hstep] at he
            cases hw2 : rWord S q3 with
            | none => rw [hw2] at he; cases he
            | some y =>
              obtain ⟨w', q4⟩ := y
              rw [hw2] at he
              simp only [Option.some.injEq, Prod.mk.injEq] at he
              rw [← hwx w' q4 hw2, he.1]
        · simp only [wk,if_true,if_false,forall_const,implies_true,ne_eq,eq_self,Nat.reduceEqDiff,Nat.reduceAdd,Nat.reduceMul,Nat.reduceSub,Nat.reduceLeDiff,Nat.reduceLT,Int.reduceEq,Int.reduceLT,Int.reduceLE,Int.reduceAdd,Int.reduceSub,Int.reduceMul,Int.reduceNeg,Int.reduceNe,reduceCtorEq,Int.reduceToNat,↓reduceIte]
          exact hret h1 h2 h3
end Go.Proofs.YtpjlkefadnbgdaaGreat

/- What the reference reads of bytes. -/
namespace Go.Proofs.YtpjlkefadnbgdaaGreat
set_option linter.unusedSimpArgs false
set_option linter.unusedVariables false
open Go.RowKit Go.Lib

theorem b_num' {h : Hp} {id : Nat} {S : ByteArray} {s : Bool × Nat} (most : Int) (ho : h[id]? = some (jObj S s)) (hs : S.size ≤ 1000000) (hp : s.2 ≤ S.size) {r : Option (Nat × Nat)} (e : r = rN S most s) {s' : Bool × Nat} (d : s' = stO r (jStop S s)) :
    ACalls Tryz.prog 51 [.ptr id 0, .int .i64 most] h (fun a h' => a = .int .i64 (nI r) ∧ h' = h.set id (jObj S s')) := by
  have := r_inum most ho (by omega) hp
  rw [rN_eq, ← e, vI_n, ← d] at this
  exact this
theorem b_word' {h : Hp} {id : Nat} {S : ByteArray} {s : Bool × Nat} (ho : h[id]? = some (jObj S s)) (hs : S.size ≤ 1000000) (hp : s.2 ≤ S.size) {r : Option (ByteArray × Nat)} (e : r = rW S s) {s' : Bool × Nat} (d : s' = stO r s.2) :
    ACalls Tryz.prog 53 [.ptr id 0] h (fun a h' => a = .str (nS r) ∧ h' = h.set id (jObj S s')) := by
  have := r_iword ho (by omega) hp
  rw [rW_eq, ← e, vS_n, ← d] at this
  exact this
theorem b_set' {h : Hp} {id : Nat} {S : ByteArray} {s : Bool × Nat} (ho : h[id]? = some (jObj S s)) (hs : S.size ≤ 1000000) (hp : s.2 ≤ S.size) {r : Option (List ByteArray × Nat)} (e : r = rL S s) :
    ACalls Tryz.prog 52 [.ptr id 0] h (fun a h' => a = .lst (fL r) (nL r).length ((nL r).map .str) ∧ ∃ q, q ≤ S.size ∧ h' = h.set id (jObj S (stO r q))) := by
  have := r_iset ho (by omega) hp
  rw [rL_eq, ← e, vL_n] at this
  exact this
theorem str_app2 (a b : List UInt8) : (⟨a.toArray⟩ ++ ⟨b.toArray⟩ : ByteArray) = ⟨(a ++ b).toArray⟩ := by
  apply ByteArray.ext; apply Array.ext'; simp
end Go.Proofs.YtpjlkefadnbgdaaGreat

/- The abstract layer: objects that nobody asks for any more are forgotten; objects that are handed out are only read from then on. -/
namespace Go.Proofs.YtpjlkefadnbgdaaGreat
set_option linter.unusedSimpArgs false
set_option linter.unusedVariables false
open Go.RowKit Go.Lib

def low (n : Nat) : AV → Bool
  | .ptr i _ => decide (i < n)
  | .hs i _ => decide (i < n)
  | .fp l | .lst _ _ l | .agg l | .tup l | .fn _ l | .fnb _ l => lows l
  | _ => true
where lows : List AV → Bool
  | [] => true
  | a :: l => low n a && lows l
def Gh.cut (g : Gh) (n : Nat) : Gh := { g with io := fun i => if i < n then g.io i else none }
theorem io_cut {g : Gh} {n i b : Nat} (h : g.io i = some b) (hi : i < n) : (g.cut n).io i = some b := by
  simp only [Gh.cut, if_pos hi]; exact h
mutual
theorem Rep.cut {g : Gh} (n : Nat) : ∀ {v : Value} {a : AV}, Rep g v a → low n a = true → Rep (g.cut n) v a
  | _, _, .bool b, _ => .bool b
  | _, _, .int k m, _ => .int k m
  | _, _, .str s, _ => .str s
  | _, _, .nilp, _ => .nilp
  | _, _, .ptr id off b h, hl => .ptr id off b (io_cut h (by simpa [low] using hl))
  | _, _, .fp b off vs l h hp hr, hl => .fp b off vs l h hp (RepL.cut n hr (by simpa [low] using hl))
  | _, _, .lst b off m c f vs l h hp h1 h2 hr, hl => .lst b off m c f vs l h hp h1 h2 (RepL.cut n hr (by simpa [low] using hl))
  | _, _, .lst0 a c f h, _ => .lst0 a c f h
  | _, _, .hs id b m c h h1, hl => .hs id b m c (io_cut h (by simpa [low] using hl)) h1
  | _, _, .agg vs l h hp hr, hl => .agg vs l h hp (RepL.cut n hr (by simpa [low] using hl))
  | _, _, .tup vs l hp hr, hl => .tup vs l hp (RepL.cut n hr (by simpa [low] using hl))
  | _, _, .fn f vs l hp hr, hl => .fn f vs l hp (RepL.cut n hr (by simpa [low] using hl))
  | _, _, .fnb f vs l hp hr, hl => .fnb f vs l hp (RepL.cut n hr (by simpa [low] using hl))
  | _, _, .nilf, _ => .nilf
  | _, _, .opq v h h', _ => .opq v h h'
  | _, _, .itr b s p, _ => .itr b s p
  | _, _, .stk a c e o l h1 h2 h3, _ => .stk a c e o l h1 h2 h3
  | _, _, .raw a m c h1 h2, _ => .raw a m c h1 h2
  | _, _, .rawp b i m c, _ => .rawp b i m c
  | _, _, .frn v Q S W0 h1 h2 h3 h4, _ => .frn v Q S W0 h1 h2 h3 h4
theorem RepL.cut {g : Gh} (n : Nat) : ∀ {vs : List Value} {l : List AV}, RepL g vs l → low.lows n l = true → RepL (g.cut n) vs l
  | _, _, .nil, _ => .nil
  | _, _, .cons h hr, hl => by
    simp only [low.lows, Bool.and_eq_true] at hl
    exact .cons (Rep.cut n h hl.1) (RepL.cut n hr hl.2)
end
mutual
theorem Rep.low {g : Gh} {n : Nat} (hd : ∀ i b, g.io i = some b → i < n) : ∀ {v : Value} {a : AV}, Rep g v a → low n a = true
  | _, _, .bool b => by simp [Go.Proofs.YtpjlkefadnbgdaaGreat.low]
  | _, _, .int k m => by simp [Go.Proofs.YtpjlkefadnbgdaaGreat.low]
  | _, _, .str s => by simp [Go.Proofs.YtpjlkefadnbgdaaGreat.low]
  | _, _, .nilp => by simp [Go.Proofs.YtpjlkefadnbgdaaGreat.low]
  | _, _, .ptr id off b h => by simpa [Go.Proofs.YtpjlkefadnbgdaaGreat.low] using hd id b h
  | _, _, .fp b off vs l h hp hr => by simpa [Go.Proofs.YtpjlkefadnbgdaaGreat.low] using RepL.low hd hr
  | _, _, .lst b off m c f vs l h hp h1 h2 hr => by simpa [Go.Proofs.YtpjlkefadnbgdaaGreat.low] using RepL.low hd hr
  | _, _, .lst0 a c f h => by simp [Go.Proofs.YtpjlkefadnbgdaaGreat.low, low.lows]
  | _, _, .hs id b m c h h1 => by simpa [Go.Proofs.YtpjlkefadnbgdaaGreat.low] using hd id b h
  | _, _, .agg vs l h hp hr => by simpa [Go.Proofs.YtpjlkefadnbgdaaGreat.low] using RepL.low hd hr
  | _, _, .tup vs l hp hr => by simpa [Go.Proofs.YtpjlkefadnbgdaaGreat.low] using RepL.low hd hr
  | _, _, .fn f vs l hp hr => by simpa [Go.Proofs.YtpjlkefadnbgdaaGreat.low] using RepL.low hd hr
  | _, _, .fnb f vs l hp hr => by simpa [Go.Proofs.YtpjlkefadnbgdaaGreat.low] using RepL.low hd hr
  | _, _, .nilf => by simp [Go.Proofs.YtpjlkefadnbgdaaGreat.low]
  | _, _, .opq v h h' => by simp [Go.Proofs.YtpjlkefadnbgdaaGreat.low]
  | _, _, .itr b s p => by simp [Go.Proofs.YtpjlkefadnbgdaaGreat.low]
  | _, _, .stk a c e o l h1 h2 h3 => by simp [Go.Proofs.YtpjlkefadnbgdaaGreat.low]
  | _, _, .raw a m c h1 h2 => by simp [Go.Proofs.YtpjlkefadnbgdaaGreat.low]
  | _, _, .rawp b i m c => by simp [Go.Proofs.YtpjlkefadnbgdaaGreat.low]
  | _, _, .frn _ _ _ _ _ _ _ _ => by simp [Go.Proofs.YtpjlkefadnbgdaaGreat.low]
theorem RepL.low {g : Gh} {n : Nat} (hd : ∀ i b, g.io i = some b → i < n) : ∀ {vs : List Value} {l : List AV}, RepL g vs l → low.lows n l = true
  | _, _, .nil => by simp [low.lows]
  | _, _, .cons h hr => by simp [low.lows, Rep.low hd h, RepL.low hd hr]
end
mutual
theorem low_free {n : Nat} : ∀ {a : AV}, free a = true → low n a = true
  | .bool _, _ => by simp [low]
  | .int _ _, _ => by simp [low]
  | .str _, _ => by simp [low]
  | .nilp, _ => by simp [low]
  | .nilf, _ => by simp [low]
  | .opq, _ => by simp [low]
  | .itr _ _, _ => by simp [low]
  | .stk _ _ _, _ => by simp [low]
  | .raw _ _, _ => by simp [low]
  | .rawp _ _, _ => by simp [low]
  | .frn _, _ => by simp [low]
  | .ptr _ _, h => by simp [free] at h
  | .hs _ _, h => by simp [free] at h
  | .fp l, h => by simpa [low] using lows_free (l := l) (by simpa [free] using h)
  | .lst _ _ l, h => by simpa [low] using lows_free (l := l) (by simpa [free] using h)
  | .agg l, h => by simpa [low] using lows_free (l := l) (by simpa [free] using h)
  | .tup l, h => by simpa [low] using lows_free (l := l) (by simpa [free] using h)
  | .fn _ l, h => by simpa [low] using lows_free (l := l) (by simpa [free] using h)
  | .fnb _ l, h => by simpa [low] using lows_free (l := l) (by simpa [free] using h)
theorem lows_free {n : Nat} : ∀ {l : List AV}, free.frees l = true → low.lows n l = true
  | [], _ => by simp [low.lows]
  | a :: l, h => by
    simp only [free.frees, Bool.and_eq_true] at h
    simp [low.lows, low_free (n := n) h.1, lows_free (n := n) h.2]
end
mutual
def fz (h : Hp) : AV → AV
  | .hs id n => match h[id]? with
    | some (some (_, l)) => .lst .ro n (l.map deg)
    | _ => .hs id n
  | .agg l => .agg (fzs h l)
  | .tup l => .tup (fzs h l)
  | a => a
def fzs (h : Hp) : List AV → List AV
  | [] => []
  | a :: l => fz h a :: fzs h l
end
theorem plain_fz {h : Hp} (a : AV) (hp : plain a = true) : plain (fz h a) = true := by
  cases a with
  | hs id n =>
    simp only [fz]
    split <;> rfl
  | lst f n l => simp only [fz]; exact hp
  | itr s p => simp [plain] at hp
  | stk e o l => simp [plain] at hp
  | _ => simp [fz, plain]
theorem plains_fz {h : Hp} : ∀ {l : List AV}, plains l → plains (fzs h l)
  | [], _ => by intro a ha; simp [fzs] at ha
  | a :: l, hp => by
    intro b hb
    simp only [fzs, List.mem_cons] at hb
    rcases hb with rfl | hb
    · exact plain_fz a (hp a (by simp))
    · exact plains_fz (fun x hx => hp x (by simp [hx])) b hb
open Classical in
noncomputable def Gh.ice (g : Gh) (h : Hp) (w : World) : Gh :=
  { g with io := fun _ => none, C := fun b o => match g.C b o with
    | some v => some v
    | none => if ∃ id s l, g.io id = some b ∧ h[id]? = some (some (s, l)) then (w.cell? ⟨b, o, none⟩).filter (fun v => v.oneCell') else none }
theorem ice_le {g : Gh} {h : Hp} {w : World} {b o : Nat} {v : Value} (hc : g.C b o = some v) : (g.ice h w).C b o = some v := by simp only [Gh.ice, hc]
theorem ice_obj {P : Program} {g : Gh} {h : Hp} {w : World} {id : Nat} {s : Bool} {l : List AV} (hs : Sim P g h w) (hl : h[id]? = some (some (s, l))) :
    ∃ b arr, g.io id = some b ∧ CellsAt (g.ice h w) b 0 arr ∧ RepL g arr l := by
  obtain ⟨b, arr, e, p1, p2, p3, p4, p5, p6, p7, p8, p9⟩ := hs.obj id s l hl
  refine ⟨b, arr.toList, p1, fun i v hv => ?_, p3⟩
  cases hC : g.C b (0 + i) with
  | some u =>
    have h1 := (hs.prot _ _ _ hC).1
    rw [Nat.zero_add, cell_of_row w b i arr e (0, 0) p2] at h1
    have : v = u := by
      rw [Array.getElem?_toList] at hv
      rw [hv] at h1
      simpa using h1
    subst this
    exact ice_le hC
  | none =>
    simp only [Gh.ice, hC]
    rw [if_pos ⟨id, s, l, p1, hl⟩]
    simp only [Option.filter_eq_some_iff]
    refine ⟨?_, p4 v (List.mem_of_getElem? hv)⟩
    rw [Nat.zero_add, cell_of_row w b i arr e (0, 0) p2]
    simpa using hv
mutual
theorem Rep.ice {P : Program} {g : Gh} {h : Hp} {w : World} (hs : Sim P g h w) : ∀ {v : Value} {a : AV}, Rep g v a → free (fz h a) = true → Rep (g.ice h w) v (fz h a)
  | _, _, .bool b, _ => by simp only [fz]; exact .bool b
  | _, _, .int k m, _ => by simp only [fz]; exact .int k m
  | _, _, .str s, _ => by simp only [fz]; exact .str s
  | _, _, .nilp, _ => by simp only [fz]; exact .nilp
  | _, _, .ptr id off b hb, hf => by simp [fz, free] at hf
  | _, _, .fp b off vs l hc hp hr, hf => by
    simp only [fz] at hf ⊢
    exact Rep.free (g := g) (fun _ _ _ hc => ice_le hc) (fun _ _ h => h) (.fp b off vs l hc hp hr) hf
  | _, _, .lst b off m c f vs l hc hp h1 h2 hr, hf => by
    simp only [fz] at hf ⊢
    exact Rep.free (g := g) (fun _ _ _ hc => ice_le hc) (fun _ _ h => h) (.lst b off m c f vs l hc hp h1 h2 hr) hf
  | _, _, .lst0 a c f hc, _ => by simp only [fz]; exact .lst0 a c f hc
  | _, _, .hs id b m c hb h1, hf => by
    simp only [fz] at hf ⊢
    split at hf
    · next s l hl =>
      obtain ⟨b', arr, q1, q2, q3⟩ := ice_obj hs hl
      obtain rfl : b = b' := by rw [hb] at q1; simpa using q1
      simp only [free] at hf
      refine .lst b 0 m c .ro arr _ q2 (fun a ha => ?_) h1 (fun e => by cases e) (RepL.free (g := g) (fun _ _ _ hc => ice_le hc) (fun _ _ h => h) q3.deg hf)
      obtain ⟨a', _, rfl⟩ := List.mem_map.1 ha
      exact plain_deg a'
    · simp [free] at hf
  | _, _, .agg vs l h1 hp hr, hf => by
    simp only [fz, free] at hf ⊢
    exact .agg vs _ h1 (plains_fz hp) (RepL.ice hs hr hf)
  | _, _, .tup vs l hp hr, hf => by
    simp only [fz, free] at hf ⊢
    exact .tup vs _ (plains_fz hp) (RepL.ice hs hr hf)
  | _, _, .fn f vs l hp hr, hf => by
    simp only [fz] at hf ⊢
    exact Rep.free (g := g) (fun _ _ _ hc => ice_le hc) (fun _ _ h => h) (.fn f vs l hp hr) hf
  | _, _, .fnb f vs l hp hr, hf => by
    simp only [fz] at hf ⊢
    exact Rep.free (g := g) (fun _ _ _ hc => ice_le hc) (fun _ _ h => h) (.fnb f vs l hp hr) hf
  | _, _, .nilf, _ => by simp only [fz]; exact .nilf
  | _, _, .opq v h h', _ => by simp only [fz]; exact .opq v h h'
  | _, _, .itr b s p, _ => by simp only [fz]; exact .itr b s p
  | _, _, .stk a c e o l h1 h2 h3, _ => by simp only [fz]; exact .stk a c e o l h1 h2 h3
  | _, _, .raw a m c h1 h2, _ => by simp only [fz]; exact .raw a m c h1 h2
  | _, _, .rawp b i m c, _ => by simp only [fz]; exact .rawp b i m c
  | _, _, .frn v Q S W0 h1 h2 h3 h4, _ => by simp only [fz]; exact .frn v Q S W0 h1 h2 h3 h4
theorem RepL.ice {P : Program} {g : Gh} {h : Hp} {w : World} (hs : Sim P g h w) : ∀ {vs : List Value} {l : List AV}, RepL g vs l → free.frees (fzs h l) = true → RepL (g.ice h w) vs (fzs h l)
  | _, _, .nil, _ => by simp only [fzs]; exact .nil
  | _, _, .cons h0 hr, hf => by
    simp only [fzs, free.frees, Bool.and_eq_true] at hf ⊢
    exact .cons (Rep.ice hs h0 hf.1) (RepL.ice hs hr hf.2)
end
end Go.Proofs.YtpjlkefadnbgdaaGreat

namespace Go.Proofs.YtpjlkefadnbgdaaGreat
open Go.RowKit
def J_law22_LetterReads : AFn :=
 ⟨30, [.t 2], .seq (.ops [⟨some 2, none, .mv (.c (.bool false)), none⟩])
 (.keep [0] (.seq (.seq (.ops [⟨some 7, none, .call (.f 11) [], none⟩,
 ⟨some 8, none, .not (.t 7), none⟩])
 (.keep [0, 8] (.cond (.t 8)
 (.seq (.ops [⟨some 2, none, .mv (.c (.bool false)), none⟩])
 (.ret))
 (.skip))))
 (.keep [0] (.seq (.seq (.ops [⟨some 9, none, .mv (.t 0), none⟩,
 ⟨some 10, none, .lens (.t 9), none⟩,
 ⟨some 11, none, .bin .gtr (.t 10) (.c (.int .i64 8192)), none⟩])
 (.keep [0, 11] (.cond (.t 11)
 (.seq (.ops [⟨some 2, none, .mv (.c (.bool true)), none⟩])
 (.ret))
 (.skip))))
 (.keep [0] (.seq (.ops [⟨some 13, none, .mv (.t 0), none⟩,
 ⟨some 14, none, .call (.f 19) [(.t 13)], none⟩,
 ⟨some 12, none, .mv (.t 14), none⟩,
 ⟨some 15, none, .ext 0 (.t 12), none⟩,
 ⟨some 16, none, .ext 1 (.t 12), none⟩,
 ⟨some 3, none, .new [(.int .i64 0), (.int .u16 0), (.int .i64 0), (.int .i64 0), (.int .i64 0), (.int .i64 0), (.int .i64 0), (.lst .clip 0 []), (.int .i64 0), (.int .i64 0), (.str ⟨#[]⟩), (.lst .clip 0 [])] [(11, 80, 7)], none⟩,
 ⟨none, none, .stores 12 (.t 3) (.t 15), none⟩,
 ⟨some 4, none, .mv (.t 16), none⟩])
 (.keep [0, 3, 4] (.seq (.ops [⟨some 18, none, .mv (.t 0), none⟩,
 ⟨some 19, none, .call (.f 20) [(.t 18)], none⟩,
 ⟨some 17, none, .mv (.t 19), none⟩,
 ⟨some 20, none, .ext 0 (.t 17), none⟩,
 ⟨some 21, none, .ext 1 (.t 17), none⟩,
 ⟨some 5, none, .new [(.int .i64 0), (.int .u16 0), (.int .i64 0), (.int .i64 0), (.int .i64 0), (.int .i64 0), (.int .i64 0), (.lst .clip 0 []), (.int .i64 0), (.int .i64 0), (.str ⟨#[]⟩), (.lst .clip 0 [])] [(11, 80, 7)], none⟩,
 ⟨none, none, .stores 12 (.t 5) (.t 20), none⟩,
 ⟨some 6, none, .mv (.t 21), none⟩])
 (.keep [3, 4, 5, 6] (.seq (.ops [⟨some 22, none, .load (some 12) (.t 3), none⟩,
 ⟨some 23, none, .load (some 12) (.t 5), none⟩,
 ⟨some 24, none, .call (.f 21) [(.t 22), (.t 23)], none⟩,
 ⟨some 25, none, .mv (.t 24), none⟩,
 ⟨some 26, (some (25, true)), .mv (.t 4), none⟩,
 ⟨some 27, (some (25, true)), .mv (.t 6), none⟩,
 ⟨some 28, (some (25, true)), .bin .eql (.t 26) (.t 27), none⟩,
 ⟨some 29, none, .pick (.t 25) (.t 28) (.c (.bool false)), none⟩,
 ⟨some 2, none, .mv (.t 29), none⟩])
 (.ret)))))))))))⟩
theorem J_law22_LetterReads_ok : chkFn Tryz.prog 4 J_law22_LetterReads = true := by kernel_rfl
def J_law22_awake : AFn :=
 ⟨97, [.t 0], .seq (.ops [⟨some 0, none, .mv (.c (.bool false)), none⟩])
 (.keep [] (.seq (.ops [⟨some 13, none, .build [(.int .i64 0), (.int .u16 0), (.int .i64 0), (.int .i64 0), (.int .i64 0), (.int .i64 0), (.int .i64 0), (.lst .clip 0 []), (.int .i64 0), (.int .i64 0), (.str ⟨#[]⟩), (.lst .clip 0 [])] [(0, 1, (.c (.int .i64 3))), (1, 1, (.c (.int .u16 16385))), (2, 1, (.c (.int .i64 3))), (9, 1, (.c (.int .i64 8)))], none⟩,
 ⟨some 1, none, .new [(.int .i64 0), (.int .u16 0), (.int .i64 0), (.int .i64 0), (.int .i64 0), (.int .i64 0), (.int .i64 0), (.lst .clip 0 []), (.int .i64 0), (.int .i64 0), (.str ⟨#[]⟩), (.lst .clip 0 [])] [(11, 80, 7)], none⟩,
 ⟨none, none, .stores 12 (.t 1) (.t 13), none⟩])
 (.keep [1] (.seq (.ops [⟨some 15, none, .load (some 12) (.t 1), none⟩,
 ⟨some 16, none, .call (.f 13) [(.t 15)], none⟩,
 ⟨some 14, none, .mv (.t 16), none⟩,
 ⟨some 17, none, .ext 0 (.t 14), none⟩,
 ⟨some 18, none, .ext 1 (.t 14), none⟩,
 ⟨some 2, none, .mv (.t 17), none⟩,
 ⟨some 3, none, .mv (.t 18), none⟩])
 (.keep [1, 2, 3] (.seq (.ops [⟨some 20, none, .mv (.t 2), none⟩,
 ⟨some 21, none, .call (.f 19) [(.t 20)], none⟩,
 ⟨some 19, none, .mv (.t 21), none⟩,
 ⟨some 22, none, .ext 0 (.t 19), none⟩,
 ⟨some 23, none, .ext 1 (.t 19), none⟩,
 ⟨some 4, none, .new [(.int .i64 0), (.int .u16 0), (.int .i64 0), (.int .i64 0), (.int .i64 0), (.int .i64 0), (.int .i64 0), (.lst .clip 0 []), (.int .i64 0), (.int .i64 0), (.str ⟨#[]⟩), (.lst .clip 0 [])] [(11, 80, 7)], none⟩,
 ⟨none, none, .stores 12 (.t 4) (.t 22), none⟩,
 ⟨some 5, none, .mv (.t 23), none⟩])
 (.keep [1, 2, 3, 4, 5] (.seq (.ops [⟨some 25, none, .load (some 12) (.t 1), none⟩,
 ⟨some 26, none, .call (.f 15) [(.t 25)], none⟩,
 ⟨some 24, none, .mv (.t 26), none⟩,
 ⟨some 27, none, .ext 0 (.t 24), none⟩,
 ⟨some 28, none, .ext 1 (.t 24), none⟩,
 ⟨some 6, none, .new [(.int .u16 0), (.int .i64 0), (.int .i64 0), (.str ⟨#[]⟩)] [], none⟩,
 ⟨none, none, .stores 4 (.t 6) (.t 27), none⟩,
 ⟨some 7, none, .mv (.t 28), none⟩])
 (.keep [1, 2, 3, 4, 5, 6, 7] (.seq (.ops [⟨some 30, none, .bsl 23 1 1 [(.int .u16 0)] [(0, 1, (.c (.int .u16 8193)))], none⟩,
 ⟨some 31, none, .call (.f 39) [(.t 30)], none⟩,
 ⟨some 32, none, .build [(.int .i64 0), (.int .u16 0), (.int .i64 0), (.int .i64 0), (.int .i64 0), (.int .i64 0), (.int .i64 0), (.lst .clip 0 []), (.int .i64 0), (.int .i64 0), (.str ⟨#[]⟩), (.lst .clip 0 [])] [(0, 1, (.c (.int .i64 4))), (10, 1, (.t 31))], none⟩,
 ⟨some 33, none, .call (.f 15) [(.t 32)], none⟩,
 ⟨some 29, none, .mv (.t 33), none⟩,
 ⟨some 34, none, .ext 0 (.t 29), none⟩,
 ⟨some 35, none, .ext 1 (.t 29), none⟩,
 ⟨some 8, none, .new [(.int .u16 0), (.int .i64 0), (.int .i64 0), (.str ⟨#[]⟩)] [], none⟩,
 ⟨none, none, .stores 4 (.t 8) (.t 34), none⟩,
 ⟨some 9, none, .mv (.t 35), none⟩])
 (.keep [1, 2, 3, 4, 5, 6, 7, 9] (.seq (.ops [⟨some 37, none, .mv (.t 2), none⟩,
 ⟨some 38, none, .bin .add (.t 37) (.c (.str ⟨#[63]⟩)), none⟩,
 ⟨some 39, none, .call (.f 19) [(.t 38)], none⟩,
 ⟨some 36, none, .mv (.t 39), none⟩,
 ⟨some 40, none, .ext 0 (.t 36), none⟩,
 ⟨some 41, none, .ext 1 (.t 36), none⟩,
 ⟨some 10, none, .new [(.int .i64 0), (.int .u16 0), (.int .i64 0), (.int .i64 0), (.int .i64 0), (.int .i64 0), (.int .i64 0), (.lst .clip 0 []), (.int .i64 0), (.int .i64 0), (.str ⟨#[]⟩), (.lst .clip 0 [])] [(11, 80, 7)], none⟩,
 ⟨none, none, .stores 12 (.t 10) (.t 40), none⟩,
 ⟨some 11, none, .mv (.t 41), none⟩])
 (.keep [1, 2, 3, 4, 5, 6, 7, 9, 11] (.seq (.ops [⟨some 42, none, .load (some 12) (.t 1), none⟩,
 ⟨some 12, none, .new [(.int .i64 0), (.int .u16 0), (.int .i64 0), (.int .i64 0), (.int .i64 0), (.int .i64 0), (.int .i64 0), (.lst .clip 0 []), (.int .i64 0), (.int .i64 0), (.str ⟨#[]⟩), (.lst .clip 0 [])] [(11, 80, 7)], none⟩,
 ⟨none, none, .store 12 (.t 12) (.t 42), none⟩])
 (.keep [1, 2, 3, 4, 5, 6, 7, 9, 11, 12] (.seq (.ops [⟨some 43, none, .fld 10 (.t 12), none⟩,
 ⟨none, none, .store 1 (.t 43) (.c (.str ⟨#[120]⟩)), none⟩])
 (.keep [1, 2, 3, 4, 5, 6, 7, 9, 11, 12] (.seq (.ops [⟨some 44, none, .mv (.t 2), none⟩,
 ⟨some 45, none, .bin .eql (.t 44) (.c (.str ⟨#[3, 129, 128, 1, 3, 0, 8]⟩)), none⟩,
 ⟨some 46, none, .mv (.t 45), none⟩,
 ⟨some 47, (some (46, true)), .mv (.t 3), none⟩,
 ⟨some 48, (some (46, true)), .bin .eql (.t 47) (.c (.int .i64 0)), none⟩,
 ⟨some 49, none, .pick (.t 46) (.t 48) (.c (.bool false)), none⟩,
 ⟨some 50, none, .mv (.t 49), none⟩,
 ⟨some 51, (some (50, true)), .load (some 12) (.t 1), none⟩,
 ⟨some 52, (some (50, true)), .load (some 12) (.t 4), none⟩,
 ⟨some 53, (some (50, true)), .call (.f 40) [(.t 51), (.t 52)], none⟩,
 ⟨some 54, none, .pick (.t 50) (.t 53) (.c (.bool false)), none⟩,
 ⟨some 55, none, .mv (.t 54), none⟩,
 ⟨some 56, (some (55, true)), .load (some 12) (.t 1), none⟩,
 ⟨some 57, (some (55, true)), .load (some 12) (.t 12), none⟩,
 ⟨some 58, (some (55, true)), .call (.f 40) [(.t 56), (.t 57)], none⟩,
 ⟨some 59, (some (55, true)), .not (.t 58), none⟩,
 ⟨some 60, none, .pick (.t 55) (.t 59) (.c (.bool false)), none⟩,
 ⟨some 61, none, .mv (.t 60), none⟩,
 ⟨some 62, (some (61, true)), .mv (.t 5), none⟩,
 ⟨some 63, (some (61, true)), .bin .eql (.t 62) (.c (.int .i64 0)), none⟩,
 ⟨some 64, none, .pick (.t 61) (.t 63) (.c (.bool false)), none⟩,
 ⟨some 65, none, .mv (.t 64), none⟩,
 ⟨some 66, (some (65, true)), .load (some 4) (.t 6), none⟩,
 ⟨some 67, (some (65, true)), .mv (.t 2), none⟩,
 ⟨some 68, (some (65, true)), .build [(.int .u16 0), (.int .i64 0), (.int .i64 0), (.str ⟨#[]⟩)] [(0, 1, (.c (.int .u16 16385))), (1, 1, (.c (.int .i64 1))), (2, 1, (.c (.int .i64 3))), (3, 1, (.t 67))], none⟩,
 ⟨some 69, (some (65, true)), .ex (.aeq false [0, 0, 0, 1]) [(.t 66), (.t 68)], none⟩,
 ⟨some 70, none, .pick (.t 65) (.t 69) (.c (.bool false)), none⟩,
 ⟨some 71, none, .mv (.t 70), none⟩,
 ⟨some 72, (some (71, true)), .mv (.t 7), none⟩,
 ⟨some 73, (some (71, true)), .bin .eql (.t 72) (.c (.int .i64 0)), none⟩,
 ⟨some 74, none, .pick (.t 71) (.t 73) (.c (.bool false)), none⟩,
 ⟨some 75, none, .mv (.t 74), none⟩,
 ⟨some 76, (some (75, true)), .mv (.t 9), none⟩,
 ⟨some 77, (some (75, true)), .bin .eql (.t 76) (.c (.int .i64 1)), none⟩,
 ⟨some 78, none, .pick (.t 75) (.t 77) (.c (.bool false)), none⟩,
 ⟨some 79, none, .mv (.t 78), none⟩,
 ⟨some 80, (some (79, true)), .mv (.t 11), none⟩,
 ⟨some 81, (some (79, true)), .bin .eql (.t 80) (.c (.int .i64 2)), none⟩,
 ⟨some 82, none, .pick (.t 79) (.t 81) (.c (.bool false)), none⟩,
 ⟨some 83, none, .mv (.t 82), none⟩,
 ⟨some 84, (some (83, true)), .load (some 12) (.t 1), none⟩,
 ⟨some 85, (some (83, true)), .call (.f 17) [(.t 84)], none⟩,
 ⟨some 86, none, .pick (.t 83) (.t 85) (.c (.bool false)), none⟩,
 ⟨some 87, none, .mv (.t 86), none⟩,
 ⟨some 88, (some (87, true)), .load (some 12) (.t 12), none⟩,
 ⟨some 89, (some (87, true)), .call (.f 17) [(.t 88)], none⟩,
 ⟨some 90, (some (87, true)), .not (.t 89), none⟩,
 ⟨some 91, none, .pick (.t 87) (.t 90) (.c (.bool false)), none⟩,
 ⟨some 92, none, .mv (.t 91), none⟩,
 ⟨some 93, (some (92, true)), .build [(.int .i64 0), (.int .u16 0), (.int .i64 0), (.int .i64 0), (.int .i64 0), (.int .i64 0), (.int .i64 0), (.lst .clip 0 []), (.int .i64 0), (.int .i64 0), (.str ⟨#[]⟩), (.lst .clip 0 [])] [], none⟩,
 ⟨some 94, (some (92, true)), .call (.f 17) [(.t 93)], none⟩,
 ⟨some 95, (some (92, true)), .not (.t 94), none⟩,
 ⟨some 96, none, .pick (.t 92) (.t 95) (.c (.bool false)), none⟩,
 ⟨some 0, none, .mv (.t 96), none⟩])
 (.ret)))))))))))))))))))⟩
theorem J_law22_awake_ok : chkFn Tryz.prog 11 J_law22_awake = true := by kernel_rfl
def J_letter_Encode : AFn :=
 ⟨25, [.t 2, .t 3], .seq (.ops [⟨some 1, none, .box (.t 0) [], none⟩,
 ⟨some 2, none, .mv (.c (.str ⟨#[]⟩)), none⟩,
 ⟨some 3, none, .mv (.c (.int .i64 0)), none⟩])
 (.keep [1] (.seq (.seq (.ops [⟨some 7, none, .load (some 12) (.t 1), none⟩,
 ⟨some 8, none, .call (.f 41) [(.t 7)], none⟩,
 ⟨some 9, none, .not (.t 8), none⟩])
 (.keep [1, 9] (.cond (.t 9)
 (.seq (.ops [⟨some 2, none, .mv (.c (.str ⟨#[]⟩)), none⟩,
 ⟨some 3, none, .mv (.c (.int .i64 2)), none⟩])
 (.ret))
 (.skip))))
 (.keep [1] (.seq (.ops [⟨some 4, none, .new [(.int .i64 0), (.lst .clip 0 [])] [(1, 5, 1)], none⟩])
 (.keep [1, 4] (.seq (.ops [⟨some 10, none, .ex (.mkb 43) [(.t 4)], none⟩,
 ⟨some 11, none, .load (some 12) (.t 1), none⟩,
 ⟨some 12, none, .call (.f 42) [(.t 4), (.t 10), (.t 11)], none⟩])
 (.keep [4] (.seq (.ops [⟨some 14, none, .call (.f 44) [(.t 4)], none⟩,
 ⟨some 13, none, .mv (.t 14), none⟩,
 ⟨some 15, none, .ext 0 (.t 13), none⟩,
 ⟨some 16, none, .ext 1 (.t 13), none⟩,
 ⟨some 5, none, .mv (.t 15), none⟩,
 ⟨some 6, none, .mv (.t 16), none⟩])
 (.keep [5, 6] (.seq (.seq (.ops [⟨some 17, none, .mv (.t 6), none⟩,
 ⟨some 18, none, .bin .neq (.t 17) (.c (.int .i64 0)), none⟩,
 ⟨some 19, none, .mv (.t 18), none⟩,
 ⟨some 20, (some (19, false)), .mv (.t 5), none⟩,
 ⟨some 21, (some (19, false)), .lens (.t 20), none⟩,
 ⟨some 22, (some (19, false)), .bin .gtr (.t 21) (.c (.int .i64 4000)), none⟩,
 ⟨some 23, none, .pick (.t 19) (.c (.bool true)) (.t 22), none⟩])
 (.keep [5, 23] (.cond (.t 23)
 (.seq (.ops [⟨some 2, none, .mv (.c (.str ⟨#[]⟩)), none⟩,
 ⟨some 3, none, .mv (.c (.int .i64 2)), none⟩])
 (.ret))
 (.skip))))
 (.keep [5] (.seq (.ops [⟨some 24, none, .mv (.t 5), none⟩,
 ⟨some 2, none, .mv (.t 24), none⟩,
 ⟨some 3, none, .mv (.c (.int .i64 0)), none⟩])
 (.ret)))))))))))))⟩
theorem J_letter_Encode_ok : chkFn Tryz.prog 13 J_letter_Encode = true := by kernel_rfl
def J_letter_Mac_j1 : ACode :=
 .keep [1, 2, 4, 6] (.seq (.ops [⟨some 28, none, .fld 1 (.t 1), none⟩,
 ⟨some 29, none, .load none (.t 28), none⟩,
 ⟨some 30, none, .mv (.t 6), none⟩,
 ⟨some 31, none, .fld 2 (.t 1), none⟩,
 ⟨some 32, none, .load none (.t 31), none⟩,
 ⟨some 33, none, .mv (.t 4), none⟩,
 ⟨some 34, none, .build [(.int .u16 0), (.int .i64 0), (.int .i64 0), (.str ⟨#[]⟩)] [(0, 1, (.t 29)), (1, 1, (.t 30)), (2, 1, (.t 32)), (3, 1, (.t 33))], none⟩,
 ⟨none, none, .store 4 (.t 2) (.t 34), none⟩,
 ⟨some 3, none, .mv (.c (.int .i64 0)), none⟩])
 (.ret))
def J_letter_Mac : AFn :=
 ⟨35, [.c 2 (some 4), .t 3], .seq (.ops [⟨some 1, none, .box (.t 0) [], none⟩,
 ⟨some 2, none, .new [(.int .u16 0), (.int .i64 0), (.int .i64 0), (.str ⟨#[]⟩)] [], none⟩,
 ⟨some 3, none, .mv (.c (.int .i64 0)), none⟩])
 (.keep [1, 2] (.seq (.seq (.ops [⟨some 7, none, .fld 0 (.t 1), none⟩,
 ⟨some 8, none, .load none (.t 7), none⟩,
 ⟨some 9, none, .bin .neq (.t 8) (.c (.int .i64 2)), none⟩,
 ⟨some 10, none, .mv (.t 9), none⟩,
 ⟨some 11, (some (10, true)), .fld 0 (.t 1), none⟩,
 ⟨some 12, (some (10, true)), .load none (.t 11), none⟩,
 ⟨some 13, (some (10, true)), .bin .neq (.t 12) (.c (.int .i64 3)), none⟩,
 ⟨some 14, none, .pick (.t 10) (.t 13) (.c (.bool false)), none⟩])
 (.keep [1, 2, 14] (.cond (.t 14)
 (.seq (.ops [⟨some 15, none, .build [(.int .u16 0), (.int .i64 0), (.int .i64 0), (.str ⟨#[]⟩)] [], none⟩,
 ⟨none, none, .store 4 (.t 2) (.t 15), none⟩,
 ⟨some 3, none, .mv (.c (.int .i64 1)), none⟩])
 (.ret))
 (.skip))))
 (.keep [1, 2] (.seq (.ops [⟨some 17, none, .load (some 12) (.t 1), none⟩,
 ⟨some 18, none, .call (.f 13) [(.t 17)], none⟩,
 ⟨some 16, none, .mv (.t 18), none⟩,
 ⟨some 19, none, .ext 0 (.t 16), none⟩,
 ⟨some 20, none, .ext 1 (.t 16), none⟩,
 ⟨some 4, none, .mv (.t 19), none⟩,
 ⟨some 5, none, .mv (.t 20), none⟩])
 (.keep [1, 2, 4, 5] (.seq (.seq (.ops [⟨some 21, none, .mv (.t 5), none⟩,
 ⟨some 22, none, .bin .neq (.t 21) (.c (.int .i64 0)), none⟩])
 (.keep [1, 2, 4, 5, 22] (.cond (.t 22)
 (.seq (.ops [⟨some 23, none, .build [(.int .u16 0), (.int .i64 0), (.int .i64 0), (.str ⟨#[]⟩)] [], none⟩,
 ⟨some 24, none, .mv (.t 5), none⟩,
 ⟨none, none, .store 4 (.t 2) (.t 23), none⟩,
 ⟨some 3, none, .mv (.t 24), none⟩])
 (.ret))
 (.skip))))
 (.keep [1, 2, 4] (.seq (.ops [⟨some 6, none, .mv (.c (.int .i64 0)), none⟩])
 (.keep [1, 2, 4, 6] (.seq (.seq (.ops [⟨some 25, none, .fld 0 (.t 1), none⟩,
 ⟨some 26, none, .load none (.t 25), none⟩,
 ⟨some 27, none, .bin .eql (.t 26) (.c (.int .i64 3)), none⟩])
 (.keep [1, 2, 4, 6, 27] (.cond (.t 27)
 (.ops [⟨some 6, none, .mv (.c (.int .i64 1)), none⟩])
 (.skip))))
 (J_letter_Mac_j1)))))))))))⟩
theorem J_letter_Mac_ok : chkFn Tryz.prog 15 J_letter_Mac = true := by kernel_rfl
def J_letter_May : AFn :=
 ⟨12, [.t 2], .seq (.ops [⟨some 1, none, .box (.t 0) [], none⟩,
 ⟨some 2, none, .mv (.c (.bool false)), none⟩])
 (.keep [1] (.seq (.ops [⟨some 6, none, .load (some 12) (.t 1), none⟩,
 ⟨some 7, none, .call (.f 13) [(.t 6)], none⟩,
 ⟨some 5, none, .mv (.t 7), none⟩,
 ⟨some 8, none, .ext 0 (.t 5), none⟩,
 ⟨some 9, none, .ext 1 (.t 5), none⟩,
 ⟨some 3, none, .mv (.t 8), none⟩,
 ⟨some 4, none, .mv (.t 9), none⟩])
 (.keep [4] (.seq (.ops [⟨some 10, none, .mv (.t 4), none⟩,
 ⟨some 11, none, .bin .eql (.t 10) (.c (.int .i64 0)), none⟩,
 ⟨some 2, none, .mv (.t 11), none⟩])
 (.ret)))))⟩
theorem J_letter_May_ok : chkFn Tryz.prog 17 J_letter_May = true := by kernel_rfl
def J_letter_Decode : AFn :=
 ⟨34, [.c 2 (some 12), .t 3], .seq (.ops [⟨some 2, none, .new [(.int .i64 0), (.int .u16 0), (.int .i64 0), (.int .i64 0), (.int .i64 0), (.int .i64 0), (.int .i64 0), (.lst .clip 0 []), (.int .i64 0), (.int .i64 0), (.str ⟨#[]⟩), (.lst .clip 0 [])] [(11, 80, 7)], none⟩,
 ⟨some 3, none, .mv (.c (.int .i64 0)), none⟩])
 (.keep [0, 2] (.seq (.seq (.ops [⟨some 7, none, .mv (.t 0), none⟩,
 ⟨some 8, none, .lens (.t 7), none⟩,
 ⟨some 9, none, .bin .gtr (.t 8) (.c (.int .i64 4000)), none⟩])
 (.keep [0, 2, 9] (.cond (.t 9)
 (.seq (.ops [⟨some 10, none, .build [(.int .i64 0), (.int .u16 0), (.int .i64 0), (.int .i64 0), (.int .i64 0), (.int .i64 0), (.int .i64 0), (.lst .clip 0 []), (.int .i64 0), (.int .i64 0), (.str ⟨#[]⟩), (.lst .clip 0 [])] [], none⟩,
 ⟨none, none, .store 12 (.t 2) (.t 10), none⟩,
 ⟨some 3, none, .mv (.c (.int .i64 2)), none⟩])
 (.ret))
 (.skip))))
 (.keep [0, 2] (.seq (.ops [⟨some 11, none, .mv (.t 0), none⟩,
 ⟨some 12, none, .call (.f 47) [(.t 11)], none⟩,
 ⟨some 4, none, .mv (.t 12), none⟩])
 (.keep [2, 4] (.seq (.ops [⟨some 14, none, .mv (.t 4), none⟩,
 ⟨some 15, none, .mv (.t 4), none⟩,
 ⟨some 16, none, .ex (.mkb 49) [(.t 15)], none⟩,
 ⟨some 17, none, .call (.f 48) [(.t 14), (.t 16)], none⟩,
 ⟨some 13, none, .mv (.t 17), none⟩,
 ⟨some 18, none, .ext 0 (.t 13), none⟩,
 ⟨some 19, none, .ext 1 (.t 13), none⟩,
 ⟨some 5, none, .new [(.int .i64 0), (.int .u16 0), (.int .i64 0), (.int .i64 0), (.int .i64 0), (.int .i64 0), (.int .i64 0), (.lst .clip 0 []), (.int .i64 0), (.int .i64 0), (.str ⟨#[]⟩), (.lst .clip 0 [])] [(11, 80, 7)], none⟩,
 ⟨none, none, .stores 12 (.t 5) (.t 18), none⟩,
 ⟨some 6, none, .mv (.t 19), none⟩])
 (.keep [2, 4, 5, 6] (.seq (.seq (.ops [⟨some 20, none, .mv (.t 6), none⟩,
 ⟨some 21, none, .not (.t 20), none⟩,
 ⟨some 22, none, .mv (.t 21), none⟩,
 ⟨some 23, (some (22, false)), .mv (.t 4), none⟩,
 ⟨some 24, (some (22, false)), .call (.f 50) [(.t 23)], none⟩,
 ⟨some 25, (some (22, false)), .bin .neq (.t 24) (.c (.int .i64 0)), none⟩,
 ⟨some 26, none, .pick (.t 22) (.c (.bool true)) (.t 25), none⟩,
 ⟨some 27, none, .mv (.t 26), none⟩,
 ⟨some 28, (some (27, false)), .load (some 12) (.t 5), none⟩,
 ⟨some 29, (some (27, false)), .call (.f 17) [(.t 28)], none⟩,
 ⟨some 30, (some (27, false)), .not (.t 29), none⟩,
 ⟨some 31, none, .pick (.t 27) (.c (.bool true)) (.t 30), none⟩])
 (.keep [2, 5, 31] (.cond (.t 31)
 (.seq (.ops [⟨some 32, none, .build [(.int .i64 0), (.int .u16 0), (.int .i64 0), (.int .i64 0), (.int .i64 0), (.int .i64 0), (.int .i64 0), (.lst .clip 0 []), (.int .i64 0), (.int .i64 0), (.str ⟨#[]⟩), (.lst .clip 0 [])] [], none⟩,
 ⟨none, none, .store 12 (.t 2) (.t 32), none⟩,
 ⟨some 3, none, .mv (.c (.int .i64 2)), none⟩])
 (.ret))
 (.skip))))
 (.keep [2, 5] (.seq (.ops [⟨some 33, none, .load (some 12) (.t 5), none⟩,
 ⟨none, none, .store 12 (.t 2) (.t 33), none⟩,
 ⟨some 3, none, .mv (.c (.int .i64 0)), none⟩])
 (.ret)))))))))))⟩
theorem J_letter_Decode_ok : chkFn Tryz.prog 19 J_letter_Decode = true := by kernel_rfl
def J_ref22_Decode_j1 : ACode :=
 .keep [2, 4, 5, 6] (.seq (.seq (.ops [⟨some 101, none, .mv (.t 5), none⟩,
 ⟨some 102, none, .call (.f 56) [(.t 101)], none⟩,
 ⟨some 103, none, .bin .neq (.t 102) (.c (.int .i64 0)), none⟩,
 ⟨some 104, none, .mv (.t 103), none⟩,
 ⟨some 105, (some (104, false)), .load (some 12) (.t 6), none⟩,
 ⟨some 106, (some (104, false)), .call (.f 45) [(.t 105)], none⟩,
 ⟨some 107, (some (104, false)), .not (.t 106), none⟩,
 ⟨some 108, none, .pick (.t 104) (.c (.bool true)) (.t 107), none⟩])
 (.keep [2, 4, 6, 108] (.cond (.t 108)
 (.seq (.ops [⟨some 109, none, .load (some 12) (.t 4), none⟩,
 ⟨none, none, .store 12 (.t 2) (.t 109), none⟩,
 ⟨some 3, none, .mv (.c (.int .i64 2)), none⟩])
 (.ret))
 (.skip))))
 (.keep [2, 6] (.seq (.ops [⟨some 110, none, .load (some 12) (.t 6), none⟩,
 ⟨none, none, .store 12 (.t 2) (.t 110), none⟩,
 ⟨some 3, none, .mv (.c (.int .i64 0)), none⟩])
 (.ret))))
def J_ref22_Decode_j2 : ACode :=
 .seq (.seq (.ops [⟨some 34, none, .mv (.t 8), none⟩,
 ⟨some 35, none, .mv (.t 7), none⟩,
 ⟨some 36, none, .bin .lss (.t 34) (.t 35), none⟩])
 (.keep [2, 4, 5, 6, 7, 8, 36] (.cond (.t 36)
 (.skip)
 (.exit 1))))
 (.keep [2, 4, 5, 6, 7, 8] (.seq (.block 2 (.seq (.ops [⟨some 40, none, .mv (.t 5), none⟩,
 ⟨some 41, none, .call (.f 55) [(.t 40), (.c (.int .i64 4000))], none⟩,
 ⟨some 42, none, .call (.f 54) [(.t 41)], none⟩,
 ⟨some 39, none, .mv (.t 42), none⟩,
 ⟨some 43, none, .ext 0 (.t 39), none⟩,
 ⟨some 44, none, .ext 1 (.t 39), none⟩,
 ⟨some 9, none, .new [(.int .i64 0), (.int .u16 0), (.str ⟨#[]⟩), (.lst .clip 0 []), (.int .i64 0), (.int .i64 0), (.int .i64 0)] [], none⟩,
 ⟨none, none, .stores 7 (.t 9) (.t 43), none⟩,
 ⟨some 10, none, .mv (.t 44), none⟩])
 (.keep [2, 4, 5, 6, 7, 8, 9, 10] (.seq (.seq (.ops [⟨some 45, none, .mv (.t 10), none⟩,
 ⟨some 46, none, .bin .neq (.t 45) (.c (.int .i64 0)), none⟩])
 (.keep [2, 4, 5, 6, 7, 8, 9, 46] (.cond (.t 46)
 (.seq (.ops [⟨some 47, none, .load (some 12) (.t 4), none⟩,
 ⟨none, none, .store 12 (.t 2) (.t 47), none⟩,
 ⟨some 3, none, .mv (.c (.int .i64 2)), none⟩])
 (.ret))
 (.skip))))
 (.keep [2, 4, 5, 6, 7, 8, 9] (.ops [⟨some 48, none, .fld 11 (.t 6), none⟩,
 ⟨some 49, none, .loado (.t 48), none⟩,
 ⟨some 50, none, .load (some 7) (.t 9), none⟩,
 ⟨some 51, none, .bsl 80 7 1 [(.int .i64 0), (.int .u16 0), (.str ⟨#[]⟩), (.lst .clip 0 []), (.int .i64 0), (.int .i64 0), (.int .i64 0)] [(0, 7, (.t 50))], none⟩,
 ⟨some 52, none, .appo 80 7 80 49 (.t 51), none⟩,
 ⟨some 53, none, .fld 11 (.t 6), none⟩,
 ⟨none, none, .storeo (.t 53) 52, none⟩]))))))
 (.keep [2, 4, 5, 6, 7, 8] (.ops [⟨some 37, none, .mv (.t 8), none⟩,
 ⟨some 38, none, .bin .add (.t 37) (.c (.int .i64 1)), none⟩,
 ⟨some 8, none, .mv (.t 38), none⟩]))))
def J_ref22_Decode_j3 : ACode :=
 .keep [2, 4, 5, 6] (.seq (.seq (.ops [⟨some 30, none, .fld 0 (.t 6), none⟩,
 ⟨some 31, none, .load none (.t 30), none⟩])
 (.keep [2, 4, 5, 6, 31] (.block 0 (.seq (.ops [⟨some 55, none, .bin .eql (.t 31) (.c (.int .i64 2)), none⟩,
 ⟨some 54, none, .mv (.t 55), none⟩])
 (.keep [2, 4, 5, 6, 31, 54] (.cond (.t 54)
 (.seq (.ops [⟨some 56, none, .mv (.t 5), none⟩,
 ⟨some 57, none, .call (.f 51) [(.t 56), (.c (.int .i64 4611686018427387904))], none⟩,
 ⟨some 58, none, .fld 2 (.t 6), none⟩,
 ⟨none, none, .store 1 (.t 58) (.t 57), none⟩])
 (.keep [2, 4, 5, 6] (.seq (.ops [⟨some 59, none, .mv (.t 5), none⟩,
 ⟨some 60, none, .call (.f 51) [(.t 59), (.c (.int .i64 1048576))], none⟩,
 ⟨some 61, none, .fld 3 (.t 6), none⟩,
 ⟨some 62, none, .fld 0 (.t 61), none⟩,
 ⟨none, none, .store 1 (.t 62) (.t 60), none⟩])
 (.keep [2, 4, 5, 6] (.seq (.ops [⟨some 63, none, .mv (.t 5), none⟩,
 ⟨some 64, none, .call (.f 51) [(.t 63), (.c (.int .i64 3))], none⟩,
 ⟨some 65, none, .fld 3 (.t 6), none⟩,
 ⟨some 66, none, .fld 1 (.t 65), none⟩,
 ⟨none, none, .store 1 (.t 66) (.t 64), none⟩])
 (.keep [2, 4, 5, 6] (.seq (.ops [⟨some 67, none, .mv (.t 5), none⟩,
 ⟨some 68, none, .call (.f 51) [(.t 67), (.c (.int .i64 4611686018427387904))], none⟩,
 ⟨some 69, none, .fld 3 (.t 6), none⟩,
 ⟨some 70, none, .fld 2 (.t 69), none⟩,
 ⟨none, none, .store 1 (.t 70) (.t 68), none⟩])
 (.keep [2, 4, 5, 6] (.seq (.ops [⟨some 71, none, .fld 3 (.t 6), none⟩,
 ⟨some 72, none, .fld 1 (.t 71), none⟩,
 ⟨some 73, none, .load none (.t 72), none⟩,
 ⟨some 74, none, .bin .geq (.t 73) (.c (.int .i64 2)), none⟩])
 (.keep [2, 4, 5, 6, 74] (.cond (.t 74)
 (.seq (.ops [⟨some 75, none, .mv (.t 5), none⟩,
 ⟨some 76, none, .call (.f 51) [(.t 75), (.c (.int .i64 1048576))], none⟩,
 ⟨some 77, none, .fld 3 (.t 6), none⟩,
 ⟨some 78, none, .fld 3 (.t 77), none⟩,
 ⟨some 79, none, .fld 0 (.t 78), none⟩,
 ⟨none, none, .store 1 (.t 79) (.t 76), none⟩])
 (.keep [2, 4, 5, 6] (.ops [⟨some 80, none, .mv (.t 5), none⟩,
 ⟨some 81, none, .call (.f 52) [(.t 80)], none⟩,
 ⟨some 82, none, .fld 3 (.t 6), none⟩,
 ⟨some 83, none, .fld 3 (.t 82), none⟩,
 ⟨some 84, none, .fld 1 (.t 83), none⟩,
 ⟨none, none, .store 1 (.t 84) (.t 81), none⟩])))
 (.skip))))))))))))
 (.seq (.ops [⟨some 86, none, .bin .eql (.t 31) (.c (.int .i64 3)), none⟩,
 ⟨some 85, none, .mv (.t 86), none⟩])
 (.keep [2, 4, 5, 6, 31, 85] (.cond (.t 85)
 (.seq (.ops [⟨some 87, none, .mv (.t 5), none⟩,
 ⟨some 88, none, .call (.f 51) [(.t 87), (.c (.int .i64 4611686018427387904))], none⟩,
 ⟨some 89, none, .fld 2 (.t 6), none⟩,
 ⟨none, none, .store 1 (.t 89) (.t 88), none⟩])
 (.keep [2, 4, 5, 6] (.seq (.ops [⟨some 90, none, .mv (.t 5), none⟩,
 ⟨some 91, none, .call (.f 51) [(.t 90), (.c (.int .i64 100))], none⟩,
 ⟨some 92, none, .fld 8 (.t 6), none⟩,
 ⟨none, none, .store 1 (.t 92) (.t 91), none⟩])
 (.keep [2, 4, 5, 6] (.ops [⟨some 93, none, .mv (.t 5), none⟩,
 ⟨some 94, none, .call (.f 51) [(.t 93), (.c (.int .i64 4611686018427387904))], none⟩,
 ⟨some 95, none, .fld 9 (.t 6), none⟩,
 ⟨none, none, .store 1 (.t 95) (.t 94), none⟩])))))
 (.seq (.ops [⟨some 97, none, .bin .eql (.t 31) (.c (.int .i64 4)), none⟩,
 ⟨some 96, none, .mv (.t 97), none⟩])
 (.keep [2, 4, 5, 6, 96] (.cond (.t 96)
 (.ops [⟨some 98, none, .mv (.t 5), none⟩,
 ⟨some 99, none, .call (.f 53) [(.t 98)], none⟩,
 ⟨some 100, none, .fld 10 (.t 6), none⟩,
 ⟨none, none, .store 1 (.t 100) (.t 99), none⟩])
 (.seq (.ops [⟨some 32, none, .mv (.t 5), none⟩,
 ⟨some 33, none, .call (.f 51) [(.t 32), (.c (.int .i64 8))], none⟩,
 ⟨some 7, none, .mv (.t 33), none⟩])
 (.keep [2, 4, 5, 6, 7] (.seq (.ops [⟨some 8, none, .mv (.c (.int .i64 0)), none⟩])
 (.keep [2, 4, 5, 6, 7, 8] (.block 1 (.loop [2, 4, 5, 6, 7, 8] (J_ref22_Decode_j2)))))))))))))))))))
 (J_ref22_Decode_j1))
def J_ref22_Decode : AFn :=
 ⟨111, [.c 2 (some 12), .t 3], .seq (.ops [⟨some 2, none, .new [(.int .i64 0), (.int .u16 0), (.int .i64 0), (.int .i64 0), (.int .i64 0), (.int .i64 0), (.int .i64 0), (.lst .clip 0 []), (.int .i64 0), (.int .i64 0), (.str ⟨#[]⟩), (.lst .clip 0 [])] [(11, 80, 7)], none⟩,
 ⟨some 3, none, .mv (.c (.int .i64 0)), none⟩])
 (.keep [0, 2] (.seq (.ops [⟨some 11, none, .build [(.int .i64 0), (.int .u16 0), (.int .i64 0), (.int .i64 0), (.int .i64 0), (.int .i64 0), (.int .i64 0), (.lst .clip 0 []), (.int .i64 0), (.int .i64 0), (.str ⟨#[]⟩), (.lst .clip 0 [])] [], none⟩,
 ⟨some 4, none, .new [(.int .i64 0), (.int .u16 0), (.int .i64 0), (.int .i64 0), (.int .i64 0), (.int .i64 0), (.int .i64 0), (.lst .clip 0 []), (.int .i64 0), (.int .i64 0), (.str ⟨#[]⟩), (.lst .clip 0 [])] [(11, 80, 7)], none⟩,
 ⟨none, none, .stores 12 (.t 4) (.t 11), none⟩])
 (.keep [0, 2, 4] (.seq (.seq (.ops [⟨some 12, none, .mv (.t 0), none⟩,
 ⟨some 13, none, .lens (.t 12), none⟩,
 ⟨some 14, none, .bin .gtr (.t 13) (.c (.int .i64 4000)), none⟩])
 (.keep [0, 2, 4, 14] (.cond (.t 14)
 (.seq (.ops [⟨some 15, none, .load (some 12) (.t 4), none⟩,
 ⟨none, none, .store 12 (.t 2) (.t 15), none⟩,
 ⟨some 3, none, .mv (.c (.int .i64 2)), none⟩])
 (.ret))
 (.skip))))
 (.keep [0, 2, 4] (.seq (.ops [⟨some 16, none, .mv (.t 0), none⟩,
 ⟨some 17, none, .build [(.str ⟨#[]⟩), (.int .i64 0), (.bool false)] [(0, 1, (.t 16))], none⟩,
 ⟨some 18, none, .box (.t 17) [], none⟩,
 ⟨some 5, none, .mv (.t 18), none⟩])
 (.keep [2, 4, 5] (.seq (.ops [⟨some 19, none, .build [(.int .i64 0), (.int .u16 0), (.int .i64 0), (.int .i64 0), (.int .i64 0), (.int .i64 0), (.int .i64 0), (.lst .clip 0 []), (.int .i64 0), (.int .i64 0), (.str ⟨#[]⟩), (.lst .clip 0 [])] [], none⟩,
 ⟨some 6, none, .new [(.int .i64 0), (.int .u16 0), (.int .i64 0), (.int .i64 0), (.int .i64 0), (.int .i64 0), (.int .i64 0), (.lst .clip 0 []), (.int .i64 0), (.int .i64 0), (.str ⟨#[]⟩), (.lst .clip 0 [])] [(11, 80, 7)], none⟩,
 ⟨none, none, .storeu 12 [(11, 80, 7)] (.t 6) (.t 19), none⟩])
 (.keep [2, 4, 5, 6] (.seq (.ops [⟨some 20, none, .mv (.t 5), none⟩,
 ⟨some 21, none, .call (.f 51) [(.t 20), (.c (.int .i64 5))], none⟩,
 ⟨some 22, none, .fld 0 (.t 6), none⟩,
 ⟨none, none, .store 1 (.t 22) (.t 21), none⟩])
 (.keep [2, 4, 5, 6] (.seq (.seq (.ops [⟨some 23, none, .fld 0 (.t 6), none⟩,
 ⟨some 24, none, .load none (.t 23), none⟩,
 ⟨some 25, none, .bin .leq (.t 24) (.c (.int .i64 3)), none⟩])
 (.keep [2, 4, 5, 6, 25] (.cond (.t 25)
 (.ops [⟨some 26, none, .mv (.t 5), none⟩,
 ⟨some 27, none, .call (.f 51) [(.t 26), (.c (.int .i64 65535))], none⟩,
 ⟨some 28, none, .conv .u16 (.t 27), none⟩,
 ⟨some 29, none, .fld 1 (.t 6), none⟩,
 ⟨none, none, .store 1 (.t 29) (.t 28), none⟩])
 (.skip))))
 (J_ref22_Decode_j3)))))))))))))⟩
theorem J_ref22_Decode_ok : chkFn Tryz.prog 20 J_ref22_Decode = true := by kernel_rfl
def J_ref22_Same_j1 : ACode :=
 .keep [] (.seq (.ops [⟨some 4, none, .mv (.c (.bool true)), none⟩])
 (.ret))
def J_ref22_Same_j2 : ACode :=
 .seq (.seq (.ops [⟨some 105, none, .mv (.t 5), none⟩,
 ⟨some 106, none, .fld 11 (.t 2), none⟩,
 ⟨some 107, none, .load none (.t 106), none⟩,
 ⟨some 108, none, .lenl (.t 107), none⟩,
 ⟨some 109, none, .bin .lss (.t 105) (.t 108), none⟩])
 (.keep [2, 3, 5, 109] (.cond (.t 109)
 (.skip)
 (.exit 0))))
 (.keep [2, 3, 5] (.seq (.block 1 (.seq (.draw [2, 3, 5, 123] [⟨some 112, none, .fld 11 (.t 2), none⟩,
 ⟨some 113, none, .load none (.t 112), none⟩,
 ⟨some 114, none, .mv (.t 5), none⟩,
 ⟨some 115, none, .idxa 7 (.t 113) (.t 114), none⟩,
 ⟨some 116, none, .load (some 7) (.t 115), none⟩,
 ⟨some 117, none, .fld 11 (.t 3), none⟩,
 ⟨some 118, none, .load none (.t 117), none⟩,
 ⟨some 119, none, .mv (.t 5), none⟩,
 ⟨some 120, none, .idxa 7 (.t 118) (.t 119), none⟩,
 ⟨some 121, none, .load (some 7) (.t 120), none⟩,
 ⟨some 122, none, .call (.f 57) [(.t 116), (.t 121)], none⟩,
 ⟨some 123, none, .not (.t 122), none⟩])
 (.keep [2, 3, 5, 123] (.cond (.t 123)
 (.seq (.ops [⟨some 4, none, .mv (.c (.bool false)), none⟩])
 (.ret))
 (.skip)))))
 (.keep [2, 3, 5] (.ops [⟨some 110, none, .mv (.t 5), none⟩,
 ⟨some 111, none, .bin .add (.t 110) (.c (.int .i64 1)), none⟩,
 ⟨some 5, none, .mv (.t 111), none⟩]))))
def J_ref22_Same : AFn :=
 ⟨124, [.t 4], .seq (.ops [⟨some 2, none, .box (.t 0) [], none⟩,
 ⟨some 3, none, .box (.t 1) [], none⟩,
 ⟨some 4, none, .mv (.c (.bool false)), none⟩])
 (.keep [2, 3] (.seq (.seq (.ops [⟨some 6, none, .fld 0 (.t 2), none⟩,
 ⟨some 7, none, .load none (.t 6), none⟩,
 ⟨some 8, none, .fld 0 (.t 3), none⟩,
 ⟨some 9, none, .load none (.t 8), none⟩,
 ⟨some 10, none, .bin .neq (.t 7) (.t 9), none⟩,
 ⟨some 11, none, .mv (.t 10), none⟩,
 ⟨some 12, (some (11, false)), .fld 1 (.t 2), none⟩,
 ⟨some 13, (some (11, false)), .load none (.t 12), none⟩,
 ⟨some 14, (some (11, false)), .fld 1 (.t 3), none⟩,
 ⟨some 15, (some (11, false)), .load none (.t 14), none⟩,
 ⟨some 16, (some (11, false)), .bin .neq (.t 13) (.t 15), none⟩,
 ⟨some 17, none, .pick (.t 11) (.c (.bool true)) (.t 16), none⟩,
 ⟨some 18, none, .mv (.t 17), none⟩,
 ⟨some 19, (some (18, false)), .fld 2 (.t 2), none⟩,
 ⟨some 20, (some (18, false)), .load none (.t 19), none⟩,
 ⟨some 21, (some (18, false)), .fld 2 (.t 3), none⟩,
 ⟨some 22, (some (18, false)), .load none (.t 21), none⟩,
 ⟨some 23, (some (18, false)), .bin .neq (.t 20) (.t 22), none⟩,
 ⟨some 24, none, .pick (.t 18) (.c (.bool true)) (.t 23), none⟩,
 ⟨some 25, none, .mv (.t 24), none⟩,
 ⟨some 26, (some (25, false)), .fld 3 (.t 2), none⟩,
 ⟨some 27, (some (25, false)), .fld 0 (.t 26), none⟩,
 ⟨some 28, (some (25, false)), .load none (.t 27), none⟩,
 ⟨some 29, (some (25, false)), .fld 3 (.t 3), none⟩,
 ⟨some 30, (some (25, false)), .fld 0 (.t 29), none⟩,
 ⟨some 31, (some (25, false)), .load none (.t 30), none⟩,
 ⟨some 32, (some (25, false)), .bin .neq (.t 28) (.t 31), none⟩,
 ⟨some 33, none, .pick (.t 25) (.c (.bool true)) (.t 32), none⟩,
 ⟨some 34, none, .mv (.t 33), none⟩,
 ⟨some 35, (some (34, false)), .fld 3 (.t 2), none⟩,
 ⟨some 36, (some (34, false)), .fld 1 (.t 35), none⟩,
 ⟨some 37, (some (34, false)), .load none (.t 36), none⟩,
 ⟨some 38, (some (34, false)), .fld 3 (.t 3), none⟩,
 ⟨some 39, (some (34, false)), .fld 1 (.t 38), none⟩,
 ⟨some 40, (some (34, false)), .load none (.t 39), none⟩,
 ⟨some 41, (some (34, false)), .bin .neq (.t 37) (.t 40), none⟩,
 ⟨some 42, none, .pick (.t 34) (.c (.bool true)) (.t 41), none⟩,
 ⟨some 43, none, .mv (.t 42), none⟩,
 ⟨some 44, (some (43, false)), .fld 3 (.t 2), none⟩,
 ⟨some 45, (some (43, false)), .fld 2 (.t 44), none⟩,
 ⟨some 46, (some (43, false)), .load none (.t 45), none⟩,
 ⟨some 47, (some (43, false)), .fld 3 (.t 3), none⟩,
 ⟨some 48, (some (43, false)), .fld 2 (.t 47), none⟩,
 ⟨some 49, (some (43, false)), .load none (.t 48), none⟩,
 ⟨some 50, (some (43, false)), .bin .neq (.t 46) (.t 49), none⟩,
 ⟨some 51, none, .pick (.t 43) (.c (.bool true)) (.t 50), none⟩,
 ⟨some 52, none, .mv (.t 51), none⟩,
 ⟨some 53, (some (52, false)), .fld 3 (.t 2), none⟩,
 ⟨some 54, (some (52, false)), .fld 3 (.t 53), none⟩,
 ⟨some 55, (some (52, false)), .fld 0 (.t 54), none⟩,
 ⟨some 56, (some (52, false)), .load none (.t 55), none⟩,
 ⟨some 57, (some (52, false)), .fld 3 (.t 3), none⟩,
 ⟨some 58, (some (52, false)), .fld 3 (.t 57), none⟩,
 ⟨some 59, (some (52, false)), .fld 0 (.t 58), none⟩,
 ⟨some 60, (some (52, false)), .load none (.t 59), none⟩,
 ⟨some 61, (some (52, false)), .bin .neq (.t 56) (.t 60), none⟩,
 ⟨some 62, none, .pick (.t 52) (.c (.bool true)) (.t 61), none⟩,
 ⟨some 63, none, .mv (.t 62), none⟩,
 ⟨some 64, (some (63, false)), .fld 3 (.t 2), none⟩,
 ⟨some 65, (some (63, false)), .fld 3 (.t 64), none⟩,
 ⟨some 66, (some (63, false)), .fld 1 (.t 65), none⟩,
 ⟨some 67, (some (63, false)), .load none (.t 66), none⟩,
 ⟨some 68, (some (63, false)), .fld 3 (.t 3), none⟩,
 ⟨some 69, (some (63, false)), .fld 3 (.t 68), none⟩,
 ⟨some 70, (some (63, false)), .fld 1 (.t 69), none⟩,
 ⟨some 71, (some (63, false)), .load none (.t 70), none⟩,
 ⟨some 72, (some (63, false)), .call (.f 27) [(.t 67), (.t 71)], none⟩,
 ⟨some 73, (some (63, false)), .not (.t 72), none⟩,
 ⟨some 74, none, .pick (.t 63) (.c (.bool true)) (.t 73), none⟩,
 ⟨some 75, none, .mv (.t 74), none⟩,
 ⟨some 76, (some (75, false)), .fld 8 (.t 2), none⟩,
 ⟨some 77, (some (75, false)), .load none (.t 76), none⟩,
 ⟨some 78, (some (75, false)), .fld 8 (.t 3), none⟩,
 ⟨some 79, (some (75, false)), .load none (.t 78), none⟩,
 ⟨some 80, (some (75, false)), .bin .neq (.t 77) (.t 79), none⟩,
 ⟨some 81, none, .pick (.t 75) (.c (.bool true)) (.t 80), none⟩,
 ⟨some 82, none, .mv (.t 81), none⟩,
 ⟨some 83, (some (82, false)), .fld 9 (.t 2), none⟩,
 ⟨some 84, (some (82, false)), .load none (.t 83), none⟩,
 ⟨some 85, (some (82, false)), .fld 9 (.t 3), none⟩,
 ⟨some 86, (some (82, false)), .load none (.t 85), none⟩,
 ⟨some 87, (some (82, false)), .bin .neq (.t 84) (.t 86), none⟩,
 ⟨some 88, none, .pick (.t 82) (.c (.bool true)) (.t 87), none⟩,
 ⟨some 89, none, .mv (.t 88), none⟩,
 ⟨some 90, (some (89, false)), .fld 10 (.t 2), none⟩,
 ⟨some 91, (some (89, false)), .load none (.t 90), none⟩,
 ⟨some 92, (some (89, false)), .fld 10 (.t 3), none⟩,
 ⟨some 93, (some (89, false)), .load none (.t 92), none⟩,
 ⟨some 94, (some (89, false)), .bin .neq (.t 91) (.t 93), none⟩,
 ⟨some 95, none, .pick (.t 89) (.c (.bool true)) (.t 94), none⟩,
 ⟨some 96, none, .mv (.t 95), none⟩,
 ⟨some 97, (some (96, false)), .fld 11 (.t 2), none⟩,
 ⟨some 98, (some (96, false)), .load none (.t 97), none⟩,
 ⟨some 99, (some (96, false)), .lenl (.t 98), none⟩,
 ⟨some 100, (some (96, false)), .fld 11 (.t 3), none⟩,
 ⟨some 101, (some (96, false)), .load none (.t 100), none⟩,
 ⟨some 102, (some (96, false)), .lenl (.t 101), none⟩,
 ⟨some 103, (some (96, false)), .bin .neq (.t 99) (.t 102), none⟩,
 ⟨some 104, none, .pick (.t 96) (.c (.bool true)) (.t 103), none⟩])
 (.keep [2, 3, 104] (.cond (.t 104)
 (.seq (.ops [⟨some 4, none, .mv (.c (.bool false)), none⟩])
 (.ret))
 (.skip))))
 (.keep [2, 3] (.seq (.seq (.ops [⟨some 5, none, .mv (.c (.int .i64 0)), none⟩])
 (.keep [2, 3, 5] (.block 0 (.loop [2, 3, 5] (J_ref22_Same_j2)))))
 (J_ref22_Same_j1)))))⟩
theorem J_ref22_Same_ok : chkFn Tryz.prog 21 J_ref22_Same = true := by kernel_rfl
def J_letter_Same : AFn :=
 ⟨59, [.t 4], .seq (.ops [⟨some 2, none, .box (.t 0) [], none⟩,
 ⟨some 3, none, .box (.t 1) [], none⟩,
 ⟨some 4, none, .mv (.c (.bool false)), none⟩])
 (.keep [2, 3] (.seq (.ops [⟨some 5, none, .fld 0 (.t 2), none⟩,
 ⟨some 6, none, .load none (.t 5), none⟩,
 ⟨some 7, none, .fld 0 (.t 3), none⟩,
 ⟨some 8, none, .load none (.t 7), none⟩,
 ⟨some 9, none, .bin .eql (.t 6) (.t 8), none⟩,
 ⟨some 10, none, .mv (.t 9), none⟩,
 ⟨some 11, (some (10, true)), .fld 1 (.t 2), none⟩,
 ⟨some 12, (some (10, true)), .load none (.t 11), none⟩,
 ⟨some 13, (some (10, true)), .fld 1 (.t 3), none⟩,
 ⟨some 14, (some (10, true)), .load none (.t 13), none⟩,
 ⟨some 15, (some (10, true)), .bin .eql (.t 12) (.t 14), none⟩,
 ⟨some 16, none, .pick (.t 10) (.t 15) (.c (.bool false)), none⟩,
 ⟨some 17, none, .mv (.t 16), none⟩,
 ⟨some 18, (some (17, true)), .fld 2 (.t 2), none⟩,
 ⟨some 19, (some (17, true)), .load none (.t 18), none⟩,
 ⟨some 20, (some (17, true)), .fld 2 (.t 3), none⟩,
 ⟨some 21, (some (17, true)), .load none (.t 20), none⟩,
 ⟨some 22, (some (17, true)), .bin .eql (.t 19) (.t 21), none⟩,
 ⟨some 23, none, .pick (.t 17) (.t 22) (.c (.bool false)), none⟩,
 ⟨some 24, none, .mv (.t 23), none⟩,
 ⟨some 25, (some (24, true)), .fld 8 (.t 2), none⟩,
 ⟨some 26, (some (24, true)), .load none (.t 25), none⟩,
 ⟨some 27, (some (24, true)), .fld 8 (.t 3), none⟩,
 ⟨some 28, (some (24, true)), .load none (.t 27), none⟩,
 ⟨some 29, (some (24, true)), .bin .eql (.t 26) (.t 28), none⟩,
 ⟨some 30, none, .pick (.t 24) (.t 29) (.c (.bool false)), none⟩,
 ⟨some 31, none, .mv (.t 30), none⟩,
 ⟨some 32, (some (31, true)), .fld 9 (.t 2), none⟩,
 ⟨some 33, (some (31, true)), .load none (.t 32), none⟩,
 ⟨some 34, (some (31, true)), .fld 9 (.t 3), none⟩,
 ⟨some 35, (some (31, true)), .load none (.t 34), none⟩,
 ⟨some 36, (some (31, true)), .bin .eql (.t 33) (.t 35), none⟩,
 ⟨some 37, none, .pick (.t 31) (.t 36) (.c (.bool false)), none⟩,
 ⟨some 38, none, .mv (.t 37), none⟩,
 ⟨some 39, (some (38, true)), .fld 10 (.t 2), none⟩,
 ⟨some 40, (some (38, true)), .load none (.t 39), none⟩,
 ⟨some 41, (some (38, true)), .fld 10 (.t 3), none⟩,
 ⟨some 42, (some (38, true)), .load none (.t 41), none⟩,
 ⟨some 43, (some (38, true)), .bin .eql (.t 40) (.t 42), none⟩,
 ⟨some 44, none, .pick (.t 38) (.t 43) (.c (.bool false)), none⟩,
 ⟨some 45, none, .mv (.t 44), none⟩,
 ⟨some 46, (some (45, true)), .fld 3 (.t 2), none⟩,
 ⟨some 47, (some (45, true)), .load (some 5) (.t 46), none⟩,
 ⟨some 48, (some (45, true)), .fld 3 (.t 3), none⟩,
 ⟨some 49, (some (45, true)), .load (some 5) (.t 48), none⟩,
 ⟨some 50, (some (45, true)), .call (.f 78) [(.t 47), (.t 49)], none⟩,
 ⟨some 51, none, .pick (.t 45) (.t 50) (.c (.bool false)), none⟩,
 ⟨some 52, none, .mv (.t 51), none⟩,
 ⟨some 53, (some (52, true)), .fld 11 (.t 2), none⟩,
 ⟨some 54, (some (52, true)), .load none (.t 53), none⟩,
 ⟨some 55, (some (52, true)), .fld 11 (.t 3), none⟩,
 ⟨some 56, (some (52, true)), .load none (.t 55), none⟩,
 ⟨some 57, (some (52, true)), .call (.f 79) [(.t 54), (.t 56), (.f 80)], none⟩,
 ⟨some 58, none, .pick (.t 52) (.t 57) (.c (.bool false)), none⟩,
 ⟨some 4, none, .mv (.t 58), none⟩])
 (.ret)))⟩
theorem J_letter_Same_ok : chkFn Tryz.prog 40 J_letter_Same = true := by kernel_rfl
def J_letter_right : AFn :=
 ⟨99, [.t 2], .seq (.ops [⟨some 1, none, .box (.t 0) [], none⟩,
 ⟨some 2, none, .mv (.c (.bool false)), none⟩])
 (.keep [1] (.seq (.ops [⟨some 4, none, .load (some 12) (.t 1), none⟩,
 ⟨some 3, none, .new [(.int .i64 0), (.int .u16 0), (.int .i64 0), (.int .i64 0), (.int .i64 0), (.int .i64 0), (.int .i64 0), (.lst .clip 0 []), (.int .i64 0), (.int .i64 0), (.str ⟨#[]⟩), (.lst .clip 0 [])] [(11, 80, 7)], none⟩,
 ⟨none, none, .store 12 (.t 3) (.t 4), none⟩])
 (.keep [1, 3] (.seq (.seq (.ops [⟨some 5, none, .fld 0 (.t 1), none⟩,
 ⟨some 6, none, .load none (.t 5), none⟩])
 (.keep [1, 3, 6] (.block 0 (.seq (.ops [⟨some 8, none, .bin .eql (.t 6) (.c (.int .i64 1)), none⟩,
 ⟨some 7, none, .mv (.t 8), none⟩])
 (.keep [1, 3, 6, 7] (.cond (.t 7)
 (.seq (.ops [⟨some 9, none, .fld 1 (.t 3), none⟩,
 ⟨none, none, .store 1 (.t 9) (.c (.int .u16 0)), none⟩,
 ⟨some 10, none, .fld 11 (.t 3), none⟩,
 ⟨none, none, .store 1 (.t 10) (.c (.lst .clip 0 [])), none⟩])
 (.keep [1, 3] (.seq (.ops [⟨some 11, none, .fld 1 (.t 1), none⟩,
 ⟨some 12, none, .load none (.t 11), none⟩,
 ⟨some 13, none, .call (.f 81) [(.t 12)], none⟩,
 ⟨some 14, none, .mv (.t 13), none⟩,
 ⟨some 15, (some (14, true)), .fld 11 (.t 1), none⟩,
 ⟨some 16, (some (14, true)), .load none (.t 15), none⟩,
 ⟨some 17, (some (14, true)), .call (.f 82) [(.t 16)], none⟩,
 ⟨some 18, none, .pick (.t 14) (.t 17) (.c (.bool false)), none⟩,
 ⟨some 19, none, .mv (.t 18), none⟩,
 ⟨some 20, (some (19, true)), .load (some 12) (.t 3), none⟩,
 ⟨some 21, (some (19, true)), .call (.f 83) [(.t 20)], none⟩,
 ⟨some 22, none, .pick (.t 19) (.t 21) (.c (.bool false)), none⟩,
 ⟨some 2, none, .mv (.t 22), none⟩])
 (.ret))))
 (.seq (.ops [⟨some 24, none, .bin .eql (.t 6) (.c (.int .i64 2)), none⟩,
 ⟨some 23, none, .mv (.t 24), none⟩])
 (.keep [1, 3, 6, 23] (.cond (.t 23)
 (.seq (.ops [⟨some 25, none, .build [(.int .i64 0), (.int .i64 0), (.int .i64 0), (.int .i64 0), (.lst .clip 0 [])] [], none⟩,
 ⟨some 26, none, .fld 1 (.t 3), none⟩,
 ⟨none, none, .store 1 (.t 26) (.c (.int .u16 0)), none⟩,
 ⟨some 27, none, .fld 2 (.t 3), none⟩,
 ⟨none, none, .store 1 (.t 27) (.c (.int .i64 0)), none⟩,
 ⟨some 28, none, .fld 3 (.t 3), none⟩,
 ⟨none, none, .store 5 (.t 28) (.t 25), none⟩])
 (.keep [1, 3] (.seq (.ops [⟨some 29, none, .fld 1 (.t 1), none⟩,
 ⟨some 30, none, .load none (.t 29), none⟩,
 ⟨some 31, none, .call (.f 81) [(.t 30)], none⟩,
 ⟨some 32, none, .mv (.t 31), none⟩,
 ⟨some 33, (some (32, true)), .fld 2 (.t 1), none⟩,
 ⟨some 34, (some (32, true)), .load none (.t 33), none⟩,
 ⟨some 35, (some (32, true)), .call (.f 84) [(.t 34)], none⟩,
 ⟨some 36, none, .pick (.t 32) (.t 35) (.c (.bool false)), none⟩,
 ⟨some 37, none, .mv (.t 36), none⟩,
 ⟨some 38, (some (37, true)), .fld 3 (.t 1), none⟩,
 ⟨some 39, (some (37, true)), .load (some 5) (.t 38), none⟩,
 ⟨some 40, (some (37, true)), .call (.f 85) [(.t 39)], none⟩,
 ⟨some 41, none, .pick (.t 37) (.t 40) (.c (.bool false)), none⟩,
 ⟨some 42, none, .mv (.t 41), none⟩,
 ⟨some 43, (some (42, true)), .load (some 12) (.t 3), none⟩,
 ⟨some 44, (some (42, true)), .call (.f 83) [(.t 43)], none⟩,
 ⟨some 45, none, .pick (.t 42) (.t 44) (.c (.bool false)), none⟩,
 ⟨some 2, none, .mv (.t 45), none⟩])
 (.ret))))
 (.seq (.ops [⟨some 47, none, .bin .eql (.t 6) (.c (.int .i64 3)), none⟩,
 ⟨some 46, none, .mv (.t 47), none⟩])
 (.keep [1, 3, 6, 46] (.cond (.t 46)
 (.seq (.ops [⟨some 48, none, .fld 1 (.t 3), none⟩,
 ⟨none, none, .store 1 (.t 48) (.c (.int .u16 0)), none⟩,
 ⟨some 49, none, .fld 2 (.t 3), none⟩,
 ⟨none, none, .store 1 (.t 49) (.c (.int .i64 0)), none⟩,
 ⟨some 50, none, .fld 8 (.t 3), none⟩,
 ⟨none, none, .store 1 (.t 50) (.c (.int .i64 0)), none⟩,
 ⟨some 51, none, .fld 9 (.t 3), none⟩,
 ⟨none, none, .store 1 (.t 51) (.c (.int .i64 0)), none⟩])
 (.keep [1, 3] (.seq (.ops [⟨some 52, none, .fld 1 (.t 1), none⟩,
 ⟨some 53, none, .load none (.t 52), none⟩,
 ⟨some 54, none, .call (.f 81) [(.t 53)], none⟩,
 ⟨some 55, none, .mv (.t 54), none⟩,
 ⟨some 56, (some (55, true)), .fld 2 (.t 1), none⟩,
 ⟨some 57, (some (55, true)), .load none (.t 56), none⟩,
 ⟨some 58, (some (55, true)), .call (.f 84) [(.t 57)], none⟩,
 ⟨some 59, none, .pick (.t 55) (.t 58) (.c (.bool false)), none⟩,
 ⟨some 60, none, .mv (.t 59), none⟩,
 ⟨some 61, (some (60, true)), .fld 8 (.t 1), none⟩,
 ⟨some 62, (some (60, true)), .load none (.t 61), none⟩,
 ⟨some 63, (some (60, true)), .bin .geq (.t 62) (.c (.int .i64 0)), none⟩,
 ⟨some 64, none, .pick (.t 60) (.t 63) (.c (.bool false)), none⟩,
 ⟨some 65, none, .mv (.t 64), none⟩,
 ⟨some 66, (some (65, true)), .fld 8 (.t 1), none⟩,
 ⟨some 67, (some (65, true)), .load none (.t 66), none⟩,
 ⟨some 68, (some (65, true)), .bin .leq (.t 67) (.c (.int .i64 100)), none⟩,
 ⟨some 69, none, .pick (.t 65) (.t 68) (.c (.bool false)), none⟩,
 ⟨some 70, none, .mv (.t 69), none⟩,
 ⟨some 71, (some (70, true)), .fld 9 (.t 1), none⟩,
 ⟨some 72, (some (70, true)), .load none (.t 71), none⟩,
 ⟨some 73, (some (70, true)), .call (.f 84) [(.t 72)], none⟩,
 ⟨some 74, none, .pick (.t 70) (.t 73) (.c (.bool false)), none⟩,
 ⟨some 75, none, .mv (.t 74), none⟩,
 ⟨some 76, (some (75, true)), .load (some 12) (.t 3), none⟩,
 ⟨some 77, (some (75, true)), .call (.f 83) [(.t 76)], none⟩,
 ⟨some 78, none, .pick (.t 75) (.t 77) (.c (.bool false)), none⟩,
 ⟨some 2, none, .mv (.t 78), none⟩])
 (.ret))))
 (.seq (.ops [⟨some 80, none, .bin .eql (.t 6) (.c (.int .i64 4)), none⟩,
 ⟨some 79, none, .mv (.t 80), none⟩])
 (.keep [1, 3, 6, 79] (.cond (.t 79)
 (.seq (.ops [⟨some 81, none, .fld 10 (.t 3), none⟩,
 ⟨none, none, .store 1 (.t 81) (.c (.str ⟨#[]⟩)), none⟩])
 (.keep [1, 3] (.seq (.ops [⟨some 82, none, .fld 10 (.t 1), none⟩,
 ⟨some 83, none, .load none (.t 82), none⟩,
 ⟨some 84, none, .call (.f 86) [(.t 83)], none⟩,
 ⟨some 85, none, .mv (.t 84), none⟩,
 ⟨some 86, (some (85, true)), .load (some 12) (.t 3), none⟩,
 ⟨some 87, (some (85, true)), .call (.f 83) [(.t 86)], none⟩,
 ⟨some 88, none, .pick (.t 85) (.t 87) (.c (.bool false)), none⟩,
 ⟨some 2, none, .mv (.t 88), none⟩])
 (.ret))))
 (.seq (.ops [⟨some 90, none, .bin .eql (.t 6) (.c (.int .i64 5)), none⟩,
 ⟨some 89, none, .mv (.t 90), none⟩])
 (.keep [1, 3, 89] (.cond (.t 89)
 (.seq (.ops [⟨some 91, none, .fld 11 (.t 3), none⟩,
 ⟨none, none, .store 1 (.t 91) (.c (.lst .clip 0 [])), none⟩])
 (.keep [1, 3] (.seq (.ops [⟨some 92, none, .fld 11 (.t 1), none⟩,
 ⟨some 93, none, .load none (.t 92), none⟩,
 ⟨some 94, none, .call (.f 82) [(.t 93)], none⟩,
 ⟨some 95, none, .mv (.t 94), none⟩,
 ⟨some 96, (some (95, true)), .load (some 12) (.t 3), none⟩,
 ⟨some 97, (some (95, true)), .call (.f 83) [(.t 96)], none⟩,
 ⟨some 98, none, .pick (.t 95) (.t 97) (.c (.bool false)), none⟩,
 ⟨some 2, none, .mv (.t 98), none⟩])
 (.ret))))
 (.skip)))))))))))))))))))
 (.keep [] (.seq (.ops [⟨some 2, none, .mv (.c (.bool false)), none⟩])
 (.ret)))))))⟩
theorem J_letter_right_ok : chkFn Tryz.prog 41 J_letter_right = true := by kernel_rfl
def J_letter_write_j1 : ACode :=
 .keep [0, 1, 5] (.seq (.ops [⟨some 27, none, .mv (.t 0), none⟩,
 ⟨some 28, none, .mv (.t 1), none⟩,
 ⟨some 29, none, .fld 11 (.t 5), none⟩,
 ⟨some 30, none, .load none (.t 29), none⟩,
 ⟨some 31, none, .call (.f 87) [(.t 27), (.t 28), (.t 30)], none⟩])
 (.exit 0))
def J_letter_write : AFn :=
 ⟨67, [], .seq (.ops [⟨some 5, none, .box (.t 2) [], none⟩])
 (.keep [0, 1, 5] (.seq (.ops [⟨some 6, none, .mv (.t 1), none⟩,
 ⟨some 7, none, .fld 0 (.t 5), none⟩,
 ⟨some 8, none, .load none (.t 7), none⟩,
 ⟨some 9, none, .call (.t 6) [(.t 8)], none⟩])
 (.keep [0, 1, 5] (.seq (.ops [⟨some 10, none, .fld 0 (.t 5), none⟩,
 ⟨some 11, none, .load none (.t 10), none⟩])
 (.keep [0, 1, 5, 11] (.block 0 (.seq (.block 5 (.seq (.block 4 (.seq (.block 3 (.seq (.block 2 (.seq (.block 1 (.seq (.seq (.seq (.ops [⟨some 13, none, .bin .eql (.t 11) (.c (.int .i64 1)), none⟩,
 ⟨some 12, none, .mv (.t 13), none⟩])
 (.keep [0, 1, 5, 11, 12] (.cond (.t 12)
 (.exit 1)
 (.skip))))
 (.keep [0, 1, 5, 11] (.seq (.seq (.ops [⟨some 15, none, .bin .eql (.t 11) (.c (.int .i64 5)), none⟩,
 ⟨some 14, none, .mv (.t 15), none⟩])
 (.keep [0, 1, 5, 11, 14] (.cond (.t 14)
 (.exit 2)
 (.skip))))
 (.keep [0, 1, 5, 11] (.seq (.seq (.ops [⟨some 17, none, .bin .eql (.t 11) (.c (.int .i64 2)), none⟩,
 ⟨some 16, none, .mv (.t 17), none⟩])
 (.keep [0, 1, 5, 11, 16] (.cond (.t 16)
 (.exit 3)
 (.skip))))
 (.keep [0, 1, 5, 11] (.seq (.seq (.ops [⟨some 19, none, .bin .eql (.t 11) (.c (.int .i64 3)), none⟩,
 ⟨some 18, none, .mv (.t 19), none⟩])
 (.keep [0, 1, 5, 11, 18] (.cond (.t 18)
 (.exit 4)
 (.skip))))
 (.keep [0, 5, 11] (.seq (.ops [⟨some 21, none, .bin .eql (.t 11) (.c (.int .i64 4)), none⟩,
 ⟨some 20, none, .mv (.t 21), none⟩])
 (.keep [0, 5, 20] (.cond (.t 20)
 (.exit 5)
 (.skip))))))))))))
 (.exit 0)))
 (.keep [0, 1, 5] (.ops [⟨some 22, none, .mv (.t 1), none⟩,
 ⟨some 23, none, .fld 1 (.t 5), none⟩,
 ⟨some 24, none, .load none (.t 23), none⟩,
 ⟨some 25, none, .conv .i64 (.t 24), none⟩,
 ⟨some 26, none, .call (.t 22) [(.t 25)], none⟩]))))
 (J_letter_write_j1)))
 (.keep [0, 1, 5] (.seq (.seq (.ops [⟨some 32, none, .mv (.t 1), none⟩,
 ⟨some 33, none, .fld 1 (.t 5), none⟩,
 ⟨some 34, none, .load none (.t 33), none⟩,
 ⟨some 35, none, .conv .i64 (.t 34), none⟩,
 ⟨some 36, none, .call (.t 32) [(.t 35)], none⟩])
 (.keep [0, 1, 5] (.seq (.ops [⟨some 37, none, .mv (.t 1), none⟩,
 ⟨some 38, none, .fld 2 (.t 5), none⟩,
 ⟨some 39, none, .load none (.t 38), none⟩,
 ⟨some 40, none, .call (.t 37) [(.t 39)], none⟩])
 (.keep [0, 1, 5] (.ops [⟨some 41, none, .mv (.t 0), none⟩,
 ⟨some 42, none, .mv (.t 1), none⟩,
 ⟨some 43, none, .fld 3 (.t 5), none⟩,
 ⟨some 44, none, .load (some 5) (.t 43), none⟩,
 ⟨some 45, none, .call (.f 88) [(.t 41), (.t 42), (.t 44)], none⟩])))))
 (.exit 0)))))
 (.keep [1, 5] (.seq (.seq (.ops [⟨some 46, none, .mv (.t 1), none⟩,
 ⟨some 47, none, .fld 1 (.t 5), none⟩,
 ⟨some 48, none, .load none (.t 47), none⟩,
 ⟨some 49, none, .conv .i64 (.t 48), none⟩,
 ⟨some 50, none, .call (.t 46) [(.t 49)], none⟩])
 (.keep [1, 5] (.seq (.ops [⟨some 51, none, .mv (.t 1), none⟩,
 ⟨some 52, none, .fld 2 (.t 5), none⟩,
 ⟨some 53, none, .load none (.t 52), none⟩,
 ⟨some 54, none, .call (.t 51) [(.t 53)], none⟩])
 (.keep [1, 5] (.seq (.ops [⟨some 55, none, .mv (.t 1), none⟩,
 ⟨some 56, none, .fld 8 (.t 5), none⟩,
 ⟨some 57, none, .load none (.t 56), none⟩,
 ⟨some 58, none, .call (.t 55) [(.t 57)], none⟩])
 (.keep [1, 5] (.ops [⟨some 59, none, .mv (.t 1), none⟩,
 ⟨some 60, none, .fld 9 (.t 5), none⟩,
 ⟨some 61, none, .load none (.t 60), none⟩,
 ⟨some 62, none, .call (.t 59) [(.t 61)], none⟩])))))))
 (.exit 0)))))
 (.keep [0, 5] (.seq (.ops [⟨some 63, none, .mv (.t 0), none⟩,
 ⟨some 64, none, .fld 10 (.t 5), none⟩,
 ⟨some 65, none, .load none (.t 64), none⟩,
 ⟨some 66, none, .call (.f 89) [(.t 63), (.t 65)], none⟩])
 (.exit 0))))))))))⟩
theorem J_letter_write_ok : chkFn Tryz.prog 42 J_letter_write = true := by kernel_rfl
def J_ref22_fits_j1 : ACode :=
 .keep [1] (.seq (.ops [⟨some 24, none, .fld 1 (.t 1), none⟩,
 ⟨some 25, none, .load none (.t 24), none⟩,
 ⟨some 26, none, .bin .geq (.t 25) (.c (.int .u16 16384)), none⟩,
 ⟨some 27, none, .mv (.t 26), none⟩,
 ⟨some 28, (some (27, true)), .fld 1 (.t 1), none⟩,
 ⟨some 29, (some (27, true)), .load none (.t 28), none⟩,
 ⟨some 30, (some (27, true)), .bin .lss (.t 29) (.c (.int .u16 24576)), none⟩,
 ⟨some 31, none, .pick (.t 27) (.t 30) (.c (.bool false)), none⟩,
 ⟨some 4, none, .mv (.t 31), none⟩])
 (.keep [1, 4] (.seq (.ops [⟨some 32, none, .fld 8 (.t 1), none⟩,
 ⟨some 33, none, .load none (.t 32), none⟩,
 ⟨some 34, none, .bin .eql (.t 33) (.c (.int .i64 0)), none⟩,
 ⟨some 35, none, .mv (.t 34), none⟩,
 ⟨some 36, (some (35, true)), .fld 9 (.t 1), none⟩,
 ⟨some 37, (some (35, true)), .load none (.t 36), none⟩,
 ⟨some 38, (some (35, true)), .bin .eql (.t 37) (.c (.int .i64 0)), none⟩,
 ⟨some 39, none, .pick (.t 35) (.t 38) (.c (.bool false)), none⟩,
 ⟨some 5, none, .mv (.t 39), none⟩])
 (.keep [1, 4, 5] (.seq (.seq (.ops [⟨some 40, none, .fld 0 (.t 1), none⟩,
 ⟨some 41, none, .load none (.t 40), none⟩])
 (.keep [1, 4, 5, 41] (.block 2 (.seq (.ops [⟨some 43, none, .bin .eql (.t 41) (.c (.int .i64 1)), none⟩,
 ⟨some 42, none, .mv (.t 43), none⟩])
 (.keep [1, 4, 5, 41, 42] (.cond (.t 42)
 (.seq (.ops [⟨some 44, none, .mv (.t 4), none⟩,
 ⟨some 45, none, .mv (.t 44), none⟩,
 ⟨some 46, (some (45, true)), .fld 2 (.t 1), none⟩,
 ⟨some 47, (some (45, true)), .load none (.t 46), none⟩,
 ⟨some 48, (some (45, true)), .bin .eql (.t 47) (.c (.int .i64 0)), none⟩,
 ⟨some 49, none, .pick (.t 45) (.t 48) (.c (.bool false)), none⟩,
 ⟨some 50, none, .mv (.t 49), none⟩,
 ⟨some 51, (some (50, true)), .fld 3 (.t 1), none⟩,
 ⟨some 52, (some (50, true)), .load (some 5) (.t 51), none⟩,
 ⟨some 53, (some (50, true)), .call (.f 93) [(.t 52)], none⟩,
 ⟨some 54, none, .pick (.t 50) (.t 53) (.c (.bool false)), none⟩,
 ⟨some 55, none, .mv (.t 54), none⟩,
 ⟨some 56, (some (55, true)), .mv (.t 5), none⟩,
 ⟨some 57, none, .pick (.t 55) (.t 56) (.c (.bool false)), none⟩,
 ⟨some 58, none, .mv (.t 57), none⟩,
 ⟨some 59, (some (58, true)), .fld 10 (.t 1), none⟩,
 ⟨some 60, (some (58, true)), .load none (.t 59), none⟩,
 ⟨some 61, (some (58, true)), .bin .eql (.t 60) (.c (.str ⟨#[]⟩)), none⟩,
 ⟨some 62, none, .pick (.t 58) (.t 61) (.c (.bool false)), none⟩,
 ⟨some 2, none, .mv (.t 62), none⟩])
 (.ret))
 (.seq (.ops [⟨some 64, none, .bin .eql (.t 41) (.c (.int .i64 2)), none⟩,
 ⟨some 63, none, .mv (.t 64), none⟩])
 (.keep [1, 4, 5, 41, 63] (.cond (.t 63)
 (.seq (.ops [⟨some 65, none, .mv (.t 4), none⟩,
 ⟨some 66, none, .mv (.t 65), none⟩,
 ⟨some 67, (some (66, true)), .fld 2 (.t 1), none⟩,
 ⟨some 68, (some (66, true)), .load none (.t 67), none⟩,
 ⟨some 69, (some (66, true)), .call (.f 94) [(.t 68)], none⟩,
 ⟨some 70, none, .pick (.t 66) (.t 69) (.c (.bool false)), none⟩,
 ⟨some 71, none, .mv (.t 70), none⟩,
 ⟨some 72, (some (71, true)), .fld 3 (.t 1), none⟩,
 ⟨some 73, (some (71, true)), .load (some 5) (.t 72), none⟩,
 ⟨some 74, (some (71, true)), .call (.f 95) [(.t 73)], none⟩,
 ⟨some 75, none, .pick (.t 71) (.t 74) (.c (.bool false)), none⟩,
 ⟨some 76, none, .mv (.t 75), none⟩,
 ⟨some 77, (some (76, true)), .mv (.t 5), none⟩,
 ⟨some 78, none, .pick (.t 76) (.t 77) (.c (.bool false)), none⟩,
 ⟨some 79, none, .mv (.t 78), none⟩,
 ⟨some 80, (some (79, true)), .fld 10 (.t 1), none⟩,
 ⟨some 81, (some (79, true)), .load none (.t 80), none⟩,
 ⟨some 82, (some (79, true)), .bin .eql (.t 81) (.c (.str ⟨#[]⟩)), none⟩,
 ⟨some 83, none, .pick (.t 79) (.t 82) (.c (.bool false)), none⟩,
 ⟨some 84, none, .mv (.t 83), none⟩,
 ⟨some 85, (some (84, true)), .fld 11 (.t 1), none⟩,
 ⟨some 86, (some (84, true)), .load none (.t 85), none⟩,
 ⟨some 87, (some (84, true)), .lenl (.t 86), none⟩,
 ⟨some 88, (some (84, true)), .bin .eql (.t 87) (.c (.int .i64 0)), none⟩,
 ⟨some 89, none, .pick (.t 84) (.t 88) (.c (.bool false)), none⟩,
 ⟨some 2, none, .mv (.t 89), none⟩])
 (.ret))
 (.seq (.ops [⟨some 91, none, .bin .eql (.t 41) (.c (.int .i64 3)), none⟩,
 ⟨some 90, none, .mv (.t 91), none⟩])
 (.keep [1, 4, 5, 41, 90] (.cond (.t 90)
 (.seq (.ops [⟨some 92, none, .mv (.t 4), none⟩,
 ⟨some 93, none, .mv (.t 92), none⟩,
 ⟨some 94, (some (93, true)), .fld 2 (.t 1), none⟩,
 ⟨some 95, (some (93, true)), .load none (.t 94), none⟩,
 ⟨some 96, (some (93, true)), .call (.f 94) [(.t 95)], none⟩,
 ⟨some 97, none, .pick (.t 93) (.t 96) (.c (.bool false)), none⟩,
 ⟨some 98, none, .mv (.t 97), none⟩,
 ⟨some 99, (some (98, true)), .fld 3 (.t 1), none⟩,
 ⟨some 100, (some (98, true)), .load (some 5) (.t 99), none⟩,
 ⟨some 101, (some (98, true)), .call (.f 93) [(.t 100)], none⟩,
 ⟨some 102, none, .pick (.t 98) (.t 101) (.c (.bool false)), none⟩,
 ⟨some 103, none, .mv (.t 102), none⟩,
 ⟨some 104, (some (103, true)), .fld 8 (.t 1), none⟩,
 ⟨some 105, (some (103, true)), .load none (.t 104), none⟩,
 ⟨some 106, (some (103, true)), .bin .geq (.t 105) (.c (.int .i64 0)), none⟩,
 ⟨some 107, none, .pick (.t 103) (.t 106) (.c (.bool false)), none⟩,
 ⟨some 108, none, .mv (.t 107), none⟩,
 ⟨some 109, (some (108, true)), .fld 8 (.t 1), none⟩,
 ⟨some 110, (some (108, true)), .load none (.t 109), none⟩,
 ⟨some 111, (some (108, true)), .bin .leq (.t 110) (.c (.int .i64 100)), none⟩,
 ⟨some 112, none, .pick (.t 108) (.t 111) (.c (.bool false)), none⟩,
 ⟨some 113, none, .mv (.t 112), none⟩,
 ⟨some 114, (some (113, true)), .fld 9 (.t 1), none⟩,
 ⟨some 115, (some (113, true)), .load none (.t 114), none⟩,
 ⟨some 116, (some (113, true)), .call (.f 94) [(.t 115)], none⟩,
 ⟨some 117, none, .pick (.t 113) (.t 116) (.c (.bool false)), none⟩,
 ⟨some 118, none, .mv (.t 117), none⟩,
 ⟨some 119, (some (118, true)), .fld 10 (.t 1), none⟩,
 ⟨some 120, (some (118, true)), .load none (.t 119), none⟩,
 ⟨some 121, (some (118, true)), .bin .eql (.t 120) (.c (.str ⟨#[]⟩)), none⟩,
 ⟨some 122, none, .pick (.t 118) (.t 121) (.c (.bool false)), none⟩,
 ⟨some 123, none, .mv (.t 122), none⟩,
 ⟨some 124, (some (123, true)), .fld 11 (.t 1), none⟩,
 ⟨some 125, (some (123, true)), .load none (.t 124), none⟩,
 ⟨some 126, (some (123, true)), .lenl (.t 125), none⟩,
 ⟨some 127, (some (123, true)), .bin .eql (.t 126) (.c (.int .i64 0)), none⟩,
 ⟨some 128, none, .pick (.t 123) (.t 127) (.c (.bool false)), none⟩,
 ⟨some 2, none, .mv (.t 128), none⟩])
 (.ret))
 (.seq (.ops [⟨some 130, none, .bin .eql (.t 41) (.c (.int .i64 4)), none⟩,
 ⟨some 129, none, .mv (.t 130), none⟩])
 (.keep [1, 5, 41, 129] (.cond (.t 129)
 (.seq (.ops [⟨some 131, none, .fld 1 (.t 1), none⟩,
 ⟨some 132, none, .load none (.t 131), none⟩,
 ⟨some 133, none, .bin .eql (.t 132) (.c (.int .u16 0)), none⟩,
 ⟨some 134, none, .mv (.t 133), none⟩,
 ⟨some 135, (some (134, true)), .fld 2 (.t 1), none⟩,
 ⟨some 136, (some (134, true)), .load none (.t 135), none⟩,
 ⟨some 137, (some (134, true)), .bin .eql (.t 136) (.c (.int .i64 0)), none⟩,
 ⟨some 138, none, .pick (.t 134) (.t 137) (.c (.bool false)), none⟩,
 ⟨some 139, none, .mv (.t 138), none⟩,
 ⟨some 140, (some (139, true)), .fld 3 (.t 1), none⟩,
 ⟨some 141, (some (139, true)), .load (some 5) (.t 140), none⟩,
 ⟨some 142, (some (139, true)), .call (.f 93) [(.t 141)], none⟩,
 ⟨some 143, none, .pick (.t 139) (.t 142) (.c (.bool false)), none⟩,
 ⟨some 144, none, .mv (.t 143), none⟩,
 ⟨some 145, (some (144, true)), .mv (.t 5), none⟩,
 ⟨some 146, none, .pick (.t 144) (.t 145) (.c (.bool false)), none⟩,
 ⟨some 147, none, .mv (.t 146), none⟩,
 ⟨some 148, (some (147, true)), .fld 10 (.t 1), none⟩,
 ⟨some 149, (some (147, true)), .load none (.t 148), none⟩,
 ⟨some 150, (some (147, true)), .call (.f 96) [(.t 149)], none⟩,
 ⟨some 151, none, .pick (.t 147) (.t 150) (.c (.bool false)), none⟩,
 ⟨some 152, none, .mv (.t 151), none⟩,
 ⟨some 153, (some (152, true)), .fld 11 (.t 1), none⟩,
 ⟨some 154, (some (152, true)), .load none (.t 153), none⟩,
 ⟨some 155, (some (152, true)), .lenl (.t 154), none⟩,
 ⟨some 156, (some (152, true)), .bin .eql (.t 155) (.c (.int .i64 0)), none⟩,
 ⟨some 157, none, .pick (.t 152) (.t 156) (.c (.bool false)), none⟩,
 ⟨some 2, none, .mv (.t 157), none⟩])
 (.ret))
 (.seq (.ops [⟨some 159, none, .bin .eql (.t 41) (.c (.int .i64 5)), none⟩,
 ⟨some 158, none, .mv (.t 159), none⟩])
 (.keep [1, 5, 158] (.cond (.t 158)
 (.seq (.ops [⟨some 160, none, .fld 1 (.t 1), none⟩,
 ⟨some 161, none, .load none (.t 160), none⟩,
 ⟨some 162, none, .bin .eql (.t 161) (.c (.int .u16 0)), none⟩,
 ⟨some 163, none, .mv (.t 162), none⟩,
 ⟨some 164, (some (163, true)), .fld 2 (.t 1), none⟩,
 ⟨some 165, (some (163, true)), .load none (.t 164), none⟩,
 ⟨some 166, (some (163, true)), .bin .eql (.t 165) (.c (.int .i64 0)), none⟩,
 ⟨some 167, none, .pick (.t 163) (.t 166) (.c (.bool false)), none⟩,
 ⟨some 168, none, .mv (.t 167), none⟩,
 ⟨some 169, (some (168, true)), .fld 3 (.t 1), none⟩,
 ⟨some 170, (some (168, true)), .load (some 5) (.t 169), none⟩,
 ⟨some 171, (some (168, true)), .call (.f 93) [(.t 170)], none⟩,
 ⟨some 172, none, .pick (.t 168) (.t 171) (.c (.bool false)), none⟩,
 ⟨some 173, none, .mv (.t 172), none⟩,
 ⟨some 174, (some (173, true)), .mv (.t 5), none⟩,
 ⟨some 175, none, .pick (.t 173) (.t 174) (.c (.bool false)), none⟩,
 ⟨some 176, none, .mv (.t 175), none⟩,
 ⟨some 177, (some (176, true)), .fld 10 (.t 1), none⟩,
 ⟨some 178, (some (176, true)), .load none (.t 177), none⟩,
 ⟨some 179, (some (176, true)), .bin .eql (.t 178) (.c (.str ⟨#[]⟩)), none⟩,
 ⟨some 180, none, .pick (.t 176) (.t 179) (.c (.bool false)), none⟩,
 ⟨some 2, none, .mv (.t 180), none⟩])
 (.ret))
 (.skip)))))))))))))))))))
 (.keep [] (.seq (.ops [⟨some 2, none, .mv (.c (.bool false)), none⟩])
 (.ret))))))))
def J_ref22_fits_j2 : ACode :=
 .seq (.seq (.ops [⟨some 6, none, .mv (.t 3), none⟩,
 ⟨some 7, none, .fld 11 (.t 1), none⟩,
 ⟨some 8, none, .load none (.t 7), none⟩,
 ⟨some 9, none, .lenl (.t 8), none⟩,
 ⟨some 10, none, .bin .lss (.t 6) (.t 9), none⟩])
 (.keep [1, 3, 10] (.cond (.t 10)
 (.skip)
 (.exit 0))))
 (.keep [1, 3] (.seq (.block 1 (.seq (.ops [⟨some 13, none, .mv (.t 3), none⟩,
 ⟨some 14, none, .bin .gtr (.t 13) (.c (.int .i64 7)), none⟩,
 ⟨some 15, none, .mv (.t 14), none⟩,
 ⟨some 16, (some (15, false)), .fld 11 (.t 1), none⟩,
 ⟨some 17, (some (15, false)), .load none (.t 16), none⟩,
 ⟨some 18, (some (15, false)), .mv (.t 3), none⟩,
 ⟨some 19, (some (15, false)), .idxa 7 (.t 17) (.t 18), none⟩,
 ⟨some 20, (some (15, false)), .load (some 7) (.t 19), none⟩,
 ⟨some 21, (some (15, false)), .call (.f 92) [(.t 20)], none⟩,
 ⟨some 22, (some (15, false)), .bin .neq (.t 21) (.c (.int .i64 0)), none⟩,
 ⟨some 23, none, .pick (.t 15) (.c (.bool true)) (.t 22), none⟩])
 (.keep [1, 3, 23] (.cond (.t 23)
 (.seq (.ops [⟨some 2, none, .mv (.c (.bool false)), none⟩])
 (.ret))
 (.skip)))))
 (.keep [1, 3] (.ops [⟨some 11, none, .mv (.t 3), none⟩,
 ⟨some 12, none, .bin .add (.t 11) (.c (.int .i64 1)), none⟩,
 ⟨some 3, none, .mv (.t 12), none⟩]))))
def J_ref22_fits : AFn :=
 ⟨181, [.t 2], .seq (.ops [⟨some 1, none, .box (.t 0) [], none⟩,
 ⟨some 2, none, .mv (.c (.bool false)), none⟩])
 (.keep [1] (.seq (.seq (.ops [⟨some 3, none, .mv (.c (.int .i64 0)), none⟩])
 (.keep [1, 3] (.block 0 (.loop [1, 3] (J_ref22_fits_j2)))))
 (J_ref22_fits_j1)))⟩
theorem J_ref22_fits_ok : chkFn Tryz.prog 45 J_ref22_fits = true := by kernel_rfl
def J_letter_read_j1 : ACode :=
 .keep [4, 6, 7] (.seq (.ops [⟨some 61, none, .load (some 12) (.t 6), none⟩,
 ⟨some 62, none, .mv (.t 7), none⟩,
 ⟨none, none, .store 12 (.t 4) (.t 61), none⟩,
 ⟨some 5, none, .mv (.t 62), none⟩])
 (.ret))
def J_letter_read_j2 : ACode :=
 .keep [0, 1, 4, 6] (.seq (.ops [⟨some 28, none, .mv (.t 0), none⟩,
 ⟨some 29, none, .mv (.t 1), none⟩,
 ⟨some 30, none, .call (.f 101) [(.t 28), (.t 29)], none⟩,
 ⟨some 27, none, .mv (.t 30), none⟩,
 ⟨some 31, none, .ext 0 (.t 27), none⟩,
 ⟨some 32, none, .ext 1 (.t 27), none⟩,
 ⟨some 33, none, .fld 11 (.t 6), none⟩,
 ⟨none, none, .store 1 (.t 33) (.t 31), none⟩,
 ⟨some 7, none, .mv (.t 32), none⟩])
 (.exit 0))
def J_letter_read : AFn :=
 ⟨63, [.c 4 (some 12), .t 5], .seq (.ops [⟨some 4, none, .new [(.int .i64 0), (.int .u16 0), (.int .i64 0), (.int .i64 0), (.int .i64 0), (.int .i64 0), (.int .i64 0), (.lst .clip 0 []), (.int .i64 0), (.int .i64 0), (.str ⟨#[]⟩), (.lst .clip 0 [])] [(11, 80, 7)], none⟩,
 ⟨some 5, none, .mv (.c (.bool false)), none⟩])
 (.keep [0, 1, 4] (.seq (.ops [⟨some 8, none, .mv (.t 1), none⟩,
 ⟨some 9, none, .call (.t 8) [(.c (.int .i64 5))], none⟩,
 ⟨some 10, none, .build [(.int .i64 0), (.int .u16 0), (.int .i64 0), (.int .i64 0), (.int .i64 0), (.int .i64 0), (.int .i64 0), (.lst .clip 0 []), (.int .i64 0), (.int .i64 0), (.str ⟨#[]⟩), (.lst .clip 0 [])] [(0, 1, (.t 9))], none⟩,
 ⟨some 6, none, .new [(.int .i64 0), (.int .u16 0), (.int .i64 0), (.int .i64 0), (.int .i64 0), (.int .i64 0), (.int .i64 0), (.lst .clip 0 []), (.int .i64 0), (.int .i64 0), (.str ⟨#[]⟩), (.lst .clip 0 [])] [(11, 80, 7)], none⟩,
 ⟨none, none, .storeu 12 [(11, 80, 7)] (.t 6) (.t 10), none⟩])
 (.keep [0, 1, 4, 6] (.seq (.ops [⟨some 7, none, .mv (.c (.bool true)), none⟩])
 (.keep [0, 1, 4, 6, 7] (.seq (.seq (.ops [⟨some 11, none, .fld 0 (.t 6), none⟩,
 ⟨some 12, none, .load none (.t 11), none⟩])
 (.keep [0, 1, 4, 6, 7, 12] (.block 0 (.seq (.block 5 (.seq (.block 4 (.seq (.block 3 (.seq (.block 2 (.seq (.block 1 (.seq (.seq (.seq (.ops [⟨some 14, none, .bin .eql (.t 12) (.c (.int .i64 1)), none⟩,
 ⟨some 13, none, .mv (.t 14), none⟩])
 (.keep [0, 1, 4, 6, 7, 12, 13] (.cond (.t 13)
 (.exit 1)
 (.skip))))
 (.keep [0, 1, 4, 6, 7, 12] (.seq (.seq (.ops [⟨some 16, none, .bin .eql (.t 12) (.c (.int .i64 5)), none⟩,
 ⟨some 15, none, .mv (.t 16), none⟩])
 (.keep [0, 1, 4, 6, 7, 12, 15] (.cond (.t 15)
 (.exit 2)
 (.skip))))
 (.keep [0, 1, 4, 6, 7, 12] (.seq (.seq (.ops [⟨some 18, none, .bin .eql (.t 12) (.c (.int .i64 2)), none⟩,
 ⟨some 17, none, .mv (.t 18), none⟩])
 (.keep [0, 1, 4, 6, 7, 12, 17] (.cond (.t 17)
 (.exit 3)
 (.skip))))
 (.keep [0, 1, 4, 6, 7, 12] (.seq (.seq (.ops [⟨some 20, none, .bin .eql (.t 12) (.c (.int .i64 3)), none⟩,
 ⟨some 19, none, .mv (.t 20), none⟩])
 (.keep [0, 1, 4, 6, 7, 12, 19] (.cond (.t 19)
 (.exit 4)
 (.skip))))
 (.keep [0, 4, 6, 7, 12] (.seq (.ops [⟨some 22, none, .bin .eql (.t 12) (.c (.int .i64 4)), none⟩,
 ⟨some 21, none, .mv (.t 22), none⟩])
 (.keep [0, 4, 6, 7, 21] (.cond (.t 21)
 (.exit 5)
 (.skip))))))))))))
 (.exit 0)))
 (.keep [0, 1, 4, 6] (.ops [⟨some 23, none, .mv (.t 1), none⟩,
 ⟨some 24, none, .call (.t 23) [(.c (.int .i64 65535))], none⟩,
 ⟨some 25, none, .conv .u16 (.t 24), none⟩,
 ⟨some 26, none, .fld 1 (.t 6), none⟩,
 ⟨none, none, .store 1 (.t 26) (.t 25), none⟩]))))
 (J_letter_read_j2)))
 (.keep [0, 1, 4, 6, 7] (.seq (.seq (.ops [⟨some 34, none, .mv (.t 1), none⟩,
 ⟨some 35, none, .call (.t 34) [(.c (.int .i64 65535))], none⟩,
 ⟨some 36, none, .conv .u16 (.t 35), none⟩,
 ⟨some 37, none, .fld 1 (.t 6), none⟩,
 ⟨none, none, .store 1 (.t 37) (.t 36), none⟩])
 (.keep [0, 1, 4, 6, 7] (.seq (.ops [⟨some 38, none, .mv (.t 1), none⟩,
 ⟨some 39, none, .call (.t 38) [(.c (.int .i64 4611686018427387904))], none⟩,
 ⟨some 40, none, .fld 2 (.t 6), none⟩,
 ⟨none, none, .store 1 (.t 40) (.t 39), none⟩])
 (.keep [0, 1, 4, 6, 7] (.ops [⟨some 41, none, .mv (.t 0), none⟩,
 ⟨some 42, none, .mv (.t 1), none⟩,
 ⟨some 43, none, .call (.f 102) [(.t 41), (.t 42)], none⟩,
 ⟨some 44, none, .fld 3 (.t 6), none⟩,
 ⟨none, none, .store 5 (.t 44) (.t 43), none⟩])))))
 (.exit 0)))))
 (.keep [1, 4, 6, 7] (.seq (.seq (.ops [⟨some 45, none, .mv (.t 1), none⟩,
 ⟨some 46, none, .call (.t 45) [(.c (.int .i64 65535))], none⟩,
 ⟨some 47, none, .conv .u16 (.t 46), none⟩,
 ⟨some 48, none, .fld 1 (.t 6), none⟩,
 ⟨none, none, .store 1 (.t 48) (.t 47), none⟩])
 (.keep [1, 4, 6, 7] (.seq (.ops [⟨some 49, none, .mv (.t 1), none⟩,
 ⟨some 50, none, .call (.t 49) [(.c (.int .i64 4611686018427387904))], none⟩,
 ⟨some 51, none, .fld 2 (.t 6), none⟩,
 ⟨none, none, .store 1 (.t 51) (.t 50), none⟩])
 (.keep [1, 4, 6, 7] (.seq (.ops [⟨some 52, none, .mv (.t 1), none⟩,
 ⟨some 53, none, .call (.t 52) [(.c (.int .i64 100))], none⟩,
 ⟨some 54, none, .fld 8 (.t 6), none⟩,
 ⟨none, none, .store 1 (.t 54) (.t 53), none⟩])
 (.keep [1, 4, 6, 7] (.ops [⟨some 55, none, .mv (.t 1), none⟩,
 ⟨some 56, none, .call (.t 55) [(.c (.int .i64 4611686018427387904))], none⟩,
 ⟨some 57, none, .fld 9 (.t 6), none⟩,
 ⟨none, none, .store 1 (.t 57) (.t 56), none⟩])))))))
 (.exit 0)))))
 (.keep [0, 4, 6, 7] (.seq (.ops [⟨some 58, none, .mv (.t 0), none⟩,
 ⟨some 59, none, .call (.f 103) [(.t 58)], none⟩,
 ⟨some 60, none, .fld 10 (.t 6), none⟩,
 ⟨none, none, .store 1 (.t 60) (.t 59), none⟩])
 (.exit 0)))))))
 (J_letter_read_j1)))))))⟩
theorem J_letter_read_ok : chkFn Tryz.prog 48 J_letter_read = true := by kernel_rfl
def J_letter_sameAsk : AFn :=
 ⟨42, [.t 4], .seq (.ops [⟨some 2, none, .box (.t 0) [], none⟩,
 ⟨some 3, none, .box (.t 1) [], none⟩,
 ⟨some 4, none, .mv (.c (.bool false)), none⟩])
 (.keep [2, 3] (.seq (.ops [⟨some 5, none, .fld 0 (.t 2), none⟩,
 ⟨some 6, none, .load none (.t 5), none⟩,
 ⟨some 7, none, .fld 0 (.t 3), none⟩,
 ⟨some 8, none, .load none (.t 7), none⟩,
 ⟨some 9, none, .bin .eql (.t 6) (.t 8), none⟩,
 ⟨some 10, none, .mv (.t 9), none⟩,
 ⟨some 11, (some (10, true)), .fld 1 (.t 2), none⟩,
 ⟨some 12, (some (10, true)), .load none (.t 11), none⟩,
 ⟨some 13, (some (10, true)), .fld 1 (.t 3), none⟩,
 ⟨some 14, (some (10, true)), .load none (.t 13), none⟩,
 ⟨some 15, (some (10, true)), .bin .eql (.t 12) (.t 14), none⟩,
 ⟨some 16, none, .pick (.t 10) (.t 15) (.c (.bool false)), none⟩,
 ⟨some 17, none, .mv (.t 16), none⟩,
 ⟨some 18, (some (17, true)), .fld 2 (.t 2), none⟩,
 ⟨some 19, (some (17, true)), .load none (.t 18), none⟩,
 ⟨some 20, (some (17, true)), .fld 2 (.t 3), none⟩,
 ⟨some 21, (some (17, true)), .load none (.t 20), none⟩,
 ⟨some 22, (some (17, true)), .bin .eql (.t 19) (.t 21), none⟩,
 ⟨some 23, none, .pick (.t 17) (.t 22) (.c (.bool false)), none⟩,
 ⟨some 24, none, .mv (.t 23), none⟩,
 ⟨some 25, (some (24, true)), .fld 3 (.t 2), none⟩,
 ⟨some 26, (some (24, true)), .fld 0 (.t 25), none⟩,
 ⟨some 27, (some (24, true)), .load none (.t 26), none⟩,
 ⟨some 28, (some (24, true)), .fld 3 (.t 3), none⟩,
 ⟨some 29, (some (24, true)), .fld 0 (.t 28), none⟩,
 ⟨some 30, (some (24, true)), .load none (.t 29), none⟩,
 ⟨some 31, (some (24, true)), .bin .eql (.t 27) (.t 30), none⟩,
 ⟨some 32, none, .pick (.t 24) (.t 31) (.c (.bool false)), none⟩,
 ⟨some 33, none, .mv (.t 32), none⟩,
 ⟨some 34, (some (33, true)), .fld 3 (.t 2), none⟩,
 ⟨some 35, (some (33, true)), .fld 1 (.t 34), none⟩,
 ⟨some 36, (some (33, true)), .load none (.t 35), none⟩,
 ⟨some 37, (some (33, true)), .fld 3 (.t 3), none⟩,
 ⟨some 38, (some (33, true)), .fld 1 (.t 37), none⟩,
 ⟨some 39, (some (33, true)), .load none (.t 38), none⟩,
 ⟨some 40, (some (33, true)), .call (.f 140) [(.t 36), (.t 39)], none⟩,
 ⟨some 41, none, .pick (.t 33) (.t 40) (.c (.bool false)), none⟩,
 ⟨some 4, none, .mv (.t 41), none⟩])
 (.ret)))⟩
theorem J_letter_sameAsk_ok : chkFn Tryz.prog 78 J_letter_sameAsk = true := by kernel_rfl
def J_letter_channel : AFn :=
 ⟨6, [.t 2], .seq (.ops [⟨some 2, none, .mv (.c (.bool false)), none⟩])
 (.keep [0] (.seq (.ops [⟨some 3, none, .mv (.t 0), none⟩,
 ⟨some 4, none, .bin .quo (.t 3) (.c (.int .u16 8192)), none⟩,
 ⟨some 5, none, .bin .eql (.t 4) (.c (.int .u16 2)), none⟩,
 ⟨some 2, none, .mv (.t 5), none⟩])
 (.ret)))⟩
theorem J_letter_channel_ok : chkFn Tryz.prog 81 J_letter_channel = true := by kernel_rfl
def J_letter_certs_j1 : ACode :=
 .keep [] (.seq (.ops [⟨some 2, none, .mv (.c (.bool true)), none⟩])
 (.ret))
def J_letter_certs_j2 : ACode :=
 .seq (.ops [⟨some 11, none, .bin .lss (.t 10) (.t 9), none⟩])
 (.keep [8, 9, 10, 11] (.seq (.cond (.t 11)
 (.skip)
 (.exit 0))
 (.keep [8, 9, 10] (.seq (.block 1 (.seq (.ops [⟨some 12, none, .idxa 7 (.t 8) (.t 10), none⟩,
 ⟨some 13, none, .load (some 7) (.t 12), none⟩,
 ⟨some 4, none, .new [(.int .i64 0), (.int .u16 0), (.str ⟨#[]⟩), (.lst .clip 0 []), (.int .i64 0), (.int .i64 0), (.int .i64 0)] [], none⟩,
 ⟨none, none, .stores 7 (.t 4) (.t 13), none⟩])
 (.keep [4, 8, 9, 10] (.seq (.ops [⟨some 14, none, .load (some 7) (.t 4), none⟩,
 ⟨some 15, none, .call (.f 141) [(.t 14)], none⟩,
 ⟨some 16, none, .bin .neq (.t 15) (.c (.int .i64 0)), none⟩])
 (.keep [8, 9, 10, 16] (.cond (.t 16)
 (.seq (.ops [⟨some 2, none, .mv (.c (.bool false)), none⟩])
 (.ret))
 (.skip)))))))
 (.keep [8, 9, 10] (.ops [⟨some 17, none, .bin .add (.t 10) (.c (.int .i64 1)), none⟩,
 ⟨some 10, none, .mv (.t 17), none⟩]))))))
def J_letter_certs : AFn :=
 ⟨18, [.t 2], .seq (.ops [⟨some 2, none, .mv (.c (.bool false)), none⟩])
 (.keep [0] (.seq (.seq (.ops [⟨some 5, none, .mv (.t 0), none⟩,
 ⟨some 6, none, .lenl (.t 5), none⟩,
 ⟨some 7, none, .bin .gtr (.t 6) (.c (.int .i64 8)), none⟩])
 (.keep [0, 7] (.cond (.t 7)
 (.seq (.ops [⟨some 2, none, .mv (.c (.bool false)), none⟩])
 (.ret))
 (.skip))))
 (.keep [0] (.seq (.seq (.ops [⟨some 8, none, .mv (.t 0), none⟩,
 ⟨some 9, none, .lenl (.t 8), none⟩,
 ⟨some 10, none, .mv (.c (.int .i64 0)), none⟩])
 (.keep [8, 9, 10] (.block 0 (.loop [8, 9, 10] (J_letter_certs_j2)))))
 (J_letter_certs_j1)))))⟩
theorem J_letter_certs_ok : chkFn Tryz.prog 82 J_letter_certs = true := by kernel_rfl
def J_letter_bare : AFn :=
 ⟨8, [.t 2], .seq (.ops [⟨some 1, none, .box (.t 0) [], none⟩,
 ⟨some 2, none, .mv (.c (.bool false)), none⟩])
 (.keep [1] (.seq (.ops [⟨some 3, none, .load (some 12) (.t 1), none⟩,
 ⟨some 4, none, .fld 0 (.t 1), none⟩,
 ⟨some 5, none, .load none (.t 4), none⟩,
 ⟨some 6, none, .build [(.int .i64 0), (.int .u16 0), (.int .i64 0), (.int .i64 0), (.int .i64 0), (.int .i64 0), (.int .i64 0), (.lst .clip 0 []), (.int .i64 0), (.int .i64 0), (.str ⟨#[]⟩), (.lst .clip 0 [])] [(0, 1, (.t 5))], none⟩,
 ⟨some 7, none, .call (.f 40) [(.t 3), (.t 6)], none⟩,
 ⟨some 2, none, .mv (.t 7), none⟩])
 (.ret)))⟩
theorem J_letter_bare_ok : chkFn Tryz.prog 83 J_letter_bare = true := by kernel_rfl
def J_letter_number : AFn :=
 ⟨9, [.t 2], .seq (.ops [⟨some 2, none, .mv (.c (.bool false)), none⟩])
 (.keep [0] (.seq (.ops [⟨some 3, none, .mv (.t 0), none⟩,
 ⟨some 4, none, .bin .geq (.t 3) (.c (.int .i64 0)), none⟩,
 ⟨some 5, none, .mv (.t 4), none⟩,
 ⟨some 6, (some (5, true)), .mv (.t 0), none⟩,
 ⟨some 7, (some (5, true)), .bin .leq (.t 6) (.c (.int .i64 4611686018427387904)), none⟩,
 ⟨some 8, none, .pick (.t 5) (.t 7) (.c (.bool false)), none⟩,
 ⟨some 2, none, .mv (.t 8), none⟩])
 (.ret)))⟩
theorem J_letter_number_ok : chkFn Tryz.prog 84 J_letter_number = true := by kernel_rfl
def J_record_Asks_j1 : ACode :=
 .keep [1, 42] (.cond (.t 42)
 (.seq (.ops [⟨some 45, none, .fld 2 (.t 1), none⟩,
 ⟨some 46, none, .load none (.t 45), none⟩,
 ⟨some 47, none, .bin .eql (.t 46) (.c (.int .i64 0)), none⟩,
 ⟨some 48, none, .mv (.t 47), none⟩,
 ⟨some 49, (some (48, true)), .fld 3 (.t 1), none⟩,
 ⟨some 50, (some (48, true)), .fld 0 (.t 49), none⟩,
 ⟨some 51, (some (48, true)), .load none (.t 50), none⟩,
 ⟨some 52, (some (48, true)), .bin .geq (.t 51) (.c (.int .i64 0)), none⟩,
 ⟨some 53, none, .pick (.t 48) (.t 52) (.c (.bool false)), none⟩,
 ⟨some 54, none, .mv (.t 53), none⟩,
 ⟨some 55, (some (54, true)), .fld 3 (.t 1), none⟩,
 ⟨some 56, (some (54, true)), .fld 0 (.t 55), none⟩,
 ⟨some 57, (some (54, true)), .load none (.t 56), none⟩,
 ⟨some 58, (some (54, true)), .bin .lss (.t 57) (.c (.int .i64 8)), none⟩,
 ⟨some 59, none, .pick (.t 54) (.t 58) (.c (.bool false)), none⟩,
 ⟨some 60, none, .mv (.t 59), none⟩,
 ⟨some 61, (some (60, true)), .fld 3 (.t 1), none⟩,
 ⟨some 62, (some (60, true)), .fld 1 (.t 61), none⟩,
 ⟨some 63, (some (60, true)), .load none (.t 62), none⟩,
 ⟨some 64, (some (60, true)), .call (.f 66) [(.t 63)], none⟩,
 ⟨some 65, none, .pick (.t 60) (.t 64) (.c (.bool false)), none⟩,
 ⟨some 2, none, .mv (.t 65), none⟩])
 (.ret))
 (.skip))
def J_record_Asks : AFn :=
 ⟨66, [.t 2], .seq (.ops [⟨some 1, none, .box (.t 0) [], none⟩,
 ⟨some 2, none, .mv (.c (.bool false)), none⟩])
 (.keep [1] (.seq (.seq (.ops [⟨some 4, none, .fld 0 (.t 1), none⟩,
 ⟨some 5, none, .load none (.t 4), none⟩,
 ⟨some 6, none, .bin .lss (.t 5) (.c (.int .i64 0)), none⟩,
 ⟨some 7, none, .mv (.t 6), none⟩,
 ⟨some 8, (some (7, false)), .fld 0 (.t 1), none⟩,
 ⟨some 9, (some (7, false)), .load none (.t 8), none⟩,
 ⟨some 10, (some (7, false)), .bin .geq (.t 9) (.c (.int .i64 4)), none⟩,
 ⟨some 11, none, .pick (.t 7) (.c (.bool true)) (.t 10), none⟩,
 ⟨some 12, none, .mv (.t 11), none⟩,
 ⟨some 13, (some (12, false)), .fld 2 (.t 1), none⟩,
 ⟨some 14, (some (12, false)), .load none (.t 13), none⟩,
 ⟨some 15, (some (12, false)), .call (.f 142) [(.t 14)], none⟩,
 ⟨some 16, (some (12, false)), .not (.t 15), none⟩,
 ⟨some 17, none, .pick (.t 12) (.c (.bool true)) (.t 16), none⟩])
 (.keep [1, 17] (.cond (.t 17)
 (.seq (.ops [⟨some 2, none, .mv (.c (.bool false)), none⟩])
 (.ret))
 (.skip))))
 (.keep [1] (.seq (.ops [⟨some 18, none, .fld 3 (.t 1), none⟩,
 ⟨some 19, none, .fld 0 (.t 18), none⟩,
 ⟨some 20, none, .load none (.t 19), none⟩,
 ⟨some 21, none, .bin .eql (.t 20) (.c (.int .i64 0)), none⟩,
 ⟨some 22, none, .mv (.t 21), none⟩,
 ⟨some 23, (some (22, true)), .fld 3 (.t 1), none⟩,
 ⟨some 24, (some (22, true)), .fld 1 (.t 23), none⟩,
 ⟨some 25, (some (22, true)), .load none (.t 24), none⟩,
 ⟨some 26, (some (22, true)), .lenl (.t 25), none⟩,
 ⟨some 27, (some (22, true)), .bin .eql (.t 26) (.c (.int .i64 0)), none⟩,
 ⟨some 28, none, .pick (.t 22) (.t 27) (.c (.bool false)), none⟩,
 ⟨some 3, none, .mv (.t 28), none⟩])
 (.keep [1, 3] (.seq (.seq (.ops [⟨some 29, none, .fld 1 (.t 1), none⟩,
 ⟨some 30, none, .load none (.t 29), none⟩])
 (.keep [1, 3, 30] (.block 0 (.seq (.ops [⟨some 32, none, .bin .eql (.t 30) (.c (.int .i64 0)), none⟩,
 ⟨some 31, none, .mv (.t 32), none⟩])
 (.keep [1, 3, 30, 31] (.cond (.t 31)
 (.seq (.ops [⟨some 33, none, .fld 2 (.t 1), none⟩,
 ⟨some 34, none, .load none (.t 33), none⟩,
 ⟨some 35, none, .bin .eql (.t 34) (.c (.int .i64 0)), none⟩,
 ⟨some 36, none, .mv (.t 35), none⟩,
 ⟨some 37, (some (36, true)), .mv (.t 3), none⟩,
 ⟨some 38, none, .pick (.t 36) (.t 37) (.c (.bool false)), none⟩,
 ⟨some 2, none, .mv (.t 38), none⟩])
 (.ret))
 (.seq (.ops [⟨some 40, none, .bin .eql (.t 30) (.c (.int .i64 1)), none⟩,
 ⟨some 39, none, .mv (.t 40), none⟩])
 (.keep [1, 3, 30, 39] (.cond (.t 39)
 (.seq (.ops [⟨some 41, none, .mv (.t 3), none⟩,
 ⟨some 2, none, .mv (.t 41), none⟩])
 (.ret))
 (.seq (.seq (.ops [⟨some 43, none, .bin .eql (.t 30) (.c (.int .i64 2)), none⟩,
 ⟨some 42, none, .mv (.t 43), none⟩])
 (.keep [1, 30, 42] (.cond (.t 42)
 (.skip)
 (.ops [⟨some 44, none, .bin .eql (.t 30) (.c (.int .i64 3)), none⟩,
 ⟨some 42, none, .mv (.t 44), none⟩]))))
 (J_record_Asks_j1)))))))))))
 (.keep [] (.seq (.ops [⟨some 2, none, .mv (.c (.bool false)), none⟩])
 (.ret)))))))))⟩
theorem J_record_Asks_ok : chkFn Tryz.prog 85 J_record_Asks = true := by kernel_rfl
def J_letter_writeCerts_j1 : ACode :=
 .seq (.ops [⟨some 17, none, .bin .lss (.t 16) (.t 15), none⟩])
 (.keep [0, 14, 15, 16, 17] (.seq (.cond (.t 17)
 (.skip)
 (.exit 0))
 (.keep [0, 14, 15, 16] (.seq (.block 1 (.seq (.ops [⟨some 18, none, .idxa 7 (.t 14) (.t 16), none⟩,
 ⟨some 19, none, .load (some 7) (.t 18), none⟩,
 ⟨some 7, none, .new [(.int .i64 0), (.int .u16 0), (.str ⟨#[]⟩), (.lst .clip 0 []), (.int .i64 0), (.int .i64 0), (.int .i64 0)] [], none⟩,
 ⟨none, none, .stores 7 (.t 7) (.t 19), none⟩])
 (.keep [0, 7, 14, 15, 16] (.seq (.ops [⟨some 21, none, .load (some 7) (.t 7), none⟩,
 ⟨some 22, none, .call (.f 145) [(.t 21)], none⟩,
 ⟨some 20, none, .mv (.t 22), none⟩,
 ⟨some 23, none, .ext 0 (.t 20), none⟩,
 ⟨some 24, none, .ext 1 (.t 20), none⟩,
 ⟨some 8, none, .mv (.t 23), none⟩,
 ⟨some 9, none, .mv (.t 24), none⟩])
 (.keep [0, 8, 14, 15, 16] (.ops [⟨some 25, none, .mv (.t 0), none⟩,
 ⟨some 26, none, .mv (.t 8), none⟩,
 ⟨some 27, none, .call (.f 146) [(.t 25), (.t 26)], none⟩]))))))
 (.keep [0, 14, 15, 16] (.ops [⟨some 28, none, .bin .add (.t 16) (.c (.int .i64 1)), none⟩,
 ⟨some 16, none, .mv (.t 28), none⟩]))))))
def J_letter_writeCerts : AFn :=
 ⟨29, [], .seq (.ops [⟨some 10, none, .mv (.t 1), none⟩,
 ⟨some 11, none, .mv (.t 2), none⟩,
 ⟨some 12, none, .lenl (.t 11), none⟩,
 ⟨some 13, none, .call (.t 10) [(.t 12)], none⟩])
 (.keep [0, 2] (.seq (.ops [⟨some 14, none, .mv (.t 2), none⟩,
 ⟨some 15, none, .lenl (.t 14), none⟩,
 ⟨some 16, none, .mv (.c (.int .i64 0)), none⟩])
 (.keep [0, 14, 15, 16] (.block 0 (.loop [0, 14, 15, 16] (J_letter_writeCerts_j1))))))⟩
theorem J_letter_writeCerts_ok : chkFn Tryz.prog 87 J_letter_writeCerts = true := by kernel_rfl
def J_letter_writeAsk : AFn :=
 ⟨36, [], .seq (.ops [⟨some 5, none, .box (.t 2) [], none⟩])
 (.keep [0, 1, 5] (.seq (.ops [⟨some 6, none, .mv (.t 1), none⟩,
 ⟨some 7, none, .fld 0 (.t 5), none⟩,
 ⟨some 8, none, .load none (.t 7), none⟩,
 ⟨some 9, none, .call (.t 6) [(.t 8)], none⟩])
 (.keep [0, 1, 5] (.seq (.ops [⟨some 10, none, .mv (.t 1), none⟩,
 ⟨some 11, none, .fld 1 (.t 5), none⟩,
 ⟨some 12, none, .load none (.t 11), none⟩,
 ⟨some 13, none, .call (.t 10) [(.t 12)], none⟩])
 (.keep [0, 1, 5] (.seq (.ops [⟨some 14, none, .mv (.t 1), none⟩,
 ⟨some 15, none, .fld 2 (.t 5), none⟩,
 ⟨some 16, none, .load none (.t 15), none⟩,
 ⟨some 17, none, .call (.t 14) [(.t 16)], none⟩])
 (.keep [0, 1, 5] (.seq (.ops [⟨some 18, none, .fld 1 (.t 5), none⟩,
 ⟨some 19, none, .load none (.t 18), none⟩,
 ⟨some 20, none, .bin .eql (.t 19) (.c (.int .i64 2)), none⟩,
 ⟨some 21, none, .mv (.t 20), none⟩,
 ⟨some 22, (some (21, false)), .fld 1 (.t 5), none⟩,
 ⟨some 23, (some (21, false)), .load none (.t 22), none⟩,
 ⟨some 24, (some (21, false)), .bin .eql (.t 23) (.c (.int .i64 3)), none⟩,
 ⟨some 25, none, .pick (.t 21) (.c (.bool true)) (.t 24), none⟩])
 (.keep [0, 1, 5, 25] (.cond (.t 25)
 (.seq (.ops [⟨some 26, none, .mv (.t 1), none⟩,
 ⟨some 27, none, .fld 3 (.t 5), none⟩,
 ⟨some 28, none, .fld 0 (.t 27), none⟩,
 ⟨some 29, none, .load none (.t 28), none⟩,
 ⟨some 30, none, .call (.t 26) [(.t 29)], none⟩])
 (.keep [0, 5] (.ops [⟨some 31, none, .mv (.t 0), none⟩,
 ⟨some 32, none, .fld 3 (.t 5), none⟩,
 ⟨some 33, none, .fld 1 (.t 32), none⟩,
 ⟨some 34, none, .load none (.t 33), none⟩,
 ⟨some 35, none, .call (.f 147) [(.t 31), (.t 34)], none⟩])))
 (.skip)))))))))))⟩
theorem J_letter_writeAsk_ok : chkFn Tryz.prog 88 J_letter_writeAsk = true := by kernel_rfl
def J_ref22_noAsk : AFn :=
 ⟨29, [.t 2], .seq (.ops [⟨some 1, none, .box (.t 0) [], none⟩,
 ⟨some 2, none, .mv (.c (.bool false)), none⟩])
 (.keep [1] (.seq (.ops [⟨some 3, none, .fld 0 (.t 1), none⟩,
 ⟨some 4, none, .load none (.t 3), none⟩,
 ⟨some 5, none, .bin .eql (.t 4) (.c (.int .i64 0)), none⟩,
 ⟨some 6, none, .mv (.t 5), none⟩,
 ⟨some 7, (some (6, true)), .fld 1 (.t 1), none⟩,
 ⟨some 8, (some (6, true)), .load none (.t 7), none⟩,
 ⟨some 9, (some (6, true)), .bin .eql (.t 8) (.c (.int .i64 0)), none⟩,
 ⟨some 10, none, .pick (.t 6) (.t 9) (.c (.bool false)), none⟩,
 ⟨some 11, none, .mv (.t 10), none⟩,
 ⟨some 12, (some (11, true)), .fld 2 (.t 1), none⟩,
 ⟨some 13, (some (11, true)), .load none (.t 12), none⟩,
 ⟨some 14, (some (11, true)), .bin .eql (.t 13) (.c (.int .i64 0)), none⟩,
 ⟨some 15, none, .pick (.t 11) (.t 14) (.c (.bool false)), none⟩,
 ⟨some 16, none, .mv (.t 15), none⟩,
 ⟨some 17, (some (16, true)), .fld 3 (.t 1), none⟩,
 ⟨some 18, (some (16, true)), .fld 0 (.t 17), none⟩,
 ⟨some 19, (some (16, true)), .load none (.t 18), none⟩,
 ⟨some 20, (some (16, true)), .bin .eql (.t 19) (.c (.int .i64 0)), none⟩,
 ⟨some 21, none, .pick (.t 16) (.t 20) (.c (.bool false)), none⟩,
 ⟨some 22, none, .mv (.t 21), none⟩,
 ⟨some 23, (some (22, true)), .fld 3 (.t 1), none⟩,
 ⟨some 24, (some (22, true)), .fld 1 (.t 23), none⟩,
 ⟨some 25, (some (22, true)), .load none (.t 24), none⟩,
 ⟨some 26, (some (22, true)), .lenl (.t 25), none⟩,
 ⟨some 27, (some (22, true)), .bin .eql (.t 26) (.c (.int .i64 0)), none⟩,
 ⟨some 28, none, .pick (.t 22) (.t 27) (.c (.bool false)), none⟩,
 ⟨some 2, none, .mv (.t 28), none⟩])
 (.ret)))⟩
theorem J_ref22_noAsk_ok : chkFn Tryz.prog 93 J_ref22_noAsk = true := by kernel_rfl
def J_ref22_num : AFn :=
 ⟨9, [.t 2], .seq (.ops [⟨some 2, none, .mv (.c (.bool false)), none⟩])
 (.keep [0] (.seq (.ops [⟨some 3, none, .mv (.t 0), none⟩,
 ⟨some 4, none, .bin .geq (.t 3) (.c (.int .i64 0)), none⟩,
 ⟨some 5, none, .mv (.t 4), none⟩,
 ⟨some 6, (some (5, true)), .mv (.t 0), none⟩,
 ⟨some 7, (some (5, true)), .bin .leq (.t 6) (.c (.int .i64 4611686018427387904)), none⟩,
 ⟨some 8, none, .pick (.t 5) (.t 7) (.c (.bool false)), none⟩,
 ⟨some 2, none, .mv (.t 8), none⟩])
 (.ret)))⟩
theorem J_ref22_num_ok : chkFn Tryz.prog 94 J_ref22_num = true := by kernel_rfl
def J_ref21_Asks : AFn :=
 ⟨67, [.t 2], .seq (.ops [⟨some 1, none, .box (.t 0) [], none⟩,
 ⟨some 2, none, .mv (.c (.bool false)), none⟩])
 (.keep [1] (.seq (.seq (.ops [⟨some 3, none, .fld 0 (.t 1), none⟩,
 ⟨some 4, none, .load none (.t 3), none⟩,
 ⟨some 5, none, .bin .lss (.t 4) (.c (.int .i64 0)), none⟩,
 ⟨some 6, none, .mv (.t 5), none⟩,
 ⟨some 7, (some (6, false)), .fld 0 (.t 1), none⟩,
 ⟨some 8, (some (6, false)), .load none (.t 7), none⟩,
 ⟨some 9, (some (6, false)), .bin .gtr (.t 8) (.c (.int .i64 3)), none⟩,
 ⟨some 10, none, .pick (.t 6) (.c (.bool true)) (.t 9), none⟩,
 ⟨some 11, none, .mv (.t 10), none⟩,
 ⟨some 12, (some (11, false)), .fld 1 (.t 1), none⟩,
 ⟨some 13, (some (11, false)), .load none (.t 12), none⟩,
 ⟨some 14, (some (11, false)), .bin .lss (.t 13) (.c (.int .i64 0)), none⟩,
 ⟨some 15, none, .pick (.t 11) (.c (.bool true)) (.t 14), none⟩,
 ⟨some 16, none, .mv (.t 15), none⟩,
 ⟨some 17, (some (16, false)), .fld 1 (.t 1), none⟩,
 ⟨some 18, (some (16, false)), .load none (.t 17), none⟩,
 ⟨some 19, (some (16, false)), .bin .gtr (.t 18) (.c (.int .i64 3)), none⟩,
 ⟨some 20, none, .pick (.t 16) (.c (.bool true)) (.t 19), none⟩,
 ⟨some 21, none, .mv (.t 20), none⟩,
 ⟨some 22, (some (21, false)), .fld 2 (.t 1), none⟩,
 ⟨some 23, (some (21, false)), .load none (.t 22), none⟩,
 ⟨some 24, (some (21, false)), .call (.f 150) [(.t 23)], none⟩,
 ⟨some 25, (some (21, false)), .not (.t 24), none⟩,
 ⟨some 26, none, .pick (.t 21) (.c (.bool true)) (.t 25), none⟩,
 ⟨some 27, none, .mv (.t 26), none⟩,
 ⟨some 28, (some (27, false)), .fld 1 (.t 1), none⟩,
 ⟨some 29, (some (27, false)), .load none (.t 28), none⟩,
 ⟨some 30, (some (27, false)), .bin .neq (.t 29) (.c (.int .i64 1)), none⟩,
 ⟨some 31, (some (27, false)), .mv (.t 30), none⟩,
 ⟨some 32, (some (31, true)), .fld 2 (.t 1), none⟩,
 ⟨some 33, (some (31, true)), .load none (.t 32), none⟩,
 ⟨some 34, (some (31, true)), .bin .neq (.t 33) (.c (.int .i64 0)), none⟩,
 ⟨some 35, (some (27, false)), .pick (.t 31) (.t 34) (.c (.bool false)), none⟩,
 ⟨some 36, none, .pick (.t 27) (.c (.bool true)) (.t 35), none⟩])
 (.keep [1, 36] (.cond (.t 36)
 (.seq (.ops [⟨some 2, none, .mv (.c (.bool false)), none⟩])
 (.ret))
 (.skip))))
 (.keep [1] (.seq (.seq (.ops [⟨some 37, none, .fld 1 (.t 1), none⟩,
 ⟨some 38, none, .load none (.t 37), none⟩,
 ⟨some 39, none, .bin .lss (.t 38) (.c (.int .i64 2)), none⟩])
 (.keep [1, 39] (.cond (.t 39)
 (.seq (.ops [⟨some 40, none, .fld 3 (.t 1), none⟩,
 ⟨some 41, none, .fld 0 (.t 40), none⟩,
 ⟨some 42, none, .load none (.t 41), none⟩,
 ⟨some 43, none, .bin .eql (.t 42) (.c (.int .i64 0)), none⟩,
 ⟨some 44, none, .mv (.t 43), none⟩,
 ⟨some 45, (some (44, true)), .fld 3 (.t 1), none⟩,
 ⟨some 46, (some (44, true)), .fld 1 (.t 45), none⟩,
 ⟨some 47, (some (44, true)), .load none (.t 46), none⟩,
 ⟨some 48, (some (44, true)), .lenl (.t 47), none⟩,
 ⟨some 49, (some (44, true)), .bin .eql (.t 48) (.c (.int .i64 0)), none⟩,
 ⟨some 50, none, .pick (.t 44) (.t 49) (.c (.bool false)), none⟩,
 ⟨some 2, none, .mv (.t 50), none⟩])
 (.ret))
 (.skip))))
 (.keep [1] (.seq (.ops [⟨some 51, none, .fld 3 (.t 1), none⟩,
 ⟨some 52, none, .fld 0 (.t 51), none⟩,
 ⟨some 53, none, .load none (.t 52), none⟩,
 ⟨some 54, none, .bin .geq (.t 53) (.c (.int .i64 0)), none⟩,
 ⟨some 55, none, .mv (.t 54), none⟩,
 ⟨some 56, (some (55, true)), .fld 3 (.t 1), none⟩,
 ⟨some 57, (some (55, true)), .fld 0 (.t 56), none⟩,
 ⟨some 58, (some (55, true)), .load none (.t 57), none⟩,
 ⟨some 59, (some (55, true)), .bin .leq (.t 58) (.c (.int .i64 7)), none⟩,
 ⟨some 60, none, .pick (.t 55) (.t 59) (.c (.bool false)), none⟩,
 ⟨some 61, none, .mv (.t 60), none⟩,
 ⟨some 62, (some (61, true)), .fld 3 (.t 1), none⟩,
 ⟨some 63, (some (61, true)), .fld 1 (.t 62), none⟩,
 ⟨some 64, (some (61, true)), .load none (.t 63), none⟩,
 ⟨some 65, (some (61, true)), .call (.f 69) [(.t 64)], none⟩,
 ⟨some 66, none, .pick (.t 61) (.t 65) (.c (.bool false)), none⟩,
 ⟨some 2, none, .mv (.t 66), none⟩])
 (.ret)))))))⟩
theorem J_ref21_Asks_ok : chkFn Tryz.prog 95 J_ref21_Asks = true := by kernel_rfl
def J_letter_readCerts_j1 : ACode :=
 .keep [6] (.seq (.ops [⟨some 26, none, .mv (.t 6), none⟩,
 ⟨some 4, none, .mv (.t 26), none⟩,
 ⟨some 5, none, .mv (.c (.bool true)), none⟩])
 (.ret))
def J_letter_readCerts_j2 : ACode :=
 .seq (.ops [⟨some 12, none, .bin .lss (.t 11) (.t 10), none⟩])
 (.keep [0, 6, 10, 11, 12] (.seq (.cond (.t 12)
 (.skip)
 (.exit 0))
 (.keep [0, 6, 10, 11] (.seq (.block 1 (.seq (.ops [⟨some 14, none, .mv (.t 0), none⟩,
 ⟨some 15, none, .call (.f 152) [(.t 14), (.c (.int .i64 4000))], none⟩,
 ⟨some 16, none, .call (.f 151) [(.t 15)], none⟩,
 ⟨some 13, none, .mv (.t 16), none⟩,
 ⟨some 17, none, .ext 0 (.t 13), none⟩,
 ⟨some 18, none, .ext 1 (.t 13), none⟩,
 ⟨some 7, none, .new [(.int .i64 0), (.int .u16 0), (.str ⟨#[]⟩), (.lst .clip 0 []), (.int .i64 0), (.int .i64 0), (.int .i64 0)] [], none⟩,
 ⟨none, none, .stores 7 (.t 7) (.t 17), none⟩,
 ⟨some 8, none, .mv (.t 18), none⟩])
 (.keep [0, 6, 7, 8, 10, 11] (.seq (.seq (.ops [⟨some 19, none, .mv (.t 8), none⟩,
 ⟨some 20, none, .bin .neq (.t 19) (.c (.int .i64 0)), none⟩])
 (.keep [0, 6, 7, 10, 11, 20] (.cond (.t 20)
 (.seq (.ops [⟨some 4, none, .mv (.c (.lst .clip 0 [])), none⟩,
 ⟨some 5, none, .mv (.c (.bool false)), none⟩])
 (.ret))
 (.skip))))
 (.keep [0, 6, 7, 10, 11] (.ops [⟨some 21, none, .mvo 6, none⟩,
 ⟨some 22, none, .load (some 7) (.t 7), none⟩,
 ⟨some 23, none, .bsl 80 7 1 [(.int .i64 0), (.int .u16 0), (.str ⟨#[]⟩), (.lst .clip 0 []), (.int .i64 0), (.int .i64 0), (.int .i64 0)] [(0, 7, (.t 22))], none⟩,
 ⟨some 24, none, .appo 80 7 80 21 (.t 23), none⟩,
 ⟨some 6, none, .mvo 24, none⟩]))))))
 (.keep [0, 6, 10, 11] (.ops [⟨some 25, none, .bin .add (.t 11) (.c (.int .i64 1)), none⟩,
 ⟨some 11, none, .mv (.t 25), none⟩]))))))
def J_letter_readCerts : AFn :=
 ⟨27, [.t 4, .t 5], .seq (.ops [⟨some 4, none, .mv (.c (.lst .clip 0 [])), none⟩,
 ⟨some 5, none, .mv (.c (.bool false)), none⟩])
 (.keep [0, 1] (.seq (.ops [⟨some 6, none, .mvu 80 7 (.c (.lst .clip 0 [])), none⟩])
 (.keep [0, 1, 6] (.seq (.seq (.ops [⟨some 9, none, .mv (.t 1), none⟩,
 ⟨some 10, none, .call (.t 9) [(.c (.int .i64 8))], none⟩,
 ⟨some 11, none, .mv (.c (.int .i64 0)), none⟩])
 (.keep [0, 6, 10, 11] (.block 0 (.loop [0, 6, 10, 11] (J_letter_readCerts_j2)))))
 (J_letter_readCerts_j1)))))⟩
theorem J_letter_readCerts_ok : chkFn Tryz.prog 101 J_letter_readCerts = true := by kernel_rfl
def J_letter_readAsk_j1 : ACode :=
 .keep [4, 5] (.seq (.ops [⟨some 29, none, .load (some 5) (.t 5), none⟩,
 ⟨none, none, .store 5 (.t 4) (.t 29), none⟩])
 (.ret))
def J_letter_readAsk : AFn :=
 ⟨30, [.c 4 (some 5)], .seq (.ops [⟨some 4, none, .new [(.int .i64 0), (.int .i64 0), (.int .i64 0), (.int .i64 0), (.lst .clip 0 [])] [], none⟩])
 (.keep [0, 1, 4] (.seq (.ops [⟨some 6, none, .mv (.t 1), none⟩,
 ⟨some 7, none, .call (.t 6) [(.c (.int .i64 3))], none⟩,
 ⟨some 8, none, .mv (.t 1), none⟩,
 ⟨some 9, none, .call (.t 8) [(.c (.int .i64 3))], none⟩,
 ⟨some 10, none, .mv (.t 1), none⟩,
 ⟨some 11, none, .call (.t 10) [(.c (.int .i64 4611686018427387904))], none⟩,
 ⟨some 12, none, .build [(.int .i64 0), (.int .i64 0), (.int .i64 0), (.int .i64 0), (.lst .clip 0 [])] [(0, 1, (.t 7)), (1, 1, (.t 9)), (2, 1, (.t 11))], none⟩,
 ⟨some 5, none, .new [(.int .i64 0), (.int .i64 0), (.int .i64 0), (.int .i64 0), (.lst .clip 0 [])] [], none⟩,
 ⟨none, none, .store 5 (.t 5) (.t 12), none⟩])
 (.keep [0, 1, 4, 5] (.seq (.seq (.ops [⟨some 13, none, .fld 1 (.t 5), none⟩,
 ⟨some 14, none, .load none (.t 13), none⟩,
 ⟨some 15, none, .bin .eql (.t 14) (.c (.int .i64 2)), none⟩,
 ⟨some 16, none, .mv (.t 15), none⟩,
 ⟨some 17, (some (16, false)), .fld 1 (.t 5), none⟩,
 ⟨some 18, (some (16, false)), .load none (.t 17), none⟩,
 ⟨some 19, (some (16, false)), .bin .eql (.t 18) (.c (.int .i64 3)), none⟩,
 ⟨some 20, none, .pick (.t 16) (.c (.bool true)) (.t 19), none⟩])
 (.keep [0, 1, 4, 5, 20] (.cond (.t 20)
 (.seq (.ops [⟨some 21, none, .mv (.t 1), none⟩,
 ⟨some 22, none, .call (.t 21) [(.c (.int .i64 7))], none⟩,
 ⟨some 23, none, .fld 3 (.t 5), none⟩,
 ⟨some 24, none, .fld 0 (.t 23), none⟩,
 ⟨none, none, .store 1 (.t 24) (.t 22), none⟩])
 (.keep [0, 4, 5] (.ops [⟨some 25, none, .mv (.t 0), none⟩,
 ⟨some 26, none, .call (.f 153) [(.t 25)], none⟩,
 ⟨some 27, none, .fld 3 (.t 5), none⟩,
 ⟨some 28, none, .fld 1 (.t 27), none⟩,
 ⟨none, none, .store 1 (.t 28) (.t 26), none⟩])))
 (.skip))))
 (J_letter_readAsk_j1)))))⟩
theorem J_letter_readAsk_ok : chkFn Tryz.prog 102 J_letter_readAsk = true := by kernel_rfl
def J_record_number : AFn :=
 ⟨9, [.t 2], .seq (.ops [⟨some 2, none, .mv (.c (.bool false)), none⟩])
 (.keep [0] (.seq (.ops [⟨some 3, none, .mv (.t 0), none⟩,
 ⟨some 4, none, .bin .geq (.t 3) (.c (.int .i64 0)), none⟩,
 ⟨some 5, none, .mv (.t 4), none⟩,
 ⟨some 6, (some (5, true)), .mv (.t 0), none⟩,
 ⟨some 7, (some (5, true)), .bin .leq (.t 6) (.c (.int .i64 4611686018427387904)), none⟩,
 ⟨some 8, none, .pick (.t 5) (.t 7) (.c (.bool false)), none⟩,
 ⟨some 2, none, .mv (.t 8), none⟩])
 (.ret)))⟩
theorem J_record_number_ok : chkFn Tryz.prog 142 J_record_number = true := by kernel_rfl
def J_ref21_num : AFn :=
 ⟨9, [.t 2], .seq (.ops [⟨some 2, none, .mv (.c (.bool false)), none⟩])
 (.keep [0] (.seq (.ops [⟨some 3, none, .mv (.t 0), none⟩,
 ⟨some 4, none, .bin .geq (.t 3) (.c (.int .i64 0)), none⟩,
 ⟨some 5, none, .mv (.t 4), none⟩,
 ⟨some 6, (some (5, true)), .mv (.t 0), none⟩,
 ⟨some 7, (some (5, true)), .bin .leq (.t 6) (.c (.int .i64 4611686018427387904)), none⟩,
 ⟨some 8, none, .pick (.t 5) (.t 7) (.c (.bool false)), none⟩,
 ⟨some 2, none, .mv (.t 8), none⟩])
 (.ret)))⟩
theorem J_ref21_num_ok : chkFn Tryz.prog 150 J_ref21_num = true := by kernel_rfl
end Go.Proofs.YtpjlkefadnbgdaaGreat
