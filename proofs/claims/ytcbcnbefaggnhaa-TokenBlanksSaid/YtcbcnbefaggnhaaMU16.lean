/- Token: blanks, and what is passed over. -/
import Derived.Test.YtcbcnbefaggnhaaMU15
import Derived.OpenShut
import Derived.ShutString
/- Blanks, and what is passed over: plain laws. -/
namespace Go.Proofs.Ytcbcnbefaggnhaa
set_option linter.unusedSimpArgs false
set_option linter.unusedVariables false
open Go.RowKit Go.Lib

/-- a text that is passed over -/
def passed (p : List UInt8) : Prop := ∀ (rest : List UInt8) (a : Nat) (acc : List Tok), scan (p ++ rest) a acc = scan rest (a + p.length) acc
theorem scan_note {x : List UInt8} (hx : ∀ b ∈ x, notI b.toNat = true) (rest : List UInt8) (hr : ∀ b r', rest = b :: r' → notI b.toNat = false) (a : Nat) (acc : List Tok) : scan (35 :: (x ++ rest)) a acc = scan rest (a + (1 + x.length)) acc := by
  rw [scan_cons, if_neg (by decide), if_pos (show (35 : UInt8).toNat = 35 from rfl)]
  have hs : stopN notI (35 :: (x ++ rest)) = 1 + x.length := by
    have := stop_app (q := notI) (l := 35 :: x) (r := rest) (fun b hb => by
      rcases List.mem_cons.1 hb with rfl | hb
      · rfl
      · exact hx b hb) hr
    rw [List.cons_append] at this
    rw [this, List.length_cons]; omega
  rw [hs]
  have : (35 :: (x ++ rest)).drop (1 + x.length) = rest := by
    rw [show 1 + x.length = x.length + 1 by omega, List.drop_succ_cons, List.drop_left]
  rw [this]
theorem passed_app {p q : List UInt8} (hp : passed p) (hq : passed q) : passed (p ++ q) := fun rest a acc => by
  rw [List.append_assoc, hp, hq, List.length_append, Nat.add_assoc]
theorem passed_one {b : UInt8} (h : blankB b = true) : passed [b] := fun rest a acc => scan_blank h a acc
theorem passed_note {x : List UInt8} (hx : ∀ b ∈ x, notI b.toNat = true) : passed (35 :: (x ++ [10])) := fun rest a acc => by
  rw [List.cons_append, List.append_assoc, scan_note hx ([10] ++ rest) (by rintro b r' h; injection h with h _; subst h; rfl)]
  show scan (10 :: rest) _ _ = _
  rw [scan_blank rfl]
  simp only [List.length_cons, List.length_append, List.length_nil]
  rw [show a + (1 + x.length) + 1 = a + (x.length + (0 + 1) + 1) by omega]
def sepsB : List (List UInt8) := [[32], [10], [9, 32], [32, 35, 32, 97, 110, 100, 32, 40, 10], [32, 32], [35, 10]]
theorem seps_ok : ∀ p ∈ sepsB, passed p ∧ (∀ rest, fineL (p ++ rest) = true) ∧ p.length ≤ 10 := by
  intro p hp
  simp only [sepsB, List.mem_cons, List.not_mem_nil, or_false] at hp
  rcases hp with rfl | rfl | rfl | rfl | rfl | rfl
  · exact ⟨passed_one rfl, fun _ => rfl, by decide⟩
  · exact ⟨passed_one rfl, fun _ => rfl, by decide⟩
  · exact ⟨passed_app (p := [9]) (q := [32]) (passed_one rfl) (passed_one rfl), fun _ => rfl, by decide⟩
  · exact ⟨passed_app (p := [32]) (q := 35 :: ([32, 97, 110, 100, 32, 40] ++ [10])) (passed_one rfl) (passed_note (by decide)), fun _ => rfl, by decide⟩
  · exact ⟨passed_app (p := [32]) (q := [32]) (passed_one rfl) (passed_one rfl), fun _ => rfl, by decide⟩
  · exact ⟨passed_note (x := []) (by decide), fun _ => rfl, by decide⟩
/-- a text that stands for the first tokens -/
def stands (l : List Tok) (t : List UInt8) : Prop := ∀ (rest : List UInt8) (a : Nat) (acc : List Tok), acc.length + l.length ≤ 1000 → ∃ l' : List Tok, scan (t ++ rest) a acc = scan rest (a + t.length) (acc ++ l') ∧ l.map core = l'.map core
theorem stands_nil : stands [] [] := fun rest a acc _ => ⟨[], by simp, rfl⟩
theorem stands_snoc {l : List Tok} {t p : List UInt8} {x : Tok} (h : stands l t) (hw : wrd x ≠ ⟨#[]⟩) (hp : p ∈ sepsB) : stands (l ++ [x]) (t ++ wl x ++ p) := fun rest a acc hn => by
  obtain ⟨h1, h2, _⟩ := seps_ok p hp
  rw [List.length_append, List.length_singleton] at hn
  obtain ⟨l', e1, e2⟩ := h (wl x ++ (p ++ rest)) a acc (by omega)
  have hl : l.length = l'.length := by have := congrArg List.length e2; simpa using this
  refine ⟨l' ++ [⟨x.kind, x.name, x.of, (a + t.length : Nat)⟩], ?_, by rw [List.map_append, List.map_append, e2]; rfl⟩
  rw [List.append_assoc, List.append_assoc, e1, scan_word hw (h2 rest) _ _ (by rw [List.length_append]; omega), h1]
  have := len_size (wrd x)
  rw [List.length_append, List.length_append, List.append_assoc]
  show scan rest (a + t.length + (wrd x).size + p.length) _ = scan rest (a + (t.length + (wl x).length + p.length)) _
  rw [show (wl x).length = (wrd x).size from this, show a + t.length + (wrd x).size + p.length = a + (t.length + (wrd x).size + p.length) by omega]
/-- blanks ahead -/
theorem blanks_ahead {l : List Tok} {t : ByteArray} (h : stands l t.data.toList) (hl : l.length ≤ 1000) (ht : t.size ≤ 3990) : ∃ l' : List Tok, allT (⟨#[32, 10]⟩ ++ t) = (l', 0, 0) ∧ l.map core = l'.map core := by
  obtain ⟨l', h1, h2⟩ := h [] 2 [] (by simpa using hl)
  refine ⟨l', ?_, h2⟩
  have hs : ((⟨#[32, 10]⟩ : ByteArray) ++ t).size = 2 + t.size := by rw [ByteArray.size_append]; rfl
  have hd : ((⟨#[32, 10]⟩ : ByteArray) ++ t).data.toList = 32 :: 10 :: t.data.toList := by rw [ByteArray.data_append, Array.toList_append]; rfl
  unfold allT
  rw [if_neg (by omega), hd, scan_blank rfl, scan_blank rfl]
  rw [List.append_nil] at h1
  show scan t.data.toList 2 [] = _
  rw [h1]; rfl
/-- a note behind -/
theorem note_behind {l : List Tok} {t : ByteArray} (h : stands l t.data.toList) (hl : l.length ≤ 1000) (ht : t.size ≤ 3990) : ∃ l' : List Tok, allT (t ++ ⟨#[35, 32, 109, 111, 114, 101]⟩) = (l', 0, 0) ∧ l.map core = l'.map core := by
  obtain ⟨l', h1, h2⟩ := h [35, 32, 109, 111, 114, 101] 0 [] (by simpa using hl)
  refine ⟨l', ?_, h2⟩
  have hs : (t ++ (⟨#[35, 32, 109, 111, 114, 101]⟩ : ByteArray)).size = t.size + 6 := by rw [ByteArray.size_append]; rfl
  have hd : (t ++ (⟨#[35, 32, 109, 111, 114, 101]⟩ : ByteArray)).data.toList = t.data.toList ++ [35, 32, 109, 111, 114, 101] := by rw [ByteArray.data_append, Array.toList_append]
  unfold allT
  rw [if_neg (by omega), hd, h1]
  have := scan_note (x := [32, 109, 111, 114, 101]) (by decide) [] (by simp) (0 + t.data.toList.length) ([] ++ l')
  rw [List.append_nil] at this
  rw [this]; rfl
end Go.Proofs.Ytcbcnbefaggnhaa

/- TokenBlanks: the call. -/
namespace Go.Proofs.Ytcbcnbefaggnhaa
set_option linter.unusedSimpArgs false
set_option linter.unusedVariables false
open Go.RowKit Go.Lib

theorem frees_i8 : ∀ l : List Int, free.frees (l.map (AV.int .u8)) = true
  | [] => rfl
  | x :: l => by
    have := frees_i8 l
    simp [free.frees, free, this]
theorem ba_data (t : ByteArray) (p : List UInt8) (w : ByteArray) : (t ++ w ++ ba p).data.toList = t.data.toList ++ w.data.toList ++ p := by
  rw [ByteArray.data_append, ByteArray.data_append, Array.toList_append, Array.toList_append, ba_list]
set_option maxRecDepth 100000 in
set_option maxHeartbeats 4000000 in
theorem p_blanks (l : List Tok) (qs : List Int) (hl : l.length ≤ 9223372036854775807) (hq : qs.length ≤ 9223372036854775807) (h8 : ∀ q ∈ qs, 0 ≤ q ∧ q ≤ 255) : PCalls Try.prog 11 [vToks l, .lst .ro qs.length (qs.map (.int .u8))] (.bool true) := by
  have h2 := p_large l hl
  simp only [vToks] at h2
  refine pcalls_of (by simp [vToks, free, free.frees, frees_toks, frees_i8]) rfl (acalls_of mixed J_law04_TokenBlanks_ok (Nat.le_of_ble_eq_true rfl) ?_); simp only [J_law04_TokenBlanks, vToks, wk,if_true,if_false,forall_const,implies_true,ne_eq,eq_self,Nat.reduceEqDiff,Nat.reduceAdd,Nat.reduceMul,Nat.reduceSub,Nat.reduceLeDiff,Nat.reduceLT,Int.reduceEq,Int.reduceLT,Int.reduceLE,Int.reduceAdd,Int.reduceSub,Int.reduceMul,Int.reduceNeg,Int.reduceNe,reduceCtorEq,Int.reduceToNat,↓reduceIte]
  refine PCalls.use (p_awake04) ?_; simp only [wk,if_true,if_false,forall_const,implies_true,ne_eq,eq_self,Nat.reduceEqDiff,Nat.reduceAdd,Nat.reduceMul,Nat.reduceSub,Nat.reduceLeDiff,Nat.reduceLT,Int.reduceEq,Int.reduceLT,Int.reduceLE,Int.reduceAdd,Int.reduceSub,Int.reduceMul,Int.reduceNeg,Int.reduceNe,reduceCtorEq,Int.reduceToNat,↓reduceIte]
  refine PCalls.use (h2) ?_; simp only [wk,if_true,if_false,forall_const,implies_true,ne_eq,eq_self,Nat.reduceEqDiff,Nat.reduceAdd,Nat.reduceMul,Nat.reduceSub,Nat.reduceLeDiff,Nat.reduceLT,Int.reduceEq,Int.reduceLT,Int.reduceLE,Int.reduceAdd,Int.reduceSub,Int.reduceMul,Int.reduceNeg,Int.reduceNe,reduceCtorEq,Int.reduceToNat,↓reduceIte]
  intro hlg
  have hlg2 : l.length ≤ 1100 ∧ ∀ t ∈ l, t.name.size ≤ 100 := by
    unfold largeT at hlg
    rw [Bool.or_eq_false_iff] at hlg
    refine ⟨by have := of_decide_eq_false hlg.1; omega, fun t ht => ?_⟩
    have := List.any_eq_false.1 hlg.2 t ht
    simpa using this
  intro h300
  refine W_loop (fun n fr h' => ∃ (i : Nat) (t : ByteArray), i ≤ l.length ∧ n = l.length - i ∧ t.size ≤ i * 116 ∧ stands (l.take i) t.data.toList ∧ fr = [(0, .lst .ro l.length (toksC l)), (1, .lst .ro qs.length (qs.map (.int .u8))), (5, .str t), (25, .int .i64 l.length), (26, .int .i64 i)]) l.length ⟨0, ⟨#[]⟩, by omega, by omega, by decide, by rw [List.take_zero]; exact stands_nil, rfl⟩ ?_
  rintro n fr h' ⟨i, t, hi, rfl, hts, hst, rfl⟩
  simp only [J_law04_TokenBlanks_j3, wk,if_true,if_false,forall_const,implies_true,ne_eq,eq_self,Nat.reduceEqDiff,Nat.reduceAdd,Nat.reduceMul,Nat.reduceSub,Nat.reduceLeDiff,Nat.reduceLT,Int.reduceEq,Int.reduceLT,Int.reduceLE,Int.reduceAdd,Int.reduceSub,Int.reduceMul,Int.reduceNeg,Int.reduceNe,reduceCtorEq,Int.reduceToNat,↓reduceIte]
  refine ⟨fun hlt => ?_, fun hge => ?_⟩
  · have hil : i < l.length := by omega
    have hd : (toksC l).drop ((i : Int).toNat * 4) = _ := toksC_drop hil
    have hnm := hlg2.2 _ (List.getElem_mem hil)
    have q := p_word l[i].kind l[i].name l[i].of l[i].at_ (by omega)
    have hws := wordT_size l[i].kind l[i].name l[i].of
    refine ⟨⟨by omega, by omega⟩, ?_⟩
    simp only [hd, wk,if_true,if_false,forall_const,implies_true,ne_eq,eq_self,Nat.reduceEqDiff,Nat.reduceAdd,Nat.reduceMul,Nat.reduceSub,Nat.reduceLeDiff,Nat.reduceLT,Int.reduceEq,Int.reduceLT,Int.reduceLE,Int.reduceAdd,Int.reduceSub,Int.reduceMul,Int.reduceNeg,Int.reduceNe,reduceCtorEq,Int.reduceToNat,↓reduceIte]
    refine PCalls.use (q) ?_; simp only [wk,if_true,if_false,forall_const,implies_true,ne_eq,eq_self,Nat.reduceEqDiff,Nat.reduceAdd,Nat.reduceMul,Nat.reduceSub,Nat.reduceLeDiff,Nat.reduceLT,Int.reduceEq,Int.reduceLT,Int.reduceLE,Int.reduceAdd,Int.reduceSub,Int.reduceMul,Int.reduceNeg,Int.reduceNe,reduceCtorEq,Int.reduceToNat,↓reduceIte]
    intro hne
    have next : ∀ p ∈ sepsB, t.size + (wordT l[i].kind l[i].name l[i].of).size + p.length ≤ 9223372036854775807 ∧ ∃ m, m < l.length - i ∧ ∃ (i' : Nat) (t' : ByteArray), i' ≤ l.length ∧ m = l.length - i' ∧ t'.size ≤ i' * 116 ∧ stands (l.take i') t'.data.toList ∧ [(0, AV.lst .ro l.length (toksC l)), (1, .lst .ro qs.length (qs.map (.int .u8))), (5, .str (t ++ wordT l[i].kind l[i].name l[i].of ++ ba p)), (25, .int .i64 l.length), (26, .int .i64 ((i : Int) + 1))] = [(0, .lst .ro l.length (toksC l)), (1, .lst .ro qs.length (qs.map (.int .u8))), (5, .str t'), (25, .int .i64 l.length), (26, .int .i64 i')] := fun p hp => by
      have hp10 := (seps_ok p hp).2.2
      refine ⟨by omega, l.length - (i + 1), by omega, i + 1, t ++ wordT l[i].kind l[i].name l[i].of ++ ba p, by omega, rfl, ?_, ?_, rfl⟩
      · rw [ByteArray.size_append, ByteArray.size_append, ba_len2]; omega
      · rw [ba_data, List.take_succ_eq_append_getElem hil]
        exact stands_snoc hst hne hp
    refine ⟨by omega, fun hpos => ?_, fun hz => ?_⟩
    · have hmod : (i : Int).tmod (qs.length : Int) = ((i % qs.length : Nat) : Int) := rfl
      have hlt2 : i % qs.length < qs.length := Nat.mod_lt _ (by omega)
      have hdq : (qs.map (AV.int .u8)).drop (i % qs.length) = .int .u8 qs[i % qs.length] :: (qs.map (AV.int .u8)).drop (i % qs.length + 1) := by
        rw [List.drop_eq_getElem_cons (by rw [List.length_map]; exact hlt2), List.getElem_map]
      obtain ⟨g1, g2⟩ := h8 _ (List.getElem_mem hlt2)
      obtain ⟨v, hv⟩ : ∃ v, v = qs[i % qs.length] := ⟨_, rfl⟩
      rw [hmod]
      refine ⟨by omega, ⟨by omega, by omega⟩, ?_⟩
      rw [Int.toNat_natCast, hdq]
      rw [← hv] at g1 g2 ⊢
      simp only [wk,if_true,if_false,forall_const,implies_true,ne_eq,eq_self,Nat.reduceEqDiff,Nat.reduceAdd,Nat.reduceMul,Nat.reduceSub,Nat.reduceLeDiff,Nat.reduceLT,Int.reduceEq,Int.reduceLT,Int.reduceLE,Int.reduceAdd,Int.reduceSub,Int.reduceMul,Int.reduceNeg,Int.reduceNe,reduceCtorEq,Int.reduceToNat,↓reduceIte]
      have hwr : IntKind.i64.wrap v = v := by rw [IntKind.wrap_i64]; omega
      rw [hwr]
      obtain ⟨z, hz⟩ : ∃ z, z = v.tmod 6 := ⟨_, rfl⟩
      have hz6 : 0 ≤ z ∧ z < 6 := by rw [hz, Int.tmod_eq_emod_of_nonneg g1]; omega
      rw [← hz]
      refine ⟨⟨hz6.1, by omega⟩, ?_⟩
      rcases (show z = 0 ∨ z = 1 ∨ z = 2 ∨ z = 3 ∨ z = 4 ∨ z = 5 by omega) with e | e | e | e | e | e
      all_goals rw [e]
      · have hx := next [32] (by simp [sepsB])
        simp only [Int.reduceToNat, List.drop_succ_cons, List.drop_zero, J_law04_TokenBlanks_j2, wk,if_true,if_false,forall_const,implies_true,ne_eq,eq_self,Nat.reduceEqDiff,Nat.reduceAdd,Nat.reduceMul,Nat.reduceSub,Nat.reduceLeDiff,Nat.reduceLT,Int.reduceEq,Int.reduceLT,Int.reduceLE,Int.reduceAdd,Int.reduceSub,Int.reduceMul,Int.reduceNeg,Int.reduceNe,reduceCtorEq,Int.reduceToNat,↓reduceIte]
        exact ⟨by rw [ByteArray.size_append]; exact hx.1, inR_of (by omega) (by omega), hx.2⟩
      · have hx := next [10] (by simp [sepsB])
        simp only [Int.reduceToNat, List.drop_succ_cons, List.drop_zero, J_law04_TokenBlanks_j2, wk,if_true,if_false,forall_const,implies_true,ne_eq,eq_self,Nat.reduceEqDiff,Nat.reduceAdd,Nat.reduceMul,Nat.reduceSub,Nat.reduceLeDiff,Nat.reduceLT,Int.reduceEq,Int.reduceLT,Int.reduceLE,Int.reduceAdd,Int.reduceSub,Int.reduceMul,Int.reduceNeg,Int.reduceNe,reduceCtorEq,Int.reduceToNat,↓reduceIte]
        exact ⟨by rw [ByteArray.size_append]; exact hx.1, inR_of (by omega) (by omega), hx.2⟩
      · have hx := next [9, 32] (by simp [sepsB])
        simp only [Int.reduceToNat, List.drop_succ_cons, List.drop_zero, J_law04_TokenBlanks_j2, wk,if_true,if_false,forall_const,implies_true,ne_eq,eq_self,Nat.reduceEqDiff,Nat.reduceAdd,Nat.reduceMul,Nat.reduceSub,Nat.reduceLeDiff,Nat.reduceLT,Int.reduceEq,Int.reduceLT,Int.reduceLE,Int.reduceAdd,Int.reduceSub,Int.reduceMul,Int.reduceNeg,Int.reduceNe,reduceCtorEq,Int.reduceToNat,↓reduceIte]
        exact ⟨by rw [ByteArray.size_append]; exact hx.1, inR_of (by omega) (by omega), hx.2⟩
      · have hx := next [32, 35, 32, 97, 110, 100, 32, 40, 10] (by simp [sepsB])
        simp only [Int.reduceToNat, List.drop_succ_cons, List.drop_zero, J_law04_TokenBlanks_j2, wk,if_true,if_false,forall_const,implies_true,ne_eq,eq_self,Nat.reduceEqDiff,Nat.reduceAdd,Nat.reduceMul,Nat.reduceSub,Nat.reduceLeDiff,Nat.reduceLT,Int.reduceEq,Int.reduceLT,Int.reduceLE,Int.reduceAdd,Int.reduceSub,Int.reduceMul,Int.reduceNeg,Int.reduceNe,reduceCtorEq,Int.reduceToNat,↓reduceIte]
        exact ⟨by rw [ByteArray.size_append]; exact hx.1, inR_of (by omega) (by omega), hx.2⟩
      · have hx := next [32, 32] (by simp [sepsB])
        simp only [Int.reduceToNat, List.drop_succ_cons, List.drop_zero, J_law04_TokenBlanks_j2, wk,if_true,if_false,forall_const,implies_true,ne_eq,eq_self,Nat.reduceEqDiff,Nat.reduceAdd,Nat.reduceMul,Nat.reduceSub,Nat.reduceLeDiff,Nat.reduceLT,Int.reduceEq,Int.reduceLT,Int.reduceLE,Int.reduceAdd,Int.reduceSub,Int.reduceMul,Int.reduceNeg,Int.reduceNe,reduceCtorEq,Int.reduceToNat,↓reduceIte]
        exact ⟨by rw [ByteArray.size_append]; exact hx.1, inR_of (by omega) (by omega), hx.2⟩
      · have hx := next [35, 10] (by simp [sepsB])
        simp only [Int.reduceToNat, List.drop_succ_cons, List.drop_zero, J_law04_TokenBlanks_j2, wk,if_true,if_false,forall_const,implies_true,ne_eq,eq_self,Nat.reduceEqDiff,Nat.reduceAdd,Nat.reduceMul,Nat.reduceSub,Nat.reduceLeDiff,Nat.reduceLT,Int.reduceEq,Int.reduceLT,Int.reduceLE,Int.reduceAdd,Int.reduceSub,Int.reduceMul,Int.reduceNeg,Int.reduceNe,reduceCtorEq,Int.reduceToNat,↓reduceIte]
        exact ⟨by rw [ByteArray.size_append]; exact hx.1, inR_of (by omega) (by omega), hx.2⟩
    · have hx := next [32] (by simp [sepsB])
      simp only [J_law04_TokenBlanks_j2, wk,if_true,if_false,forall_const,implies_true,ne_eq,eq_self,Nat.reduceEqDiff,Nat.reduceAdd,Nat.reduceMul,Nat.reduceSub,Nat.reduceLeDiff,Nat.reduceLT,Int.reduceEq,Int.reduceLT,Int.reduceLE,Int.reduceAdd,Int.reduceSub,Int.reduceMul,Int.reduceNeg,Int.reduceNe,reduceCtorEq,Int.reduceToNat,↓reduceIte]
      exact ⟨by rw [ByteArray.size_append]; exact hx.1, inR_of (by omega) (by omega), hx.2⟩
  · have : i = l.length := by omega
    subst this
    rw [List.take_length] at hst
    have q1 := p_pall (⟨#[32, 10]⟩ ++ t) (by rw [ByteArray.size_append]; have : (⟨#[32, 10]⟩ : ByteArray).size = 2 := rfl; omega)
    have q2 := p_pall (t ++ ⟨#[35, 32, 109, 111, 114, 101]⟩) (by rw [ByteArray.size_append]; have : (⟨#[35, 32, 109, 111, 114, 101]⟩ : ByteArray).size = 6 := rfl; omega)
    have z1 : (⟨#[32, 10]⟩ : ByteArray).size = 2 := rfl
    have z2 : (⟨#[35, 32, 109, 111, 114, 101]⟩ : ByteArray).size = 6 := rfl
    simp only [resV, vToks] at q1 q2
    simp only [J_law04_TokenBlanks_j1, wk,if_true,if_false,forall_const,implies_true,ne_eq,eq_self,Nat.reduceEqDiff,Nat.reduceAdd,Nat.reduceMul,Nat.reduceSub,Nat.reduceLeDiff,Nat.reduceLT,Int.reduceEq,Int.reduceLT,Int.reduceLE,Int.reduceAdd,Int.reduceSub,Int.reduceMul,Int.reduceNeg,Int.reduceNe,reduceCtorEq,Int.reduceToNat,↓reduceIte]
    intro h4
    refine ⟨by omega, ?_⟩
    refine PCalls.use (q1) ?_; simp only [wk,if_true,if_false,forall_const,implies_true,ne_eq,eq_self,Nat.reduceEqDiff,Nat.reduceAdd,Nat.reduceMul,Nat.reduceSub,Nat.reduceLeDiff,Nat.reduceLT,Int.reduceEq,Int.reduceLT,Int.reduceLE,Int.reduceAdd,Int.reduceSub,Int.reduceMul,Int.reduceNeg,Int.reduceNe,reduceCtorEq,Int.reduceToNat,↓reduceIte]
    refine ⟨by omega, ?_⟩
    refine PCalls.use (q2) ?_; simp only [wk,if_true,if_false,forall_const,implies_true,ne_eq,eq_self,Nat.reduceEqDiff,Nat.reduceAdd,Nat.reduceMul,Nat.reduceSub,Nat.reduceLeDiff,Nat.reduceLT,Int.reduceEq,Int.reduceLT,Int.reduceLE,Int.reduceAdd,Int.reduceSub,Int.reduceMul,Int.reduceNeg,Int.reduceNe,reduceCtorEq,Int.reduceToNat,↓reduceIte]
    intro h39
    obtain ⟨l1, b1, b2⟩ := blanks_ahead hst (by omega) (by omega)
    obtain ⟨l2, b3, b4⟩ := note_behind hst (by omega) (by omega)
    have hl1 : l.length = l1.length := by have := congrArg List.length b2; simpa using this
    have hl2 : l.length = l2.length := by have := congrArg List.length b4; simpa using this
    have q3 := p_same false l l1 (by omega) (by omega)
    have q4 := p_same false l l2 (by omega) (by omega)
    rw [same_core b2] at q3
    rw [same_core b4] at q4
    simp only [vToks] at q3 q4
    rw [b1, b3]
    simp only [wk,if_true,if_false,forall_const,implies_true,ne_eq,eq_self,Nat.reduceEqDiff,Nat.reduceAdd,Nat.reduceMul,Nat.reduceSub,Nat.reduceLeDiff,Nat.reduceLT,Int.reduceEq,Int.reduceLT,Int.reduceLE,Int.reduceAdd,Int.reduceSub,Int.reduceMul,Int.reduceNeg,Int.reduceNe,reduceCtorEq,Int.reduceToNat,↓reduceIte]
    refine PCalls.use (q3) ?_; simp only [wk,if_true,if_false,forall_const,implies_true,ne_eq,eq_self,Nat.reduceEqDiff,Nat.reduceAdd,Nat.reduceMul,Nat.reduceSub,Nat.reduceLeDiff,Nat.reduceLT,Int.reduceEq,Int.reduceLT,Int.reduceLE,Int.reduceAdd,Int.reduceSub,Int.reduceMul,Int.reduceNeg,Int.reduceNe,reduceCtorEq,Int.reduceToNat,↓reduceIte]
    refine PCalls.use (q4) ?_; simp only [wk,if_true,if_false,forall_const,implies_true,ne_eq,eq_self,Nat.reduceEqDiff,Nat.reduceAdd,Nat.reduceMul,Nat.reduceSub,Nat.reduceLeDiff,Nat.reduceLT,Int.reduceEq,Int.reduceLT,Int.reduceLE,Int.reduceAdd,Int.reduceSub,Int.reduceMul,Int.reduceNeg,Int.reduceNe,reduceCtorEq,Int.reduceToNat,↓reduceIte]
end Go.Proofs.Ytcbcnbefaggnhaa

/- The calls of TokenBlanks. -/
namespace Go.Proofs.Ytcbcnbefaggnhaa
set_option linter.unusedSimpArgs false
set_option linter.unusedVariables false
open Go.RowKit Go.Lib Go.ChangeShapes Go.WideShapes Go.ChangeAt

theorem sh_u8 {g : List AV} (h : ShOks [.int .u8] g) : ∃ n : {n : Int // 0 ≤ n ∧ n ≤ 255}, g = [.int .u8 n.1] := by
  cases h with | cons k0 h =>
  cases h
  cases k0 with | int _ n w =>
  have h1 : IntKind.u8.min = 0 := rfl
  have h2 : IntKind.u8.max = 255 := rfl
  simp only [Lit.wf, Bool.and_eq_true, decide_eq_true_eq] at w
  exact ⟨⟨n, by omega⟩, rfl⟩
set_option maxRecDepth 100000 in
theorem open_u8s {H : Type} {enc : TypeId × Value → H} {W : World} {base : Nat} {v : Value} {d : DataW H} {p : List MemPlace} (hv : Value.okWide Try.prog W .any base 64 v) (h : DataW.Trod enc Try.prog W 0 (fun _ => true) true 64 v d p) :
    ∃ l : List Int, l.length ≤ 9223372036854775807 ∧ (∀ q ∈ l, 0 ≤ q ∧ q ≤ 255) ∧ Rep (gW W) v (.lst .ro l.length (l.map (.int .u8))) := by
  obtain ⟨a, hr, hs⟩ := open_arg1 (n := 8) (sh := .slice [.int .u8]) (by kernel_rfl) hv h (by rw [Try.underlying64]; intro fs hf; cases hf) (by rw [Try.underlying64]; intro k e hf; cases hf)
  cases hs with | slice _ gs hl hg =>
  obtain ⟨l, h1, h2⟩ := sh_list (α := {n : Int // 0 ≤ n ∧ n ≤ 255}) (q := fun x => [AV.int .u8 x.1]) (fun g hg => sh_u8 hg) hg
  refine ⟨l.map (·.1), by rw [List.length_map]; omega, fun q hq => ?_, ?_⟩
  · obtain ⟨y, _, rfl⟩ := List.mem_map.1 hq
    exact y.2
  · rw [List.length_map, List.map_map, h1]
    rw [map_flat] at h2
    have : l.map (AV.int .u8 ∘ fun x => x.1) = gs.flatten := h2.symm
    rw [this]
    exact hr
set_option maxRecDepth 100000 in
theorem tokenBlanks_calls {H : Type} {enc : TypeId × Value → H} (W : World) {base0 base1 : Nat} {v0 v1 : Value} {d0 d1 : DataW H} {p0 p1 : List MemPlace} (hv0 : Value.okWide Try.prog W .any base0 53 v0) (h0 : DataW.Trod enc Try.prog W 0 (fun _ => true) true 53 v0 d0 p0) (hv1 : Value.okWide Try.prog W .any base1 64 v1) (h1 : DataW.Trod enc Try.prog W 0 (fun _ => true) true 64 v1 d1 p1) :
    Calls Try.prog 11 #[v0, v1] W fun e w' => e = .returned (.bool true) ∧ Below W.heap.size W w' := by
  obtain ⟨l, hl, hr⟩ := open_toks hv0 h0
  obtain ⟨qs, hq, h8, hs⟩ := open_u8s hv1 h1
  exact calls_true (vargs := [v0, v1]) (PCalls.use (p_blanks l qs hl hq h8) rfl) (.cons hr (.cons hs .nil)) (fun a ha => by simp at ha; rcases ha with rfl | rfl <;> rfl)
end Go.Proofs.Ytcbcnbefaggnhaa
