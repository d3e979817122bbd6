/- Texts of one proof, laid together: Kl Km Kn Ko Kp Kr Ks Kt Ku. -/
import Derived.Test.YtcbcnbefaggnhaaMU11
import Derived.Test.YtcbcnbefaggnhaaMU12
import Derived.Test.YtcbcnbefaggnhaaMU1
import Derived.Shelf.Strings.OnBuilder

/- strings.Join: the kit's contract, as a call that leaves all objects alone. -/
namespace Go.Proofs.Ytcbcnbefaggnhaa
set_option linter.unusedSimpArgs false
set_option linter.unusedVariables false
open Go.RowKit Go.Lib Go.Shelf

theorem xJoin : Builder.Extra Try.prog lJoin_ren where
  sizeBuilder := by kernel_rfl
  liesBuilder := by kernel_rfl
  t5 := Try.underlying5
  a5 := Try.isAgg5
  z5 := Try.sizeOf5
  v5 := Try.zeroValue5
  infoByte := by kernel_rfl
  cellsByte := by kernel_rfl
  sizeByte := by kernel_rfl
  neB5 := by decide
def joinB (l : List ByteArray) : ByteArray := ba (Lib.join (l.map (·.data.toList)) [32])
theorem rep_cap {g : Gh} {x : Value} {z : AV} (h : Rep g x z) : ∀ a n c f m l, x = .slice a n c → z = .lst f m l → n ≤ c := by
  intro a n c f m l h1 h2
  cases h <;> first
    | (cases h2; done)
    | (cases h1; assumption)
    | (cases h1; omega)
theorem p_join (l : List ByteArray) (hl : l.length ≤ 1000000) (hs : (joinB l).size ≤ 140737488355328) : PCalls Try.prog 72 [.lst .ro l.length (l.map .str), .str ⟨#[32]⟩] (.str (joinB l)) := by
  refine pcalls_calls (by simp [free, free.frees, frees_str]) rfl rfl (by kernel_rfl) ?_
  intro g w vargs hsim hr
  obtain ⟨v, vs, rfl, hv, hvs⟩ : ∃ v vs, vargs = v :: vs ∧ Rep g v (.lst .ro l.length (l.map .str)) ∧ RepL g vs [.str ⟨#[32]⟩] := by
    cases hr with
    | cons h1 h2 => exact ⟨_, _, rfl, h1, h2⟩
  cases hvs with
  | cons h1 h2 =>
  cases h1
  cases h2
  obtain ⟨a, c, rfl, hrow⟩ := rep_strs hsim hv
  have hm : ∀ (e : Ending) (w' : World), e = .returned (.string ⟨(Lib.join (l.map (·.data.toList)) (⟨#[32]⟩ : ByteArray).data.toList).toArray⟩) ∧ Below w.heap.size w w' → ∃ x, e = .returned x ∧ Below w.heap.size w w' ∧ Rep (g.news w w') x (.str (joinB l)) := by
    rintro e w' ⟨rfl, hb⟩
    exact ⟨_, rfl, hb, .str _⟩
  have hcap : l.length ≤ c := rep_cap hv _ _ _ _ _ _ rfl rfl
  by_cases h0 : l = []
  · subst h0
    exact (Any.strings_Join_none (P := Try.prog) lJoin xJoin a c ⟨#[32]⟩ w).mono fun e w' h => hm e w' ⟨by rw [h.1]; rfl, h.2 ▸ Below.refl _ _⟩
  · rcases hrow with h1 | ⟨b, off, rfl, hcells⟩
    · exact absurd (by simpa using h1) h0
    · have hc2 : ∀ (j : Nat) x, l[j]? = some x → w.cell? ⟨b, off + j, none⟩ = some (.string x) := fun j x hj => hcells j (.string x) (by rw [List.getElem?_map, hj]; rfl)
      obtain ⟨y, r, hyr⟩ := List.exists_cons_of_ne_nil h0
      have hbk : b < w.heap.size := World.block_lt_of_cell? w ⟨b, off + 0, none⟩ (hc2 0 y (by rw [hyr]; rfl))
      exact (Any.strings_Join (P := Try.prog) lJoin xJoin b off c l ⟨#[32]⟩ w hc2 hbk (by omega) hcap (by unfold joinB at hs; rw [ba_len2] at hs; exact hs)).mono hm
end Go.Proofs.Ytcbcnbefaggnhaa

/- Text: the program's and the reference's. -/
namespace Go.Proofs.Ytcbcnbefaggnhaa
set_option linter.unusedSimpArgs false
set_option linter.unusedVariables false
open Go.RowKit Go.Lib

def wrd (t : Tok) : ByteArray := wordT t.kind t.name t.of
abbrev TextR := ByteArray × Int
def textT (l : List Tok) : TextR :=
  if 1000 < l.length then (⟨#[]⟩, 3)
  else if l.all (fun t => decide (wrd t ≠ ⟨#[]⟩)) = true then (if 4000 < (joinB (l.map wrd)).size then (⟨#[]⟩, 2) else (joinB (l.map wrd), 0))
  else (⟨#[]⟩, 2)
def vText (r : TextR) : AV := .tup [.str r.1, .int .i64 r.2]
theorem atomW_size (o : Int) (w : ByteArray) : (atomW o w).size ≤ w.size + 6 := by
  have h3 : (⟨#[]⟩ : ByteArray).size = 0 := rfl
  unfold atomW
  repeat' split
  all_goals first
    | omega
    | (have := preW_size o; rw [ByteArray.size_append]; omega)
theorem wordT_size (k : Int) (w : ByteArray) (o : Int) : (wordT k w o).size ≤ w.size + 6 := by
  have h0 : (⟨#[]⟩ : ByteArray).size = 0 := rfl
  have h1 : (⟨#[97, 110, 100]⟩ : ByteArray).size = 3 := rfl
  have h2 : (⟨#[102, 111, 114]⟩ : ByteArray).size = 3 := rfl
  have h3 : (⟨#[97, 115]⟩ : ByteArray).size = 2 := rfl
  have h4 : (⟨#[124]⟩ : ByteArray).size = 1 := rfl
  have h5 : (⟨#[40]⟩ : ByteArray).size = 1 := rfl
  have h6 : (⟨#[41]⟩ : ByteArray).size = 1 := rfl
  have := atomW_size o w
  unfold wordT
  repeat' split
  all_goals omega
theorem join_size : ∀ (l : List ByteArray) (c : Nat), (∀ x ∈ l, x.size ≤ c) → (joinB l).size ≤ l.length * (c + 1) := by
  intro l c h
  unfold joinB
  rw [ba_len2]
  cases l with
  | nil => simp [Lib.join_nil]
  | cons x r =>
    rw [List.map_cons, Lib.join_length]
    have gen : ∀ l : List ByteArray, (∀ x ∈ l, x.size ≤ c) → Lib.lens (l.map (·.data.toList)) ≤ l.length * c := by
      intro l
      induction l with
      | nil => intro _; simp [Lib.lens]
      | cons y l ih =>
        intro h
        have h1 := h y (by simp)
        have h2 := ih (fun z hz => h z (by simp [hz]))
        have h3 := len_size y
        simp only [Lib.lens, List.map_cons, List.sum_cons, List.length_cons, Nat.add_mul] at h2 ⊢
        omega
    have this := gen (x :: r) h
    rw [List.map_cons] at this
    simp only [List.length_map, List.length_cons, List.length_nil, Nat.mul_add, Nat.mul_one] at this ⊢
    omega
/-- the program's words so far, and the places that are empty yet -/
def wordsC (l : List Tok) (n : Nat) : List AV := l.map (fun t => .str (wrd t)) ++ List.replicate n (.str ⟨#[]⟩)
theorem wordsC_0 (n : Nat) : ((List.range n).map fun i => [AV.str ⟨#[]⟩].getD (i % 1) .nilp) = wordsC [] n := by
  unfold wordsC
  apply List.ext_getElem
  · simp
  · intro i h1 h2
    simp [Nat.mod_one]
theorem wordsC_len (l : List Tok) (n : Nat) : (wordsC l n).length = l.length + n := by simp [wordsC]
theorem wordsC_set {l : List Tok} {i : Nat} (h : i < l.length) : (wordsC (l.take i) (l.length - i)).set i (.str (wrd l[i])) = wordsC (l.take (i + 1)) (l.length - (i + 1)) := by
  unfold wordsC
  rw [List.set_append_right _ _ (by simp; omega), show i - ((l.take i).map fun t => AV.str (wrd t)).length = 0 by simp; omega]
  rw [show l.length - i = (l.length - (i + 1)) + 1 by omega, List.replicate_succ, List.set_cons_zero, List.take_succ_eq_append_getElem h]
  simp only [List.map_append, List.map_cons, List.map_nil, List.append_assoc, List.singleton_append]
theorem wordsC_drop {l : List Tok} {i : Nat} (h : i < l.length) (m : Nat) : (wordsC (l.take (i + 1)) m).drop i = .str (wordT l[i].kind l[i].name l[i].of) :: List.replicate m (.str ⟨#[]⟩) := by
  unfold wordsC
  have hi : ((l.take i).map fun t => AV.str (wrd t)).length = i := by simp; omega
  rw [List.take_succ_eq_append_getElem h, List.map_append, List.append_assoc]
  conv => lhs; arg 1; rw [← hi]
  rw [List.drop_left]
  rfl
theorem text_no {l : List Tok} {i : Nat} (h : i < l.length) (he : wordT l[i].kind l[i].name l[i].of = ⟨#[]⟩) {x y : TextR} : (if l.all (fun t => decide (wrd t ≠ ⟨#[]⟩)) = true then x else y) = y := by
  rw [if_neg]
  intro h2
  have := of_decide_eq_true (List.all_eq_true.1 h2 _ (List.getElem_mem h))
  exact this he
set_option maxRecDepth 100000 in
set_option maxHeartbeats 4000000 in
theorem p_ptext (l : List Tok) (hl : l.length ≤ 1000000) (hs : ∀ t ∈ l, t.name.size ≤ 1000000) : PCalls Try.prog 37 [vToks l] (vText (textT l)) := by
  refine pcalls_of (by simp [vToks, free, free.frees, frees_toks]) rfl (ACalls.weak (acalls_of mixed J_token_Text_ok (Nat.le_of_ble_eq_true rfl) ?_)); simp only [J_token_Text, vToks, wk,if_true,if_false,forall_const,implies_true,ne_eq,eq_self,Nat.reduceEqDiff,Nat.reduceAdd,Nat.reduceMul,Nat.reduceSub,Nat.reduceLeDiff,Nat.reduceLT,Int.reduceEq,Int.reduceLT,Int.reduceLE,Int.reduceAdd,Int.reduceSub,Int.reduceMul,Int.reduceNeg,Int.reduceNe,reduceCtorEq,Int.reduceToNat,↓reduceIte]
  refine ⟨fun hbig => ?_, fun hbig => ?_⟩
  · unfold textT
    rw [if_pos (by omega)]
    rfl
  refine ⟨⟨by omega, by omega, by omega⟩, ?_⟩
  rw [Int.toNat_natCast, wordsC_0]
  refine W_loop (fun n fr h' => ∃ (i : Nat) (ex : Hp), i ≤ l.length ∧ n = l.length - i ∧ h' = some (false, wordsC (l.take i) (l.length - i)) :: ex ∧ fr = [(4, .hs 0 l.length), (14, .lst .ro l.length (toksC l)), (15, .int .i64 l.length), (16, .int .i64 i)] ∧ ∀ t ∈ l.take i, wrd t ≠ ⟨#[]⟩) l.length ⟨0, [], by omega, by omega, by simp, rfl, by simp⟩ ?_
  rintro n fr h' ⟨i, ex, hi, rfl, rfl, rfl, hall⟩
  simp only [J_token_Text_j2, wk,if_true,if_false,forall_const,implies_true,ne_eq,eq_self,Nat.reduceEqDiff,Nat.reduceAdd,Nat.reduceMul,Nat.reduceSub,Nat.reduceLeDiff,Nat.reduceLT,Int.reduceEq,Int.reduceLT,Int.reduceLE,Int.reduceAdd,Int.reduceSub,Int.reduceMul,Int.reduceNeg,Int.reduceNe,reduceCtorEq,Int.reduceToNat,↓reduceIte]
  refine ⟨fun hlt => ?_, fun hge => ?_⟩
  · have hil : i < l.length := by omega
    have hd : (toksC l).drop ((i : Int).toNat * 4) = _ := toksC_drop hil
    have q := p_word l[i].kind l[i].name l[i].of l[i].at_ (hs _ (List.getElem_mem hil))
    refine ⟨⟨by omega, by omega⟩, ?_⟩
    simp only [hd, wk,if_true,if_false,forall_const,implies_true,ne_eq,eq_self,Nat.reduceEqDiff,Nat.reduceAdd,Nat.reduceMul,Nat.reduceSub,Nat.reduceLeDiff,Nat.reduceLT,Int.reduceEq,Int.reduceLT,Int.reduceLE,Int.reduceAdd,Int.reduceSub,Int.reduceMul,Int.reduceNeg,Int.reduceNe,reduceCtorEq,Int.reduceToNat,↓reduceIte]
    refine PCalls.use (q) ?_; simp only [wk,if_true,if_false,forall_const,implies_true,ne_eq,eq_self,Nat.reduceEqDiff,Nat.reduceAdd,Nat.reduceMul,Nat.reduceSub,Nat.reduceLeDiff,Nat.reduceLT,Int.reduceEq,Int.reduceLT,Int.reduceLE,Int.reduceAdd,Int.reduceSub,Int.reduceMul,Int.reduceNeg,Int.reduceNe,reduceCtorEq,Int.reduceToNat,↓reduceIte]
    have hset : (wordsC (l.take i) (l.length - i)).set i (.str (wordT l[i].kind l[i].name l[i].of)) = wordsC (l.take (i + 1)) (l.length - (i + 1)) := wordsC_set hil
    rw [Int.toNat_natCast, hset, wordsC_drop hil]
    have hlen := wordsC_len (l.take i) (l.length - i)
    rw [List.length_take] at hlen
    simp only [wk,if_true,if_false,forall_const,implies_true,ne_eq,eq_self,Nat.reduceEqDiff,Nat.reduceAdd,Nat.reduceMul,Nat.reduceSub,Nat.reduceLeDiff,Nat.reduceLT,Int.reduceEq,Int.reduceLT,Int.reduceLE,Int.reduceAdd,Int.reduceSub,Int.reduceMul,Int.reduceNeg,Int.reduceNe,reduceCtorEq,Int.reduceToNat,↓reduceIte]
    refine ⟨⟨by omega, by omega⟩, by omega, ⟨by omega, by omega⟩, fun he => ?_, fun hne => ?_⟩
    · unfold textT
      rw [if_neg (by omega), text_no hil he]
      rfl
    · refine ⟨inR_of (by omega) (by omega), l.length - (i + 1), by omega, i + 1, _, by omega, rfl, rfl, by simp, ?_⟩
      intro t ht
      rw [List.take_succ_eq_append_getElem hil] at ht
      rcases List.mem_append.1 ht with ht | ht
      · exact hall t ht
      · simp at ht; subst ht; exact hne
  · have : i = l.length := by omega
    subst this
    rw [List.take_length] at hall ⊢
    rw [Nat.sub_self]
    have hw : (wordsC l 0).map deg = (l.map wrd).map AV.str := by
      unfold wordsC
      simp [deg]
    have hjs := join_size (l.map wrd) 1000006 (fun x hx => by
      obtain ⟨t, ht, rfl⟩ := List.mem_map.1 hx
      have := wordT_size t.kind t.name t.of
      have := hs t ht
      unfold wrd; omega)
    rw [List.length_map] at hjs
    have hall2 : l.all (fun t => decide (wrd t ≠ ⟨#[]⟩)) = true := by
      rw [List.all_eq_true]; intro t ht; exact decide_eq_true (hall t ht)
    have qj := p_join (l.map wrd) (by rw [List.length_map]; omega) (by
      have : l.length * (1000006 + 1) ≤ 1000 * (1000006 + 1) := Nat.mul_le_mul_right _ (by omega)
      omega)
    rw [List.length_map] at qj
    simp only [J_token_Text_j1, wk,if_true,if_false,forall_const,implies_true,ne_eq,eq_self,Nat.reduceEqDiff,Nat.reduceAdd,Nat.reduceMul,Nat.reduceSub,Nat.reduceLeDiff,Nat.reduceLT,Int.reduceEq,Int.reduceLT,Int.reduceLE,Int.reduceAdd,Int.reduceSub,Int.reduceMul,Int.reduceNeg,Int.reduceNe,reduceCtorEq,Int.reduceToNat,↓reduceIte]
    refine ACalls.use (PCalls.iced qj _ (by simp only [fzs_cons, fzs_nil, fz_str]; rw [fz_hs (s := false) (l := wordsC l 0) rfl, hw])) ?_
    rintro _ _ ⟨rfl, rfl⟩
    simp only [fgt_str, wk,if_true,if_false,forall_const,implies_true,ne_eq,eq_self,Nat.reduceEqDiff,Nat.reduceAdd,Nat.reduceMul,Nat.reduceSub,Nat.reduceLeDiff,Nat.reduceLT,Int.reduceEq,Int.reduceLT,Int.reduceLE,Int.reduceAdd,Int.reduceSub,Int.reduceMul,Int.reduceNeg,Int.reduceNe,reduceCtorEq,Int.reduceToNat,↓reduceIte]
    unfold textT
    rw [if_neg (by omega), if_pos hall2]
    refine ⟨fun h => ?_, fun h => ?_⟩
    · rw [if_pos (by omega)]; rfl
    · rw [if_neg (by omega)]; rfl
theorem joinB_nil : joinB [] = ⟨#[]⟩ := rfl
theorem joinB_snoc (l : List ByteArray) (x : ByteArray) : joinB (l ++ [x]) = if l = [] then x else joinB l ++ ⟨#[32]⟩ ++ x := by
  cases l with
  | nil =>
    rw [if_pos rfl]
    unfold joinB
    rw [List.nil_append, List.map_cons, List.map_nil, Lib.join_one, ba_eta]
  | cons y r =>
    rw [if_neg (by simp)]
    unfold joinB
    rw [List.cons_append, List.map_cons, Lib.join_cons, List.map_cons, Lib.join_cons]
    apply ByteArray.ext
    apply Array.ext'
    simp [ba, Lib.joinTail]
set_option maxRecDepth 100000 in
set_option maxHeartbeats 4000000 in
theorem p_rtext (l : List Tok) (hl : l.length ≤ 1000000) (hs : ∀ t ∈ l, t.name.size ≤ 1000000) : PCalls Try.prog 38 [vToks l] (vText (textT l)) := by
  refine pcalls_of (by simp [vToks, free, free.frees, frees_toks]) rfl (acalls_of mixed J_ref04_Text_ok (Nat.le_of_ble_eq_true rfl) ?_); simp only [J_ref04_Text, vToks, wk,if_true,if_false,forall_const,implies_true,ne_eq,eq_self,Nat.reduceEqDiff,Nat.reduceAdd,Nat.reduceMul,Nat.reduceSub,Nat.reduceLeDiff,Nat.reduceLT,Int.reduceEq,Int.reduceLT,Int.reduceLE,Int.reduceAdd,Int.reduceSub,Int.reduceMul,Int.reduceNeg,Int.reduceNe,reduceCtorEq,Int.reduceToNat,↓reduceIte]
  refine ⟨fun hbig => ?_, fun hbig => ?_⟩
  · unfold textT
    rw [if_pos (by omega)]
    rfl
  refine W_loop (fun n fr h' => ∃ i : Nat, i ≤ l.length ∧ n = l.length - i ∧ fr = [(0, .lst .ro l.length (toksC l)), (4, .str (joinB ((l.take i).map wrd))), (5, .int .i64 i)] ∧ ∀ t ∈ l.take i, wrd t ≠ ⟨#[]⟩) l.length ⟨0, by omega, by omega, by rw [List.take_zero, List.map_nil, joinB_nil]; rfl, by simp⟩ ?_
  rintro n fr h' ⟨i, hi, rfl, rfl, hall⟩
  have hjs := join_size ((l.take i).map wrd) 1000006 (fun x hx => by
    obtain ⟨t, ht, rfl⟩ := List.mem_map.1 hx
    have := wordT_size t.kind t.name t.of
    have := hs t (List.mem_of_mem_take ht)
    unfold wrd; omega)
  rw [List.length_map, List.length_take] at hjs
  have hjs2 : (joinB ((l.take i).map wrd)).size ≤ 1000 * (1000006 + 1) := Nat.le_trans hjs (Nat.mul_le_mul_right _ (by omega))
  simp only [J_ref04_Text_j3, wk,if_true,if_false,forall_const,implies_true,ne_eq,eq_self,Nat.reduceEqDiff,Nat.reduceAdd,Nat.reduceMul,Nat.reduceSub,Nat.reduceLeDiff,Nat.reduceLT,Int.reduceEq,Int.reduceLT,Int.reduceLE,Int.reduceAdd,Int.reduceSub,Int.reduceMul,Int.reduceNeg,Int.reduceNe,reduceCtorEq,Int.reduceToNat,↓reduceIte]
  refine ⟨fun hlt => ?_, fun hge => ?_⟩
  · have hil : i < l.length := by omega
    have hd : (toksC l).drop ((i : Int).toNat * 4) = _ := toksC_drop hil
    have q := p_rword04 l[i].kind l[i].name l[i].of l[i].at_ (hs _ (List.getElem_mem hil))
    refine ⟨⟨by omega, by omega⟩, ?_⟩
    simp only [hd, wk,if_true,if_false,forall_const,implies_true,ne_eq,eq_self,Nat.reduceEqDiff,Nat.reduceAdd,Nat.reduceMul,Nat.reduceSub,Nat.reduceLeDiff,Nat.reduceLT,Int.reduceEq,Int.reduceLT,Int.reduceLE,Int.reduceAdd,Int.reduceSub,Int.reduceMul,Int.reduceNeg,Int.reduceNe,reduceCtorEq,Int.reduceToNat,↓reduceIte]
    refine PCalls.use (q) ?_; simp only [wk,if_true,if_false,forall_const,implies_true,ne_eq,eq_self,Nat.reduceEqDiff,Nat.reduceAdd,Nat.reduceMul,Nat.reduceSub,Nat.reduceLeDiff,Nat.reduceLT,Int.reduceEq,Int.reduceLT,Int.reduceLE,Int.reduceAdd,Int.reduceSub,Int.reduceMul,Int.reduceNeg,Int.reduceNe,reduceCtorEq,Int.reduceToNat,↓reduceIte]
    refine ⟨fun he => ?_, fun hne => ?_⟩
    · unfold textT
      rw [if_neg (by omega), text_no hil he]
      rfl
    have hws := wordT_size l[i].kind l[i].name l[i].of
    have hsn := hs _ (List.getElem_mem hil)
    have h32 : (⟨#[32]⟩ : ByteArray).size = 1 := rfl
    have hsn2 := joinB_snoc ((l.take i).map wrd) (wrd l[i])
    rw [← List.map_singleton, ← List.map_append, ← List.take_succ_eq_append_getElem hil] at hsn2
    have hall3 : ∀ t ∈ l.take (i + 1), wrd t ≠ ⟨#[]⟩ := by
      intro t ht
      rw [List.take_succ_eq_append_getElem hil] at ht
      rcases List.mem_append.1 ht with ht | ht
      · exact hall t ht
      · simp at ht; subst ht; exact hne
    refine ⟨fun hp => ⟨by omega, ?_⟩, fun hz => ?_⟩
    · have hnz : ¬ (l.take i).map wrd = [] := by
        intro h; have := congrArg List.length h; rw [List.length_map, List.length_take, List.length_nil] at this; omega
      rw [if_neg hnz] at hsn2
      simp only [J_ref04_Text_j2, wk,if_true,if_false,forall_const,implies_true,ne_eq,eq_self,Nat.reduceEqDiff,Nat.reduceAdd,Nat.reduceMul,Nat.reduceSub,Nat.reduceLeDiff,Nat.reduceLT,Int.reduceEq,Int.reduceLT,Int.reduceLE,Int.reduceAdd,Int.reduceSub,Int.reduceMul,Int.reduceNeg,Int.reduceNe,reduceCtorEq,Int.reduceToNat,↓reduceIte]
      refine ⟨by rw [ByteArray.size_append, h32]; omega, inR_of (by omega) (by omega), l.length - (i + 1), by omega, i + 1, by omega, rfl, ?_, hall3⟩
      rw [hsn2]; rfl
    · have h0 : i = 0 := by omega
      subst h0
      rw [if_pos (by simp)] at hsn2
      have hz0 : joinB [] = ⟨#[]⟩ := rfl
      have hz1 : (joinB []).size = 0 := rfl
      simp only [J_ref04_Text_j2, wk,if_true,if_false,forall_const,implies_true,ne_eq,eq_self,Nat.reduceEqDiff,Nat.reduceAdd,Nat.reduceMul,Nat.reduceSub,Nat.reduceLeDiff,Nat.reduceLT,Int.reduceEq,Int.reduceLT,Int.reduceLE,Int.reduceAdd,Int.reduceSub,Int.reduceMul,Int.reduceNeg,Int.reduceNe,reduceCtorEq,Int.reduceToNat,↓reduceIte]
      refine ⟨by omega, inR_of (by omega) (by omega), l.length - (0 + 1), by omega, 0 + 1, by omega, rfl, ?_, hall3⟩
      rw [hsn2, hz0, ba_empty]; rfl
  · have : i = l.length := by omega
    subst this
    rw [List.take_length] at hall ⊢
    rw [List.take_length] at hjs2
    have hall2 : l.all (fun t => decide (wrd t ≠ ⟨#[]⟩)) = true := by
      rw [List.all_eq_true]; intro t ht; exact decide_eq_true (hall t ht)
    simp only [J_ref04_Text_j1, wk,if_true,if_false,forall_const,implies_true,ne_eq,eq_self,Nat.reduceEqDiff,Nat.reduceAdd,Nat.reduceMul,Nat.reduceSub,Nat.reduceLeDiff,Nat.reduceLT,Int.reduceEq,Int.reduceLT,Int.reduceLE,Int.reduceAdd,Int.reduceSub,Int.reduceMul,Int.reduceNeg,Int.reduceNe,reduceCtorEq,Int.reduceToNat,↓reduceIte]
    unfold textT
    rw [if_neg (by omega), if_pos hall2]
    refine ⟨fun h => ?_, fun h => ?_⟩
    · rw [if_pos (by omega)]; rfl
    · rw [if_neg (by omega)]; rfl
end Go.Proofs.Ytcbcnbefaggnhaa

/- The laws' own functions: same, large, awake. -/
namespace Go.Proofs.Ytcbcnbefaggnhaa
set_option linter.unusedSimpArgs false
set_option linter.unusedVariables false
open Go.RowKit Go.Lib

def eqT (p : Bool) (x y : Tok) : Bool := decide (x.kind = y.kind) && (decide (x.name = y.name) && (decide (x.of = y.of) && (!p || decide (x.at_ = y.at_))))
def sameT (p : Bool) (a b : List Tok) : Bool := decide (a.length = b.length) && (a.zip b).all fun x => eqT p x.1 x.2
theorem same_no {p : Bool} {a b : List Tok} {i : Nat} (ha : i < a.length) (hb : i < b.length) (h : eqT p a[i] b[i] = false) : sameT p a b = false := by
  unfold sameT
  have : (a.zip b).all (fun x => eqT p x.1 x.2) = false := by
    rw [List.all_eq_false]
    refine ⟨(a[i], b[i]), List.mem_iff_getElem.2 ⟨i, by rw [List.length_zip]; omega, by rw [List.getElem_zip]⟩, by simp [h]⟩
  rw [this, Bool.and_false]
theorem same_yes {p : Bool} {a b : List Tok} (hl : a.length = b.length) (h : ∀ i (ha : i < a.length) (hb : i < b.length), eqT p a[i] b[i] = true) : sameT p a b = true := by
  unfold sameT
  rw [decide_eq_true hl, Bool.true_and, List.all_eq_true]
  intro x hx
  obtain ⟨i, hi, rfl⟩ := List.mem_iff_getElem.1 hx
  rw [List.length_zip] at hi
  rw [List.getElem_zip]
  exact h i (by omega) (by omega)
section
variable {α : Type} (h : List α) (x y z : α)
theorem hole_1 : (if 1 < (h ++ [x, y]).length then some ((h ++ [x, y]).length - 1 - 1) else none) = some h.length := by
  rw [if_pos (by simp)]; simp
theorem hole_0 : (if 0 < (h ++ [x, y]).length then some ((h ++ [x, y]).length - 1 - 0) else none) = some (h.length + 1) := by
  rw [if_pos (by simp)]; simp
theorem hole_set1 : (h ++ [x, y]).set h.length z = h ++ [z, y] := by
  rw [List.set_append_right _ _ (Nat.le_refl _), Nat.sub_self]; rfl
theorem hole_set2 : (h ++ [x, y]).set (h.length + 1) z = h ++ [x, z] := by
  rw [List.set_append_right _ _ (by omega), show h.length + 1 - h.length = 1 by omega]; rfl
theorem hole_get1 : (h ++ [x, y])[h.length]? = some x := by
  rw [List.getElem?_append_right (Nat.le_refl _), Nat.sub_self]; rfl
theorem hole_get2 : (h ++ [x, y])[h.length + 1]? = some y := by
  rw [List.getElem?_append_right (by omega), show h.length + 1 - h.length = 1 by omega]; rfl
end
theorem eq_tok (k k' : Int) (w w' : ByteArray) (o o' a a' : Int) : eqCells [0, 1, 0, 0] [.int .i64 k, .str w, .int .i64 o, .int .i64 a] [.int .i64 k', .str w', .int .i64 o', .int .i64 a'] = some (decide (k = k') && (decide (w = w') && (decide (o = o') && decide (a = a')))) := by
  simp only [eqCells, eqCell, if_true, Bool.and_true]
set_option maxRecDepth 100000 in
set_option maxHeartbeats 4000000 in
theorem p_same (p : Bool) (a b : List Tok) (hla : a.length ≤ 1000000) (hlb : b.length ≤ 1000000) : PCalls Try.prog 35 [vToks a, vToks b, .bool p] (.bool (sameT p a b)) := by
  refine pcalls_of (by simp [vToks, free, free.frees, frees_toks]) rfl (ACalls.weak (acalls_of mixed J_law04_same_ok (Nat.le_of_ble_eq_true rfl) ?_)); simp only [J_law04_same, vToks, wk,if_true,if_false,forall_const,implies_true,ne_eq,eq_self,Nat.reduceEqDiff,Nat.reduceAdd,Nat.reduceMul,Nat.reduceSub,Nat.reduceLeDiff,Nat.reduceLT,Int.reduceEq,Int.reduceLT,Int.reduceLE,Int.reduceAdd,Int.reduceSub,Int.reduceMul,Int.reduceNeg,Int.reduceNe,reduceCtorEq,Int.reduceToNat,↓reduceIte]
  refine ⟨fun hne => ?_, fun heq => ?_⟩
  · have : ¬ a.length = b.length := by omega
    unfold sameT
    rw [decide_eq_false this, Bool.false_and]
    rfl
  have hl : a.length = b.length := by omega
  refine W_loop (fun n fr h' => ∃ i : Nat, i ≤ a.length ∧ n = a.length - i ∧ fr = [(0, .lst .ro a.length (toksC a)), (1, .lst .ro b.length (toksC b)), (2, .bool p), (16, .int .i64 a.length), (17, .int .i64 i)] ∧ ∀ j (ha : j < a.length) (hb : j < b.length), j < i → eqT p a[j] b[j] = true) a.length ⟨0, by omega, by omega, rfl, fun j ha hb h => by omega⟩ ?_
  rintro n fr h' ⟨i, hi, rfl, rfl, hall⟩
  simp only [J_law04_same_j3, wk,if_true,if_false,forall_const,implies_true,ne_eq,eq_self,Nat.reduceEqDiff,Nat.reduceAdd,Nat.reduceMul,Nat.reduceSub,Nat.reduceLeDiff,Nat.reduceLT,Int.reduceEq,Int.reduceLT,Int.reduceLE,Int.reduceAdd,Int.reduceSub,Int.reduceMul,Int.reduceNeg,Int.reduceNe,reduceCtorEq,Int.reduceToNat,↓reduceIte]
  refine ⟨fun hlt => ?_, fun hge => ?_⟩
  · have hil : i < a.length := by omega
    have hib : i < b.length := by omega
    have hd : (toksC a).drop ((i : Int).toNat * 4) = _ := toksC_drop hil
    have hd2 : (toksC b).drop ((i : Int).toNat * 4) = _ := toksC_drop hib
    simp only [hd, hd2, hole_1, hole_0, hole_set1, hole_set2, hole_get1, hole_get2, wk,if_true,if_false,forall_const,implies_true,ne_eq,eq_self,Nat.reduceEqDiff,Nat.reduceAdd,Nat.reduceMul,Nat.reduceSub,Nat.reduceLeDiff,Nat.reduceLT,Int.reduceEq,Int.reduceLT,Int.reduceLE,Int.reduceAdd,Int.reduceSub,Int.reduceMul,Int.reduceNeg,Int.reduceNe,reduceCtorEq,Int.reduceToNat,↓reduceIte]
    refine ⟨⟨by omega, by omega⟩, ⟨by omega, by omega⟩, fun hp => ?_, fun hp => ?_⟩
    · subst hp
      simp only [J_law04_same_j2, hole_1, hole_0, hole_set1, hole_set2, hole_get1, hole_get2, wk,if_true,if_false,forall_const,implies_true,ne_eq,eq_self,Nat.reduceEqDiff,Nat.reduceAdd,Nat.reduceMul,Nat.reduceSub,Nat.reduceLeDiff,Nat.reduceLT,Int.reduceEq,Int.reduceLT,Int.reduceLE,Int.reduceAdd,Int.reduceSub,Int.reduceMul,Int.reduceNeg,Int.reduceNe,reduceCtorEq,Int.reduceToNat,↓reduceIte]
      rw [eq_tok]
      simp only [Option.map_some, wk,if_true,if_false,forall_const,implies_true,ne_eq,eq_self,Nat.reduceEqDiff,Nat.reduceAdd,Nat.reduceMul,Nat.reduceSub,Nat.reduceLeDiff,Nat.reduceLT,Int.reduceEq,Int.reduceLT,Int.reduceLE,Int.reduceAdd,Int.reduceSub,Int.reduceMul,Int.reduceNeg,Int.reduceNe,reduceCtorEq,Int.reduceToNat,↓reduceIte]
      refine ⟨fun h => ?_, fun h => ⟨inR_of (by omega) (by omega), a.length - (i + 1), by omega, i + 1, by omega, rfl, rfl, ?_⟩⟩
      · rw [same_no hil hib (by unfold eqT; simpa using h)]
        rfl
      · intro j ha hb hj
        by_cases hji : j = i
        · subst hji
          unfold eqT
          simpa using h
        · exact hall j ha hb (by omega)
    · subst hp
      simp only [J_law04_same_j2, hole_1, hole_0, hole_set1, hole_set2, hole_get1, hole_get2, wk,if_true,if_false,forall_const,implies_true,ne_eq,eq_self,Nat.reduceEqDiff,Nat.reduceAdd,Nat.reduceMul,Nat.reduceSub,Nat.reduceLeDiff,Nat.reduceLT,Int.reduceEq,Int.reduceLT,Int.reduceLE,Int.reduceAdd,Int.reduceSub,Int.reduceMul,Int.reduceNeg,Int.reduceNe,reduceCtorEq,Int.reduceToNat,↓reduceIte]
      rw [eq_tok]
      simp only [Option.map_some, wk,if_true,if_false,forall_const,implies_true,ne_eq,eq_self,Nat.reduceEqDiff,Nat.reduceAdd,Nat.reduceMul,Nat.reduceSub,Nat.reduceLeDiff,Nat.reduceLT,Int.reduceEq,Int.reduceLT,Int.reduceLE,Int.reduceAdd,Int.reduceSub,Int.reduceMul,Int.reduceNeg,Int.reduceNe,reduceCtorEq,Int.reduceToNat,↓reduceIte]
      refine ⟨fun h => ?_, fun h => ⟨inR_of (by omega) (by omega), a.length - (i + 1), by omega, i + 1, by omega, rfl, rfl, ?_⟩⟩
      · rw [same_no hil hib (by unfold eqT; simpa using h)]
        rfl
      · intro j ha hb hj
        by_cases hji : j = i
        · subst hji
          unfold eqT
          simpa using h
        · exact hall j ha hb (by omega)
  · simp only [J_law04_same_j1, wk,if_true,if_false,forall_const,implies_true,ne_eq,eq_self,Nat.reduceEqDiff,Nat.reduceAdd,Nat.reduceMul,Nat.reduceSub,Nat.reduceLeDiff,Nat.reduceLT,Int.reduceEq,Int.reduceLT,Int.reduceLE,Int.reduceAdd,Int.reduceSub,Int.reduceMul,Int.reduceNeg,Int.reduceNe,reduceCtorEq,Int.reduceToNat,↓reduceIte]
    rw [same_yes hl (fun j ha hb => hall j ha hb (by omega))]
    rfl
end Go.Proofs.Ytcbcnbefaggnhaa

/- large, awake; TokenReads. -/
namespace Go.Proofs.Ytcbcnbefaggnhaa
set_option linter.unusedSimpArgs false
set_option linter.unusedVariables false
open Go.RowKit Go.Lib

def largeT (l : List Tok) : Bool := decide (1100 < l.length) || l.any fun t => decide (100 < t.name.size)
set_option maxRecDepth 100000 in
set_option maxHeartbeats 4000000 in
theorem p_large (l : List Tok) (hl : l.length ≤ 9223372036854775807) : PCalls Try.prog 36 [vToks l] (.bool (largeT l)) := by
  refine pcalls_of (by simp [vToks, free, free.frees, frees_toks]) rfl (acalls_of mixed J_law04_large_ok (Nat.le_of_ble_eq_true rfl) ?_); simp only [J_law04_large, vToks, wk,if_true,if_false,forall_const,implies_true,ne_eq,eq_self,Nat.reduceEqDiff,Nat.reduceAdd,Nat.reduceMul,Nat.reduceSub,Nat.reduceLeDiff,Nat.reduceLT,Int.reduceEq,Int.reduceLT,Int.reduceLE,Int.reduceAdd,Int.reduceSub,Int.reduceMul,Int.reduceNeg,Int.reduceNe,reduceCtorEq,Int.reduceToNat,↓reduceIte]
  refine ⟨fun hbig => ?_, fun hbig => ?_⟩
  · unfold largeT
    rw [decide_eq_true (show 1100 < l.length by omega), Bool.true_or]
  refine W_loop (fun n fr h' => ∃ i : Nat, i ≤ l.length ∧ n = l.length - i ∧ fr = [(0, .lst .ro l.length (toksC l)), (8, .int .i64 l.length), (9, .int .i64 i)] ∧ ∀ t ∈ l.take i, ¬ 100 < t.name.size) l.length ⟨0, by omega, by omega, rfl, by simp⟩ ?_
  rintro n fr h' ⟨i, hi, rfl, rfl, hall⟩
  simp only [J_law04_large_j2, wk,if_true,if_false,forall_const,implies_true,ne_eq,eq_self,Nat.reduceEqDiff,Nat.reduceAdd,Nat.reduceMul,Nat.reduceSub,Nat.reduceLeDiff,Nat.reduceLT,Int.reduceEq,Int.reduceLT,Int.reduceLE,Int.reduceAdd,Int.reduceSub,Int.reduceMul,Int.reduceNeg,Int.reduceNe,reduceCtorEq,Int.reduceToNat,↓reduceIte]
  refine ⟨fun hlt => ?_, fun hge => ?_⟩
  · have hil : i < l.length := by omega
    have hd : (toksC l).drop ((i : Int).toNat * 4) = _ := toksC_drop hil
    refine ⟨⟨by omega, by omega⟩, ?_⟩
    simp only [hd, wk,if_true,if_false,forall_const,implies_true,ne_eq,eq_self,Nat.reduceEqDiff,Nat.reduceAdd,Nat.reduceMul,Nat.reduceSub,Nat.reduceLeDiff,Nat.reduceLT,Int.reduceEq,Int.reduceLT,Int.reduceLE,Int.reduceAdd,Int.reduceSub,Int.reduceMul,Int.reduceNeg,Int.reduceNe,reduceCtorEq,Int.reduceToNat,↓reduceIte]
    refine ⟨fun h => ?_, fun h => ⟨inR_of (by omega) (by omega), l.length - (i + 1), by omega, i + 1, by omega, rfl, rfl, ?_⟩⟩
    · have : l.any (fun t => decide (100 < t.name.size)) = true := List.any_eq_true.2 ⟨_, List.getElem_mem hil, decide_eq_true (by omega)⟩
      unfold largeT
      rw [this, Bool.or_true]
    · intro t ht
      rw [List.take_succ_eq_append_getElem hil] at ht
      rcases List.mem_append.1 ht with ht | ht
      · exact hall t ht
      · simp at ht; subst ht; omega
  · rw [List.take_of_length_le (by omega)] at hall
    simp only [J_law04_large_j1, wk,if_true,if_false,forall_const,implies_true,ne_eq,eq_self,Nat.reduceEqDiff,Nat.reduceAdd,Nat.reduceMul,Nat.reduceSub,Nat.reduceLeDiff,Nat.reduceLT,Int.reduceEq,Int.reduceLT,Int.reduceLE,Int.reduceAdd,Int.reduceSub,Int.reduceMul,Int.reduceNeg,Int.reduceNe,reduceCtorEq,Int.reduceToNat,↓reduceIte]
    unfold largeT
    rw [decide_eq_false (show ¬ 1100 < l.length by omega), Bool.false_or]
    congr 1
    symm
    rw [List.any_eq_false]
    intro t ht
    simpa using hall t ht
theorem eq_tok_self (k : Int) (w : ByteArray) (o a : Int) : eqCells [0, 1, 0, 0] [.int .i64 k, .str w, .int .i64 o, .int .i64 a] [.int .i64 k, .str w, .int .i64 o, .int .i64 a] = some true := by
  rw [eq_tok]; simp
def c1 : ByteArray := ⟨#[107, 101, 121, 58, 107, 49, 124, 97, 108, 105, 99, 101, 32, 97, 115, 32, 114, 111, 108, 101, 58, 114, 32, 35, 32, 120]⟩
def c2 : ByteArray := ⟨#[97, 32, 75]⟩
def L5 : List Tok := [⟨1, ⟨#[107, 49]⟩, 1, 0⟩, ⟨4, ⟨#[]⟩, 0, 6⟩, ⟨1, ⟨#[97, 108, 105, 99, 101]⟩, 3, 7⟩, ⟨5, ⟨#[]⟩, 0, 13⟩, ⟨1, ⟨#[114]⟩, 5, 16⟩]
theorem all_c1 : allT c1 = (L5, 0, 0) := by kernel_rfl
theorem all_c2 : allT c2 = ([], 2, 2) := by kernel_rfl
theorem text_L5 : textT L5 = (⟨#[107, 101, 121, 58, 107, 49, 32, 124, 32, 97, 108, 105, 99, 101, 32, 97, 115, 32, 114, 111, 108, 101, 58, 114]⟩, 0) := by kernel_rfl
set_option maxRecDepth 100000 in
set_option maxHeartbeats 4000000 in
theorem p_awake04 : PCalls Try.prog 32 [] (.bool true) := by
  have q1 := p_pall c1 (by decide)
  have q2 := p_pall c2 (by decide)
  have q3 := p_ptext L5 (by decide) (by decide)
  have q4 := p_word 4 ⟨#[]⟩ 0 6 (by decide)
  have q5 := p_word 0 ⟨#[]⟩ 0 0 (by decide)
  rw [all_c1] at q1
  rw [all_c2] at q2
  rw [text_L5] at q3
  rw [show wordT 4 ⟨#[]⟩ 0 = ⟨#[124]⟩ by kernel_rfl] at q4
  rw [show wordT 0 ⟨#[]⟩ 0 = ⟨#[]⟩ by kernel_rfl] at q5
  simp only [resV, vToks, toksC, L5, List.flatMap_cons, List.flatMap_nil, tC, List.cons_append, List.nil_append, List.length_cons, List.length_nil, vText] at q1 q2 q3
  refine pcalls_of (by first | rfl | simp [free, free.frees, frees_str, frees_u8, frees_u16]) (by first | rfl | simp [free, free.frees, frees_str, frees_u8, frees_u16]) (acalls_of mixed J_law04_awake_ok (Nat.le_of_ble_eq_true rfl) ?_); simp only [J_law04_awake, wk,if_true,if_false,forall_const,implies_true,ne_eq,eq_self,Nat.reduceEqDiff,Nat.reduceAdd,Nat.reduceMul,Nat.reduceSub,Nat.reduceLeDiff,Nat.reduceLT,Int.reduceEq,Int.reduceLT,Int.reduceLE,Int.reduceAdd,Int.reduceSub,Int.reduceMul,Int.reduceNeg,Int.reduceNe,reduceCtorEq,Int.reduceToNat,↓reduceIte]
  refine PCalls.use (q1) ?_; simp only [wk,if_true,if_false,forall_const,implies_true,ne_eq,eq_self,Nat.reduceEqDiff,Nat.reduceAdd,Nat.reduceMul,Nat.reduceSub,Nat.reduceLeDiff,Nat.reduceLT,Int.reduceEq,Int.reduceLT,Int.reduceLE,Int.reduceAdd,Int.reduceSub,Int.reduceMul,Int.reduceNeg,Int.reduceNe,reduceCtorEq,Int.reduceToNat,↓reduceIte]
  refine PCalls.use (q2) ?_; simp only [wk,if_true,if_false,forall_const,implies_true,ne_eq,eq_self,Nat.reduceEqDiff,Nat.reduceAdd,Nat.reduceMul,Nat.reduceSub,Nat.reduceLeDiff,Nat.reduceLT,Int.reduceEq,Int.reduceLT,Int.reduceLE,Int.reduceAdd,Int.reduceSub,Int.reduceMul,Int.reduceNeg,Int.reduceNe,reduceCtorEq,Int.reduceToNat,↓reduceIte]
  refine PCalls.use (q3) ?_; simp only [wk,if_true,if_false,forall_const,implies_true,ne_eq,eq_self,Nat.reduceEqDiff,Nat.reduceAdd,Nat.reduceMul,Nat.reduceSub,Nat.reduceLeDiff,Nat.reduceLT,Int.reduceEq,Int.reduceLT,Int.reduceLE,Int.reduceAdd,Int.reduceSub,Int.reduceMul,Int.reduceNeg,Int.reduceNe,reduceCtorEq,Int.reduceToNat,↓reduceIte]
  simp only [eq_tok_self, Option.map_some, wk,if_true,if_false,forall_const,implies_true,ne_eq,eq_self,Nat.reduceEqDiff,Nat.reduceAdd,Nat.reduceMul,Nat.reduceSub,Nat.reduceLeDiff,Nat.reduceLT,Int.reduceEq,Int.reduceLT,Int.reduceLE,Int.reduceAdd,Int.reduceSub,Int.reduceMul,Int.reduceNeg,Int.reduceNe,reduceCtorEq,Int.reduceToNat,↓reduceIte]
  repeat' (first | (refine PCalls.use q4 ?_; simp only [eq_tok_self, Option.map_some, wk,if_true,if_false,forall_const,implies_true,ne_eq,eq_self,Nat.reduceEqDiff,Nat.reduceAdd,Nat.reduceMul,Nat.reduceSub,Nat.reduceLeDiff,Nat.reduceLT,Int.reduceEq,Int.reduceLT,Int.reduceLE,Int.reduceAdd,Int.reduceSub,Int.reduceMul,Int.reduceNeg,Int.reduceNe,reduceCtorEq,Int.reduceToNat,↓reduceIte]) | (refine PCalls.use q5 ?_; simp only [eq_tok_self, Option.map_some, wk,if_true,if_false,forall_const,implies_true,ne_eq,eq_self,Nat.reduceEqDiff,Nat.reduceAdd,Nat.reduceMul,Nat.reduceSub,Nat.reduceLeDiff,Nat.reduceLT,Int.reduceEq,Int.reduceLT,Int.reduceLE,Int.reduceAdd,Int.reduceSub,Int.reduceMul,Int.reduceNeg,Int.reduceNe,reduceCtorEq,Int.reduceToNat,↓reduceIte]) | (with_reducible refine And.intro ?_ ?_) | intro _)
  all_goals first
    | decide
    | rfl
    | exact absurd rfl (by assumption)
end Go.Proofs.Ytcbcnbefaggnhaa

/- TokenReads and TokenWrites: the calls. -/
namespace Go.Proofs.Ytcbcnbefaggnhaa
set_option linter.unusedSimpArgs false
set_option linter.unusedVariables false
open Go.RowKit Go.Lib

theorem scanF_len : ∀ (f : Nat) (l : List UInt8) (a : Nat) (acc : List Tok), acc.length ≤ 1000 → (scanF f l a acc).1.length ≤ 1000
  | 0, _, _, acc, h => h
  | f + 1, [], _, acc, h => h
  | f + 1, b :: r, a, acc, h => by
    simp only [scanF]
    split
    · exact scanF_len f r _ _ h
    · split
      · exact scanF_len f _ _ _ h
      · split
        · simp
        · split
          · simp
          · exact scanF_len f _ _ _ (by simp; omega)
theorem allT_len (s : ByteArray) : (allT s).1.length ≤ 1000 := by
  unfold allT
  split
  · simp
  · exact scanF_len _ _ _ _ (by simp)
theorem eqT_refl (p : Bool) (x : Tok) : eqT p x x = true := by unfold eqT; simp
theorem sameT_refl (p : Bool) (a : List Tok) : sameT p a a = true := same_yes rfl fun i ha hb => eqT_refl p _
set_option maxRecDepth 100000 in
set_option maxHeartbeats 4000000 in
theorem p_reads (s : ByteArray) : PCalls Try.prog 8 [.str s] (.bool true) := by
  refine pcalls_of (by first | rfl | simp [free, free.frees, frees_str, frees_u8, frees_u16]) (by first | rfl | simp [free, free.frees, frees_str, frees_u8, frees_u16]) (acalls_of mixed J_law04_TokenReads_ok (Nat.le_of_ble_eq_true rfl) ?_); simp only [J_law04_TokenReads, wk,if_true,if_false,forall_const,implies_true,ne_eq,eq_self,Nat.reduceEqDiff,Nat.reduceAdd,Nat.reduceMul,Nat.reduceSub,Nat.reduceLeDiff,Nat.reduceLT,Int.reduceEq,Int.reduceLT,Int.reduceLE,Int.reduceAdd,Int.reduceSub,Int.reduceMul,Int.reduceNeg,Int.reduceNe,reduceCtorEq,Int.reduceToNat,↓reduceIte]
  refine PCalls.use (p_awake04) ?_; simp only [wk,if_true,if_false,forall_const,implies_true,ne_eq,eq_self,Nat.reduceEqDiff,Nat.reduceAdd,Nat.reduceMul,Nat.reduceSub,Nat.reduceLeDiff,Nat.reduceLT,Int.reduceEq,Int.reduceLT,Int.reduceLE,Int.reduceAdd,Int.reduceSub,Int.reduceMul,Int.reduceNeg,Int.reduceNe,reduceCtorEq,Int.reduceToNat,↓reduceIte]
  intro hs
  have h1 := p_pall s (by omega)
  have h2 := p_rall s (by omega)
  have hlen := allT_len s
  have h3 := p_same true (allT s).1 (allT s).1 (by omega) (by omega)
  rw [sameT_refl] at h3
  obtain ⟨L, hL⟩ : ∃ L, L = (allT s).1 := ⟨_, rfl⟩
  simp only [resV, ← hL] at h1 h2
  rw [← hL] at h3 hlen
  simp only [vToks] at h1 h2 h3
  refine PCalls.use (h1) ?_; simp only [wk,if_true,if_false,forall_const,implies_true,ne_eq,eq_self,Nat.reduceEqDiff,Nat.reduceAdd,Nat.reduceMul,Nat.reduceSub,Nat.reduceLeDiff,Nat.reduceLT,Int.reduceEq,Int.reduceLT,Int.reduceLE,Int.reduceAdd,Int.reduceSub,Int.reduceMul,Int.reduceNeg,Int.reduceNe,reduceCtorEq,Int.reduceToNat,↓reduceIte]
  refine PCalls.use (h2) ?_; simp only [wk,if_true,if_false,forall_const,implies_true,ne_eq,eq_self,Nat.reduceEqDiff,Nat.reduceAdd,Nat.reduceMul,Nat.reduceSub,Nat.reduceLeDiff,Nat.reduceLT,Int.reduceEq,Int.reduceLT,Int.reduceLE,Int.reduceAdd,Int.reduceSub,Int.reduceMul,Int.reduceNeg,Int.reduceNe,reduceCtorEq,Int.reduceToNat,↓reduceIte]
  refine PCalls.use (h3) ?_; simp only [wk,if_true,if_false,forall_const,implies_true,ne_eq,eq_self,Nat.reduceEqDiff,Nat.reduceAdd,Nat.reduceMul,Nat.reduceSub,Nat.reduceLeDiff,Nat.reduceLT,Int.reduceEq,Int.reduceLT,Int.reduceLE,Int.reduceAdd,Int.reduceSub,Int.reduceMul,Int.reduceNeg,Int.reduceNe,reduceCtorEq,Int.reduceToNat,↓reduceIte]
set_option maxRecDepth 100000 in
set_option maxHeartbeats 4000000 in
theorem p_writes (l : List Tok) (hl : l.length ≤ 9223372036854775807) : PCalls Try.prog 9 [vToks l] (.bool true) := by
  have h2 := p_large l hl
  simp only [vToks] at h2
  refine pcalls_of (by simp [vToks, free, free.frees, frees_toks]) rfl (acalls_of mixed J_law04_TokenWrites_ok (Nat.le_of_ble_eq_true rfl) ?_); simp only [J_law04_TokenWrites, vToks, wk,if_true,if_false,forall_const,implies_true,ne_eq,eq_self,Nat.reduceEqDiff,Nat.reduceAdd,Nat.reduceMul,Nat.reduceSub,Nat.reduceLeDiff,Nat.reduceLT,Int.reduceEq,Int.reduceLT,Int.reduceLE,Int.reduceAdd,Int.reduceSub,Int.reduceMul,Int.reduceNeg,Int.reduceNe,reduceCtorEq,Int.reduceToNat,↓reduceIte]
  refine PCalls.use (p_awake04) ?_; simp only [wk,if_true,if_false,forall_const,implies_true,ne_eq,eq_self,Nat.reduceEqDiff,Nat.reduceAdd,Nat.reduceMul,Nat.reduceSub,Nat.reduceLeDiff,Nat.reduceLT,Int.reduceEq,Int.reduceLT,Int.reduceLE,Int.reduceAdd,Int.reduceSub,Int.reduceMul,Int.reduceNeg,Int.reduceNe,reduceCtorEq,Int.reduceToNat,↓reduceIte]
  refine PCalls.use (h2) ?_; simp only [wk,if_true,if_false,forall_const,implies_true,ne_eq,eq_self,Nat.reduceEqDiff,Nat.reduceAdd,Nat.reduceMul,Nat.reduceSub,Nat.reduceLeDiff,Nat.reduceLT,Int.reduceEq,Int.reduceLT,Int.reduceLE,Int.reduceAdd,Int.reduceSub,Int.reduceMul,Int.reduceNeg,Int.reduceNe,reduceCtorEq,Int.reduceToNat,↓reduceIte]
  intro hlg
  have hlg2 : l.length ≤ 1100 ∧ ∀ t ∈ l, t.name.size ≤ 100 := by
    unfold largeT at hlg
    rw [Bool.or_eq_false_iff] at hlg
    refine ⟨by have := of_decide_eq_false hlg.1; omega, fun t ht => ?_⟩
    have := List.any_eq_false.1 hlg.2 t ht
    simpa using this
  have hn : ∀ t ∈ l, t.name.size ≤ 1000000 := fun t ht => by have := hlg2.2 t ht; omega
  have h3 := p_ptext l (by omega) hn
  have h4 := p_rtext l (by omega) hn
  have h5 := p_same true l l (by omega) (by omega)
  rw [sameT_refl] at h5
  simp only [vToks, vText] at h3 h4 h5
  refine ⟨⟨toksC_len l, by omega, by omega⟩, ?_⟩
  refine PCalls.use (h3) ?_; simp only [wk,if_true,if_false,forall_const,implies_true,ne_eq,eq_self,Nat.reduceEqDiff,Nat.reduceAdd,Nat.reduceMul,Nat.reduceSub,Nat.reduceLeDiff,Nat.reduceLT,Int.reduceEq,Int.reduceLT,Int.reduceLE,Int.reduceAdd,Int.reduceSub,Int.reduceMul,Int.reduceNeg,Int.reduceNe,reduceCtorEq,Int.reduceToNat,↓reduceIte]
  refine PCalls.use (h4) ?_; simp only [wk,if_true,if_false,forall_const,implies_true,ne_eq,eq_self,Nat.reduceEqDiff,Nat.reduceAdd,Nat.reduceMul,Nat.reduceSub,Nat.reduceLeDiff,Nat.reduceLT,Int.reduceEq,Int.reduceLT,Int.reduceLE,Int.reduceAdd,Int.reduceSub,Int.reduceMul,Int.reduceNeg,Int.reduceNe,reduceCtorEq,Int.reduceToNat,↓reduceIte]
  refine PCalls.use (h5) ?_; simp only [wk,if_true,if_false,forall_const,implies_true,ne_eq,eq_self,Nat.reduceEqDiff,Nat.reduceAdd,Nat.reduceMul,Nat.reduceSub,Nat.reduceLeDiff,Nat.reduceLT,Int.reduceEq,Int.reduceLT,Int.reduceLE,Int.reduceAdd,Int.reduceSub,Int.reduceMul,Int.reduceNeg,Int.reduceNe,reduceCtorEq,Int.reduceToNat,↓reduceIte]
  refine W_loop (fun n fr h' => ∃ i : Nat, i ≤ l.length ∧ n = l.length - i ∧ fr = [(0, .lst .ro l.length (toksC l)), (41, .int .i64 l.length), (42, .int .i64 i)]) l.length ⟨0, by omega, by omega, rfl⟩ ?_
  rintro n fr h' ⟨i, hi, rfl, rfl⟩
  simp only [J_law04_TokenWrites_j2, wk,if_true,if_false,forall_const,implies_true,ne_eq,eq_self,Nat.reduceEqDiff,Nat.reduceAdd,Nat.reduceMul,Nat.reduceSub,Nat.reduceLeDiff,Nat.reduceLT,Int.reduceEq,Int.reduceLT,Int.reduceLE,Int.reduceAdd,Int.reduceSub,Int.reduceMul,Int.reduceNeg,Int.reduceNe,reduceCtorEq,Int.reduceToNat,↓reduceIte]
  refine ⟨fun hlt => ?_, fun hge => ?_⟩
  · have hil : i < l.length := by omega
    have hd : (toksC l).drop ((i : Int).toNat * 4) = _ := toksC_drop hil
    have qa := p_word l[i].kind l[i].name l[i].of l[i].at_ (hn _ (List.getElem_mem hil))
    have qb := p_rword04 l[i].kind l[i].name l[i].of l[i].at_ (hn _ (List.getElem_mem hil))
    refine ⟨⟨by omega, by omega⟩, ?_⟩
    simp only [hd, wk,if_true,if_false,forall_const,implies_true,ne_eq,eq_self,Nat.reduceEqDiff,Nat.reduceAdd,Nat.reduceMul,Nat.reduceSub,Nat.reduceLeDiff,Nat.reduceLT,Int.reduceEq,Int.reduceLT,Int.reduceLE,Int.reduceAdd,Int.reduceSub,Int.reduceMul,Int.reduceNeg,Int.reduceNe,reduceCtorEq,Int.reduceToNat,↓reduceIte]
    refine ⟨_, qa, ⟨by omega, by omega⟩, _, qb, ?_⟩
    simp only [wk,if_true,if_false,forall_const,implies_true,ne_eq,eq_self,Nat.reduceEqDiff,Nat.reduceAdd,Nat.reduceMul,Nat.reduceSub,Nat.reduceLeDiff,Nat.reduceLT,Int.reduceEq,Int.reduceLT,Int.reduceLE,Int.reduceAdd,Int.reduceSub,Int.reduceMul,Int.reduceNeg,Int.reduceNe,reduceCtorEq,Int.reduceToNat,↓reduceIte]
    exact ⟨inR_of (by omega) (by omega), l.length - (i + 1), by omega, i + 1, by omega, rfl, rfl⟩
  · simp only [J_law04_TokenWrites_j1, wk,if_true,if_false,forall_const,implies_true,ne_eq,eq_self,Nat.reduceEqDiff,Nat.reduceAdd,Nat.reduceMul,Nat.reduceSub,Nat.reduceLeDiff,Nat.reduceLT,Int.reduceEq,Int.reduceLT,Int.reduceLE,Int.reduceAdd,Int.reduceSub,Int.reduceMul,Int.reduceNeg,Int.reduceNe,reduceCtorEq,Int.reduceToNat,↓reduceIte]
end Go.Proofs.Ytcbcnbefaggnhaa

/- A word that is written is read as its token: plain laws. -/
namespace Go.Proofs.Ytcbcnbefaggnhaa
set_option linter.unusedSimpArgs false
set_option linter.unusedVariables false
open Go.RowKit Go.Lib

theorem stop_app {q : Int → Bool} {l r : List UInt8} (h : ∀ b ∈ l, q b.toNat = true) (h2 : ∀ b r', r = b :: r' → q b.toNat = false) : stopN q (l ++ r) = l.length := by
  unfold stopN
  refine tw_len (by simp) (fun b hb => ?_) (fun hlt => ?_)
  · rw [List.take_left] at hb; exact h b hb
  · rw [List.getElem_append_right (Nat.le_refl _)]
    simp only [Nat.sub_self]
    cases r with
    | nil => simp at hlt
    | cons c r' => exact h2 c r' rfl
theorem fine_inn {r : List UInt8} (h : fineL r = true) : ∀ b r', r = b :: r' → innI b.toNat = false := by
  rintro b r' rfl
  simp only [fineL, freI, Bool.and_eq_true, Bool.not_eq_true'] at h
  exact h.1.1
theorem fine_dig {r : List UInt8} (h : fineL r = true) : ∀ b r', r = b :: r' → digI b.toNat = false := by
  intro b r' e
  have := fine_inn h b r' e
  simp only [innI, Bool.or_eq_false_iff] at this
  exact this.1.1.2
theorem fine_colon {r : List UInt8} (h : fineL r = true) : colonL r = false := by
  cases r with
  | nil => rfl
  | cons b r =>
    simp only [fineL, freI, Bool.and_eq_true, decide_eq_true_eq] at h
    have := h.1.2
    simp only [colonL, beq_eq_false_iff_ne]
    omega
theorem may_all {n : ByteArray} (h : mayN n = true) : 1 ≤ n.size ∧ n.size ≤ 24 ∧ lttI (n.data.toList.headD 0).toNat = true ∧ ∀ b ∈ n.data.toList, innI b.toNat = true := by
  have hl := len_size n
  unfold mayN mayL at h
  simp only [Bool.and_eq_true, decide_eq_true_eq] at h
  obtain ⟨h1, h2, h3, h4⟩ := h
  exact ⟨by omega, by omega, h3, List.all_eq_true.1 h4⟩
theorem take_ba (n : ByteArray) (r : List UInt8) : ba ((n.data.toList ++ r).take n.size) = n := by
  rw [← len_size n, List.take_left, ba_eta]
theorem name_may {n : ByteArray} {r : List UInt8} (h : mayN n = true) (hf : fineL r = true) : nameL (n.data.toList ++ r) = some n.size ∧ stopN innI (n.data.toList ++ r) = n.size := by
  obtain ⟨h1, h2, h3, h4⟩ := may_all h
  have hl := len_size n
  have hs : stopN innI (n.data.toList ++ r) = n.size := by rw [stop_app h4 (fine_inn hf), hl]
  refine ⟨?_, hs⟩
  have hh : (n.data.toList ++ r).headD 0 = n.data.toList.headD 0 := by
    cases hn : n.data.toList with
    | nil => rw [hn] at hl; simp at hl; omega
    | cons c t => rfl
  rw [name_some, hs, hh, if_pos ⟨h3, h2, by rw [← hl, List.drop_left]; exact hf⟩]
theorem sign_name {n : ByteArray} {r : List UInt8} (h : mayN n = true) (hf : fineL r = true) : signL (n.data.toList ++ r) = if keyW n = 0 then some (1, n, 3, n.size) else some (keyW n, ba [], 0, n.size) := by
  obtain ⟨h1, h2, h3, h4⟩ := may_all h
  obtain ⟨g1, g2⟩ := name_may h hf
  have hl := len_size n
  have hk : kindL (n.data.toList ++ r) = 0 := by
    rw [kind_name, g2, if_neg]
    rintro ⟨-, hc⟩
    rw [← hl, List.drop_left, fine_colon hf] at hc
    cases hc
  obtain ⟨L, hL⟩ : ∃ L, L = n.data.toList ++ r := ⟨_, rfl⟩
  have ht := take_ba n r
  rw [← hL] at g1 g2 hk ht ⊢
  unfold signL
  rw [if_pos hk]
  cases L with
  | nil => cases g1
  | cons b t =>
    have hb : lttI b.toNat = true := by
      cases hn : n.data.toList with
      | nil => rw [hn] at hl; simp at hl; omega
      | cons c u =>
        rw [hn] at hL h3
        injection hL with e _
        rw [e]; exact h3
    simp only [plainL]
    rw [if_pos hb, g1]
    simp only [ht]
theorem beg_self (p : ByteArray) (r : List UInt8) : begL p (p.data.toList ++ r) = true := by
  unfold begL
  rw [← len_size p, List.take_left, decide_eq_true_eq]
theorem kind_pre {o : Int} (ho : o ∈ kinds) (r : List UInt8) : kindL ((preW o).data.toList ++ r) = o := by
  have h2 : o = 1 ∨ o = 2 ∨ o = 4 ∨ o = 5 := by simpa [kinds] using ho
  have b1 : begL (preW 1) ((preW 2).data.toList ++ r) = false ∧ begL (preW 1) ((preW 4).data.toList ++ r) = false ∧ begL (preW 1) ((preW 5).data.toList ++ r) = false := ⟨rfl, rfl, rfl⟩
  have b2 : begL (preW 2) ((preW 4).data.toList ++ r) = false ∧ begL (preW 2) ((preW 5).data.toList ++ r) = false := ⟨rfl, rfl⟩
  have b4 : begL (preW 4) ((preW 5).data.toList ++ r) = false := rfl
  obtain ⟨b12, b14, b15⟩ := b1
  obtain ⟨b24, b25⟩ := b2
  unfold kindL
  rcases h2 with rfl | rfl | rfl | rfl
  · rw [if_pos (beg_self _ _)]
  · rw [b12, if_neg (by simp), if_pos (beg_self _ _)]
  · rw [b14, b24, if_neg (by simp), if_neg (by simp), if_pos (beg_self _ _)]
  · rw [b15, b25, b4, if_neg (by simp), if_neg (by simp), if_neg (by simp), if_pos (beg_self _ _)]
theorem sign_atom {n : ByteArray} {o : Int} {r : List UInt8} (ho : o ∈ kinds) (h : mayN n = true) (hf : fineL r = true) : signL ((preW o ++ n).data.toList ++ r) = some (1, n, o, (preW o ++ n).size) := by
  have hp := len_size (preW o)
  have e : (preW o ++ n).data.toList ++ r = (preW o).data.toList ++ (n.data.toList ++ r) := by
    rw [ByteArray.data_append, Array.toList_append, List.append_assoc]
  rw [e]
  unfold signL
  rw [kind_pre ho, if_neg (kinds_nz ho), ← hp, List.drop_left]
  unfold atomL
  rw [(name_may h hf).1]
  simp only [take_ba, ByteArray.size_append, hp]
theorem sign_word {k : Int} {n : ByteArray} {o : Int} {r : List UInt8} (hw : wordT k n o ≠ ⟨#[]⟩) (hf : fineL r = true) : signL ((wordT k n o).data.toList ++ r) = some (k, n, o, (wordT k n o).size) := by
  have hl := len_size n
  by_cases h1 : k = 1
  · subst h1
    have e : wordT 1 n o = atomW o n := by unfold wordT; rw [if_pos rfl]
    rw [e] at hw ⊢
    by_cases h0 : o = 0
    · subst h0
      have e2 : atomW 0 n = if n = ⟨#[68]⟩ then n else ⟨#[]⟩ := by unfold atomW; rw [if_pos rfl]
      rw [e2] at hw ⊢
      by_cases hd : n = ⟨#[68]⟩
      · subst hd
        rw [if_pos rfl]
        show signL (68 :: r) = _
        rw [sig_d rfl, good_d, if_pos hf]; rfl
      · rw [if_neg hd] at hw; exact absurd rfl hw
    · by_cases hm : mayN n = true
      · by_cases hk : o = 1 ∨ o = 2 ∨ o = 4 ∨ o = 5
        · have ho : o ∈ kinds := by simpa [kinds] using hk
          have e2 : atomW o n = preW o ++ n := by unfold atomW; rw [if_neg h0, if_pos hm, if_pos hk]
          rw [e2]; exact sign_atom ho hm hf
        · by_cases h3 : o = 3 ∧ keyW n = 0
          · have e2 : atomW o n = n := by unfold atomW; rw [if_neg h0, if_pos hm, if_neg hk, if_pos h3]
            rw [e2, sign_name hm hf, if_pos h3.2, h3.1]
          · have e2 : atomW o n = ⟨#[]⟩ := by unfold atomW; rw [if_neg h0, if_pos hm, if_neg hk, if_neg h3]
            exact absurd e2 hw
      · have e2 : atomW o n = ⟨#[]⟩ := by unfold atomW; rw [if_neg h0, if_neg hm]
        exact absurd e2 hw
  · by_cases h0 : o = 0
    · subst h0
      by_cases h8 : k = 8
      · subst h8
        have e : wordT 8 n 0 = if numW n = true then n else ⟨#[]⟩ := by unfold wordT; rw [if_neg (by decide), if_neg (by decide), if_pos rfl]
        rw [e] at hw ⊢
        by_cases hn : numW n = true
        · rw [if_pos hn]
          have hn2 := hn
          unfold numW at hn2
          simp only [Bool.and_eq_true, decide_eq_true_eq] at hn2
          obtain ⟨n1, n2, n3, n4⟩ := hn2
          have hs : stopN digI (n.data.toList ++ r) = n.size := by rw [stop_app (fun b hb => List.all_eq_true.1 n3 b hb) (fine_dig hf), hl]
          obtain ⟨b, t, hbt⟩ : ∃ b t, n.data.toList = b :: t := by
            cases hc : n.data.toList with
            | nil => rw [hc] at hl; simp at hl; omega
            | cons b t => exact ⟨b, t, rfl⟩
          have hb : digI b.toNat = true := List.all_eq_true.1 n3 b (by rw [hbt]; simp)
          have ht := take_ba n r
          have hdr : (n.data.toList ++ r).drop n.size = r := by rw [← hl, List.drop_left]
          rw [hbt] at hs ht hdr ⊢
          rw [List.cons_append] at hs ht hdr ⊢
          rw [sig_dig hb, hs, ht]
          have hg : goodT (8, n, 0, n.size) (b :: (t ++ r)) = true := by
            unfold goodT
            simp only [hdr, hf, Bool.and_true, decide_eq_true_eq]
            have e3 : wordT 8 n 0 = n := by rw [e, if_pos hn]
            rw [e3]
            intro e4; rw [e4] at n1; exact absurd n1 (by decide)
          rw [if_pos hg]
        · rw [if_neg hn] at hw; exact absurd rfl hw
      · by_cases h9 : k = 9
        · subst h9
          have e : wordT 9 n 0 = if sigW n = true then n else ⟨#[]⟩ := by unfold wordT; rw [if_neg (by decide), if_neg (by decide), if_neg (by decide), if_pos rfl]
          rw [e] at hw ⊢
          by_cases hn : sigW n = true
          · rw [if_pos hn]
            unfold sigW at hn
            simp only [Bool.and_eq_true, decide_eq_true_eq] at hn
            obtain ⟨b, rfl⟩ := one_byte hn.1
            show signL (b :: r) = _
            rw [sig_sign hn.2]; rfl
          · rw [if_neg hn] at hw; exact absurd rfl hw
        · by_cases hn : n = ⟨#[]⟩
          · subst hn
            have key : ∀ (x : ByteArray) (kk : Int), mayN x = true → keyW x = kk → kk ≠ 0 → signL (x.data.toList ++ r) = some (kk, ⟨#[]⟩, 0, x.size) := fun x kk g1 g2 g3 => by
              rw [sign_name g1 hf, if_neg (by rw [g2]; exact g3), g2]; rfl
            by_cases h2 : k = 2
            · subst h2; exact key ⟨#[97, 110, 100]⟩ 2 (by decide) (by decide) (by decide)
            · by_cases h3 : k = 3
              · subst h3; exact key ⟨#[102, 111, 114]⟩ 3 (by decide) (by decide) (by decide)
              · by_cases h5 : k = 5
                · subst h5; exact key ⟨#[97, 115]⟩ 5 (by decide) (by decide) (by decide)
                · by_cases h4 : k = 4
                  · subst h4
                    show signL (124 :: r) = _
                    rw [sig_124 rfl]; rfl
                  · by_cases h6 : k = 6
                    · subst h6
                      show signL (40 :: r) = _
                      rw [sig_40 rfl]; rfl
                    · by_cases h7 : k = 7
                      · subst h7
                        show signL (41 :: r) = _
                        rw [sig_41 rfl]; rfl
                      · exact absurd (by unfold wordT; simp [h1, h2, h3, h4, h5, h6, h7, h8, h9]) hw
          · exact absurd (by unfold wordT; simp [h1, h8, h9, hn]) hw
    · exact absurd (by unfold wordT; simp [h1, h0]) hw
end Go.Proofs.Ytcbcnbefaggnhaa

/- What is written is read as it was: plain laws of texts. -/
namespace Go.Proofs.Ytcbcnbefaggnhaa
set_option linter.unusedSimpArgs false
set_option linter.unusedVariables false
open Go.RowKit Go.Lib

theorem sign_none {b : UInt8} {r : List UInt8} (h : b.toNat = 32 ∨ b.toNat = 9 ∨ b.toNat = 10 ∨ b.toNat = 35) : signL (b :: r) = none := by
  have hl : lttI b.toNat = false := by rcases h with h | h | h | h <;> rw [h] <;> rfl
  have hd : digI b.toNat = false := by rcases h with h | h | h | h <;> rw [h] <;> rfl
  have hs : sigB b.toNat = false := by rcases h with h | h | h | h <;> rw [h] <;> rfl
  rw [sign_nl hl]; simp only [plainL]
  rw [if_neg (by simp [hl]), if_neg (by omega), if_neg (by omega), if_neg (by omega), if_neg (by omega), if_neg (by simp [hd]), if_neg (by simp [hs])]
theorem sign_nil : signL [] = none := by rfl
theorem scan_tok {l : List UInt8} {k : Int} {w : ByteArray} {o : Int} {n : Nat} (h : signL l = some (k, w, o, n)) (a : Nat) (acc : List Tok) (ha : acc.length < 1000) : scan l a acc = scan (l.drop n) (a + n) (acc ++ [⟨k, w, o, a⟩]) := by
  cases l with
  | nil => rw [sign_nil] at h; cases h
  | cons b r =>
    rw [scan_cons]
    have h1 : ¬ blankB b = true := fun hb => by
      rw [sign_none (by simp [blankB] at hb; omega)] at h; cases h
    have h2 : ¬ b.toNat = 35 := fun hb => by rw [sign_none (by omega)] at h; cases h
    rw [if_neg h1, if_neg h2, h]
    simp only
    rw [if_neg (by omega)]
theorem scan_word {x : Tok} (hw : wrd x ≠ ⟨#[]⟩) {r : List UInt8} (hf : fineL r = true) (a : Nat) (acc : List Tok) (ha : acc.length < 1000) : scan ((wrd x).data.toList ++ r) a acc = scan r (a + (wrd x).size) (acc ++ [⟨x.kind, x.name, x.of, a⟩]) := by
  have h1 : signL ((wrd x).data.toList ++ r) = some (x.kind, x.name, x.of, (wrd x).size) := sign_word hw hf
  rw [scan_tok h1 a acc ha]
  rw [← len_size (wrd x), List.drop_left]
theorem scan_blank {b : UInt8} {r : List UInt8} (h : blankB b = true) (a : Nat) (acc : List Tok) : scan (b :: r) a acc = scan r (a + 1) acc := by rw [scan_cons, if_pos h]
/-- without its place -/
def core (t : Tok) : Int × ByteArray × Int := (t.kind, t.name, t.of)
theorem core_at (x : Tok) (a : Int) : core ⟨x.kind, x.name, x.of, a⟩ = core x := rfl
theorem same_core {l m : List Tok} (h : l.map core = m.map core) : sameT false l m = true := by
  have hl : l.length = m.length := by have := congrArg List.length h; simpa using this
  refine same_yes hl fun i ha hb => ?_
  have h1 : (l.map core)[i]? = (m.map core)[i]? := by rw [h]
  rw [List.getElem?_map, List.getElem?_map, List.getElem?_eq_getElem ha, List.getElem?_eq_getElem hb] at h1
  simp only [Option.map_some, Option.some.injEq, core, Prod.mk.injEq] at h1
  unfold eqT
  simp [h1.1, h1.2.1, h1.2.2]
abbrev wl (t : Tok) : List UInt8 := (wrd t).data.toList
theorem tail_cons (x : Tok) (l : List Tok) : Lib.joinTail [32] ((x :: l).map wl) = 32 :: (wl x ++ Lib.joinTail [32] (l.map wl)) := by
  simp [Lib.joinTail]
theorem tail_fine (l : List Tok) : fineL (Lib.joinTail [32] (l.map wl)) = true := by
  cases l with
  | nil => rfl
  | cons x l => rw [tail_cons]; rfl
theorem scan_tail : ∀ (l : List Tok) (a : Nat) (acc : List Tok), (∀ t ∈ l, wrd t ≠ ⟨#[]⟩) → acc.length + l.length ≤ 1000 → ∃ l' : List Tok, scan (Lib.joinTail [32] (l.map wl)) a acc = (acc ++ l', 0, 0) ∧ l.map core = l'.map core
  | [], a, acc, _, _ => ⟨[], by simp [Lib.joinTail, scan_nil], rfl⟩
  | x :: l, a, acc, h, hn => by
    simp only [List.length_cons] at hn
    obtain ⟨l', h1, h2⟩ := scan_tail l (a + 1 + (wrd x).size) (acc ++ [⟨x.kind, x.name, x.of, (a + 1 : Nat)⟩]) (fun t ht => h t (by simp [ht])) (by simp; omega)
    refine ⟨⟨x.kind, x.name, x.of, (a + 1 : Nat)⟩ :: l', ?_, by rw [List.map_cons, List.map_cons, h2]; rfl⟩
    rw [tail_cons, scan_blank rfl, scan_word (h x (by simp)) (tail_fine l) _ _ (by omega), h1, List.append_assoc]
    rfl
theorem scan_join (l : List Tok) (h : ∀ t ∈ l, wrd t ≠ ⟨#[]⟩) (hn : l.length ≤ 1000) : ∃ l' : List Tok, scan (Lib.join (l.map wl) [32]) 0 [] = (l', 0, 0) ∧ l.map core = l'.map core := by
  cases l with
  | nil => exact ⟨[], rfl, rfl⟩
  | cons x l =>
    simp only [List.length_cons] at hn
    obtain ⟨l', h1, h2⟩ := scan_tail l (0 + (wrd x).size) ([] ++ [⟨x.kind, x.name, x.of, (0 : Nat)⟩]) (fun t ht => h t (by simp [ht])) (by simp; omega)
    refine ⟨⟨x.kind, x.name, x.of, (0 : Nat)⟩ :: l', ?_, by rw [List.map_cons, List.map_cons, h2]; rfl⟩
    rw [List.map_cons, Lib.join_cons, scan_word (h x (by simp)) (tail_fine l) _ _ (by simp), h1]
    rfl
theorem text_ok {l : List Tok} (h : (textT l).2 = 0) : l.length ≤ 1000 ∧ (∀ t ∈ l, wrd t ≠ ⟨#[]⟩) ∧ (joinB (l.map wrd)).size ≤ 4000 ∧ (textT l).1 = joinB (l.map wrd) := by
  unfold textT at h ⊢
  by_cases h1 : 1000 < l.length
  · rw [if_pos h1] at h; cases h
  · rw [if_neg h1] at h ⊢
    by_cases h2 : l.all (fun t => decide (wrd t ≠ ⟨#[]⟩)) = true
    · rw [if_pos h2] at h ⊢
      by_cases h3 : 4000 < (joinB (l.map wrd)).size
      · rw [if_pos h3] at h; cases h
      · rw [if_neg h3]
        exact ⟨by omega, fun t ht => of_decide_eq_true (List.all_eq_true.1 h2 t ht), by omega, rfl⟩
    · rw [if_neg h2] at h; cases h
theorem joinB_wl (l : List Tok) : (joinB (l.map wrd)).data.toList = Lib.join (l.map wl) [32] := by
  unfold joinB
  rw [ba_list, List.map_map]
  rfl
/-- WHAT IS WRITTEN IS READ AS IT WAS, but for places -/
theorem text_all {l : List Tok} (h : (textT l).2 = 0) : ∃ l' : List Tok, allT (textT l).1 = (l', 0, 0) ∧ l.map core = l'.map core := by
  obtain ⟨h1, h2, h3, h4⟩ := text_ok h
  obtain ⟨l', h5, h6⟩ := scan_join l h2 h1
  refine ⟨l', ?_, h6⟩
  rw [h4]
  unfold allT
  rw [if_neg (by omega), joinB_wl, h5]
end Go.Proofs.Ytcbcnbefaggnhaa

/- A token's word is what stood there: plain laws. -/
namespace Go.Proofs.Ytcbcnbefaggnhaa
set_option linter.unusedSimpArgs false
set_option linter.unusedVariables false
open Go.RowKit Go.Lib

theorem keyW_word {w : ByteArray} (h : keyW w ≠ 0) : wordT (keyW w) ⟨#[]⟩ 0 = w := by
  unfold keyW at h ⊢
  by_cases e1 : w = ⟨#[97, 110, 100]⟩
  · rw [if_pos e1, e1]; decide
  · rw [if_neg e1] at h ⊢
    by_cases e2 : w = ⟨#[102, 111, 114]⟩
    · rw [if_pos e2, e2]; decide
    · rw [if_neg e2] at h ⊢
      by_cases e3 : w = ⟨#[97, 115]⟩
      · rw [if_pos e3, e3]; decide
      · rw [if_neg e3] at h; exact absurd rfl h
theorem name_back {l : List UInt8} {n : Nat} (h : nameL l = some n) : n = stopN innI l ∧ mayN (ba (l.take n)) = true := by
  rw [name_some] at h
  by_cases hc : lttI (l.headD 0).toNat = true ∧ stopN innI l ≤ 24 ∧ fineL (l.drop (stopN innI l)) = true
  · rw [if_pos hc] at h
    injection h with h
    subst h
    exact ⟨rfl, (may_stop l).2 ⟨hc.1, hc.2.1⟩⟩
  · rw [if_neg hc] at h; cases h
theorem ba_append (a b : List UInt8) : ba (a ++ b) = ba a ++ ba b := by
  apply ByteArray.ext; apply Array.ext'; simp [ba]
theorem plain_back {l : List UInt8} {k : Int} {w : ByteArray} {o : Int} {n : Nat} (h : plainL l = some (k, w, o, n)) : wordT k w o = ba (l.take n) := by
  cases l with
  | nil => cases h
  | cons b r =>
    have hb1 : ∀ c : UInt8, b.toNat = c.toNat → b = c := fun c hc => UInt8.toNat_inj.1 hc
    simp only [plainL] at h
    by_cases c1 : lttI b.toNat = true
    · rw [if_pos c1] at h
      cases hn : nameL (b :: r) with
      | none => rw [hn] at h; cases h
      | some m =>
        rw [hn] at h
        simp only at h
        obtain ⟨_, hm⟩ := name_back hn
        by_cases hk : keyW (ba ((b :: r).take m)) = 0
        · rw [if_pos hk] at h
          simp only [Option.some.injEq, Prod.mk.injEq] at h
          obtain ⟨rfl, rfl, rfl, rfl⟩ := h
          unfold wordT atomW
          rw [if_pos rfl, if_neg (by decide), if_pos hm, if_neg (by decide), if_pos ⟨rfl, hk⟩]
        · rw [if_neg hk] at h
          simp only [Option.some.injEq, Prod.mk.injEq] at h
          obtain ⟨rfl, rfl, rfl, rfl⟩ := h
          exact keyW_word hk
    · rw [if_neg c1] at h
      by_cases c2 : b.toNat = 68
      · rw [if_pos c2] at h
        have := hb1 68 c2
        subst this
        by_cases hf : fineL r = true
        · rw [if_pos hf] at h
          simp only [Option.some.injEq, Prod.mk.injEq] at h
          obtain ⟨rfl, rfl, rfl, rfl⟩ := h
          rfl
        · rw [if_neg hf] at h; cases h
      · rw [if_neg c2] at h
        by_cases c3 : b.toNat = 124
        · rw [if_pos c3] at h
          have := hb1 124 c3
          subst this
          simp only [Option.some.injEq, Prod.mk.injEq] at h
          obtain ⟨rfl, rfl, rfl, rfl⟩ := h
          rfl
        · rw [if_neg c3] at h
          by_cases c4 : b.toNat = 40
          · rw [if_pos c4] at h
            have := hb1 40 c4
            subst this
            simp only [Option.some.injEq, Prod.mk.injEq] at h
            obtain ⟨rfl, rfl, rfl, rfl⟩ := h
            rfl
          · rw [if_neg c4] at h
            by_cases c5 : b.toNat = 41
            · rw [if_pos c5] at h
              have := hb1 41 c5
              subst this
              simp only [Option.some.injEq, Prod.mk.injEq] at h
              obtain ⟨rfl, rfl, rfl, rfl⟩ := h
              rfl
            · rw [if_neg c5] at h
              by_cases c6 : digI b.toNat = true
              · rw [if_pos c6] at h
                by_cases hn : numW (ba ((b :: r).take (stopN digI (b :: r)))) = true ∧ fineL ((b :: r).drop (stopN digI (b :: r))) = true
                · rw [if_pos hn] at h
                  simp only [Option.some.injEq, Prod.mk.injEq] at h
                  obtain ⟨rfl, rfl, rfl, rfl⟩ := h
                  unfold wordT
                  rw [if_neg (by decide), if_neg (by decide), if_pos rfl, if_pos hn.1]
                · rw [if_neg hn] at h; cases h
              · rw [if_neg c6] at h
                by_cases c7 : sigB b.toNat = true
                · rw [if_pos c7] at h
                  simp only [Option.some.injEq, Prod.mk.injEq] at h
                  obtain ⟨rfl, rfl, rfl, rfl⟩ := h
                  have hs : sigW (ba [b]) = true := by
                    rw [sigW_one rfl]; exact c7
                  unfold wordT
                  rw [if_neg (by decide), if_neg (by decide), if_neg (by decide), if_pos rfl, if_pos hs]
                  rfl
                · rw [if_neg c7] at h; cases h
theorem sign_back {l : List UInt8} {k : Int} {w : ByteArray} {o : Int} {n : Nat} (h : signL l = some (k, w, o, n)) : wordT k w o = ba (l.take n) := by
  unfold signL at h
  by_cases hk : kindL l = 0
  · rw [if_pos hk] at h; exact plain_back h
  · rw [if_neg hk] at h
    rcases kindL_cases l with h0 | ⟨hm, hbg⟩
    · exact absurd h0 hk
    · obtain ⟨K, hK⟩ : ∃ K, K = kindL l := ⟨_, rfl⟩
      rw [← hK] at h hm hbg hk
      unfold atomL at h
      cases hn : nameL (l.drop (preW K).size) with
      | none => rw [hn] at h; cases h
      | some m =>
        rw [hn] at h
        simp only [Option.some.injEq, Prod.mk.injEq] at h
        obtain ⟨rfl, rfl, rfl, rfl⟩ := h
        obtain ⟨_, hmay⟩ := name_back hn
        have ho : K = 1 ∨ K = 2 ∨ K = 4 ∨ K = 5 := by simpa [kinds] using hm
        unfold begL at hbg
        have hbt := of_decide_eq_true hbg
        have e : wordT 1 (ba ((l.drop (preW K).size).take m)) K = preW K ++ ba ((l.drop (preW K).size).take m) := by
          unfold wordT atomW
          rw [if_pos rfl, if_neg hk, if_pos hmay, if_pos ho]
        rw [e, List.take_add, ba_append, hbt, ba_eta]
def tot (l : List Tok) : Nat := (l.map fun t => (wrd t).size).sum
theorem tot_snoc (l : List Tok) (t : Tok) : tot (l ++ [t]) = tot l + (wrd t).size := by simp [tot]
theorem ba_ne {w : ByteArray} (h : 1 ≤ w.size) : w ≠ ⟨#[]⟩ := by
  intro e; rw [e] at h; exact absurd h (by decide)
theorem scanF_words : ∀ (f : Nat) (l : List UInt8) (a : Nat) (acc : List Tok), (∀ t ∈ acc, wrd t ≠ ⟨#[]⟩) → (∀ t ∈ (scanF f l a acc).1, wrd t ≠ ⟨#[]⟩) ∧ tot (scanF f l a acc).1 ≤ tot acc + l.length
  | 0, _, _, acc, h => ⟨h, by show tot acc ≤ _; omega⟩
  | f + 1, [], _, acc, h => ⟨h, by show tot acc ≤ _; omega⟩
  | f + 1, b :: r, a, acc, h => by
    have h0 : (∀ t ∈ ([] : List Tok), wrd t ≠ ⟨#[]⟩) ∧ tot [] ≤ tot acc + (b :: r).length := ⟨by simp, by simp [tot]⟩
    simp only [scanF]
    split
    · obtain ⟨h1, h2⟩ := scanF_words f r (a + 1) acc h
      exact ⟨h1, by simp only [List.length_cons]; omega⟩
    · split
      · obtain ⟨h1, h2⟩ := scanF_words f ((b :: r).drop (stopN notI (b :: r))) (a + stopN notI (b :: r)) acc h
        refine ⟨h1, ?_⟩
        rw [List.length_drop] at h2
        omega
      · split
        · exact h0
        · next k w o n hs =>
          split
          · exact h0
          · have hb := sign_back hs
            obtain ⟨a1, a2, _⟩ := signL_ascii hs
            have hsz : (wrd ⟨k, w, o, a⟩).size = n := by
              unfold wrd
              rw [hb, ba_len2, List.length_take]; omega
            obtain ⟨h1, h2⟩ := scanF_words f ((b :: r).drop n) (a + n) (acc ++ [⟨k, w, o, a⟩]) (fun t ht => by
              rcases List.mem_append.1 ht with ht | ht
              · exact h t ht
              · simp only [List.mem_singleton] at ht
                subst ht
                exact ba_ne (by omega))
            refine ⟨h1, ?_⟩
            rw [List.length_drop, tot_snoc, hsz] at h2
            omega
theorem allT_words (s : ByteArray) : (∀ t ∈ (allT s).1, wrd t ≠ ⟨#[]⟩) ∧ tot (allT s).1 ≤ s.size := by
  have hl := len_size s
  unfold allT
  split
  · exact ⟨by simp, by simp [tot]⟩
  · obtain ⟨h1, h2⟩ := scanF_words s.data.toList.length s.data.toList 0 [] (by simp)
    refine ⟨h1, ?_⟩
    have h3 : tot [] = 0 := rfl
    unfold scan
    omega
theorem tot_len : ∀ {l : List Tok}, (∀ t ∈ l, wrd t ≠ ⟨#[]⟩) → l.length ≤ tot l
  | [], _ => by simp
  | t :: l, h => by
    have h1 := tot_len (l := l) (fun x hx => h x (by simp [hx]))
    have h2 : 1 ≤ (wrd t).size := by
      rcases Nat.eq_zero_or_pos (wrd t).size with h0 | h0
      · exact absurd (by rw [← ba_eta (wrd t), List.eq_nil_of_length_eq_zero (show (wrd t).data.toList.length = 0 by rw [len_size]; exact h0)]; rfl) (h t (by simp))
      · exact h0
    have e : tot (t :: l) = (wrd t).size + tot l := by simp [tot]
    rw [e, List.length_cons]; omega
theorem joinB_tot (l : List Tok) : (joinB (l.map wrd)).size ≤ tot l + l.length := by
  unfold joinB
  rw [ba_len2]
  cases l with
  | nil => simp [Lib.join_nil]
  | cons x r =>
    rw [List.map_cons, List.map_cons, Lib.join_length]
    have : Lib.lens ((x :: r).map wl) = tot (x :: r) := by
      simp [Lib.lens, tot, wl]
      rfl
    simp only [List.map_map, List.length_map, List.length_cons, List.length_nil] at this ⊢
    have e : Lib.lens ((wrd x).data.toList :: r.map ((fun x => x.data.toList) ∘ wrd)) = tot (x :: r) := this
    rw [e]; omega
/-- what is read can be written -/
theorem all_text {s : ByteArray} (hs : s.size ≤ 1900) : (textT (allT s).1).2 = 0 := by
  obtain ⟨h1, h2⟩ := allT_words s
  have h3 := allT_len s
  have h4 := tot_len h1
  have h5 := joinB_tot (allT s).1
  unfold textT
  rw [if_neg (by omega), if_pos (List.all_eq_true.2 fun t ht => decide_eq_true (h1 t ht)), if_neg (by omega)]
end Go.Proofs.Ytcbcnbefaggnhaa

/- TokenBack: the call. -/
namespace Go.Proofs.Ytcbcnbefaggnhaa
set_option linter.unusedSimpArgs false
set_option linter.unusedVariables false
open Go.RowKit Go.Lib

theorem allT_err {s : ByteArray} (h : (allT s).2.2 ≠ 0) : (allT s).1 = [] := by
  have gen : ∀ (f : Nat) (l : List UInt8) (a : Nat) (acc : List Tok), (scanF f l a acc).2.2 ≠ 0 → (scanF f l a acc).1 = [] := by
    intro f
    induction f with
    | zero => intro l a acc h; exact absurd rfl h
    | succ f ih =>
      intro l a acc h
      cases l with
      | nil => exact absurd rfl h
      | cons b r =>
        simp only [scanF] at h ⊢
        split at h
        · next c => rw [if_pos c]; exact ih _ _ _ h
        · next c =>
          rw [if_neg c]
          split at h
          · next c2 => rw [if_pos c2]; exact ih _ _ _ h
          · next c2 =>
            rw [if_neg c2]
            split at h
            · rfl
            · next hs =>
              split at h
              · next c3 => rw [if_pos c3]
              · next c3 => rw [if_neg c3]; exact ih _ _ _ h
  unfold allT at h ⊢
  split
  · rfl
  · next c => rw [if_neg c] at h; exact gen _ _ _ _ h
theorem sign_size {l : List UInt8} {k : Int} {w : ByteArray} {o : Int} {n : Nat} (h : signL l = some (k, w, o, n)) (hl : l.length ≤ 1000000) : w.size ≤ 1000000 := by
  have tk : ∀ (l : List UInt8) (n : Nat), l.length ≤ 1000000 → (ba (l.take n)).size ≤ 1000000 := fun l n h => by rw [ba_len2, List.length_take]; omega
  have z : (ba []).size ≤ 1000000 := by decide
  unfold signL at h
  split at h
  · cases l with
    | nil => cases h
    | cons b r =>
      simp only [plainL] at h
      repeat' split at h
      all_goals first
        | (cases h; done)
        | (simp only [Option.some.injEq, Prod.mk.injEq] at h; obtain ⟨_, rfl, _⟩ := h; first | exact tk _ _ hl | exact z | (rw [ba_len2]; simp))
  · unfold atomL at h
    split at h
    · cases h
    · simp only [Option.some.injEq, Prod.mk.injEq] at h
      obtain ⟨_, rfl, _⟩ := h
      exact tk _ _ (by simp; omega)
theorem allT_name {s : ByteArray} (hs : s.size ≤ 1000000) : ∀ t ∈ (allT s).1, t.name.size ≤ 1000000 := by
  have hl := len_size s
  have gen : ∀ (f : Nat) (l : List UInt8) (a : Nat) (acc : List Tok), l.length ≤ 1000000 → (∀ t ∈ acc, t.name.size ≤ 1000000) → ∀ t ∈ (scanF f l a acc).1, t.name.size ≤ 1000000 := by
    intro f
    induction f with
    | zero => intro l a acc _ h; exact h
    | succ f ih =>
      intro l a acc hlen h
      cases l with
      | nil => exact h
      | cons b r =>
        simp only [scanF]
        simp only [List.length_cons] at hlen
        split
        · exact ih _ _ _ (by omega) h
        · split
          · exact ih _ _ _ (by simp; omega) h
          · split
            · simp
            · next k w o n hsg =>
              split
              · simp
              · refine ih _ _ _ (by simp; omega) fun t ht => ?_
                rcases List.mem_append.1 ht with ht | ht
                · exact h t ht
                · simp only [List.mem_singleton] at ht
                  subst ht
                  exact sign_size hsg (by simp; omega)
  unfold allT
  split
  · simp
  · exact gen _ _ _ _ (by omega) (by simp)
set_option maxRecDepth 100000 in
set_option maxHeartbeats 4000000 in
theorem p_back (l : List Tok) (s : ByteArray) (hl : l.length ≤ 9223372036854775807) : PCalls Try.prog 10 [vToks l, .str s] (.bool true) := by
  have h2 := p_large l hl
  simp only [vToks] at h2
  refine pcalls_of (by simp [vToks, free, free.frees, frees_toks]) rfl (acalls_of mixed J_law04_TokenBack_ok (Nat.le_of_ble_eq_true rfl) ?_); simp only [J_law04_TokenBack, vToks, wk,if_true,if_false,forall_const,implies_true,ne_eq,eq_self,Nat.reduceEqDiff,Nat.reduceAdd,Nat.reduceMul,Nat.reduceSub,Nat.reduceLeDiff,Nat.reduceLT,Int.reduceEq,Int.reduceLT,Int.reduceLE,Int.reduceAdd,Int.reduceSub,Int.reduceMul,Int.reduceNeg,Int.reduceNe,reduceCtorEq,Int.reduceToNat,↓reduceIte]
  refine PCalls.use (p_awake04) ?_; simp only [wk,if_true,if_false,forall_const,implies_true,ne_eq,eq_self,Nat.reduceEqDiff,Nat.reduceAdd,Nat.reduceMul,Nat.reduceSub,Nat.reduceLeDiff,Nat.reduceLT,Int.reduceEq,Int.reduceLT,Int.reduceLE,Int.reduceAdd,Int.reduceSub,Int.reduceMul,Int.reduceNeg,Int.reduceNe,reduceCtorEq,Int.reduceToNat,↓reduceIte]
  refine PCalls.use (h2) ?_; simp only [wk,if_true,if_false,forall_const,implies_true,ne_eq,eq_self,Nat.reduceEqDiff,Nat.reduceAdd,Nat.reduceMul,Nat.reduceSub,Nat.reduceLeDiff,Nat.reduceLT,Int.reduceEq,Int.reduceLT,Int.reduceLE,Int.reduceAdd,Int.reduceSub,Int.reduceMul,Int.reduceNeg,Int.reduceNe,reduceCtorEq,Int.reduceToNat,↓reduceIte]
  intro hlg hs
  have hlg2 : l.length ≤ 1100 ∧ ∀ t ∈ l, t.name.size ≤ 100 := by
    unfold largeT at hlg
    rw [Bool.or_eq_false_iff] at hlg
    refine ⟨by have := of_decide_eq_false hlg.1; omega, fun t ht => ?_⟩
    have := List.any_eq_false.1 hlg.2 t ht
    simpa using this
  have hn : ∀ t ∈ l, t.name.size ≤ 1000000 := fun t ht => by have := hlg2.2 t ht; omega
  have h3 := p_ptext l (by omega) hn
  have a1 := p_pall s (by omega)
  have a2 := allT_len s
  have a3 := p_ptext (allT s).1 (by omega) (allT_name (by omega))
  have a4 := @allT_err s
  have a5 := @all_text s
  have a6 := @text_all (allT s).1
  have a7 := @text_ok (allT s).1
  obtain ⟨R, hR⟩ : ∃ R, R = allT s := ⟨_, rfl⟩
  rw [← hR] at a1 a2 a3 a4 a5 a6 a7
  simp only [resV, vToks, vText] at h3 a1 a3
  refine PCalls.use (h3) ?_; simp only [wk,if_true,if_false,forall_const,implies_true,ne_eq,eq_self,Nat.reduceEqDiff,Nat.reduceAdd,Nat.reduceMul,Nat.reduceSub,Nat.reduceLeDiff,Nat.reduceLT,Int.reduceEq,Int.reduceLT,Int.reduceLE,Int.reduceAdd,Int.reduceSub,Int.reduceMul,Int.reduceNeg,Int.reduceNe,reduceCtorEq,Int.reduceToNat,↓reduceIte]
  refine ⟨fun h0 => ?_, fun h0 => ?_⟩
  · obtain ⟨l', b1, b2⟩ := text_all h0
    obtain ⟨t1, t2, t3, t4⟩ := text_ok h0
    have q1 := p_pall (textT l).1 (by rw [t4]; omega)
    have hll : l.length = l'.length := by have := congrArg List.length b2; simpa using this
    have q2 := p_same false l l' (by omega) (by omega)
    rw [same_core b2] at q2
    rw [b1] at q1
    simp only [resV, vToks] at q1 q2
    rw [show ((0 : Nat) : Int) = 0 from rfl] at q1
    refine PCalls.use (q1) ?_; simp only [wk,if_true,if_false,forall_const,implies_true,ne_eq,eq_self,Nat.reduceEqDiff,Nat.reduceAdd,Nat.reduceMul,Nat.reduceSub,Nat.reduceLeDiff,Nat.reduceLT,Int.reduceEq,Int.reduceLT,Int.reduceLE,Int.reduceAdd,Int.reduceSub,Int.reduceMul,Int.reduceNeg,Int.reduceNe,reduceCtorEq,Int.reduceToNat,↓reduceIte]
    refine PCalls.use (q2) ?_; simp only [wk,if_true,if_false,forall_const,implies_true,ne_eq,eq_self,Nat.reduceEqDiff,Nat.reduceAdd,Nat.reduceMul,Nat.reduceSub,Nat.reduceLeDiff,Nat.reduceLT,Int.reduceEq,Int.reduceLT,Int.reduceLE,Int.reduceAdd,Int.reduceSub,Int.reduceMul,Int.reduceNeg,Int.reduceNe,reduceCtorEq,Int.reduceToNat,↓reduceIte]
    simp only [J_law04_TokenBack_j1, wk,if_true,if_false,forall_const,implies_true,ne_eq,eq_self,Nat.reduceEqDiff,Nat.reduceAdd,Nat.reduceMul,Nat.reduceSub,Nat.reduceLeDiff,Nat.reduceLT,Int.reduceEq,Int.reduceLT,Int.reduceLE,Int.reduceAdd,Int.reduceSub,Int.reduceMul,Int.reduceNeg,Int.reduceNe,reduceCtorEq,Int.reduceToNat,↓reduceIte]
    refine PCalls.use (a1) ?_; simp only [wk,if_true,if_false,forall_const,implies_true,ne_eq,eq_self,Nat.reduceEqDiff,Nat.reduceAdd,Nat.reduceMul,Nat.reduceSub,Nat.reduceLeDiff,Nat.reduceLT,Int.reduceEq,Int.reduceLT,Int.reduceLE,Int.reduceAdd,Int.reduceSub,Int.reduceMul,Int.reduceNeg,Int.reduceNe,reduceCtorEq,Int.reduceToNat,↓reduceIte]
    refine ⟨fun e1 => ?_, fun e1 => ?_⟩
    · rw [a4 e1]; rfl
    · refine PCalls.use (a3) ?_; simp only [wk,if_true,if_false,forall_const,implies_true,ne_eq,eq_self,Nat.reduceEqDiff,Nat.reduceAdd,Nat.reduceMul,Nat.reduceSub,Nat.reduceLeDiff,Nat.reduceLT,Int.reduceEq,Int.reduceLT,Int.reduceLE,Int.reduceAdd,Int.reduceSub,Int.reduceMul,Int.reduceNeg,Int.reduceNe,reduceCtorEq,Int.reduceToNat,↓reduceIte]
      refine ⟨fun e2 => ?_, fun e2 => ?_⟩
      · congr 1
        exact decide_eq_true (by
          rcases Nat.lt_or_ge 1900 s.size with h | h
          · omega
          · exact absurd (a5 h) e2)
      · obtain ⟨m', c1, c2⟩ := a6 e2
        obtain ⟨u1, u2, u3, u4⟩ := a7 e2
        have r1 := p_pall (textT R.1).1 (by rw [u4]; omega)
        have hmm : R.1.length = m'.length := by have := congrArg List.length c2; simpa using this
        have r2 := p_same false R.1 m' (by omega) (by omega)
        rw [same_core c2] at r2
        rw [c1] at r1
        simp only [resV, vToks] at r1 r2
        refine PCalls.use (r1) ?_; simp only [wk,if_true,if_false,forall_const,implies_true,ne_eq,eq_self,Nat.reduceEqDiff,Nat.reduceAdd,Nat.reduceMul,Nat.reduceSub,Nat.reduceLeDiff,Nat.reduceLT,Int.reduceEq,Int.reduceLT,Int.reduceLE,Int.reduceAdd,Int.reduceSub,Int.reduceMul,Int.reduceNeg,Int.reduceNe,reduceCtorEq,Int.reduceToNat,↓reduceIte]
        refine PCalls.use (r2) ?_; simp only [wk,if_true,if_false,forall_const,implies_true,ne_eq,eq_self,Nat.reduceEqDiff,Nat.reduceAdd,Nat.reduceMul,Nat.reduceSub,Nat.reduceLeDiff,Nat.reduceLT,Int.reduceEq,Int.reduceLT,Int.reduceLE,Int.reduceAdd,Int.reduceSub,Int.reduceMul,Int.reduceNeg,Int.reduceNe,reduceCtorEq,Int.reduceToNat,↓reduceIte]
  · simp only [J_law04_TokenBack_j1, wk,if_true,if_false,forall_const,implies_true,ne_eq,eq_self,Nat.reduceEqDiff,Nat.reduceAdd,Nat.reduceMul,Nat.reduceSub,Nat.reduceLeDiff,Nat.reduceLT,Int.reduceEq,Int.reduceLT,Int.reduceLE,Int.reduceAdd,Int.reduceSub,Int.reduceMul,Int.reduceNeg,Int.reduceNe,reduceCtorEq,Int.reduceToNat,↓reduceIte]
    refine PCalls.use (a1) ?_; simp only [wk,if_true,if_false,forall_const,implies_true,ne_eq,eq_self,Nat.reduceEqDiff,Nat.reduceAdd,Nat.reduceMul,Nat.reduceSub,Nat.reduceLeDiff,Nat.reduceLT,Int.reduceEq,Int.reduceLT,Int.reduceLE,Int.reduceAdd,Int.reduceSub,Int.reduceMul,Int.reduceNeg,Int.reduceNe,reduceCtorEq,Int.reduceToNat,↓reduceIte]
    refine ⟨fun e1 => ?_, fun e1 => ?_⟩
    · rw [a4 e1]; rfl
    · refine PCalls.use (a3) ?_; simp only [wk,if_true,if_false,forall_const,implies_true,ne_eq,eq_self,Nat.reduceEqDiff,Nat.reduceAdd,Nat.reduceMul,Nat.reduceSub,Nat.reduceLeDiff,Nat.reduceLT,Int.reduceEq,Int.reduceLT,Int.reduceLE,Int.reduceAdd,Int.reduceSub,Int.reduceMul,Int.reduceNeg,Int.reduceNe,reduceCtorEq,Int.reduceToNat,↓reduceIte]
      refine ⟨fun e2 => ?_, fun e2 => ?_⟩
      · congr 1
        exact decide_eq_true (by
          rcases Nat.lt_or_ge 1900 s.size with h | h
          · omega
          · exact absurd (a5 h) e2)
      · obtain ⟨m', c1, c2⟩ := a6 e2
        obtain ⟨u1, u2, u3, u4⟩ := a7 e2
        have r1 := p_pall (textT R.1).1 (by rw [u4]; omega)
        have hmm : R.1.length = m'.length := by have := congrArg List.length c2; simpa using this
        have r2 := p_same false R.1 m' (by omega) (by omega)
        rw [same_core c2] at r2
        rw [c1] at r1
        simp only [resV, vToks] at r1 r2
        refine PCalls.use (r1) ?_; simp only [wk,if_true,if_false,forall_const,implies_true,ne_eq,eq_self,Nat.reduceEqDiff,Nat.reduceAdd,Nat.reduceMul,Nat.reduceSub,Nat.reduceLeDiff,Nat.reduceLT,Int.reduceEq,Int.reduceLT,Int.reduceLE,Int.reduceAdd,Int.reduceSub,Int.reduceMul,Int.reduceNeg,Int.reduceNe,reduceCtorEq,Int.reduceToNat,↓reduceIte]
        refine PCalls.use (r2) ?_; simp only [wk,if_true,if_false,forall_const,implies_true,ne_eq,eq_self,Nat.reduceEqDiff,Nat.reduceAdd,Nat.reduceMul,Nat.reduceSub,Nat.reduceLeDiff,Nat.reduceLT,Int.reduceEq,Int.reduceLT,Int.reduceLE,Int.reduceAdd,Int.reduceSub,Int.reduceMul,Int.reduceNeg,Int.reduceNe,reduceCtorEq,Int.reduceToNat,↓reduceIte]
end Go.Proofs.Ytcbcnbefaggnhaa
