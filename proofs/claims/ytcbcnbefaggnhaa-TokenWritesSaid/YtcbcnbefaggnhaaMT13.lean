/- Texts of one proof, laid together: Kl Km Kn Ko Kp. -/
import Derived.Test.YtcbcnbefaggnhaaMT11
import Derived.Test.YtcbcnbefaggnhaaMT12
import Derived.Test.YtcbcnbefaggnhaaMT1
import Derived.Shelf.Strings.OnBuilder

/- strings.Join: the kit's contract, as a call that leaves all objects alone. -/
namespace Go.Proofs.Ytcbcnbefaggnhaa
set_option linter.unusedSimpArgs false
set_option linter.unusedVariables false
open Go.RowKit Go.Lib Go.Shelf

theorem xJoin : Builder.Extra Try.prog lJoin_ren where
  sizeBuilder := by kernel_rfl
  liesBuilder := by kernel_rfl
  t5 := Try.underlying5
  a5 := Try.isAgg5
  z5 := Try.sizeOf5
  v5 := Try.zeroValue5
  infoByte := by kernel_rfl
  cellsByte := by kernel_rfl
  sizeByte := by kernel_rfl
  neB5 := by decide
def joinB (l : List ByteArray) : ByteArray := ba (Lib.join (l.map (·.data.toList)) [32])
theorem rep_cap {g : Gh} {x : Value} {z : AV} (h : Rep g x z) : ∀ a n c f m l, x = .slice a n c → z = .lst f m l → n ≤ c := by
  intro a n c f m l h1 h2
  cases h <;> first
    | (cases h2; done)
    | (cases h1; assumption)
    | (cases h1; omega)
theorem p_join (l : List ByteArray) (hl : l.length ≤ 1000000) (hs : (joinB l).size ≤ 140737488355328) : PCalls Try.prog 72 [.lst .ro l.length (l.map .str), .str ⟨#[32]⟩] (.str (joinB l)) := by
  refine pcalls_calls (by simp [free, free.frees, frees_str]) rfl rfl (by kernel_rfl) ?_
  intro g w vargs hsim hr
  obtain ⟨v, vs, rfl, hv, hvs⟩ : ∃ v vs, vargs = v :: vs ∧ Rep g v (.lst .ro l.length (l.map .str)) ∧ RepL g vs [.str ⟨#[32]⟩] := by
    cases hr with
    | cons h1 h2 => exact ⟨_, _, rfl, h1, h2⟩
  cases hvs with
  | cons h1 h2 =>
  cases h1
  cases h2
  obtain ⟨a, c, rfl, hrow⟩ := rep_strs hsim hv
  have hm : ∀ (e : Ending) (w' : World), e = .returned (.string ⟨(Lib.join (l.map (·.data.toList)) (⟨#[32]⟩ : ByteArray).data.toList).toArray⟩) ∧ Below w.heap.size w w' → ∃ x, e = .returned x ∧ Below w.heap.size w w' ∧ Rep (g.news w w') x (.str (joinB l)) := by
    rintro e w' ⟨rfl, hb⟩
    exact ⟨_, rfl, hb, .str _⟩
  have hcap : l.length ≤ c := rep_cap hv _ _ _ _ _ _ rfl rfl
  by_cases h0 : l = []
  · subst h0
    exact (Any.strings_Join_none (P := Try.prog) lJoin xJoin a c ⟨#[32]⟩ w).mono fun e w' h => hm e w' ⟨by rw [h.1]; rfl, h.2 ▸ Below.refl _ _⟩
  · rcases hrow with h1 | ⟨b, off, rfl, hcells⟩
    · exact absurd (by simpa using h1) h0
    · have hc2 : ∀ (j : Nat) x, l[j]? = some x → w.cell? ⟨b, off + j, none⟩ = some (.string x) := fun j x hj => hcells j (.string x) (by rw [List.getElem?_map, hj]; rfl)
      obtain ⟨y, r, hyr⟩ := List.exists_cons_of_ne_nil h0
      have hbk : b < w.heap.size := World.block_lt_of_cell? w ⟨b, off + 0, none⟩ (hc2 0 y (by rw [hyr]; rfl))
      exact (Any.strings_Join (P := Try.prog) lJoin xJoin b off c l ⟨#[32]⟩ w hc2 hbk (by omega) hcap (by unfold joinB at hs; rw [ba_len2] at hs; exact hs)).mono hm
end Go.Proofs.Ytcbcnbefaggnhaa

/- Text: the program's and the reference's. -/
namespace Go.Proofs.Ytcbcnbefaggnhaa
set_option linter.unusedSimpArgs false
set_option linter.unusedVariables false
open Go.RowKit Go.Lib

def wrd (t : Tok) : ByteArray := wordT t.kind t.name t.of
abbrev TextR := ByteArray × Int
def textT (l : List Tok) : TextR :=
  if 1000 < l.length then (⟨#[]⟩, 3)
  else if l.all (fun t => decide (wrd t ≠ ⟨#[]⟩)) = true then (if 4000 < (joinB (l.map wrd)).size then (⟨#[]⟩, 2) else (joinB (l.map wrd), 0))
  else (⟨#[]⟩, 2)
def vText (r : TextR) : AV := .tup [.str r.1, .int .i64 r.2]
theorem atomW_size (o : Int) (w : ByteArray) : (atomW o w).size ≤ w.size + 6 := by
  have h3 : (⟨#[]⟩ : ByteArray).size = 0 := rfl
  unfold atomW
  repeat' split
  all_goals first
    | omega
    | (have := preW_size o; rw [ByteArray.size_append]; omega)
theorem wordT_size (k : Int) (w : ByteArray) (o : Int) : (wordT k w o).size ≤ w.size + 6 := by
  have h0 : (⟨#[]⟩ : ByteArray).size = 0 := rfl
  have h1 : (⟨#[97, 110, 100]⟩ : ByteArray).size = 3 := rfl
  have h2 : (⟨#[102, 111, 114]⟩ : ByteArray).size = 3 := rfl
  have h3 : (⟨#[97, 115]⟩ : ByteArray).size = 2 := rfl
  have h4 : (⟨#[124]⟩ : ByteArray).size = 1 := rfl
  have h5 : (⟨#[40]⟩ : ByteArray).size = 1 := rfl
  have h6 : (⟨#[41]⟩ : ByteArray).size = 1 := rfl
  have := atomW_size o w
  unfold wordT
  repeat' split
  all_goals omega
theorem join_size : ∀ (l : List ByteArray) (c : Nat), (∀ x ∈ l, x.size ≤ c) → (joinB l).size ≤ l.length * (c + 1) := by
  intro l c h
  unfold joinB
  rw [ba_len2]
  cases l with
  | nil => simp [Lib.join_nil]
  | cons x r =>
    rw [List.map_cons, Lib.join_length]
    have gen : ∀ l : List ByteArray, (∀ x ∈ l, x.size ≤ c) → Lib.lens (l.map (·.data.toList)) ≤ l.length * c := by
      intro l
      induction l with
      | nil => intro _; simp [Lib.lens]
      | cons y l ih =>
        intro h
        have h1 := h y (by simp)
        have h2 := ih (fun z hz => h z (by simp [hz]))
        have h3 := len_size y
        simp only [Lib.lens, List.map_cons, List.sum_cons, List.length_cons, Nat.add_mul] at h2 ⊢
        omega
    have this := gen (x :: r) h
    rw [List.map_cons] at this
    simp only [List.length_map, List.length_cons, List.length_nil, Nat.mul_add, Nat.mul_one] at this ⊢
    omega
/-- the program's words so far, and the places that are empty yet -/
def wordsC (l : List Tok) (n : Nat) : List AV := l.map (fun t => .str (wrd t)) ++ List.replicate n (.str ⟨#[]⟩)
theorem wordsC_0 (n : Nat) : ((List.range n).map fun i => [AV.str ⟨#[]⟩].getD (i % 1) .nilp) = wordsC [] n := by
  unfold wordsC
  apply List.ext_getElem
  · simp
  · intro i h1 h2
    simp [Nat.mod_one]
theorem wordsC_len (l : List Tok) (n : Nat) : (wordsC l n).length = l.length + n := by simp [wordsC]
theorem wordsC_set {l : List Tok} {i : Nat} (h : i < l.length) : (wordsC (l.take i) (l.length - i)).set i (.str (wrd l[i])) = wordsC (l.take (i + 1)) (l.length - (i + 1)) := by
  unfold wordsC
  rw [List.set_append_right _ _ (by simp; omega), show i - ((l.take i).map fun t => AV.str (wrd t)).length = 0 by simp; omega]
  rw [show l.length - i = (l.length - (i + 1)) + 1 by omega, List.replicate_succ, List.set_cons_zero, List.take_succ_eq_append_getElem h]
  simp only [List.map_append, List.map_cons, List.map_nil, List.append_assoc, List.singleton_append]
theorem wordsC_drop {l : List Tok} {i : Nat} (h : i < l.length) (m : Nat) : (wordsC (l.take (i + 1)) m).drop i = .str (wordT l[i].kind l[i].name l[i].of) :: List.replicate m (.str ⟨#[]⟩) := by
  unfold wordsC
  have hi : ((l.take i).map fun t => AV.str (wrd t)).length = i := by simp; omega
  rw [List.take_succ_eq_append_getElem h, List.map_append, List.append_assoc]
  conv => lhs; arg 1; rw [← hi]
  rw [List.drop_left]
  rfl
theorem text_no {l : List Tok} {i : Nat} (h : i < l.length) (he : wordT l[i].kind l[i].name l[i].of = ⟨#[]⟩) {x y : TextR} : (if l.all (fun t => decide (wrd t ≠ ⟨#[]⟩)) = true then x else y) = y := by
  rw [if_neg]
  intro h2
  have := of_decide_eq_true (List.all_eq_true.1 h2 _ (List.getElem_mem h))
  exact this he
set_option maxRecDepth 100000 in
set_option maxHeartbeats 4000000 in
theorem p_ptext (l : List Tok) (hl : l.length ≤ 1000000) (hs : ∀ t ∈ l, t.name.size ≤ 1000000) : PCalls Try.prog 37 [vToks l] (vText (textT l)) := by
  refine pcalls_of (by simp [vToks, free, free.frees, frees_toks]) rfl (ACalls.weak (acalls_of mixed J_token_Text_ok (Nat.le_of_ble_eq_true rfl) ?_)); simp only [J_token_Text, vToks, wk,if_true,if_false,forall_const,implies_true,ne_eq,eq_self,Nat.reduceEqDiff,Nat.reduceAdd,Nat.reduceMul,Nat.reduceSub,Nat.reduceLeDiff,Nat.reduceLT,Int.reduceEq,Int.reduceLT,Int.reduceLE,Int.reduceAdd,Int.reduceSub,Int.reduceMul,Int.reduceNeg,Int.reduceNe,reduceCtorEq,Int.reduceToNat,↓reduceIte]
  refine ⟨fun hbig => ?_, fun hbig => ?_⟩
  · unfold textT
    rw [if_pos (by omega)]
    rfl
  refine ⟨⟨by omega, by omega, by omega⟩, ?_⟩
  rw [Int.toNat_natCast, wordsC_0]
  refine W_loop (fun n fr h' => ∃ (i : Nat) (ex : Hp), i ≤ l.length ∧ n = l.length - i ∧ h' = some (false, wordsC (l.take i) (l.length - i)) :: ex ∧ fr = [(4, .hs 0 l.length), (14, .lst .ro l.length (toksC l)), (15, .int .i64 l.length), (16, .int .i64 i)] ∧ ∀ t ∈ l.take i, wrd t ≠ ⟨#[]⟩) l.length ⟨0, [], by omega, by omega, by simp, rfl, by simp⟩ ?_
  rintro n fr h' ⟨i, ex, hi, rfl, rfl, rfl, hall⟩
  simp only [J_token_Text_j2, wk,if_true,if_false,forall_const,implies_true,ne_eq,eq_self,Nat.reduceEqDiff,Nat.reduceAdd,Nat.reduceMul,Nat.reduceSub,Nat.reduceLeDiff,Nat.reduceLT,Int.reduceEq,Int.reduceLT,Int.reduceLE,Int.reduceAdd,Int.reduceSub,Int.reduceMul,Int.reduceNeg,Int.reduceNe,reduceCtorEq,Int.reduceToNat,↓reduceIte]
  refine ⟨fun hlt => ?_, fun hge => ?_⟩
  · have hil : i < l.length := by omega
    have hd : (toksC l).drop ((i : Int).toNat * 4) = _ := toksC_drop hil
    have q := p_word l[i].kind l[i].name l[i].of l[i].at_ (hs _ (List.getElem_mem hil))
    refine ⟨⟨by omega, by omega⟩, ?_⟩
    simp only [hd, wk,if_true,if_false,forall_const,implies_true,ne_eq,eq_self,Nat.reduceEqDiff,Nat.reduceAdd,Nat.reduceMul,Nat.reduceSub,Nat.reduceLeDiff,Nat.reduceLT,Int.reduceEq,Int.reduceLT,Int.reduceLE,Int.reduceAdd,Int.reduceSub,Int.reduceMul,Int.reduceNeg,Int.reduceNe,reduceCtorEq,Int.reduceToNat,↓reduceIte]
    refine PCalls.use (q) ?_; simp only [wk,if_true,if_false,forall_const,implies_true,ne_eq,eq_self,Nat.reduceEqDiff,Nat.reduceAdd,Nat.reduceMul,Nat.reduceSub,Nat.reduceLeDiff,Nat.reduceLT,Int.reduceEq,Int.reduceLT,Int.reduceLE,Int.reduceAdd,Int.reduceSub,Int.reduceMul,Int.reduceNeg,Int.reduceNe,reduceCtorEq,Int.reduceToNat,↓reduceIte]
    have hset : (wordsC (l.take i) (l.length - i)).set i (.str (wordT l[i].kind l[i].name l[i].of)) = wordsC (l.take (i + 1)) (l.length - (i + 1)) := wordsC_set hil
    rw [Int.toNat_natCast, hset, wordsC_drop hil]
    have hlen := wordsC_len (l.take i) (l.length - i)
    rw [List.length_take] at hlen
    simp only [wk,if_true,if_false,forall_const,implies_true,ne_eq,eq_self,Nat.reduceEqDiff,Nat.reduceAdd,Nat.reduceMul,Nat.reduceSub,Nat.reduceLeDiff,Nat.reduceLT,Int.reduceEq,Int.reduceLT,Int.reduceLE,Int.reduceAdd,Int.reduceSub,Int.reduceMul,Int.reduceNeg,Int.reduceNe,reduceCtorEq,Int.reduceToNat,↓reduceIte]
    refine ⟨⟨by omega, by omega⟩, by omega, ⟨by omega, by omega⟩, fun he => ?_, fun hne => ?_⟩
    · unfold textT
      rw [if_neg (by omega), text_no hil he]
      rfl
    · refine ⟨inR_of (by omega) (by omega), l.length - (i + 1), by omega, i + 1, _, by omega, rfl, rfl, by simp, ?_⟩
      intro t ht
      rw [List.take_succ_eq_append_getElem hil] at ht
      rcases List.mem_append.1 ht with ht | ht
      · exact hall t ht
      · simp at ht; subst ht; exact hne
  · have : i = l.length := by omega
    subst this
    rw [List.take_length] at hall ⊢
    rw [Nat.sub_self]
    have hw : (wordsC l 0).map deg = (l.map wrd).map AV.str := by
      unfold wordsC
      simp [deg]
    have hjs := join_size (l.map wrd) 1000006 (fun x hx => by
      obtain ⟨t, ht, rfl⟩ := List.mem_map.1 hx
      have := wordT_size t.kind t.name t.of
      have := hs t ht
      unfold wrd; omega)
    rw [List.length_map] at hjs
    have hall2 : l.all (fun t => decide (wrd t ≠ ⟨#[]⟩)) = true := by
      rw [List.all_eq_true]; intro t ht; exact decide_eq_true (hall t ht)
    have qj := p_join (l.map wrd) (by rw [List.length_map]; omega) (by
      have : l.length * (1000006 + 1) ≤ 1000 * (1000006 + 1) := Nat.mul_le_mul_right _ (by omega)
      omega)
    rw [List.length_map] at qj
    simp only [J_token_Text_j1, wk,if_true,if_false,forall_const,implies_true,ne_eq,eq_self,Nat.reduceEqDiff,Nat.reduceAdd,Nat.reduceMul,Nat.reduceSub,Nat.reduceLeDiff,Nat.reduceLT,Int.reduceEq,Int.reduceLT,Int.reduceLE,Int.reduceAdd,Int.reduceSub,Int.reduceMul,Int.reduceNeg,Int.reduceNe,reduceCtorEq,Int.reduceToNat,↓reduceIte]
    refine ACalls.use (PCalls.iced qj _ (by simp only [fzs_cons, fzs_nil, fz_str]; rw [fz_hs (s := false) (l := wordsC l 0) rfl, hw])) ?_
    rintro _ _ ⟨rfl, rfl⟩
    simp only [fgt_str, wk,if_true,if_false,forall_const,implies_true,ne_eq,eq_self,Nat.reduceEqDiff,Nat.reduceAdd,Nat.reduceMul,Nat.reduceSub,Nat.reduceLeDiff,Nat.reduceLT,Int.reduceEq,Int.reduceLT,Int.reduceLE,Int.reduceAdd,Int.reduceSub,Int.reduceMul,Int.reduceNeg,Int.reduceNe,reduceCtorEq,Int.reduceToNat,↓reduceIte]
    unfold textT
    rw [if_neg (by omega), if_pos hall2]
    refine ⟨fun h => ?_, fun h => ?_⟩
    · rw [if_pos (by omega)]; rfl
    · rw [if_neg (by omega)]; rfl
theorem joinB_nil : joinB [] = ⟨#[]⟩ := rfl
theorem joinB_snoc (l : List ByteArray) (x : ByteArray) : joinB (l ++ [x]) = if l = [] then x else joinB l ++ ⟨#[32]⟩ ++ x := by
  cases l with
  | nil =>
    rw [if_pos rfl]
    unfold joinB
    rw [List.nil_append, List.map_cons, List.map_nil, Lib.join_one, ba_eta]
  | cons y r =>
    rw [if_neg (by simp)]
    unfold joinB
    rw [List.cons_append, List.map_cons, Lib.join_cons, List.map_cons, Lib.join_cons]
    apply ByteArray.ext
    apply Array.ext'
    simp [ba, Lib.joinTail]
set_option maxRecDepth 100000 in
set_option maxHeartbeats 4000000 in
theorem p_rtext (l : List Tok) (hl : l.length ≤ 1000000) (hs : ∀ t ∈ l, t.name.size ≤ 1000000) : PCalls Try.prog 38 [vToks l] (vText (textT l)) := by
  refine pcalls_of (by simp [vToks, free, free.frees, frees_toks]) rfl (acalls_of mixed J_ref04_Text_ok (Nat.le_of_ble_eq_true rfl) ?_); simp only [J_ref04_Text, vToks, wk,if_true,if_false,forall_const,implies_true,ne_eq,eq_self,Nat.reduceEqDiff,Nat.reduceAdd,Nat.reduceMul,Nat.reduceSub,Nat.reduceLeDiff,Nat.reduceLT,Int.reduceEq,Int.reduceLT,Int.reduceLE,Int.reduceAdd,Int.reduceSub,Int.reduceMul,Int.reduceNeg,Int.reduceNe,reduceCtorEq,Int.reduceToNat,↓reduceIte]
  refine ⟨fun hbig => ?_, fun hbig => ?_⟩
  · unfold textT
    rw [if_pos (by omega)]
    rfl
  refine W_loop (fun n fr h' => ∃ i : Nat, i ≤ l.length ∧ n = l.length - i ∧ fr = [(0, .lst .ro l.length (toksC l)), (4, .str (joinB ((l.take i).map wrd))), (5, .int .i64 i)] ∧ ∀ t ∈ l.take i, wrd t ≠ ⟨#[]⟩) l.length ⟨0, by omega, by omega, by rw [List.take_zero, List.map_nil, joinB_nil]; rfl, by simp⟩ ?_
  rintro n fr h' ⟨i, hi, rfl, rfl, hall⟩
  have hjs := join_size ((l.take i).map wrd) 1000006 (fun x hx => by
    obtain ⟨t, ht, rfl⟩ := List.mem_map.1 hx
    have := wordT_size t.kind t.name t.of
    have := hs t (List.mem_of_mem_take ht)
    unfold wrd; omega)
  rw [List.length_map, List.length_take] at hjs
  have hjs2 : (joinB ((l.take i).map wrd)).size ≤ 1000 * (1000006 + 1) := Nat.le_trans hjs (Nat.mul_le_mul_right _ (by omega))
  simp only [J_ref04_Text_j3, wk,if_true,if_false,forall_const,implies_true,ne_eq,eq_self,Nat.reduceEqDiff,Nat.reduceAdd,Nat.reduceMul,Nat.reduceSub,Nat.reduceLeDiff,Nat.reduceLT,Int.reduceEq,Int.reduceLT,Int.reduceLE,Int.reduceAdd,Int.reduceSub,Int.reduceMul,Int.reduceNeg,Int.reduceNe,reduceCtorEq,Int.reduceToNat,↓reduceIte]
  refine ⟨fun hlt => ?_, fun hge => ?_⟩
  · have hil : i < l.length := by omega
    have hd : (toksC l).drop ((i : Int).toNat * 4) = _ := toksC_drop hil
    have q := p_rword04 l[i].kind l[i].name l[i].of l[i].at_ (hs _ (List.getElem_mem hil))
    refine ⟨⟨by omega, by omega⟩, ?_⟩
    simp only [hd, wk,if_true,if_false,forall_const,implies_true,ne_eq,eq_self,Nat.reduceEqDiff,Nat.reduceAdd,Nat.reduceMul,Nat.reduceSub,Nat.reduceLeDiff,Nat.reduceLT,Int.reduceEq,Int.reduceLT,Int.reduceLE,Int.reduceAdd,Int.reduceSub,Int.reduceMul,Int.reduceNeg,Int.reduceNe,reduceCtorEq,Int.reduceToNat,↓reduceIte]
    refine PCalls.use (q) ?_; simp only [wk,if_true,if_false,forall_const,implies_true,ne_eq,eq_self,Nat.reduceEqDiff,Nat.reduceAdd,Nat.reduceMul,Nat.reduceSub,Nat.reduceLeDiff,Nat.reduceLT,Int.reduceEq,Int.reduceLT,Int.reduceLE,Int.reduceAdd,Int.reduceSub,Int.reduceMul,Int.reduceNeg,Int.reduceNe,reduceCtorEq,Int.reduceToNat,↓reduceIte]
    refine ⟨fun he => ?_, fun hne => ?_⟩
    · unfold textT
      rw [if_neg (by omega), text_no hil he]
      rfl
    have hws := wordT_size l[i].kind l[i].name l[i].of
    have hsn := hs _ (List.getElem_mem hil)
    have h32 : (⟨#[32]⟩ : ByteArray).size = 1 := rfl
    have hsn2 := joinB_snoc ((l.take i).map wrd) (wrd l[i])
    rw [← List.map_singleton, ← List.map_append, ← List.take_succ_eq_append_getElem hil] at hsn2
    have hall3 : ∀ t ∈ l.take (i + 1), wrd t ≠ ⟨#[]⟩ := by
      intro t ht
      rw [List.take_succ_eq_append_getElem hil] at ht
      rcases List.mem_append.1 ht with ht | ht
      · exact hall t ht
      · simp at ht; subst ht; exact hne
    refine ⟨fun hp => ⟨by omega, ?_⟩, fun hz => ?_⟩
    · have hnz : ¬ (l.take i).map wrd = [] := by
        intro h; have := congrArg List.length h; rw [List.length_map, List.length_take, List.length_nil] at this; omega
      rw [if_neg hnz] at hsn2
      simp only [J_ref04_Text_j2, wk,if_true,if_false,forall_const,implies_true,ne_eq,eq_self,Nat.reduceEqDiff,Nat.reduceAdd,Nat.reduceMul,Nat.reduceSub,Nat.reduceLeDiff,Nat.reduceLT,Int.reduceEq,Int.reduceLT,Int.reduceLE,Int.reduceAdd,Int.reduceSub,Int.reduceMul,Int.reduceNeg,Int.reduceNe,reduceCtorEq,Int.reduceToNat,↓reduceIte]
      refine ⟨by rw [ByteArray.size_append, h32]; omega, inR_of (by omega) (by omega), l.length - (i + 1), by omega, i + 1, by omega, rfl, ?_, hall3⟩
      rw [hsn2]; rfl
    · have h0 : i = 0 := by omega
      subst h0
      rw [if_pos (by simp)] at hsn2
      have hz0 : joinB [] = ⟨#[]⟩ := rfl
      have hz1 : (joinB []).size = 0 := rfl
      simp only [J_ref04_Text_j2, wk,if_true,if_false,forall_const,implies_true,ne_eq,eq_self,Nat.reduceEqDiff,Nat.reduceAdd,Nat.reduceMul,Nat.reduceSub,Nat.reduceLeDiff,Nat.reduceLT,Int.reduceEq,Int.reduceLT,Int.reduceLE,Int.reduceAdd,Int.reduceSub,Int.reduceMul,Int.reduceNeg,Int.reduceNe,reduceCtorEq,Int.reduceToNat,↓reduceIte]
      refine ⟨by omega, inR_of (by omega) (by omega), l.length - (0 + 1), by omega, 0 + 1, by omega, rfl, ?_, hall3⟩
      rw [hsn2, hz0, ba_empty]; rfl
  · have : i = l.length := by omega
    subst this
    rw [List.take_length] at hall ⊢
    rw [List.take_length] at hjs2
    have hall2 : l.all (fun t => decide (wrd t ≠ ⟨#[]⟩)) = true := by
      rw [List.all_eq_true]; intro t ht; exact decide_eq_true (hall t ht)
    simp only [J_ref04_Text_j1, wk,if_true,if_false,forall_const,implies_true,ne_eq,eq_self,Nat.reduceEqDiff,Nat.reduceAdd,Nat.reduceMul,Nat.reduceSub,Nat.reduceLeDiff,Nat.reduceLT,Int.reduceEq,Int.reduceLT,Int.reduceLE,Int.reduceAdd,Int.reduceSub,Int.reduceMul,Int.reduceNeg,Int.reduceNe,reduceCtorEq,Int.reduceToNat,↓reduceIte]
    unfold textT
    rw [if_neg (by omega), if_pos hall2]
    refine ⟨fun h => ?_, fun h => ?_⟩
    · rw [if_pos (by omega)]; rfl
    · rw [if_neg (by omega)]; rfl
end Go.Proofs.Ytcbcnbefaggnhaa

/- The laws' own functions: same, large, awake. -/
namespace Go.Proofs.Ytcbcnbefaggnhaa
set_option linter.unusedSimpArgs false
set_option linter.unusedVariables false
open Go.RowKit Go.Lib

def eqT (p : Bool) (x y : Tok) : Bool := decide (x.kind = y.kind) && (decide (x.name = y.name) && (decide (x.of = y.of) && (!p || decide (x.at_ = y.at_))))
def sameT (p : Bool) (a b : List Tok) : Bool := decide (a.length = b.length) && (a.zip b).all fun x => eqT p x.1 x.2
theorem same_no {p : Bool} {a b : List Tok} {i : Nat} (ha : i < a.length) (hb : i < b.length) (h : eqT p a[i] b[i] = false) : sameT p a b = false := by
  unfold sameT
  have : (a.zip b).all (fun x => eqT p x.1 x.2) = false := by
    rw [List.all_eq_false]
    refine ⟨(a[i], b[i]), List.mem_iff_getElem.2 ⟨i, by rw [List.length_zip]; omega, by rw [List.getElem_zip]⟩, by simp [h]⟩
  rw [this, Bool.and_false]
theorem same_yes {p : Bool} {a b : List Tok} (hl : a.length = b.length) (h : ∀ i (ha : i < a.length) (hb : i < b.length), eqT p a[i] b[i] = true) : sameT p a b = true := by
  unfold sameT
  rw [decide_eq_true hl, Bool.true_and, List.all_eq_true]
  intro x hx
  obtain ⟨i, hi, rfl⟩ := List.mem_iff_getElem.1 hx
  rw [List.length_zip] at hi
  rw [List.getElem_zip]
  exact h i (by omega) (by omega)
section
variable {α : Type} (h : List α) (x y z : α)
theorem hole_1 : (if 1 < (h ++ [x, y]).length then some ((h ++ [x, y]).length - 1 - 1) else none) = some h.length := by
  rw [if_pos (by simp)]; simp
theorem hole_0 : (if 0 < (h ++ [x, y]).length then some ((h ++ [x, y]).length - 1 - 0) else none) = some (h.length + 1) := by
  rw [if_pos (by simp)]; simp
theorem hole_set1 : (h ++ [x, y]).set h.length z = h ++ [z, y] := by
  rw [List.set_append_right _ _ (Nat.le_refl _), Nat.sub_self]; rfl
theorem hole_set2 : (h ++ [x, y]).set (h.length + 1) z = h ++ [x, z] := by
  rw [List.set_append_right _ _ (by omega), show h.length + 1 - h.length = 1 by omega]; rfl
theorem hole_get1 : (h ++ [x, y])[h.length]? = some x := by
  rw [List.getElem?_append_right (Nat.le_refl _), Nat.sub_self]; rfl
theorem hole_get2 : (h ++ [x, y])[h.length + 1]? = some y := by
  rw [List.getElem?_append_right (by omega), show h.length + 1 - h.length = 1 by omega]; rfl
end
theorem eq_tok (k k' : Int) (w w' : ByteArray) (o o' a a' : Int) : eqCells [0, 1, 0, 0] [.int .i64 k, .str w, .int .i64 o, .int .i64 a] [.int .i64 k', .str w', .int .i64 o', .int .i64 a'] = some (decide (k = k') && (decide (w = w') && (decide (o = o') && decide (a = a')))) := by
  simp only [eqCells, eqCell, if_true, Bool.and_true]
set_option maxRecDepth 100000 in
set_option maxHeartbeats 4000000 in
theorem p_same (p : Bool) (a b : List Tok) (hla : a.length ≤ 1000000) (hlb : b.length ≤ 1000000) : PCalls Try.prog 35 [vToks a, vToks b, .bool p] (.bool (sameT p a b)) := by
  refine pcalls_of (by simp [vToks, free, free.frees, frees_toks]) rfl (ACalls.weak (acalls_of mixed J_law04_same_ok (Nat.le_of_ble_eq_true rfl) ?_)); simp only [J_law04_same, vToks, wk,if_true,if_false,forall_const,implies_true,ne_eq,eq_self,Nat.reduceEqDiff,Nat.reduceAdd,Nat.reduceMul,Nat.reduceSub,Nat.reduceLeDiff,Nat.reduceLT,Int.reduceEq,Int.reduceLT,Int.reduceLE,Int.reduceAdd,Int.reduceSub,Int.reduceMul,Int.reduceNeg,Int.reduceNe,reduceCtorEq,Int.reduceToNat,↓reduceIte]
  refine ⟨fun hne => ?_, fun heq => ?_⟩
  · have : ¬ a.length = b.length := by omega
    unfold sameT
    rw [decide_eq_false this, Bool.false_and]
    rfl
  have hl : a.length = b.length := by omega
  refine W_loop (fun n fr h' => ∃ i : Nat, i ≤ a.length ∧ n = a.length - i ∧ fr = [(0, .lst .ro a.length (toksC a)), (1, .lst .ro b.length (toksC b)), (2, .bool p), (16, .int .i64 a.length), (17, .int .i64 i)] ∧ ∀ j (ha : j < a.length) (hb : j < b.length), j < i → eqT p a[j] b[j] = true) a.length ⟨0, by omega, by omega, rfl, fun j ha hb h => by omega⟩ ?_
  rintro n fr h' ⟨i, hi, rfl, rfl, hall⟩
  simp only [J_law04_same_j3, wk,if_true,if_false,forall_const,implies_true,ne_eq,eq_self,Nat.reduceEqDiff,Nat.reduceAdd,Nat.reduceMul,Nat.reduceSub,Nat.reduceLeDiff,Nat.reduceLT,Int.reduceEq,Int.reduceLT,Int.reduceLE,Int.reduceAdd,Int.reduceSub,Int.reduceMul,Int.reduceNeg,Int.reduceNe,reduceCtorEq,Int.reduceToNat,↓reduceIte]
  refine ⟨fun hlt => ?_, fun hge => ?_⟩
  · have hil : i < a.length := by omega
    have hib : i < b.length := by omega
    have hd : (toksC a).drop ((i : Int).toNat * 4) = _ := toksC_drop hil
    have hd2 : (toksC b).drop ((i : Int).toNat * 4) = _ := toksC_drop hib
    simp only [hd, hd2, hole_1, hole_0, hole_set1, hole_set2, hole_get1, hole_get2, wk,if_true,if_false,forall_const,implies_true,ne_eq,eq_self,Nat.reduceEqDiff,Nat.reduceAdd,Nat.reduceMul,Nat.reduceSub,Nat.reduceLeDiff,Nat.reduceLT,Int.reduceEq,Int.reduceLT,Int.reduceLE,Int.reduceAdd,Int.reduceSub,Int.reduceMul,Int.reduceNeg,Int.reduceNe,reduceCtorEq,Int.reduceToNat,↓reduceIte]
    refine ⟨⟨by omega, by omega⟩, ⟨by omega, by omega⟩, fun hp => ?_, fun hp => ?_⟩
    · subst hp
      simp only [J_law04_same_j2, hole_1, hole_0, hole_set1, hole_set2, hole_get1, hole_get2, wk,if_true,if_false,forall_const,implies_true,ne_eq,eq_self,Nat.reduceEqDiff,Nat.reduceAdd,Nat.reduceMul,Nat.reduceSub,Nat.reduceLeDiff,Nat.reduceLT,Int.reduceEq,Int.reduceLT,Int.reduceLE,Int.reduceAdd,Int.reduceSub,Int.reduceMul,Int.reduceNeg,Int.reduceNe,reduceCtorEq,Int.reduceToNat,↓reduceIte]
      rw [eq_tok]
      simp only [Option.map_some, wk,if_true,if_false,forall_const,implies_true,ne_eq,eq_self,Nat.reduceEqDiff,Nat.reduceAdd,Nat.reduceMul,Nat.reduceSub,Nat.reduceLeDiff,Nat.reduceLT,Int.reduceEq,Int.reduceLT,Int.reduceLE,Int.reduceAdd,Int.reduceSub,Int.reduceMul,Int.reduceNeg,Int.reduceNe,reduceCtorEq,Int.reduceToNat,↓reduceIte]
      refine ⟨fun h => ?_, fun h => ⟨inR_of (by omega) (by omega), a.length - (i + 1), by omega, i + 1, by omega, rfl, rfl, ?_⟩⟩
      · rw [same_no hil hib (by unfold eqT; simpa using h)]
        rfl
      · intro j ha hb hj
        by_cases hji : j = i
        · subst hji
          unfold eqT
          simpa using h
        · exact hall j ha hb (by omega)
    · subst hp
      simp only [J_law04_same_j2, hole_1, hole_0, hole_set1, hole_set2, hole_get1, hole_get2, wk,if_true,if_false,forall_const,implies_true,ne_eq,eq_self,Nat.reduceEqDiff,Nat.reduceAdd,Nat.reduceMul,Nat.reduceSub,Nat.reduceLeDiff,Nat.reduceLT,Int.reduceEq,Int.reduceLT,Int.reduceLE,Int.reduceAdd,Int.reduceSub,Int.reduceMul,Int.reduceNeg,Int.reduceNe,reduceCtorEq,Int.reduceToNat,↓reduceIte]
      rw [eq_tok]
      simp only [Option.map_some, wk,if_true,if_false,forall_const,implies_true,ne_eq,eq_self,Nat.reduceEqDiff,Nat.reduceAdd,Nat.reduceMul,Nat.reduceSub,Nat.reduceLeDiff,Nat.reduceLT,Int.reduceEq,Int.reduceLT,Int.reduceLE,Int.reduceAdd,Int.reduceSub,Int.reduceMul,Int.reduceNeg,Int.reduceNe,reduceCtorEq,Int.reduceToNat,↓reduceIte]
      refine ⟨fun h => ?_, fun h => ⟨inR_of (by omega) (by omega), a.length - (i + 1), by omega, i + 1, by omega, rfl, rfl, ?_⟩⟩
      · rw [same_no hil hib (by unfold eqT; simpa using h)]
        rfl
      · intro j ha hb hj
        by_cases hji : j = i
        · subst hji
          unfold eqT
          simpa using h
        · exact hall j ha hb (by omega)
  · simp only [J_law04_same_j1, wk,if_true,if_false,forall_const,implies_true,ne_eq,eq_self,Nat.reduceEqDiff,Nat.reduceAdd,Nat.reduceMul,Nat.reduceSub,Nat.reduceLeDiff,Nat.reduceLT,Int.reduceEq,Int.reduceLT,Int.reduceLE,Int.reduceAdd,Int.reduceSub,Int.reduceMul,Int.reduceNeg,Int.reduceNe,reduceCtorEq,Int.reduceToNat,↓reduceIte]
    rw [same_yes hl (fun j ha hb => hall j ha hb (by omega))]
    rfl
end Go.Proofs.Ytcbcnbefaggnhaa

/- large, awake; TokenReads. -/
namespace Go.Proofs.Ytcbcnbefaggnhaa
set_option linter.unusedSimpArgs false
set_option linter.unusedVariables false
open Go.RowKit Go.Lib

def largeT (l : List Tok) : Bool := decide (1100 < l.length) || l.any fun t => decide (100 < t.name.size)
set_option maxRecDepth 100000 in
set_option maxHeartbeats 4000000 in
theorem p_large (l : List Tok) (hl : l.length ≤ 9223372036854775807) : PCalls Try.prog 36 [vToks l] (.bool (largeT l)) := by
  refine pcalls_of (by simp [vToks, free, free.frees, frees_toks]) rfl (acalls_of mixed J_law04_large_ok (Nat.le_of_ble_eq_true rfl) ?_); simp only [J_law04_large, vToks, wk,if_true,if_false,forall_const,implies_true,ne_eq,eq_self,Nat.reduceEqDiff,Nat.reduceAdd,Nat.reduceMul,Nat.reduceSub,Nat.reduceLeDiff,Nat.reduceLT,Int.reduceEq,Int.reduceLT,Int.reduceLE,Int.reduceAdd,Int.reduceSub,Int.reduceMul,Int.reduceNeg,Int.reduceNe,reduceCtorEq,Int.reduceToNat,↓reduceIte]
  refine ⟨fun hbig => ?_, fun hbig => ?_⟩
  · unfold largeT
    rw [decide_eq_true (show 1100 < l.length by omega), Bool.true_or]
  refine W_loop (fun n fr h' => ∃ i : Nat, i ≤ l.length ∧ n = l.length - i ∧ fr = [(0, .lst .ro l.length (toksC l)), (8, .int .i64 l.length), (9, .int .i64 i)] ∧ ∀ t ∈ l.take i, ¬ 100 < t.name.size) l.length ⟨0, by omega, by omega, rfl, by simp⟩ ?_
  rintro n fr h' ⟨i, hi, rfl, rfl, hall⟩
  simp only [J_law04_large_j2, wk,if_true,if_false,forall_const,implies_true,ne_eq,eq_self,Nat.reduceEqDiff,Nat.reduceAdd,Nat.reduceMul,Nat.reduceSub,Nat.reduceLeDiff,Nat.reduceLT,Int.reduceEq,Int.reduceLT,Int.reduceLE,Int.reduceAdd,Int.reduceSub,Int.reduceMul,Int.reduceNeg,Int.reduceNe,reduceCtorEq,Int.reduceToNat,↓reduceIte]
  refine ⟨fun hlt => ?_, fun hge => ?_⟩
  · have hil : i < l.length := by omega
    have hd : (toksC l).drop ((i : Int).toNat * 4) = _ := toksC_drop hil
    refine ⟨⟨by omega, by omega⟩, ?_⟩
    simp only [hd, wk,if_true,if_false,forall_const,implies_true,ne_eq,eq_self,Nat.reduceEqDiff,Nat.reduceAdd,Nat.reduceMul,Nat.reduceSub,Nat.reduceLeDiff,Nat.reduceLT,Int.reduceEq,Int.reduceLT,Int.reduceLE,Int.reduceAdd,Int.reduceSub,Int.reduceMul,Int.reduceNeg,Int.reduceNe,reduceCtorEq,Int.reduceToNat,↓reduceIte]
    refine ⟨fun h => ?_, fun h => ⟨inR_of (by omega) (by omega), l.length - (i + 1), by omega, i + 1, by omega, rfl, rfl, ?_⟩⟩
    · have : l.any (fun t => decide (100 < t.name.size)) = true := List.any_eq_true.2 ⟨_, List.getElem_mem hil, decide_eq_true (by omega)⟩
      unfold largeT
      rw [this, Bool.or_true]
    · intro t ht
      rw [List.take_succ_eq_append_getElem hil] at ht
      rcases List.mem_append.1 ht with ht | ht
      · exact hall t ht
      · simp at ht; subst ht; omega
  · rw [List.take_of_length_le (by omega)] at hall
    simp only [J_law04_large_j1, wk,if_true,if_false,forall_const,implies_true,ne_eq,eq_self,Nat.reduceEqDiff,Nat.reduceAdd,Nat.reduceMul,Nat.reduceSub,Nat.reduceLeDiff,Nat.reduceLT,Int.reduceEq,Int.reduceLT,Int.reduceLE,Int.reduceAdd,Int.reduceSub,Int.reduceMul,Int.reduceNeg,Int.reduceNe,reduceCtorEq,Int.reduceToNat,↓reduceIte]
    unfold largeT
    rw [decide_eq_false (show ¬ 1100 < l.length by omega), Bool.false_or]
    congr 1
    symm
    rw [List.any_eq_false]
    intro t ht
    simpa using hall t ht
theorem eq_tok_self (k : Int) (w : ByteArray) (o a : Int) : eqCells [0, 1, 0, 0] [.int .i64 k, .str w, .int .i64 o, .int .i64 a] [.int .i64 k, .str w, .int .i64 o, .int .i64 a] = some true := by
  rw [eq_tok]; simp
def c1 : ByteArray := ⟨#[107, 101, 121, 58, 107, 49, 124, 97, 108, 105, 99, 101, 32, 97, 115, 32, 114, 111, 108, 101, 58, 114, 32, 35, 32, 120]⟩
def c2 : ByteArray := ⟨#[97, 32, 75]⟩
def L5 : List Tok := [⟨1, ⟨#[107, 49]⟩, 1, 0⟩, ⟨4, ⟨#[]⟩, 0, 6⟩, ⟨1, ⟨#[97, 108, 105, 99, 101]⟩, 3, 7⟩, ⟨5, ⟨#[]⟩, 0, 13⟩, ⟨1, ⟨#[114]⟩, 5, 16⟩]
theorem all_c1 : allT c1 = (L5, 0, 0) := by kernel_rfl
theorem all_c2 : allT c2 = ([], 2, 2) := by kernel_rfl
theorem text_L5 : textT L5 = (⟨#[107, 101, 121, 58, 107, 49, 32, 124, 32, 97, 108, 105, 99, 101, 32, 97, 115, 32, 114, 111, 108, 101, 58, 114]⟩, 0) := by kernel_rfl
set_option maxRecDepth 100000 in
set_option maxHeartbeats 4000000 in
theorem p_awake04 : PCalls Try.prog 32 [] (.bool true) := by
  have q1 := p_pall c1 (by decide)
  have q2 := p_pall c2 (by decide)
  have q3 := p_ptext L5 (by decide) (by decide)
  have q4 := p_word 4 ⟨#[]⟩ 0 6 (by decide)
  have q5 := p_word 0 ⟨#[]⟩ 0 0 (by decide)
  rw [all_c1] at q1
  rw [all_c2] at q2
  rw [text_L5] at q3
  rw [show wordT 4 ⟨#[]⟩ 0 = ⟨#[124]⟩ by kernel_rfl] at q4
  rw [show wordT 0 ⟨#[]⟩ 0 = ⟨#[]⟩ by kernel_rfl] at q5
  simp only [resV, vToks, toksC, L5, List.flatMap_cons, List.flatMap_nil, tC, List.cons_append, List.nil_append, List.length_cons, List.length_nil, vText] at q1 q2 q3
  refine pcalls_of (by first | rfl | simp [free, free.frees, frees_str, frees_u8, frees_u16]) (by first | rfl | simp [free, free.frees, frees_str, frees_u8, frees_u16]) (acalls_of mixed J_law04_awake_ok (Nat.le_of_ble_eq_true rfl) ?_); simp only [J_law04_awake, wk,if_true,if_false,forall_const,implies_true,ne_eq,eq_self,Nat.reduceEqDiff,Nat.reduceAdd,Nat.reduceMul,Nat.reduceSub,Nat.reduceLeDiff,Nat.reduceLT,Int.reduceEq,Int.reduceLT,Int.reduceLE,Int.reduceAdd,Int.reduceSub,Int.reduceMul,Int.reduceNeg,Int.reduceNe,reduceCtorEq,Int.reduceToNat,↓reduceIte]
  refine PCalls.use (q1) ?_; simp only [wk,if_true,if_false,forall_const,implies_true,ne_eq,eq_self,Nat.reduceEqDiff,Nat.reduceAdd,Nat.reduceMul,Nat.reduceSub,Nat.reduceLeDiff,Nat.reduceLT,Int.reduceEq,Int.reduceLT,Int.reduceLE,Int.reduceAdd,Int.reduceSub,Int.reduceMul,Int.reduceNeg,Int.reduceNe,reduceCtorEq,Int.reduceToNat,↓reduceIte]
  refine PCalls.use (q2) ?_; simp only [wk,if_true,if_false,forall_const,implies_true,ne_eq,eq_self,Nat.reduceEqDiff,Nat.reduceAdd,Nat.reduceMul,Nat.reduceSub,Nat.reduceLeDiff,Nat.reduceLT,Int.reduceEq,Int.reduceLT,Int.reduceLE,Int.reduceAdd,Int.reduceSub,Int.reduceMul,Int.reduceNeg,Int.reduceNe,reduceCtorEq,Int.reduceToNat,↓reduceIte]
  refine PCalls.use (q3) ?_; simp only [wk,if_true,if_false,forall_const,implies_true,ne_eq,eq_self,Nat.reduceEqDiff,Nat.reduceAdd,Nat.reduceMul,Nat.reduceSub,Nat.reduceLeDiff,Nat.reduceLT,Int.reduceEq,Int.reduceLT,Int.reduceLE,Int.reduceAdd,Int.reduceSub,Int.reduceMul,Int.reduceNeg,Int.reduceNe,reduceCtorEq,Int.reduceToNat,↓reduceIte]
  simp only [eq_tok_self, Option.map_some, wk,if_true,if_false,forall_const,implies_true,ne_eq,eq_self,Nat.reduceEqDiff,Nat.reduceAdd,Nat.reduceMul,Nat.reduceSub,Nat.reduceLeDiff,Nat.reduceLT,Int.reduceEq,Int.reduceLT,Int.reduceLE,Int.reduceAdd,Int.reduceSub,Int.reduceMul,Int.reduceNeg,Int.reduceNe,reduceCtorEq,Int.reduceToNat,↓reduceIte]
  repeat' (first | (refine PCalls.use q4 ?_; simp only [eq_tok_self, Option.map_some, wk,if_true,if_false,forall_const,implies_true,ne_eq,eq_self,Nat.reduceEqDiff,Nat.reduceAdd,Nat.reduceMul,Nat.reduceSub,Nat.reduceLeDiff,Nat.reduceLT,Int.reduceEq,Int.reduceLT,Int.reduceLE,Int.reduceAdd,Int.reduceSub,Int.reduceMul,Int.reduceNeg,Int.reduceNe,reduceCtorEq,Int.reduceToNat,↓reduceIte]) | (refine PCalls.use q5 ?_; simp only [eq_tok_self, Option.map_some, wk,if_true,if_false,forall_const,implies_true,ne_eq,eq_self,Nat.reduceEqDiff,Nat.reduceAdd,Nat.reduceMul,Nat.reduceSub,Nat.reduceLeDiff,Nat.reduceLT,Int.reduceEq,Int.reduceLT,Int.reduceLE,Int.reduceAdd,Int.reduceSub,Int.reduceMul,Int.reduceNeg,Int.reduceNe,reduceCtorEq,Int.reduceToNat,↓reduceIte]) | (with_reducible refine And.intro ?_ ?_) | intro _)
  all_goals first
    | decide
    | rfl
    | exact absurd rfl (by assumption)
end Go.Proofs.Ytcbcnbefaggnhaa

/- TokenReads and TokenWrites: the calls. -/
namespace Go.Proofs.Ytcbcnbefaggnhaa
set_option linter.unusedSimpArgs false
set_option linter.unusedVariables false
open Go.RowKit Go.Lib

theorem scanF_len : ∀ (f : Nat) (l : List UInt8) (a : Nat) (acc : List Tok), acc.length ≤ 1000 → (scanF f l a acc).1.length ≤ 1000
  | 0, _, _, acc, h => h
  | f + 1, [], _, acc, h => h
  | f + 1, b :: r, a, acc, h => by
    simp only [scanF]
    split
    · exact scanF_len f r _ _ h
    · split
      · exact scanF_len f _ _ _ h
      · split
        · simp
        · split
          · simp
          · exact scanF_len f _ _ _ (by simp; omega)
theorem allT_len (s : ByteArray) : (allT s).1.length ≤ 1000 := by
  unfold allT
  split
  · simp
  · exact scanF_len _ _ _ _ (by simp)
theorem eqT_refl (p : Bool) (x : Tok) : eqT p x x = true := by unfold eqT; simp
theorem sameT_refl (p : Bool) (a : List Tok) : sameT p a a = true := same_yes rfl fun i ha hb => eqT_refl p _
set_option maxRecDepth 100000 in
set_option maxHeartbeats 4000000 in
theorem p_reads (s : ByteArray) : PCalls Try.prog 8 [.str s] (.bool true) := by
  refine pcalls_of (by first | rfl | simp [free, free.frees, frees_str, frees_u8, frees_u16]) (by first | rfl | simp [free, free.frees, frees_str, frees_u8, frees_u16]) (acalls_of mixed J_law04_TokenReads_ok (Nat.le_of_ble_eq_true rfl) ?_); simp only [J_law04_TokenReads, wk,if_true,if_false,forall_const,implies_true,ne_eq,eq_self,Nat.reduceEqDiff,Nat.reduceAdd,Nat.reduceMul,Nat.reduceSub,Nat.reduceLeDiff,Nat.reduceLT,Int.reduceEq,Int.reduceLT,Int.reduceLE,Int.reduceAdd,Int.reduceSub,Int.reduceMul,Int.reduceNeg,Int.reduceNe,reduceCtorEq,Int.reduceToNat,↓reduceIte]
  refine PCalls.use (p_awake04) ?_; simp only [wk,if_true,if_false,forall_const,implies_true,ne_eq,eq_self,Nat.reduceEqDiff,Nat.reduceAdd,Nat.reduceMul,Nat.reduceSub,Nat.reduceLeDiff,Nat.reduceLT,Int.reduceEq,Int.reduceLT,Int.reduceLE,Int.reduceAdd,Int.reduceSub,Int.reduceMul,Int.reduceNeg,Int.reduceNe,reduceCtorEq,Int.reduceToNat,↓reduceIte]
  intro hs
  have h1 := p_pall s (by omega)
  have h2 := p_rall s (by omega)
  have hlen := allT_len s
  have h3 := p_same true (allT s).1 (allT s).1 (by omega) (by omega)
  rw [sameT_refl] at h3
  obtain ⟨L, hL⟩ : ∃ L, L = (allT s).1 := ⟨_, rfl⟩
  simp only [resV, ← hL] at h1 h2
  rw [← hL] at h3 hlen
  simp only [vToks] at h1 h2 h3
  refine PCalls.use (h1) ?_; simp only [wk,if_true,if_false,forall_const,implies_true,ne_eq,eq_self,Nat.reduceEqDiff,Nat.reduceAdd,Nat.reduceMul,Nat.reduceSub,Nat.reduceLeDiff,Nat.reduceLT,Int.reduceEq,Int.reduceLT,Int.reduceLE,Int.reduceAdd,Int.reduceSub,Int.reduceMul,Int.reduceNeg,Int.reduceNe,reduceCtorEq,Int.reduceToNat,↓reduceIte]
  refine PCalls.use (h2) ?_; simp only [wk,if_true,if_false,forall_const,implies_true,ne_eq,eq_self,Nat.reduceEqDiff,Nat.reduceAdd,Nat.reduceMul,Nat.reduceSub,Nat.reduceLeDiff,Nat.reduceLT,Int.reduceEq,Int.reduceLT,Int.reduceLE,Int.reduceAdd,Int.reduceSub,Int.reduceMul,Int.reduceNeg,Int.reduceNe,reduceCtorEq,Int.reduceToNat,↓reduceIte]
  refine PCalls.use (h3) ?_; simp only [wk,if_true,if_false,forall_const,implies_true,ne_eq,eq_self,Nat.reduceEqDiff,Nat.reduceAdd,Nat.reduceMul,Nat.reduceSub,Nat.reduceLeDiff,Nat.reduceLT,Int.reduceEq,Int.reduceLT,Int.reduceLE,Int.reduceAdd,Int.reduceSub,Int.reduceMul,Int.reduceNeg,Int.reduceNe,reduceCtorEq,Int.reduceToNat,↓reduceIte]
set_option maxRecDepth 100000 in
set_option maxHeartbeats 4000000 in
theorem p_writes (l : List Tok) (hl : l.length ≤ 9223372036854775807) : PCalls Try.prog 9 [vToks l] (.bool true) := by
  have h2 := p_large l hl
  simp only [vToks] at h2
  refine pcalls_of (by simp [vToks, free, free.frees, frees_toks]) rfl (acalls_of mixed J_law04_TokenWrites_ok (Nat.le_of_ble_eq_true rfl) ?_); simp only [J_law04_TokenWrites, vToks, wk,if_true,if_false,forall_const,implies_true,ne_eq,eq_self,Nat.reduceEqDiff,Nat.reduceAdd,Nat.reduceMul,Nat.reduceSub,Nat.reduceLeDiff,Nat.reduceLT,Int.reduceEq,Int.reduceLT,Int.reduceLE,Int.reduceAdd,Int.reduceSub,Int.reduceMul,Int.reduceNeg,Int.reduceNe,reduceCtorEq,Int.reduceToNat,↓reduceIte]
  refine PCalls.use (p_awake04) ?_; simp only [wk,if_true,if_false,forall_const,implies_true,ne_eq,eq_self,Nat.reduceEqDiff,Nat.reduceAdd,Nat.reduceMul,Nat.reduceSub,Nat.reduceLeDiff,Nat.reduceLT,Int.reduceEq,Int.reduceLT,Int.reduceLE,Int.reduceAdd,Int.reduceSub,Int.reduceMul,Int.reduceNeg,Int.reduceNe,reduceCtorEq,Int.reduceToNat,↓reduceIte]
  refine PCalls.use (h2) ?_; simp only [wk,if_true,if_false,forall_const,implies_true,ne_eq,eq_self,Nat.reduceEqDiff,Nat.reduceAdd,Nat.reduceMul,Nat.reduceSub,Nat.reduceLeDiff,Nat.reduceLT,Int.reduceEq,Int.reduceLT,Int.reduceLE,Int.reduceAdd,Int.reduceSub,Int.reduceMul,Int.reduceNeg,Int.reduceNe,reduceCtorEq,Int.reduceToNat,↓reduceIte]
  intro hlg
  have hlg2 : l.length ≤ 1100 ∧ ∀ t ∈ l, t.name.size ≤ 100 := by
    unfold largeT at hlg
    rw [Bool.or_eq_false_iff] at hlg
    refine ⟨by have := of_decide_eq_false hlg.1; omega, fun t ht => ?_⟩
    have := List.any_eq_false.1 hlg.2 t ht
    simpa using this
  have hn : ∀ t ∈ l, t.name.size ≤ 1000000 := fun t ht => by have := hlg2.2 t ht; omega
  have h3 := p_ptext l (by omega) hn
  have h4 := p_rtext l (by omega) hn
  have h5 := p_same true l l (by omega) (by omega)
  rw [sameT_refl] at h5
  simp only [vToks, vText] at h3 h4 h5
  refine ⟨⟨toksC_len l, by omega, by omega⟩, ?_⟩
  refine PCalls.use (h3) ?_; simp only [wk,if_true,if_false,forall_const,implies_true,ne_eq,eq_self,Nat.reduceEqDiff,Nat.reduceAdd,Nat.reduceMul,Nat.reduceSub,Nat.reduceLeDiff,Nat.reduceLT,Int.reduceEq,Int.reduceLT,Int.reduceLE,Int.reduceAdd,Int.reduceSub,Int.reduceMul,Int.reduceNeg,Int.reduceNe,reduceCtorEq,Int.reduceToNat,↓reduceIte]
  refine PCalls.use (h4) ?_; simp only [wk,if_true,if_false,forall_const,implies_true,ne_eq,eq_self,Nat.reduceEqDiff,Nat.reduceAdd,Nat.reduceMul,Nat.reduceSub,Nat.reduceLeDiff,Nat.reduceLT,Int.reduceEq,Int.reduceLT,Int.reduceLE,Int.reduceAdd,Int.reduceSub,Int.reduceMul,Int.reduceNeg,Int.reduceNe,reduceCtorEq,Int.reduceToNat,↓reduceIte]
  refine PCalls.use (h5) ?_; simp only [wk,if_true,if_false,forall_const,implies_true,ne_eq,eq_self,Nat.reduceEqDiff,Nat.reduceAdd,Nat.reduceMul,Nat.reduceSub,Nat.reduceLeDiff,Nat.reduceLT,Int.reduceEq,Int.reduceLT,Int.reduceLE,Int.reduceAdd,Int.reduceSub,Int.reduceMul,Int.reduceNeg,Int.reduceNe,reduceCtorEq,Int.reduceToNat,↓reduceIte]
  refine W_loop (fun n fr h' => ∃ i : Nat, i ≤ l.length ∧ n = l.length - i ∧ fr = [(0, .lst .ro l.length (toksC l)), (41, .int .i64 l.length), (42, .int .i64 i)]) l.length ⟨0, by omega, by omega, rfl⟩ ?_
  rintro n fr h' ⟨i, hi, rfl, rfl⟩
  simp only [J_law04_TokenWrites_j2, wk,if_true,if_false,forall_const,implies_true,ne_eq,eq_self,Nat.reduceEqDiff,Nat.reduceAdd,Nat.reduceMul,Nat.reduceSub,Nat.reduceLeDiff,Nat.reduceLT,Int.reduceEq,Int.reduceLT,Int.reduceLE,Int.reduceAdd,Int.reduceSub,Int.reduceMul,Int.reduceNeg,Int.reduceNe,reduceCtorEq,Int.reduceToNat,↓reduceIte]
  refine ⟨fun hlt => ?_, fun hge => ?_⟩
  · have hil : i < l.length := by omega
    have hd : (toksC l).drop ((i : Int).toNat * 4) = _ := toksC_drop hil
    have qa := p_word l[i].kind l[i].name l[i].of l[i].at_ (hn _ (List.getElem_mem hil))
    have qb := p_rword04 l[i].kind l[i].name l[i].of l[i].at_ (hn _ (List.getElem_mem hil))
    refine ⟨⟨by omega, by omega⟩, ?_⟩
    simp only [hd, wk,if_true,if_false,forall_const,implies_true,ne_eq,eq_self,Nat.reduceEqDiff,Nat.reduceAdd,Nat.reduceMul,Nat.reduceSub,Nat.reduceLeDiff,Nat.reduceLT,Int.reduceEq,Int.reduceLT,Int.reduceLE,Int.reduceAdd,Int.reduceSub,Int.reduceMul,Int.reduceNeg,Int.reduceNe,reduceCtorEq,Int.reduceToNat,↓reduceIte]
    refine ⟨_, qa, ⟨by omega, by omega⟩, _, qb, ?_⟩
    simp only [wk,if_true,if_false,forall_const,implies_true,ne_eq,eq_self,Nat.reduceEqDiff,Nat.reduceAdd,Nat.reduceMul,Nat.reduceSub,Nat.reduceLeDiff,Nat.reduceLT,Int.reduceEq,Int.reduceLT,Int.reduceLE,Int.reduceAdd,Int.reduceSub,Int.reduceMul,Int.reduceNeg,Int.reduceNe,reduceCtorEq,Int.reduceToNat,↓reduceIte]
    exact ⟨inR_of (by omega) (by omega), l.length - (i + 1), by omega, i + 1, by omega, rfl, rfl⟩
  · simp only [J_law04_TokenWrites_j1, wk,if_true,if_false,forall_const,implies_true,ne_eq,eq_self,Nat.reduceEqDiff,Nat.reduceAdd,Nat.reduceMul,Nat.reduceSub,Nat.reduceLeDiff,Nat.reduceLT,Int.reduceEq,Int.reduceLT,Int.reduceLE,Int.reduceAdd,Int.reduceSub,Int.reduceMul,Int.reduceNeg,Int.reduceNe,reduceCtorEq,Int.reduceToNat,↓reduceIte]
end Go.Proofs.Ytcbcnbefaggnhaa
