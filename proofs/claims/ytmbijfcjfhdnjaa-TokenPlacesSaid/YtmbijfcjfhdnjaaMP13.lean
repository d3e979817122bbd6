/- Texts of one proof, laid together: Kl Km Kn Ko Kp Kr Ks Kt Ku Ky KA Kw KB. -/
import Derived.Test.YtmbijfcjfhdnjaaMP11
import Derived.Test.YtmbijfcjfhdnjaaMP12
import Derived.Test.YtmbijfcjfhdnjaaMP1
import Derived.Shelf.Strings.OnBuilder

/- strings.Join: the kit's contract, as a call that leaves all objects alone. -/
namespace Go.Proofs.Ytmbijfcjfhdnjaa
set_option linter.unusedSimpArgs false
set_option linter.unusedVariables false
open Go.RowKit Go.Lib Go.Shelf

theorem xJoin : Builder.Extra Try.prog lJoin_ren where
  sizeBuilder := by kernel_rfl
  liesBuilder := by kernel_rfl
  t5 := Try.underlying5
  a5 := Try.isAgg5
  z5 := Try.sizeOf5
  v5 := Try.zeroValue5
  infoByte := by kernel_rfl
  cellsByte := by kernel_rfl
  sizeByte := by kernel_rfl
  neB5 := by decide
def joinB (l : List ByteArray) : ByteArray := ba (Lib.join (l.map (·.data.toList)) [32])
theorem rep_cap {g : Gh} {x : Value} {z : AV} (h : Rep g x z) : ∀ a n c f m l, x = .slice a n c → z = .lst f m l → n ≤ c := by
  intro a n c f m l h1 h2
  cases h <;> first
    | (cases h2; done)
    | (cases h1; assumption)
    | (cases h1; omega)
theorem p_join (l : List ByteArray) (hl : l.length ≤ 1000000) (hs : (joinB l).size ≤ 140737488355328) : PCalls Try.prog 46 [.lst .ro l.length (l.map .str), .str ⟨#[32]⟩] (.str (joinB l)) := by
  refine pcalls_calls (by simp [free, free.frees, frees_str]) rfl rfl (by kernel_rfl) ?_
  intro g w vargs hsim hr
  obtain ⟨v, vs, rfl, hv, hvs⟩ : ∃ v vs, vargs = v :: vs ∧ Rep g v (.lst .ro l.length (l.map .str)) ∧ RepL g vs [.str ⟨#[32]⟩] := by
    cases hr with
    | cons h1 h2 => exact ⟨_, _, rfl, h1, h2⟩
  cases hvs with
  | cons h1 h2 =>
  cases h1
  cases h2
  obtain ⟨a, c, rfl, hrow⟩ := rep_strs hsim hv
  have hm : ∀ (e : Ending) (w' : World), e = .returned (.string ⟨(Lib.join (l.map (·.data.toList)) (⟨#[32]⟩ : ByteArray).data.toList).toArray⟩) ∧ Below w.heap.size w w' → ∃ x, e = .returned x ∧ Below w.heap.size w w' ∧ Rep (g.news w w') x (.str (joinB l)) := by
    rintro e w' ⟨rfl, hb⟩
    exact ⟨_, rfl, hb, .str _⟩
  have hcap : l.length ≤ c := rep_cap hv _ _ _ _ _ _ rfl rfl
  by_cases h0 : l = []
  · subst h0
    exact (Any.strings_Join_none (P := Try.prog) lJoin xJoin a c ⟨#[32]⟩ w).mono fun e w' h => hm e w' ⟨by rw [h.1]; rfl, h.2 ▸ Below.refl _ _⟩
  · rcases hrow with h1 | ⟨b, off, rfl, hcells⟩
    · exact absurd (by simpa using h1) h0
    · have hc2 : ∀ (j : Nat) x, l[j]? = some x → w.cell? ⟨b, off + j, none⟩ = some (.string x) := fun j x hj => hcells j (.string x) (by rw [List.getElem?_map, hj]; rfl)
      obtain ⟨y, r, hyr⟩ := List.exists_cons_of_ne_nil h0
      have hbk : b < w.heap.size := World.block_lt_of_cell? w ⟨b, off + 0, none⟩ (hc2 0 y (by rw [hyr]; rfl))
      exact (Any.strings_Join (P := Try.prog) lJoin xJoin b off c l ⟨#[32]⟩ w hc2 hbk (by omega) hcap (by unfold joinB at hs; rw [ba_len2] at hs; exact hs)).mono hm
end Go.Proofs.Ytmbijfcjfhdnjaa

/- Text: the program's and the reference's. -/
namespace Go.Proofs.Ytmbijfcjfhdnjaa
set_option linter.unusedSimpArgs false
set_option linter.unusedVariables false
open Go.RowKit Go.Lib

def wrd (t : Tok) : ByteArray := wordT t.kind t.name t.of
abbrev TextR := ByteArray × Int
def textT (l : List Tok) : TextR :=
  if 1000 < l.length then (⟨#[]⟩, 3)
  else if l.all (fun t => decide (wrd t ≠ ⟨#[]⟩)) = true then (if 4000 < (joinB (l.map wrd)).size then (⟨#[]⟩, 2) else (joinB (l.map wrd), 0))
  else (⟨#[]⟩, 2)
def vText (r : TextR) : AV := .tup [.str r.1, .int .i64 r.2]
theorem atomW_size (o : Int) (w : ByteArray) : (atomW o w).size ≤ w.size + 6 := by
  have h3 : (⟨#[]⟩ : ByteArray).size = 0 := rfl
  unfold atomW
  repeat' split
  all_goals first
    | omega
    | (have := preW_size o; rw [ByteArray.size_append]; omega)
theorem wordT_size (k : Int) (w : ByteArray) (o : Int) : (wordT k w o).size ≤ w.size + 6 := by
  have h0 : (⟨#[]⟩ : ByteArray).size = 0 := rfl
  have h1 : (⟨#[97, 110, 100]⟩ : ByteArray).size = 3 := rfl
  have h2 : (⟨#[102, 111, 114]⟩ : ByteArray).size = 3 := rfl
  have h3 : (⟨#[97, 115]⟩ : ByteArray).size = 2 := rfl
  have h4 : (⟨#[124]⟩ : ByteArray).size = 1 := rfl
  have h5 : (⟨#[40]⟩ : ByteArray).size = 1 := rfl
  have h6 : (⟨#[41]⟩ : ByteArray).size = 1 := rfl
  have := atomW_size o w
  unfold wordT
  repeat' split
  all_goals omega
theorem join_size : ∀ (l : List ByteArray) (c : Nat), (∀ x ∈ l, x.size ≤ c) → (joinB l).size ≤ l.length * (c + 1) := by
  intro l c h
  unfold joinB
  rw [ba_len2]
  cases l with
  | nil => simp [Lib.join_nil]
  | cons x r =>
    rw [List.map_cons, Lib.join_length]
    have gen : ∀ l : List ByteArray, (∀ x ∈ l, x.size ≤ c) → Lib.lens (l.map (·.data.toList)) ≤ l.length * c := by
      intro l
      induction l with
      | nil => intro _; simp [Lib.lens]
      | cons y l ih =>
        intro h
        have h1 := h y (by simp)
        have h2 := ih (fun z hz => h z (by simp [hz]))
        have h3 := len_size y
        simp only [Lib.lens, List.map_cons, List.sum_cons, List.length_cons, Nat.add_mul] at h2 ⊢
        omega
    have this := gen (x :: r) h
    rw [List.map_cons] at this
    simp only [List.length_map, List.length_cons, List.length_nil, Nat.mul_add, Nat.mul_one] at this ⊢
    omega
/-- the program's words so far, and the places that are empty yet -/
def wordsC (l : List Tok) (n : Nat) : List AV := l.map (fun t => .str (wrd t)) ++ List.replicate n (.str ⟨#[]⟩)
theorem wordsC_0 (n : Nat) : ((List.range n).map fun i => [AV.str ⟨#[]⟩].getD (i % 1) .nilp) = wordsC [] n := by
  unfold wordsC
  apply List.ext_getElem
  · simp
  · intro i h1 h2
    simp [Nat.mod_one]
theorem wordsC_len (l : List Tok) (n : Nat) : (wordsC l n).length = l.length + n := by simp [wordsC]
theorem wordsC_set {l : List Tok} {i : Nat} (h : i < l.length) : (wordsC (l.take i) (l.length - i)).set i (.str (wrd l[i])) = wordsC (l.take (i + 1)) (l.length - (i + 1)) := by
  unfold wordsC
  rw [List.set_append_right _ _ (by simp; omega), show i - ((l.take i).map fun t => AV.str (wrd t)).length = 0 by simp; omega]
  rw [show l.length - i = (l.length - (i + 1)) + 1 by omega, List.replicate_succ, List.set_cons_zero, List.take_succ_eq_append_getElem h]
  simp only [List.map_append, List.map_cons, List.map_nil, List.append_assoc, List.singleton_append]
theorem wordsC_drop {l : List Tok} {i : Nat} (h : i < l.length) (m : Nat) : (wordsC (l.take (i + 1)) m).drop i = .str (wordT l[i].kind l[i].name l[i].of) :: List.replicate m (.str ⟨#[]⟩) := by
  unfold wordsC
  have hi : ((l.take i).map fun t => AV.str (wrd t)).length = i := by simp; omega
  rw [List.take_succ_eq_append_getElem h, List.map_append, List.append_assoc]
  conv => lhs; arg 1; rw [← hi]
  rw [List.drop_left]
  rfl
theorem text_no {l : List Tok} {i : Nat} (h : i < l.length) (he : wordT l[i].kind l[i].name l[i].of = ⟨#[]⟩) {x y : TextR} : (if l.all (fun t => decide (wrd t ≠ ⟨#[]⟩)) = true then x else y) = y := by
  rw [if_neg]
  intro h2
  have := of_decide_eq_true (List.all_eq_true.1 h2 _ (List.getElem_mem h))
  exact this he
set_option maxRecDepth 100000 in
set_option maxHeartbeats 4000000 in
theorem p_ptext (l : List Tok) (hl : l.length ≤ 1000000) (hs : ∀ t ∈ l, t.name.size ≤ 1000000) : PCalls Try.prog 31 [vToks l] (vText (textT l)) := by
  refine pcalls_of (by simp [vToks, free, free.frees, frees_toks]) rfl (ACalls.weak (acalls_of mixed J_token_Text_ok (Nat.le_of_ble_eq_true rfl) ?_)); simp only [J_token_Text, vToks, wk,if_true,if_false,forall_const,implies_true,ne_eq,eq_self,Nat.reduceEqDiff,Nat.reduceAdd,Nat.reduceMul,Nat.reduceSub,Nat.reduceLeDiff,Nat.reduceLT,Int.reduceEq,Int.reduceLT,Int.reduceLE,Int.reduceAdd,Int.reduceSub,Int.reduceMul,Int.reduceNeg,Int.reduceNe,reduceCtorEq,Int.reduceToNat,↓reduceIte]
  refine ⟨fun hbig => ?_, fun hbig => ?_⟩
  · unfold textT
    rw [if_pos (by omega)]
    rfl
  refine ⟨⟨by omega, by omega, by omega⟩, ?_⟩
  rw [Int.toNat_natCast, wordsC_0]
  refine W_loop (fun n fr h' => ∃ (i : Nat) (ex : Hp), i ≤ l.length ∧ n = l.length - i ∧ h' = some (false, wordsC (l.take i) (l.length - i)) :: ex ∧ fr = [(4, .hs 0 l.length), (14, .lst .ro l.length (toksC l)), (15, .int .i64 l.length), (16, .int .i64 i)] ∧ ∀ t ∈ l.take i, wrd t ≠ ⟨#[]⟩) l.length ⟨0, [], by omega, by omega, by simp, rfl, by simp⟩ ?_
  rintro n fr h' ⟨i, ex, hi, rfl, rfl, rfl, hall⟩
  simp only [J_token_Text_j2, wk,if_true,if_false,forall_const,implies_true,ne_eq,eq_self,Nat.reduceEqDiff,Nat.reduceAdd,Nat.reduceMul,Nat.reduceSub,Nat.reduceLeDiff,Nat.reduceLT,Int.reduceEq,Int.reduceLT,Int.reduceLE,Int.reduceAdd,Int.reduceSub,Int.reduceMul,Int.reduceNeg,Int.reduceNe,reduceCtorEq,Int.reduceToNat,↓reduceIte]
  refine ⟨fun hlt => ?_, fun hge => ?_⟩
  · have hil : i < l.length := by omega
    have hd : (toksC l).drop ((i : Int).toNat * 4) = _ := toksC_drop hil
    have q := p_word l[i].kind l[i].name l[i].of l[i].at_ (hs _ (List.getElem_mem hil))
    refine ⟨⟨by omega, by omega⟩, ?_⟩
    simp only [hd, wk,if_true,if_false,forall_const,implies_true,ne_eq,eq_self,Nat.reduceEqDiff,Nat.reduceAdd,Nat.reduceMul,Nat.reduceSub,Nat.reduceLeDiff,Nat.reduceLT,Int.reduceEq,Int.reduceLT,Int.reduceLE,Int.reduceAdd,Int.reduceSub,Int.reduceMul,Int.reduceNeg,Int.reduceNe,reduceCtorEq,Int.reduceToNat,↓reduceIte]
    refine PCalls.use (q) ?_; simp only [wk,if_true,if_false,forall_const,implies_true,ne_eq,eq_self,Nat.reduceEqDiff,Nat.reduceAdd,Nat.reduceMul,Nat.reduceSub,Nat.reduceLeDiff,Nat.reduceLT,Int.reduceEq,Int.reduceLT,Int.reduceLE,Int.reduceAdd,Int.reduceSub,Int.reduceMul,Int.reduceNeg,Int.reduceNe,reduceCtorEq,Int.reduceToNat,↓reduceIte]
    have hset : (wordsC (l.take i) (l.length - i)).set i (.str (wordT l[i].kind l[i].name l[i].of)) = wordsC (l.take (i + 1)) (l.length - (i + 1)) := wordsC_set hil
    rw [Int.toNat_natCast, hset, wordsC_drop hil]
    have hlen := wordsC_len (l.take i) (l.length - i)
    rw [List.length_take] at hlen
    simp only [wk,if_true,if_false,forall_const,implies_true,ne_eq,eq_self,Nat.reduceEqDiff,Nat.reduceAdd,Nat.reduceMul,Nat.reduceSub,Nat.reduceLeDiff,Nat.reduceLT,Int.reduceEq,Int.reduceLT,Int.reduceLE,Int.reduceAdd,Int.reduceSub,Int.reduceMul,Int.reduceNeg,Int.reduceNe,reduceCtorEq,Int.reduceToNat,↓reduceIte]
    refine ⟨⟨by omega, by omega⟩, by omega, ⟨by omega, by omega⟩, fun he => ?_, fun hne => ?_⟩
    · unfold textT
      rw [if_neg (by omega), text_no hil he]
      rfl
    · refine ⟨inR_of (by omega) (by omega), l.length - (i + 1), by omega, i + 1, _, by omega, rfl, rfl, by simp, ?_⟩
      intro t ht
      rw [List.take_succ_eq_append_getElem hil] at ht
      rcases List.mem_append.1 ht with ht | ht
      · exact hall t ht
      · simp at ht; subst ht; exact hne
  · have : i = l.length := by omega
    subst this
    rw [List.take_length] at hall ⊢
    rw [Nat.sub_self]
    have hw : (wordsC l 0).map deg = (l.map wrd).map AV.str := by
      unfold wordsC
      simp [deg]
    have hjs := join_size (l.map wrd) 1000006 (fun x hx => by
      obtain ⟨t, ht, rfl⟩ := List.mem_map.1 hx
      have := wordT_size t.kind t.name t.of
      have := hs t ht
      unfold wrd; omega)
    rw [List.length_map] at hjs
    have hall2 : l.all (fun t => decide (wrd t ≠ ⟨#[]⟩)) = true := by
      rw [List.all_eq_true]; intro t ht; exact decide_eq_true (hall t ht)
    have qj := p_join (l.map wrd) (by rw [List.length_map]; omega) (by
      have : l.length * (1000006 + 1) ≤ 1000 * (1000006 + 1) := Nat.mul_le_mul_right _ (by omega)
      omega)
    rw [List.length_map] at qj
    simp only [J_token_Text_j1, wk,if_true,if_false,forall_const,implies_true,ne_eq,eq_self,Nat.reduceEqDiff,Nat.reduceAdd,Nat.reduceMul,Nat.reduceSub,Nat.reduceLeDiff,Nat.reduceLT,Int.reduceEq,Int.reduceLT,Int.reduceLE,Int.reduceAdd,Int.reduceSub,Int.reduceMul,Int.reduceNeg,Int.reduceNe,reduceCtorEq,Int.reduceToNat,↓reduceIte]
    refine ACalls.use (PCalls.iced qj _ (by simp only [fzs_cons, fzs_nil, fz_str]; rw [fz_hs (s := false) (l := wordsC l 0) rfl, hw])) ?_
    rintro _ _ ⟨rfl, rfl⟩
    simp only [fgt_str, wk,if_true,if_false,forall_const,implies_true,ne_eq,eq_self,Nat.reduceEqDiff,Nat.reduceAdd,Nat.reduceMul,Nat.reduceSub,Nat.reduceLeDiff,Nat.reduceLT,Int.reduceEq,Int.reduceLT,Int.reduceLE,Int.reduceAdd,Int.reduceSub,Int.reduceMul,Int.reduceNeg,Int.reduceNe,reduceCtorEq,Int.reduceToNat,↓reduceIte]
    unfold textT
    rw [if_neg (by omega), if_pos hall2]
    refine ⟨fun h => ?_, fun h => ?_⟩
    · rw [if_pos (by omega)]; rfl
    · rw [if_neg (by omega)]; rfl
theorem joinB_nil : joinB [] = ⟨#[]⟩ := rfl
theorem joinB_snoc (l : List ByteArray) (x : ByteArray) : joinB (l ++ [x]) = if l = [] then x else joinB l ++ ⟨#[32]⟩ ++ x := by
  cases l with
  | nil =>
    rw [if_pos rfl]
    unfold joinB
    rw [List.nil_append, List.map_cons, List.map_nil, Lib.join_one, ba_eta]
  | cons y r =>
    rw [if_neg (by simp)]
    unfold joinB
    rw [List.cons_append, List.map_cons, Lib.join_cons, List.map_cons, Lib.join_cons]
    apply ByteArray.ext
    apply Array.ext'
    simp [ba, Lib.joinTail]
end Go.Proofs.Ytmbijfcjfhdnjaa

/- The laws' own functions: same, large, awake. -/
namespace Go.Proofs.Ytmbijfcjfhdnjaa
set_option linter.unusedSimpArgs false
set_option linter.unusedVariables false
open Go.RowKit Go.Lib

def eqT (p : Bool) (x y : Tok) : Bool := decide (x.kind = y.kind) && (decide (x.name = y.name) && (decide (x.of = y.of) && (!p || decide (x.at_ = y.at_))))
def sameT (p : Bool) (a b : List Tok) : Bool := decide (a.length = b.length) && (a.zip b).all fun x => eqT p x.1 x.2
theorem same_no {p : Bool} {a b : List Tok} {i : Nat} (ha : i < a.length) (hb : i < b.length) (h : eqT p a[i] b[i] = false) : sameT p a b = false := by
  unfold sameT
  have : (a.zip b).all (fun x => eqT p x.1 x.2) = false := by
    rw [List.all_eq_false]
    refine ⟨(a[i], b[i]), List.mem_iff_getElem.2 ⟨i, by rw [List.length_zip]; omega, by rw [List.getElem_zip]⟩, by simp [h]⟩
  rw [this, Bool.and_false]
theorem same_yes {p : Bool} {a b : List Tok} (hl : a.length = b.length) (h : ∀ i (ha : i < a.length) (hb : i < b.length), eqT p a[i] b[i] = true) : sameT p a b = true := by
  unfold sameT
  rw [decide_eq_true hl, Bool.true_and, List.all_eq_true]
  intro x hx
  obtain ⟨i, hi, rfl⟩ := List.mem_iff_getElem.1 hx
  rw [List.length_zip] at hi
  rw [List.getElem_zip]
  exact h i (by omega) (by omega)
section
variable {α : Type} (h : List α) (x y z : α)
theorem hole_1 : (if 1 < (h ++ [x, y]).length then some ((h ++ [x, y]).length - 1 - 1) else none) = some h.length := by
  rw [if_pos (by simp)]; simp
theorem hole_0 : (if 0 < (h ++ [x, y]).length then some ((h ++ [x, y]).length - 1 - 0) else none) = some (h.length + 1) := by
  rw [if_pos (by simp)]; simp
theorem hole_set1 : (h ++ [x, y]).set h.length z = h ++ [z, y] := by
  rw [List.set_append_right _ _ (Nat.le_refl _), Nat.sub_self]; rfl
theorem hole_set2 : (h ++ [x, y]).set (h.length + 1) z = h ++ [x, z] := by
  rw [List.set_append_right _ _ (by omega), show h.length + 1 - h.length = 1 by omega]; rfl
theorem hole_get1 : (h ++ [x, y])[h.length]? = some x := by
  rw [List.getElem?_append_right (Nat.le_refl _), Nat.sub_self]; rfl
theorem hole_get2 : (h ++ [x, y])[h.length + 1]? = some y := by
  rw [List.getElem?_append_right (by omega), show h.length + 1 - h.length = 1 by omega]; rfl
end
theorem eq_tok (k k' : Int) (w w' : ByteArray) (o o' a a' : Int) : eqCells [0, 1, 0, 0] [.int .i64 k, .str w, .int .i64 o, .int .i64 a] [.int .i64 k', .str w', .int .i64 o', .int .i64 a'] = some (decide (k = k') && (decide (w = w') && (decide (o = o') && decide (a = a')))) := by
  simp only [eqCells, eqCell, if_true, Bool.and_true]
end Go.Proofs.Ytmbijfcjfhdnjaa

/- large, awake; TokenReads. -/
namespace Go.Proofs.Ytmbijfcjfhdnjaa
set_option linter.unusedSimpArgs false
set_option linter.unusedVariables false
open Go.RowKit Go.Lib

def largeT (l : List Tok) : Bool := decide (1100 < l.length) || l.any fun t => decide (100 < t.name.size)
theorem eq_tok_self (k : Int) (w : ByteArray) (o a : Int) : eqCells [0, 1, 0, 0] [.int .i64 k, .str w, .int .i64 o, .int .i64 a] [.int .i64 k, .str w, .int .i64 o, .int .i64 a] = some true := by
  rw [eq_tok]; simp
def c1 : ByteArray := ⟨#[107, 101, 121, 58, 107, 49, 124, 97, 108, 105, 99, 101, 32, 97, 115, 32, 114, 111, 108, 101, 58, 114, 32, 35, 32, 120]⟩
def c2 : ByteArray := ⟨#[97, 32, 75]⟩
def L5 : List Tok := [⟨1, ⟨#[107, 49]⟩, 1, 0⟩, ⟨4, ⟨#[]⟩, 0, 6⟩, ⟨1, ⟨#[97, 108, 105, 99, 101]⟩, 3, 7⟩, ⟨5, ⟨#[]⟩, 0, 13⟩, ⟨1, ⟨#[114]⟩, 5, 16⟩]
theorem all_c1 : allT c1 = (L5, 0, 0) := by kernel_rfl
theorem all_c2 : allT c2 = ([], 2, 2) := by kernel_rfl
theorem text_L5 : textT L5 = (⟨#[107, 101, 121, 58, 107, 49, 32, 124, 32, 97, 108, 105, 99, 101, 32, 97, 115, 32, 114, 111, 108, 101, 58, 114]⟩, 0) := by kernel_rfl
set_option maxRecDepth 100000 in
set_option maxHeartbeats 4000000 in
theorem p_awake04 : PCalls Try.prog 12 [] (.bool true) := by
  have q1 := p_pall c1 (by decide)
  have q2 := p_pall c2 (by decide)
  have q3 := p_ptext L5 (by decide) (by decide)
  have q4 := p_word 4 ⟨#[]⟩ 0 6 (by decide)
  have q5 := p_word 0 ⟨#[]⟩ 0 0 (by decide)
  rw [all_c1] at q1
  rw [all_c2] at q2
  rw [text_L5] at q3
  rw [show wordT 4 ⟨#[]⟩ 0 = ⟨#[124]⟩ by kernel_rfl] at q4
  rw [show wordT 0 ⟨#[]⟩ 0 = ⟨#[]⟩ by kernel_rfl] at q5
  simp only [resV, vToks, toksC, L5, List.flatMap_cons, List.flatMap_nil, tC, List.cons_append, List.nil_append, List.length_cons, List.length_nil, vText] at q1 q2 q3
  refine pcalls_of (by first | rfl | simp [free, free.frees, frees_str, frees_u8, frees_u16]) (by first | rfl | simp [free, free.frees, frees_str, frees_u8, frees_u16]) (acalls_of mixed J_law04_awake_ok (Nat.le_of_ble_eq_true rfl) ?_); simp only [J_law04_awake, wk,if_true,if_false,forall_const,implies_true,ne_eq,eq_self,Nat.reduceEqDiff,Nat.reduceAdd,Nat.reduceMul,Nat.reduceSub,Nat.reduceLeDiff,Nat.reduceLT,Int.reduceEq,Int.reduceLT,Int.reduceLE,Int.reduceAdd,Int.reduceSub,Int.reduceMul,Int.reduceNeg,Int.reduceNe,reduceCtorEq,Int.reduceToNat,↓reduceIte]
  refine PCalls.use (q1) ?_; simp only [wk,if_true,if_false,forall_const,implies_true,ne_eq,eq_self,Nat.reduceEqDiff,Nat.reduceAdd,Nat.reduceMul,Nat.reduceSub,Nat.reduceLeDiff,Nat.reduceLT,Int.reduceEq,Int.reduceLT,Int.reduceLE,Int.reduceAdd,Int.reduceSub,Int.reduceMul,Int.reduceNeg,Int.reduceNe,reduceCtorEq,Int.reduceToNat,↓reduceIte]
  refine PCalls.use (q2) ?_; simp only [wk,if_true,if_false,forall_const,implies_true,ne_eq,eq_self,Nat.reduceEqDiff,Nat.reduceAdd,Nat.reduceMul,Nat.reduceSub,Nat.reduceLeDiff,Nat.reduceLT,Int.reduceEq,Int.reduceLT,Int.reduceLE,Int.reduceAdd,Int.reduceSub,Int.reduceMul,Int.reduceNeg,Int.reduceNe,reduceCtorEq,Int.reduceToNat,↓reduceIte]
  refine PCalls.use (q3) ?_; simp only [wk,if_true,if_false,forall_const,implies_true,ne_eq,eq_self,Nat.reduceEqDiff,Nat.reduceAdd,Nat.reduceMul,Nat.reduceSub,Nat.reduceLeDiff,Nat.reduceLT,Int.reduceEq,Int.reduceLT,Int.reduceLE,Int.reduceAdd,Int.reduceSub,Int.reduceMul,Int.reduceNeg,Int.reduceNe,reduceCtorEq,Int.reduceToNat,↓reduceIte]
  simp only [eq_tok_self, Option.map_some, wk,if_true,if_false,forall_const,implies_true,ne_eq,eq_self,Nat.reduceEqDiff,Nat.reduceAdd,Nat.reduceMul,Nat.reduceSub,Nat.reduceLeDiff,Nat.reduceLT,Int.reduceEq,Int.reduceLT,Int.reduceLE,Int.reduceAdd,Int.reduceSub,Int.reduceMul,Int.reduceNeg,Int.reduceNe,reduceCtorEq,Int.reduceToNat,↓reduceIte]
  repeat' (first | (refine PCalls.use q4 ?_; simp only [eq_tok_self, Option.map_some, wk,if_true,if_false,forall_const,implies_true,ne_eq,eq_self,Nat.reduceEqDiff,Nat.reduceAdd,Nat.reduceMul,Nat.reduceSub,Nat.reduceLeDiff,Nat.reduceLT,Int.reduceEq,Int.reduceLT,Int.reduceLE,Int.reduceAdd,Int.reduceSub,Int.reduceMul,Int.reduceNeg,Int.reduceNe,reduceCtorEq,Int.reduceToNat,↓reduceIte]) | (refine PCalls.use q5 ?_; simp only [eq_tok_self, Option.map_some, wk,if_true,if_false,forall_const,implies_true,ne_eq,eq_self,Nat.reduceEqDiff,Nat.reduceAdd,Nat.reduceMul,Nat.reduceSub,Nat.reduceLeDiff,Nat.reduceLT,Int.reduceEq,Int.reduceLT,Int.reduceLE,Int.reduceAdd,Int.reduceSub,Int.reduceMul,Int.reduceNeg,Int.reduceNe,reduceCtorEq,Int.reduceToNat,↓reduceIte]) | (with_reducible refine And.intro ?_ ?_) | intro _)
  all_goals first
    | decide
    | rfl
    | exact absurd rfl (by assumption)
end Go.Proofs.Ytmbijfcjfhdnjaa

/- TokenReads and TokenWrites: the calls. -/
namespace Go.Proofs.Ytmbijfcjfhdnjaa
set_option linter.unusedSimpArgs false
set_option linter.unusedVariables false
open Go.RowKit Go.Lib

theorem scanF_len : ∀ (f : Nat) (l : List UInt8) (a : Nat) (acc : List Tok), acc.length ≤ 1000 → (scanF f l a acc).1.length ≤ 1000
  | 0, _, _, acc, h => h
  | f + 1, [], _, acc, h => h
  | f + 1, b :: r, a, acc, h => by
    simp only [scanF]
    split
    · exact scanF_len f r _ _ h
    · split
      · exact scanF_len f _ _ _ h
      · split
        · simp
        · split
          · simp
          · exact scanF_len f _ _ _ (by simp; omega)
theorem allT_len (s : ByteArray) : (allT s).1.length ≤ 1000 := by
  unfold allT
  split
  · simp
  · exact scanF_len _ _ _ _ (by simp)
theorem eqT_refl (p : Bool) (x : Tok) : eqT p x x = true := by unfold eqT; simp
theorem sameT_refl (p : Bool) (a : List Tok) : sameT p a a = true := same_yes rfl fun i ha hb => eqT_refl p _
end Go.Proofs.Ytmbijfcjfhdnjaa

/- A word that is written is read as its token: plain laws. -/
namespace Go.Proofs.Ytmbijfcjfhdnjaa
set_option linter.unusedSimpArgs false
set_option linter.unusedVariables false
open Go.RowKit Go.Lib

theorem stop_app {q : Int → Bool} {l r : List UInt8} (h : ∀ b ∈ l, q b.toNat = true) (h2 : ∀ b r', r = b :: r' → q b.toNat = false) : stopN q (l ++ r) = l.length := by
  unfold stopN
  refine tw_len (by simp) (fun b hb => ?_) (fun hlt => ?_)
  · rw [List.take_left] at hb; exact h b hb
  · rw [List.getElem_append_right (Nat.le_refl _)]
    simp only [Nat.sub_self]
    cases r with
    | nil => simp at hlt
    | cons c r' => exact h2 c r' rfl
theorem fine_inn {r : List UInt8} (h : fineL r = true) : ∀ b r', r = b :: r' → innI b.toNat = false := by
  rintro b r' rfl
  simp only [fineL, freI, Bool.and_eq_true, Bool.not_eq_true'] at h
  exact h.1.1
theorem fine_dig {r : List UInt8} (h : fineL r = true) : ∀ b r', r = b :: r' → digI b.toNat = false := by
  intro b r' e
  have := fine_inn h b r' e
  simp only [innI, Bool.or_eq_false_iff] at this
  exact this.1.1.2
theorem fine_colon {r : List UInt8} (h : fineL r = true) : colonL r = false := by
  cases r with
  | nil => rfl
  | cons b r =>
    simp only [fineL, freI, Bool.and_eq_true, decide_eq_true_eq] at h
    have := h.1.2
    simp only [colonL, beq_eq_false_iff_ne]
    omega
theorem may_all {n : ByteArray} (h : mayN n = true) : 1 ≤ n.size ∧ n.size ≤ 24 ∧ lttI (n.data.toList.headD 0).toNat = true ∧ ∀ b ∈ n.data.toList, innI b.toNat = true := by
  have hl := len_size n
  unfold mayN mayL at h
  simp only [Bool.and_eq_true, decide_eq_true_eq] at h
  obtain ⟨h1, h2, h3, h4⟩ := h
  exact ⟨by omega, by omega, h3, List.all_eq_true.1 h4⟩
theorem take_ba (n : ByteArray) (r : List UInt8) : ba ((n.data.toList ++ r).take n.size) = n := by
  rw [← len_size n, List.take_left, ba_eta]
theorem name_may {n : ByteArray} {r : List UInt8} (h : mayN n = true) (hf : fineL r = true) : nameL (n.data.toList ++ r) = some n.size ∧ stopN innI (n.data.toList ++ r) = n.size := by
  obtain ⟨h1, h2, h3, h4⟩ := may_all h
  have hl := len_size n
  have hs : stopN innI (n.data.toList ++ r) = n.size := by rw [stop_app h4 (fine_inn hf), hl]
  refine ⟨?_, hs⟩
  have hh : (n.data.toList ++ r).headD 0 = n.data.toList.headD 0 := by
    cases hn : n.data.toList with
    | nil => rw [hn] at hl; simp at hl; omega
    | cons c t => rfl
  rw [name_some, hs, hh, if_pos ⟨h3, h2, by rw [← hl, List.drop_left]; exact hf⟩]
theorem sign_name {n : ByteArray} {r : List UInt8} (h : mayN n = true) (hf : fineL r = true) : signL (n.data.toList ++ r) = if keyW n = 0 then some (1, n, 3, n.size) else some (keyW n, ba [], 0, n.size) := by
  obtain ⟨h1, h2, h3, h4⟩ := may_all h
  obtain ⟨g1, g2⟩ := name_may h hf
  have hl := len_size n
  have hk : kindL (n.data.toList ++ r) = 0 := by
    rw [kind_name, g2, if_neg]
    rintro ⟨-, hc⟩
    rw [← hl, List.drop_left, fine_colon hf] at hc
    cases hc
  obtain ⟨L, hL⟩ : ∃ L, L = n.data.toList ++ r := ⟨_, rfl⟩
  have ht := take_ba n r
  rw [← hL] at g1 g2 hk ht ⊢
  unfold signL
  rw [if_pos hk]
  cases L with
  | nil => cases g1
  | cons b t =>
    have hb : lttI b.toNat = true := by
      cases hn : n.data.toList with
      | nil => rw [hn] at hl; simp at hl; omega
      | cons c u =>
        rw [hn] at hL h3
        injection hL with e _
        rw [e]; exact h3
    simp only [plainL]
    rw [if_pos hb, g1]
    simp only [ht]
theorem beg_self (p : ByteArray) (r : List UInt8) : begL p (p.data.toList ++ r) = true := by
  unfold begL
  rw [← len_size p, List.take_left, decide_eq_true_eq]
theorem kind_pre {o : Int} (ho : o ∈ kinds) (r : List UInt8) : kindL ((preW o).data.toList ++ r) = o := by
  have h2 : o = 1 ∨ o = 2 ∨ o = 4 ∨ o = 5 := by simpa [kinds] using ho
  have b1 : begL (preW 1) ((preW 2).data.toList ++ r) = false ∧ begL (preW 1) ((preW 4).data.toList ++ r) = false ∧ begL (preW 1) ((preW 5).data.toList ++ r) = false := ⟨rfl, rfl, rfl⟩
  have b2 : begL (preW 2) ((preW 4).data.toList ++ r) = false ∧ begL (preW 2) ((preW 5).data.toList ++ r) = false := ⟨rfl, rfl⟩
  have b4 : begL (preW 4) ((preW 5).data.toList ++ r) = false := rfl
  obtain ⟨b12, b14, b15⟩ := b1
  obtain ⟨b24, b25⟩ := b2
  unfold kindL
  rcases h2 with rfl | rfl | rfl | rfl
  · rw [if_pos (beg_self _ _)]
  · rw [b12, if_neg (by simp), if_pos (beg_self _ _)]
  · rw [b14, b24, if_neg (by simp), if_neg (by simp), if_pos (beg_self _ _)]
  · rw [b15, b25, b4, if_neg (by simp), if_neg (by simp), if_neg (by simp), if_pos (beg_self _ _)]
theorem sign_atom {n : ByteArray} {o : Int} {r : List UInt8} (ho : o ∈ kinds) (h : mayN n = true) (hf : fineL r = true) : signL ((preW o ++ n).data.toList ++ r) = some (1, n, o, (preW o ++ n).size) := by
  have hp := len_size (preW o)
  have e : (preW o ++ n).data.toList ++ r = (preW o).data.toList ++ (n.data.toList ++ r) := by
    rw [ByteArray.data_append, Array.toList_append, List.append_assoc]
  rw [e]
  unfold signL
  rw [kind_pre ho, if_neg (kinds_nz ho), ← hp, List.drop_left]
  unfold atomL
  rw [(name_may h hf).1]
  simp only [take_ba, ByteArray.size_append, hp]
theorem sign_word {k : Int} {n : ByteArray} {o : Int} {r : List UInt8} (hw : wordT k n o ≠ ⟨#[]⟩) (hf : fineL r = true) : signL ((wordT k n o).data.toList ++ r) = some (k, n, o, (wordT k n o).size) := by
  have hl := len_size n
  by_cases h1 : k = 1
  · subst h1
    have e : wordT 1 n o = atomW o n := by unfold wordT; rw [if_pos rfl]
    rw [e] at hw ⊢
    by_cases h0 : o = 0
    · subst h0
      have e2 : atomW 0 n = if n = ⟨#[68]⟩ then n else ⟨#[]⟩ := by unfold atomW; rw [if_pos rfl]
      rw [e2] at hw ⊢
      by_cases hd : n = ⟨#[68]⟩
      · subst hd
        rw [if_pos rfl]
        show signL (68 :: r) = _
        rw [sig_d rfl, good_d, if_pos hf]; rfl
      · rw [if_neg hd] at hw; exact absurd rfl hw
    · by_cases hm : mayN n = true
      · by_cases hk : o = 1 ∨ o = 2 ∨ o = 4 ∨ o = 5
        · have ho : o ∈ kinds := by simpa [kinds] using hk
          have e2 : atomW o n = preW o ++ n := by unfold atomW; rw [if_neg h0, if_pos hm, if_pos hk]
          rw [e2]; exact sign_atom ho hm hf
        · by_cases h3 : o = 3 ∧ keyW n = 0
          · have e2 : atomW o n = n := by unfold atomW; rw [if_neg h0, if_pos hm, if_neg hk, if_pos h3]
            rw [e2, sign_name hm hf, if_pos h3.2, h3.1]
          · have e2 : atomW o n = ⟨#[]⟩ := by unfold atomW; rw [if_neg h0, if_pos hm, if_neg hk, if_neg h3]
            exact absurd e2 hw
      · have e2 : atomW o n = ⟨#[]⟩ := by unfold atomW; rw [if_neg h0, if_neg hm]
        exact absurd e2 hw
  · by_cases h0 : o = 0
    · subst h0
      by_cases h8 : k = 8
      · subst h8
        have e : wordT 8 n 0 = if numW n = true then n else ⟨#[]⟩ := by unfold wordT; rw [if_neg (by decide), if_neg (by decide), if_pos rfl]
        rw [e] at hw ⊢
        by_cases hn : numW n = true
        · rw [if_pos hn]
          have hn2 := hn
          unfold numW at hn2
          simp only [Bool.and_eq_true, decide_eq_true_eq] at hn2
          obtain ⟨n1, n2, n3, n4⟩ := hn2
          have hs : stopN digI (n.data.toList ++ r) = n.size := by rw [stop_app (fun b hb => List.all_eq_true.1 n3 b hb) (fine_dig hf), hl]
          obtain ⟨b, t, hbt⟩ : ∃ b t, n.data.toList = b :: t := by
            cases hc : n.data.toList with
            | nil => rw [hc] at hl; simp at hl; omega
            | cons b t => exact ⟨b, t, rfl⟩
          have hb : digI b.toNat = true := List.all_eq_true.1 n3 b (by rw [hbt]; simp)
          have ht := take_ba n r
          have hdr : (n.data.toList ++ r).drop n.size = r := by rw [← hl, List.drop_left]
          rw [hbt] at hs ht hdr ⊢
          rw [List.cons_append] at hs ht hdr ⊢
          rw [sig_dig hb, hs, ht]
          have hg : goodT (8, n, 0, n.size) (b :: (t ++ r)) = true := by
            unfold goodT
            simp only [hdr, hf, Bool.and_true, decide_eq_true_eq]
            have e3 : wordT 8 n 0 = n := by rw [e, if_pos hn]
            rw [e3]
            intro e4; rw [e4] at n1; exact absurd n1 (by decide)
          rw [if_pos hg]
        · rw [if_neg hn] at hw; exact absurd rfl hw
      · by_cases h9 : k = 9
        · subst h9
          have e : wordT 9 n 0 = if sigW n = true then n else ⟨#[]⟩ := by unfold wordT; rw [if_neg (by decide), if_neg (by decide), if_neg (by decide), if_pos rfl]
          rw [e] at hw ⊢
          by_cases hn : sigW n = true
          · rw [if_pos hn]
            unfold sigW at hn
            simp only [Bool.and_eq_true, decide_eq_true_eq] at hn
            obtain ⟨b, rfl⟩ := one_byte hn.1
            show signL (b :: r) = _
            rw [sig_sign hn.2]; rfl
          · rw [if_neg hn] at hw; exact absurd rfl hw
        · by_cases hn : n = ⟨#[]⟩
          · subst hn
            have key : ∀ (x : ByteArray) (kk : Int), mayN x = true → keyW x = kk → kk ≠ 0 → signL (x.data.toList ++ r) = some (kk, ⟨#[]⟩, 0, x.size) := fun x kk g1 g2 g3 => by
              rw [sign_name g1 hf, if_neg (by rw [g2]; exact g3), g2]; rfl
            by_cases h2 : k = 2
            · subst h2; exact key ⟨#[97, 110, 100]⟩ 2 (by decide) (by decide) (by decide)
            · by_cases h3 : k = 3
              · subst h3; exact key ⟨#[102, 111, 114]⟩ 3 (by decide) (by decide) (by decide)
              · by_cases h5 : k = 5
                · subst h5; exact key ⟨#[97, 115]⟩ 5 (by decide) (by decide) (by decide)
                · by_cases h4 : k = 4
                  · subst h4
                    show signL (124 :: r) = _
                    rw [sig_124 rfl]; rfl
                  · by_cases h6 : k = 6
                    · subst h6
                      show signL (40 :: r) = _
                      rw [sig_40 rfl]; rfl
                    · by_cases h7 : k = 7
                      · subst h7
                        show signL (41 :: r) = _
                        rw [sig_41 rfl]; rfl
                      · exact absurd (by unfold wordT; simp [h1, h2, h3, h4, h5, h6, h7, h8, h9]) hw
          · exact absurd (by unfold wordT; simp [h1, h8, h9, hn]) hw
    · exact absurd (by unfold wordT; simp [h1, h0]) hw
end Go.Proofs.Ytmbijfcjfhdnjaa

/- What is written is read as it was: plain laws of texts. -/
namespace Go.Proofs.Ytmbijfcjfhdnjaa
set_option linter.unusedSimpArgs false
set_option linter.unusedVariables false
open Go.RowKit Go.Lib

theorem sign_none {b : UInt8} {r : List UInt8} (h : b.toNat = 32 ∨ b.toNat = 9 ∨ b.toNat = 10 ∨ b.toNat = 35) : signL (b :: r) = none := by
  have hl : lttI b.toNat = false := by rcases h with h | h | h | h <;> rw [h] <;> rfl
  have hd : digI b.toNat = false := by rcases h with h | h | h | h <;> rw [h] <;> rfl
  have hs : sigB b.toNat = false := by rcases h with h | h | h | h <;> rw [h] <;> rfl
  rw [sign_nl hl]; simp only [plainL]
  rw [if_neg (by simp [hl]), if_neg (by omega), if_neg (by omega), if_neg (by omega), if_neg (by omega), if_neg (by simp [hd]), if_neg (by simp [hs])]
theorem sign_nil : signL [] = none := by rfl
theorem scan_tok {l : List UInt8} {k : Int} {w : ByteArray} {o : Int} {n : Nat} (h : signL l = some (k, w, o, n)) (a : Nat) (acc : List Tok) (ha : acc.length < 1000) : scan l a acc = scan (l.drop n) (a + n) (acc ++ [⟨k, w, o, a⟩]) := by
  cases l with
  | nil => rw [sign_nil] at h; cases h
  | cons b r =>
    rw [scan_cons]
    have h1 : ¬ blankB b = true := fun hb => by
      rw [sign_none (by simp [blankB] at hb; omega)] at h; cases h
    have h2 : ¬ b.toNat = 35 := fun hb => by rw [sign_none (by omega)] at h; cases h
    rw [if_neg h1, if_neg h2, h]
    simp only
    rw [if_neg (by omega)]
theorem scan_word {x : Tok} (hw : wrd x ≠ ⟨#[]⟩) {r : List UInt8} (hf : fineL r = true) (a : Nat) (acc : List Tok) (ha : acc.length < 1000) : scan ((wrd x).data.toList ++ r) a acc = scan r (a + (wrd x).size) (acc ++ [⟨x.kind, x.name, x.of, a⟩]) := by
  have h1 : signL ((wrd x).data.toList ++ r) = some (x.kind, x.name, x.of, (wrd x).size) := sign_word hw hf
  rw [scan_tok h1 a acc ha]
  rw [← len_size (wrd x), List.drop_left]
theorem scan_blank {b : UInt8} {r : List UInt8} (h : blankB b = true) (a : Nat) (acc : List Tok) : scan (b :: r) a acc = scan r (a + 1) acc := by rw [scan_cons, if_pos h]
/-- without its place -/
def core (t : Tok) : Int × ByteArray × Int := (t.kind, t.name, t.of)
theorem core_at (x : Tok) (a : Int) : core ⟨x.kind, x.name, x.of, a⟩ = core x := rfl
theorem same_core {l m : List Tok} (h : l.map core = m.map core) : sameT false l m = true := by
  have hl : l.length = m.length := by have := congrArg List.length h; simpa using this
  refine same_yes hl fun i ha hb => ?_
  have h1 : (l.map core)[i]? = (m.map core)[i]? := by rw [h]
  rw [List.getElem?_map, List.getElem?_map, List.getElem?_eq_getElem ha, List.getElem?_eq_getElem hb] at h1
  simp only [Option.map_some, Option.some.injEq, core, Prod.mk.injEq] at h1
  unfold eqT
  simp [h1.1, h1.2.1, h1.2.2]
abbrev wl (t : Tok) : List UInt8 := (wrd t).data.toList
theorem tail_cons (x : Tok) (l : List Tok) : Lib.joinTail [32] ((x :: l).map wl) = 32 :: (wl x ++ Lib.joinTail [32] (l.map wl)) := by
  simp [Lib.joinTail]
theorem tail_fine (l : List Tok) : fineL (Lib.joinTail [32] (l.map wl)) = true := by
  cases l with
  | nil => rfl
  | cons x l => rw [tail_cons]; rfl
theorem scan_tail : ∀ (l : List Tok) (a : Nat) (acc : List Tok), (∀ t ∈ l, wrd t ≠ ⟨#[]⟩) → acc.length + l.length ≤ 1000 → ∃ l' : List Tok, scan (Lib.joinTail [32] (l.map wl)) a acc = (acc ++ l', 0, 0) ∧ l.map core = l'.map core
  | [], a, acc, _, _ => ⟨[], by simp [Lib.joinTail, scan_nil], rfl⟩
  | x :: l, a, acc, h, hn => by
    simp only [List.length_cons] at hn
    obtain ⟨l', h1, h2⟩ := scan_tail l (a + 1 + (wrd x).size) (acc ++ [⟨x.kind, x.name, x.of, (a + 1 : Nat)⟩]) (fun t ht => h t (by simp [ht])) (by simp; omega)
    refine ⟨⟨x.kind, x.name, x.of, (a + 1 : Nat)⟩ :: l', ?_, by rw [List.map_cons, List.map_cons, h2]; rfl⟩
    rw [tail_cons, scan_blank rfl, scan_word (h x (by simp)) (tail_fine l) _ _ (by omega), h1, List.append_assoc]
    rfl
theorem scan_join (l : List Tok) (h : ∀ t ∈ l, wrd t ≠ ⟨#[]⟩) (hn : l.length ≤ 1000) : ∃ l' : List Tok, scan (Lib.join (l.map wl) [32]) 0 [] = (l', 0, 0) ∧ l.map core = l'.map core := by
  cases l with
  | nil => exact ⟨[], rfl, rfl⟩
  | cons x l =>
    simp only [List.length_cons] at hn
    obtain ⟨l', h1, h2⟩ := scan_tail l (0 + (wrd x).size) ([] ++ [⟨x.kind, x.name, x.of, (0 : Nat)⟩]) (fun t ht => h t (by simp [ht])) (by simp; omega)
    refine ⟨⟨x.kind, x.name, x.of, (0 : Nat)⟩ :: l', ?_, by rw [List.map_cons, List.map_cons, h2]; rfl⟩
    rw [List.map_cons, Lib.join_cons, scan_word (h x (by simp)) (tail_fine l) _ _ (by simp), h1]
    rfl
theorem text_ok {l : List Tok} (h : (textT l).2 = 0) : l.length ≤ 1000 ∧ (∀ t ∈ l, wrd t ≠ ⟨#[]⟩) ∧ (joinB (l.map wrd)).size ≤ 4000 ∧ (textT l).1 = joinB (l.map wrd) := by
  unfold textT at h ⊢
  by_cases h1 : 1000 < l.length
  · rw [if_pos h1] at h; cases h
  · rw [if_neg h1] at h ⊢
    by_cases h2 : l.all (fun t => decide (wrd t ≠ ⟨#[]⟩)) = true
    · rw [if_pos h2] at h ⊢
      by_cases h3 : 4000 < (joinB (l.map wrd)).size
      · rw [if_pos h3] at h; cases h
      · rw [if_neg h3]
        exact ⟨by omega, fun t ht => of_decide_eq_true (List.all_eq_true.1 h2 t ht), by omega, rfl⟩
    · rw [if_neg h2] at h; cases h
theorem joinB_wl (l : List Tok) : (joinB (l.map wrd)).data.toList = Lib.join (l.map wl) [32] := by
  unfold joinB
  rw [ba_list, List.map_map]
  rfl
/-- WHAT IS WRITTEN IS READ AS IT WAS, but for places -/
theorem text_all {l : List Tok} (h : (textT l).2 = 0) : ∃ l' : List Tok, allT (textT l).1 = (l', 0, 0) ∧ l.map core = l'.map core := by
  obtain ⟨h1, h2, h3, h4⟩ := text_ok h
  obtain ⟨l', h5, h6⟩ := scan_join l h2 h1
  refine ⟨l', ?_, h6⟩
  rw [h4]
  unfold allT
  rw [if_neg (by omega), joinB_wl, h5]
end Go.Proofs.Ytmbijfcjfhdnjaa

/- A token's word is what stood there: plain laws. -/
namespace Go.Proofs.Ytmbijfcjfhdnjaa
set_option linter.unusedSimpArgs false
set_option linter.unusedVariables false
open Go.RowKit Go.Lib

theorem keyW_word {w : ByteArray} (h : keyW w ≠ 0) : wordT (keyW w) ⟨#[]⟩ 0 = w := by
  unfold keyW at h ⊢
  by_cases e1 : w = ⟨#[97, 110, 100]⟩
  · rw [if_pos e1, e1]; decide
  · rw [if_neg e1] at h ⊢
    by_cases e2 : w = ⟨#[102, 111, 114]⟩
    · rw [if_pos e2, e2]; decide
    · rw [if_neg e2] at h ⊢
      by_cases e3 : w = ⟨#[97, 115]⟩
      · rw [if_pos e3, e3]; decide
      · rw [if_neg e3] at h; exact absurd rfl h
theorem name_back {l : List UInt8} {n : Nat} (h : nameL l = some n) : n = stopN innI l ∧ mayN (ba (l.take n)) = true := by
  rw [name_some] at h
  by_cases hc : lttI (l.headD 0).toNat = true ∧ stopN innI l ≤ 24 ∧ fineL (l.drop (stopN innI l)) = true
  · rw [if_pos hc] at h
    injection h with h
    subst h
    exact ⟨rfl, (may_stop l).2 ⟨hc.1, hc.2.1⟩⟩
  · rw [if_neg hc] at h; cases h
theorem ba_append (a b : List UInt8) : ba (a ++ b) = ba a ++ ba b := by
  apply ByteArray.ext; apply Array.ext'; simp [ba]
theorem plain_back {l : List UInt8} {k : Int} {w : ByteArray} {o : Int} {n : Nat} (h : plainL l = some (k, w, o, n)) : wordT k w o = ba (l.take n) := by
  cases l with
  | nil => cases h
  | cons b r =>
    have hb1 : ∀ c : UInt8, b.toNat = c.toNat → b = c := fun c hc => UInt8.toNat_inj.1 hc
    simp only [plainL] at h
    by_cases c1 : lttI b.toNat = true
    · rw [if_pos c1] at h
      cases hn : nameL (b :: r) with
      | none => rw [hn] at h; cases h
      | some m =>
        rw [hn] at h
        simp only at h
        obtain ⟨_, hm⟩ := name_back hn
        by_cases hk : keyW (ba ((b :: r).take m)) = 0
        · rw [if_pos hk] at h
          simp only [Option.some.injEq, Prod.mk.injEq] at h
          obtain ⟨rfl, rfl, rfl, rfl⟩ := h
          unfold wordT atomW
          rw [if_pos rfl, if_neg (by decide), if_pos hm, if_neg (by decide), if_pos ⟨rfl, hk⟩]
        · rw [if_neg hk] at h
          simp only [Option.some.injEq, Prod.mk.injEq] at h
          obtain ⟨rfl, rfl, rfl, rfl⟩ := h
          exact keyW_word hk
    · rw [if_neg c1] at h
      by_cases c2 : b.toNat = 68
      · rw [if_pos c2] at h
        have := hb1 68 c2
        subst this
        by_cases hf : fineL r = true
        · rw [if_pos hf] at h
          simp only [Option.some.injEq, Prod.mk.injEq] at h
          obtain ⟨rfl, rfl, rfl, rfl⟩ := h
          rfl
        · rw [if_neg hf] at h; cases h
      · rw [if_neg c2] at h
        by_cases c3 : b.toNat = 124
        · rw [if_pos c3] at h
          have := hb1 124 c3
          subst this
          simp only [Option.some.injEq, Prod.mk.injEq] at h
          obtain ⟨rfl, rfl, rfl, rfl⟩ := h
          rfl
        · rw [if_neg c3] at h
          by_cases c4 : b.toNat = 40
          · rw [if_pos c4] at h
            have := hb1 40 c4
            subst this
            simp only [Option.some.injEq, Prod.mk.injEq] at h
            obtain ⟨rfl, rfl, rfl, rfl⟩ := h
            rfl
          · rw [if_neg c4] at h
            by_cases c5 : b.toNat = 41
            · rw [if_pos c5] at h
              have := hb1 41 c5
              subst this
              simp only [Option.some.injEq, Prod.mk.injEq] at h
              obtain ⟨rfl, rfl, rfl, rfl⟩ := h
              rfl
            · rw [if_neg c5] at h
              by_cases c6 : digI b.toNat = true
              · rw [if_pos c6] at h
                by_cases hn : numW (ba ((b :: r).take (stopN digI (b :: r)))) = true ∧ fineL ((b :: r).drop (stopN digI (b :: r))) = true
                · rw [if_pos hn] at h
                  simp only [Option.some.injEq, Prod.mk.injEq] at h
                  obtain ⟨rfl, rfl, rfl, rfl⟩ := h
                  unfold wordT
                  rw [if_neg (by decide), if_neg (by decide), if_pos rfl, if_pos hn.1]
                · rw [if_neg hn] at h; cases h
              · rw [if_neg c6] at h
                by_cases c7 : sigB b.toNat = true
                · rw [if_pos c7] at h
                  simp only [Option.some.injEq, Prod.mk.injEq] at h
                  obtain ⟨rfl, rfl, rfl, rfl⟩ := h
                  have hs : sigW (ba [b]) = true := by
                    rw [sigW_one rfl]; exact c7
                  unfold wordT
                  rw [if_neg (by decide), if_neg (by decide), if_neg (by decide), if_pos rfl, if_pos hs]
                  rfl
                · rw [if_neg c7] at h; cases h
theorem sign_back {l : List UInt8} {k : Int} {w : ByteArray} {o : Int} {n : Nat} (h : signL l = some (k, w, o, n)) : wordT k w o = ba (l.take n) := by
  unfold signL at h
  by_cases hk : kindL l = 0
  · rw [if_pos hk] at h; exact plain_back h
  · rw [if_neg hk] at h
    rcases kindL_cases l with h0 | ⟨hm, hbg⟩
    · exact absurd h0 hk
    · obtain ⟨K, hK⟩ : ∃ K, K = kindL l := ⟨_, rfl⟩
      rw [← hK] at h hm hbg hk
      unfold atomL at h
      cases hn : nameL (l.drop (preW K).size) with
      | none => rw [hn] at h; cases h
      | some m =>
        rw [hn] at h
        simp only [Option.some.injEq, Prod.mk.injEq] at h
        obtain ⟨rfl, rfl, rfl, rfl⟩ := h
        obtain ⟨_, hmay⟩ := name_back hn
        have ho : K = 1 ∨ K = 2 ∨ K = 4 ∨ K = 5 := by simpa [kinds] using hm
        unfold begL at hbg
        have hbt := of_decide_eq_true hbg
        have e : wordT 1 (ba ((l.drop (preW K).size).take m)) K = preW K ++ ba ((l.drop (preW K).size).take m) := by
          unfold wordT atomW
          rw [if_pos rfl, if_neg hk, if_pos hmay, if_pos ho]
        rw [e, List.take_add, ba_append, hbt, ba_eta]
def tot (l : List Tok) : Nat := (l.map fun t => (wrd t).size).sum
theorem tot_snoc (l : List Tok) (t : Tok) : tot (l ++ [t]) = tot l + (wrd t).size := by simp [tot]
theorem ba_ne {w : ByteArray} (h : 1 ≤ w.size) : w ≠ ⟨#[]⟩ := by
  intro e; rw [e] at h; exact absurd h (by decide)
theorem scanF_words : ∀ (f : Nat) (l : List UInt8) (a : Nat) (acc : List Tok), (∀ t ∈ acc, wrd t ≠ ⟨#[]⟩) → (∀ t ∈ (scanF f l a acc).1, wrd t ≠ ⟨#[]⟩) ∧ tot (scanF f l a acc).1 ≤ tot acc + l.length
  | 0, _, _, acc, h => ⟨h, by show tot acc ≤ _; omega⟩
  | f + 1, [], _, acc, h => ⟨h, by show tot acc ≤ _; omega⟩
  | f + 1, b :: r, a, acc, h => by
    have h0 : (∀ t ∈ ([] : List Tok), wrd t ≠ ⟨#[]⟩) ∧ tot [] ≤ tot acc + (b :: r).length := ⟨by simp, by simp [tot]⟩
    simp only [scanF]
    split
    · obtain ⟨h1, h2⟩ := scanF_words f r (a + 1) acc h
      exact ⟨h1, by simp only [List.length_cons]; omega⟩
    · split
      · obtain ⟨h1, h2⟩ := scanF_words f ((b :: r).drop (stopN notI (b :: r))) (a + stopN notI (b :: r)) acc h
        refine ⟨h1, ?_⟩
        rw [List.length_drop] at h2
        omega
      · split
        · exact h0
        · next k w o n hs =>
          split
          · exact h0
          · have hb := sign_back hs
            obtain ⟨a1, a2, _⟩ := signL_ascii hs
            have hsz : (wrd ⟨k, w, o, a⟩).size = n := by
              unfold wrd
              rw [hb, ba_len2, List.length_take]; omega
            obtain ⟨h1, h2⟩ := scanF_words f ((b :: r).drop n) (a + n) (acc ++ [⟨k, w, o, a⟩]) (fun t ht => by
              rcases List.mem_append.1 ht with ht | ht
              · exact h t ht
              · simp only [List.mem_singleton] at ht
                subst ht
                exact ba_ne (by omega))
            refine ⟨h1, ?_⟩
            rw [List.length_drop, tot_snoc, hsz] at h2
            omega
theorem allT_words (s : ByteArray) : (∀ t ∈ (allT s).1, wrd t ≠ ⟨#[]⟩) ∧ tot (allT s).1 ≤ s.size := by
  have hl := len_size s
  unfold allT
  split
  · exact ⟨by simp, by simp [tot]⟩
  · obtain ⟨h1, h2⟩ := scanF_words s.data.toList.length s.data.toList 0 [] (by simp)
    refine ⟨h1, ?_⟩
    have h3 : tot [] = 0 := rfl
    unfold scan
    omega
theorem tot_len : ∀ {l : List Tok}, (∀ t ∈ l, wrd t ≠ ⟨#[]⟩) → l.length ≤ tot l
  | [], _ => by simp
  | t :: l, h => by
    have h1 := tot_len (l := l) (fun x hx => h x (by simp [hx]))
    have h2 : 1 ≤ (wrd t).size := by
      rcases Nat.eq_zero_or_pos (wrd t).size with h0 | h0
      · exact absurd (by rw [← ba_eta (wrd t), List.eq_nil_of_length_eq_zero (show (wrd t).data.toList.length = 0 by rw [len_size]; exact h0)]; rfl) (h t (by simp))
      · exact h0
    have e : tot (t :: l) = (wrd t).size + tot l := by simp [tot]
    rw [e, List.length_cons]; omega
theorem joinB_tot (l : List Tok) : (joinB (l.map wrd)).size ≤ tot l + l.length := by
  unfold joinB
  rw [ba_len2]
  cases l with
  | nil => simp [Lib.join_nil]
  | cons x r =>
    rw [List.map_cons, List.map_cons, Lib.join_length]
    have : Lib.lens ((x :: r).map wl) = tot (x :: r) := by
      simp [Lib.lens, tot, wl]
      rfl
    simp only [List.map_map, List.length_map, List.length_cons, List.length_nil] at this ⊢
    have e : Lib.lens ((wrd x).data.toList :: r.map ((fun x => x.data.toList) ∘ wrd)) = tot (x :: r) := this
    rw [e]; omega
/-- what is read can be written -/
theorem all_text {s : ByteArray} (hs : s.size ≤ 1900) : (textT (allT s).1).2 = 0 := by
  obtain ⟨h1, h2⟩ := allT_words s
  have h3 := allT_len s
  have h4 := tot_len h1
  have h5 := joinB_tot (allT s).1
  unfold textT
  rw [if_neg (by omega), if_pos (List.all_eq_true.2 fun t ht => decide_eq_true (h1 t ht)), if_neg (by omega)]
end Go.Proofs.Ytmbijfcjfhdnjaa

/- TokenBack: the call. -/
namespace Go.Proofs.Ytmbijfcjfhdnjaa
set_option linter.unusedSimpArgs false
set_option linter.unusedVariables false
open Go.RowKit Go.Lib

theorem allT_err {s : ByteArray} (h : (allT s).2.2 ≠ 0) : (allT s).1 = [] := by
  have gen : ∀ (f : Nat) (l : List UInt8) (a : Nat) (acc : List Tok), (scanF f l a acc).2.2 ≠ 0 → (scanF f l a acc).1 = [] := by
    intro f
    induction f with
    | zero => intro l a acc h; exact absurd rfl h
    | succ f ih =>
      intro l a acc h
      cases l with
      | nil => exact absurd rfl h
      | cons b r =>
        simp only [scanF] at h ⊢
        split at h
        · next c => rw [if_pos c]; exact ih _ _ _ h
        · next c =>
          rw [if_neg c]
          split at h
          · next c2 => rw [if_pos c2]; exact ih _ _ _ h
          · next c2 =>
            rw [if_neg c2]
            split at h
            · rfl
            · next hs =>
              split at h
              · next c3 => rw [if_pos c3]
              · next c3 => rw [if_neg c3]; exact ih _ _ _ h
  unfold allT at h ⊢
  split
  · rfl
  · next c => rw [if_neg c] at h; exact gen _ _ _ _ h
theorem sign_size {l : List UInt8} {k : Int} {w : ByteArray} {o : Int} {n : Nat} (h : signL l = some (k, w, o, n)) (hl : l.length ≤ 1000000) : w.size ≤ 1000000 := by
  have tk : ∀ (l : List UInt8) (n : Nat), l.length ≤ 1000000 → (ba (l.take n)).size ≤ 1000000 := fun l n h => by rw [ba_len2, List.length_take]; omega
  have z : (ba []).size ≤ 1000000 := by decide
  unfold signL at h
  split at h
  · cases l with
    | nil => cases h
    | cons b r =>
      simp only [plainL] at h
      repeat' split at h
      all_goals first
        | (cases h; done)
        | (simp only [Option.some.injEq, Prod.mk.injEq] at h; obtain ⟨_, rfl, _⟩ := h; first | exact tk _ _ hl | exact z | (rw [ba_len2]; simp))
  · unfold atomL at h
    split at h
    · cases h
    · simp only [Option.some.injEq, Prod.mk.injEq] at h
      obtain ⟨_, rfl, _⟩ := h
      exact tk _ _ (by simp; omega)
theorem allT_name {s : ByteArray} (hs : s.size ≤ 1000000) : ∀ t ∈ (allT s).1, t.name.size ≤ 1000000 := by
  have hl := len_size s
  have gen : ∀ (f : Nat) (l : List UInt8) (a : Nat) (acc : List Tok), l.length ≤ 1000000 → (∀ t ∈ acc, t.name.size ≤ 1000000) → ∀ t ∈ (scanF f l a acc).1, t.name.size ≤ 1000000 := by
    intro f
    induction f with
    | zero => intro l a acc _ h; exact h
    | succ f ih =>
      intro l a acc hlen h
      cases l with
      | nil => exact h
      | cons b r =>
        simp only [scanF]
        simp only [List.length_cons] at hlen
        split
        · exact ih _ _ _ (by omega) h
        · split
          · exact ih _ _ _ (by simp; omega) h
          · split
            · simp
            · next k w o n hsg =>
              split
              · simp
              · refine ih _ _ _ (by simp; omega) fun t ht => ?_
                rcases List.mem_append.1 ht with ht | ht
                · exact h t ht
                · simp only [List.mem_singleton] at ht
                  subst ht
                  exact sign_size hsg (by simp; omega)
  unfold allT
  split
  · simp
  · exact gen _ _ _ _ (by omega) (by simp)
end Go.Proofs.Ytmbijfcjfhdnjaa

/- Tokens stand where they say: plain laws. -/
namespace Go.Proofs.Ytmbijfcjfhdnjaa
set_option linter.unusedSimpArgs false
set_option linter.unusedVariables false
open Go.RowKit Go.Lib

/-- bytes between tokens, with the note's mark; none: something else stands there -/
def gapF : Bool → List UInt8 → Option Bool
  | nt, [] => some nt
  | nt, b :: r => if (!(b.toNat == 10) && (b.toNat == 35 || nt)) = true then gapF true r else if blankB b = true then gapF false r else none
/-- tokens stand in bytes, the first of which is at a place -/
def places : List UInt8 → Nat → List Tok → Prop
  | l, _, [] => ∃ nt, gapF false l = some nt
  | l, a, t :: ts => ∃ g n : Nat, t.at_ = (a + g : Nat) ∧ g + n ≤ l.length ∧ 1 ≤ n ∧ gapF false (l.take g) = some false ∧ ((l.drop g).headD 0).toNat ≠ 10 ∧ wrd t = ba ((l.drop g).take n) ∧ places (l.drop (g + n)) (a + g + n) ts
theorem gap_blank {b : UInt8} (h : blankB b = true) (r : List UInt8) : gapF false (b :: r) = gapF false r := by
  have h2 : b.toNat = 32 ∨ b.toNat = 9 ∨ b.toNat = 10 := by simp [blankB] at h; omega
  rw [gapF, if_neg (by rcases h2 with h2 | h2 | h2 <;> simp [h2]), if_pos h]
theorem gap_note : ∀ {x : List UInt8} (_ : ∀ b ∈ x, notI b.toNat = true) (r : List UInt8), gapF true (x ++ r) = gapF true r
  | [], _, r => rfl
  | b :: x, h, r => by
    have hb := h b (by simp)
    simp only [notI, decide_eq_true_eq] at hb
    rw [List.cons_append, gapF, if_pos (by simp; omega)]
    exact gap_note (fun c hc => h c (by simp [hc])) r
theorem gap_end {r : List UInt8} (hr : (r.headD 10).toNat = 10) (h : r ≠ []) : gapF true r = gapF false r := by
  cases r with
  | nil => exact absurd rfl h
  | cons b r =>
    have hb : b.toNat = 10 := hr
    simp [gapF, hb, blankB]
theorem gap_35 (r : List UInt8) : gapF false (35 :: r) = gapF true r := by rw [gapF, if_pos (by decide)]
theorem places_blank {b : UInt8} (h : blankB b = true) {r : List UInt8} {a : Nat} : ∀ {ts : List Tok}, places r (a + 1) ts → places (b :: r) a ts
  | [], ⟨nt, h2⟩ => ⟨nt, by rw [gap_blank h]; exact h2⟩
  | t :: ts, ⟨g, n, h1, h2, h3, h4, h5, h6, h7⟩ => by
    refine ⟨g + 1, n, by rw [h1]; omega, by simp; omega, h3, by rw [List.take_succ_cons, gap_blank h]; exact h4, by rw [List.drop_succ_cons]; exact h5, by rw [List.drop_succ_cons]; exact h6, ?_⟩
    rw [show g + 1 + n = (g + n) + 1 by omega, List.drop_succ_cons, show a + (g + 1) + n = a + 1 + g + n by omega]
    exact h7
theorem places_note {x r : List UInt8} (hx : ∀ b ∈ x, notI b.toNat = true) (hr : (r.headD 10).toNat = 10) {a : Nat} : ∀ {ts : List Tok}, places r (a + (x.length + 1)) ts → places (35 :: (x ++ r)) a ts
  | [], ⟨nt, h2⟩ => by
    by_cases h0 : r = []
    · subst h0
      exact ⟨true, by rw [gap_35, gap_note hx]; rfl⟩
    · exact ⟨nt, by rw [gap_35, gap_note hx, gap_end hr h0]; exact h2⟩
  | t :: ts, ⟨g, n, h1, h2, h3, h4, h5, h6, h7⟩ => by
    have hg : 1 ≤ g := by
      rcases Nat.eq_zero_or_pos g with h0 | h0
      · subst h0
        rw [List.drop_zero] at h5
        cases r with
        | nil => simp at h2; omega
        | cons c r => exact absurd hr h5
      · exact h0
    have hne : r.take g ≠ [] := by
      intro e; have := congrArg List.length e; rw [List.length_take, List.length_nil] at this; omega
    have hhd : ((r.take g).headD 10).toNat = 10 := by
      cases r with
      | nil => simp at hne
      | cons c r => rw [show g = (g - 1) + 1 by omega, List.take_succ_cons]; exact hr
    have hl1 : (35 :: x).length = x.length + 1 := by simp
    have hdr : ∀ m, (35 :: (x ++ r)).drop (x.length + 1 + m) = r.drop m := fun m => by
      rw [← List.drop_drop, ← hl1, ← List.cons_append, List.drop_left]
    have htk : (35 :: (x ++ r)).take (x.length + 1 + g) = (35 :: x) ++ r.take g := by
      rw [← hl1, ← List.cons_append, List.take_length_add_append]
    refine ⟨x.length + 1 + g, n, by rw [h1]; omega, by simp; omega, h3, ?_, by rw [hdr]; exact h5, by rw [hdr]; exact h6, ?_⟩
    · rw [htk, List.cons_append, gap_35, gap_note hx, gap_end hhd hne]
      exact h4
    · rw [show x.length + 1 + g + n = x.length + 1 + (g + n) by omega, hdr, show a + (x.length + 1 + g) + n = a + (x.length + 1) + g + n by omega]
      exact h7
theorem note_split {b : UInt8} {r : List UInt8} (h : b.toNat = 35) : ∃ x : List UInt8, b :: r = 35 :: (x ++ (b :: r).drop (stopN notI (b :: r))) ∧ (∀ c ∈ x, notI c.toNat = true) ∧ (((b :: r).drop (stopN notI (b :: r))).headD 10).toNat = 10 ∧ x.length + 1 = stopN notI (b :: r) := by
  have hb : b = 35 := UInt8.toNat_inj.1 h
  have h1 := note_one (r := r) h
  have hle := stopN_le notI (b :: r)
  obtain ⟨m, hm⟩ : ∃ m, stopN notI (b :: r) = m + 1 := ⟨stopN notI (b :: r) - 1, by omega⟩
  simp only [List.length_cons] at hle
  refine ⟨r.take m, ?_, fun c hc => ?_, ?_, ?_⟩
  · rw [hm, List.drop_succ_cons, List.take_append_drop, hb]
  · obtain ⟨j, hj, rfl⟩ := List.mem_iff_getElem.1 hc
    rw [List.length_take] at hj
    rw [List.getElem_take]
    have := stopN_at (q := notI) (l := b :: r) (i := j + 1) (by simp; omega) (by omega)
    rwa [List.getElem_cons_succ] at this
  · rcases Nat.lt_or_ge (stopN notI (b :: r)) (b :: r).length with h2 | h2
    · have h3 := stopN_end h2
      rw [List.drop_eq_getElem_cons h2]
      show ((b :: r)[stopN notI (b :: r)]).toNat = 10
      simp only [notI, decide_eq_false_iff_not, Decidable.not_not] at h3
      omega
    · rw [List.drop_of_length_le h2]; rfl
  · rw [List.length_take, hm]; omega
theorem scanF_places : ∀ (f : Nat) (l : List UInt8) (a : Nat) (acc : List Tok), l.length ≤ f → (scanF f l a acc).2.2 = 0 → ∃ ts : List Tok, (scanF f l a acc).1 = acc ++ ts ∧ places l a ts
  | 0, l, a, acc, hl, _ => by
    have : l = [] := List.eq_nil_of_length_eq_zero (by omega)
    subst this
    exact ⟨[], by simp [scanF], ⟨false, rfl⟩⟩
  | f + 1, [], a, acc, _, _ => ⟨[], by simp [scanF], ⟨false, rfl⟩⟩
  | f + 1, b :: r, a, acc, hl, h => by
    simp only [List.length_cons] at hl
    simp only [scanF] at h ⊢
    by_cases c1 : blankB b = true
    · rw [if_pos c1] at h ⊢
      obtain ⟨ts, h1, h2⟩ := scanF_places f r (a + 1) acc (by omega) h
      exact ⟨ts, h1, places_blank c1 h2⟩
    · rw [if_neg c1] at h ⊢
      by_cases c2 : b.toNat = 35
      · rw [if_pos c2] at h ⊢
        obtain ⟨x, e1, e2, e3, e4⟩ := note_split (r := r) c2
        obtain ⟨ts, h1, h2⟩ := scanF_places f ((b :: r).drop (stopN notI (b :: r))) (a + stopN notI (b :: r)) acc (by rw [List.length_drop]; simp; omega) h
        refine ⟨ts, h1, ?_⟩
        rw [e1]
        refine places_note e2 e3 ?_
        rw [e4]; exact h2
      · rw [if_neg c2] at h ⊢
        cases hs : signL (b :: r) with
        | none => rw [hs] at h; cases h
        | some y =>
          obtain ⟨k, w, o, n⟩ := y
          rw [hs] at h
          simp only at h ⊢
          by_cases c3 : acc.length = 1000
          · rw [if_pos c3] at h; cases h
          · rw [if_neg c3] at h ⊢
            obtain ⟨a1, a2, _⟩ := signL_ascii hs
            obtain ⟨ts, h1, h2⟩ := scanF_places f ((b :: r).drop n) (a + n) (acc ++ [⟨k, w, o, a⟩]) (by rw [List.length_drop]; simp; omega) h
            refine ⟨⟨k, w, o, a⟩ :: ts, by rw [h1, List.append_assoc]; rfl, 0, n, by simp, by omega, a1, rfl, ?_, sign_back hs, ?_⟩
            · show b.toNat ≠ 10
              intro e; rw [sign_none (by omega)] at hs; cases hs
            · rw [Nat.zero_add, Nat.add_zero]; exact h2
theorem allT_places {s : ByteArray} (h : (allT s).2.2 = 0) : places s.data.toList 0 (allT s).1 := by
  unfold allT at h ⊢
  by_cases c : 4000 < s.size
  · rw [if_pos c] at h; cases h
  · rw [if_neg c] at h ⊢
    obtain ⟨ts, h1, h2⟩ := scanF_places _ s.data.toList 0 [] (Nat.le_refl _) h
    unfold scan
    rw [h1]; exact h2
end Go.Proofs.Ytmbijfcjfhdnjaa

/- TokenPlaces: the call (under way). -/
namespace Go.Proofs.Ytmbijfcjfhdnjaa
set_option linter.unusedSimpArgs false
set_option linter.unusedVariables false
open Go.RowKit Go.Lib

theorem allT_place {s : ByteArray} : (allT s).2.1 ≤ s.size := by
  have hl := len_size s
  have gen : ∀ (f : Nat) (l : List UInt8) (a : Nat) (acc : List Tok), (scanF f l a acc).2.1 ≤ a + l.length := by
    intro f
    induction f with
    | zero => intro l a acc; show 0 ≤ _; omega
    | succ f ih =>
      intro l a acc
      cases l with
      | nil => show 0 ≤ _; omega
      | cons b r =>
        simp only [scanF]
        split
        · have := ih r (a + 1) acc
          simp only [List.length_cons]; omega
        · split
          · have := ih ((b :: r).drop (stopN notI (b :: r))) (a + stopN notI (b :: r)) acc
            have h2 := stopN_le notI (b :: r)
            rw [List.length_drop] at this
            omega
          · split
            · simp
            · next k w o n hs =>
              split
              · simp
              · obtain ⟨a1, a2, _⟩ := signL_ascii hs
                have := ih ((b :: r).drop n) (a + n) (acc ++ [⟨k, w, o, a⟩])
                rw [List.length_drop] at this
                omega
  unfold allT
  split
  · simp
  · have := gen s.data.toList.length s.data.toList 0 []
    unfold scan
    omega
theorem gap_step {s : ByteArray} {k st : Nat} (hk : k < st) (hst : st ≤ s.size) : (s.data.toList.drop k).take (st - k) = s.data.toList[k]'(by have := len_size s; omega) :: (s.data.toList.drop (k + 1)).take (st - (k + 1)) := by
  have hl := len_size s
  rw [List.drop_eq_getElem_cons (by omega), show st - k = (st - (k + 1)) + 1 by omega, List.take_succ_cons]
set_option maxRecDepth 100000 in
set_option maxHeartbeats 4000000 in
theorem gap_loop {s : ByteArray} {X : AV} {e i st : Nat} {nt : Bool} {fr0 : Fr} {h : Hp} {Q : Exit → Fr → Hp → Prop} (hs : s.size ≤ 1000000) (he : e ≤ st) (hst : st ≤ s.size)
    (hgap : gapF false ((s.data.toList.drop e).take (st - e)) = some nt)
    (hf : restr [0, 3, 6, 7, 8] fr0 = [(0, .str s), (3, X), (6, .int .i64 e), (7, .int .i64 i), (8, .int .i64 st)])
    (hQ : ∀ fr1 : Fr, restr [0, 3, 6, 7, 8, 9] fr1 = [(0, .str s), (3, X), (6, .int .i64 e), (7, .int .i64 i), (8, .int .i64 st), (9, .bool nt)] → W Try.prog J_law04_TokenPlaces_j3 fr1 h Q) :
    W Try.prog J_law04_TokenPlaces_j7 fr0 h Q := by
  have hl := len_size s
  simp only [J_law04_TokenPlaces_j7, W_keep]
  rw [hf]
  simp only [wk,if_true,if_false,forall_const,implies_true,ne_eq,eq_self,Nat.reduceEqDiff,Nat.reduceAdd,Nat.reduceMul,Nat.reduceSub,Nat.reduceLeDiff,Nat.reduceLT,Int.reduceEq,Int.reduceLT,Int.reduceLE,Int.reduceAdd,Int.reduceSub,Int.reduceMul,Int.reduceNeg,Int.reduceNe,reduceCtorEq,Int.reduceToNat,↓reduceIte, (show ((st : Int) < e) = False by simp; omega), (show ((s.size : Int) < st) = False by simp; omega)]
  refine W_loop (fun n fr h' => ∃ (j : Nat) (b : Bool), e ≤ j ∧ j ≤ st ∧ n = st - j ∧ h' = h ∧ gapF b ((s.data.toList.drop j).take (st - j)) = some nt ∧ fr = [(0, .str s), (3, X), (6, .int .i64 e), (7, .int .i64 i), (8, .int .i64 st), (9, .bool b), (10, .int .i64 j)]) (st - e) ⟨e, false, by omega, he, rfl, rfl, hgap, rfl⟩ ?_
  rintro n fr h' ⟨j, b, hej, hj, rfl, rfl, hg, rfl⟩
  simp only [J_law04_TokenPlaces_j6, wk,if_true,if_false,forall_const,implies_true,ne_eq,eq_self,Nat.reduceEqDiff,Nat.reduceAdd,Nat.reduceMul,Nat.reduceSub,Nat.reduceLeDiff,Nat.reduceLT,Int.reduceEq,Int.reduceLT,Int.reduceLE,Int.reduceAdd,Int.reduceSub,Int.reduceMul,Int.reduceNeg,Int.reduceNe,reduceCtorEq,Int.reduceToNat,↓reduceIte]
  refine ⟨fun hlt => ?_, fun hge => ?_⟩
  · have hlt : j < st := by omega
    rw [gap_step hlt hst] at hg
    have hj2 : j < s.data.toList.length := by omega
    have hv : byteAt s (j : Int).toNat = (s.data.toList[j]).toNat := byte_at hj2
    refine ⟨⟨by omega, by omega⟩, ?_⟩
    rw [hv]
    have nxt : ∀ b', gapF b' ((s.data.toList.drop (j + 1)).take (st - (j + 1))) = some nt → inR ((j : Int) + 1) ∧ ∃ m, m < st - j ∧ ∃ (j' : Nat) (b'' : Bool), e ≤ j' ∧ j' ≤ st ∧ m = st - j' ∧ gapF b'' ((s.data.toList.drop j').take (st - j')) = some nt ∧ [(0, AV.str s), (3, X), (6, .int .i64 e), (7, .int .i64 i), (8, .int .i64 st), (9, .bool b'), (10, .int .i64 ((j : Int) + 1))] = [(0, .str s), (3, X), (6, .int .i64 e), (7, .int .i64 i), (8, .int .i64 st), (9, .bool b''), (10, .int .i64 j')] := fun b' hb' =>
      ⟨inR_of (by omega) (by omega), st - (j + 1), by omega, j + 1, b', by omega, by omega, rfl, hb', rfl⟩
    obtain ⟨B, hB⟩ : ∃ B : UInt8, B = s.data.toList[j] := ⟨_, rfl⟩
    rw [← hB] at hg ⊢
    simp only [gapF] at hg
    by_cases c35 : B.toNat = 35
    · rw [if_pos (by simp [c35])] at hg
      have hx := nxt true hg
      simp only [J_law04_TokenPlaces_j5, J_law04_TokenPlaces_j4, hv, ← hB, wk,if_true,if_false,forall_const,implies_true,ne_eq,eq_self,Nat.reduceEqDiff,Nat.reduceAdd,Nat.reduceMul,Nat.reduceSub,Nat.reduceLeDiff,Nat.reduceLT,Int.reduceEq,Int.reduceLT,Int.reduceLE,Int.reduceAdd,Int.reduceSub,Int.reduceMul,Int.reduceNeg,Int.reduceNe,reduceCtorEq,Int.reduceToNat,↓reduceIte, (show (((B.toNat : Nat) : Int) = 35) = True by simp [c35]), (show (((B.toNat : Nat) : Int) = 10) = False by simp [c35])]
      exact ⟨⟨by omega, by omega⟩, hx⟩
    · by_cases c10 : B.toNat = 10
      · rw [if_neg (by simp [c10]), if_pos (by simp [c10, blankB])] at hg
        have hx := nxt false hg
        simp only [J_law04_TokenPlaces_j5, J_law04_TokenPlaces_j4, hv, ← hB, wk,if_true,if_false,forall_const,implies_true,ne_eq,eq_self,Nat.reduceEqDiff,Nat.reduceAdd,Nat.reduceMul,Nat.reduceSub,Nat.reduceLeDiff,Nat.reduceLT,Int.reduceEq,Int.reduceLT,Int.reduceLE,Int.reduceAdd,Int.reduceSub,Int.reduceMul,Int.reduceNeg,Int.reduceNe,reduceCtorEq,Int.reduceToNat,↓reduceIte, (show (((B.toNat : Nat) : Int) = 35) = False by simp; omega), (show (((B.toNat : Nat) : Int) = 10) = True by simp [c10]), (show (((B.toNat : Nat) : Int) = 9) = False by simp; omega), (show (((B.toNat : Nat) : Int) = 32) = False by simp; omega)]
        exact ⟨⟨by omega, by omega⟩, ⟨by omega, by omega⟩, ⟨by omega, by omega⟩, ⟨by omega, by omega⟩, hx⟩
      · cases b with
        | true =>
          rw [if_pos (by simp [c10])] at hg
          have hx := nxt true hg
          simp only [J_law04_TokenPlaces_j5, J_law04_TokenPlaces_j4, hv, ← hB, wk,if_true,if_false,forall_const,implies_true,ne_eq,eq_self,Nat.reduceEqDiff,Nat.reduceAdd,Nat.reduceMul,Nat.reduceSub,Nat.reduceLeDiff,Nat.reduceLT,Int.reduceEq,Int.reduceLT,Int.reduceLE,Int.reduceAdd,Int.reduceSub,Int.reduceMul,Int.reduceNeg,Int.reduceNe,reduceCtorEq,Int.reduceToNat,↓reduceIte, (show (((B.toNat : Nat) : Int) = 35) = False by simp; omega), (show (((B.toNat : Nat) : Int) = 10) = False by simp; omega)]
          exact ⟨⟨by omega, by omega⟩, hx⟩
        | false =>
          rw [if_neg (by simp [c35])] at hg
          by_cases cb : blankB B = true
          · rw [if_pos cb] at hg
            have hx := nxt false hg
            have h2 : B.toNat = 32 ∨ B.toNat = 9 := by simp [blankB] at cb; omega
            rcases h2 with h2 | h2
            · simp only [J_law04_TokenPlaces_j5, J_law04_TokenPlaces_j4, hv, ← hB, wk,if_true,if_false,forall_const,implies_true,ne_eq,eq_self,Nat.reduceEqDiff,Nat.reduceAdd,Nat.reduceMul,Nat.reduceSub,Nat.reduceLeDiff,Nat.reduceLT,Int.reduceEq,Int.reduceLT,Int.reduceLE,Int.reduceAdd,Int.reduceSub,Int.reduceMul,Int.reduceNeg,Int.reduceNe,reduceCtorEq,Int.reduceToNat,↓reduceIte, (show (((B.toNat : Nat) : Int) = 35) = False by simp; omega), (show (((B.toNat : Nat) : Int) = 10) = False by simp; omega), (show (((B.toNat : Nat) : Int) = 32) = True by simp [h2])]
              exact ⟨⟨by omega, by omega⟩, ⟨by omega, by omega⟩, hx⟩
            · simp only [J_law04_TokenPlaces_j5, J_law04_TokenPlaces_j4, hv, ← hB, wk,if_true,if_false,forall_const,implies_true,ne_eq,eq_self,Nat.reduceEqDiff,Nat.reduceAdd,Nat.reduceMul,Nat.reduceSub,Nat.reduceLeDiff,Nat.reduceLT,Int.reduceEq,Int.reduceLT,Int.reduceLE,Int.reduceAdd,Int.reduceSub,Int.reduceMul,Int.reduceNeg,Int.reduceNe,reduceCtorEq,Int.reduceToNat,↓reduceIte, (show (((B.toNat : Nat) : Int) = 35) = False by simp; omega), (show (((B.toNat : Nat) : Int) = 10) = False by simp; omega), (show (((B.toNat : Nat) : Int) = 32) = False by simp; omega), (show (((B.toNat : Nat) : Int) = 9) = True by simp [h2])]
              exact ⟨⟨by omega, by omega⟩, ⟨by omega, by omega⟩, ⟨by omega, by omega⟩, hx⟩
          · rw [if_neg cb] at hg; cases hg
  · obtain rfl : j = st := by omega
    rw [Nat.sub_self, List.take_zero] at hg
    obtain rfl : b = nt := by simpa [gapF] using hg
    exact hQ _ rfl
set_option maxRecDepth 100000 in
set_option maxHeartbeats 4000000 in
theorem p_places (s : ByteArray) : PCalls Try.prog 3 [.str s] (.bool true) := by
  have hl := len_size s
  refine pcalls_of (by first | rfl | simp [free, free.frees, frees_str, frees_u8, frees_u16]) (by first | rfl | simp [free, free.frees, frees_str, frees_u8, frees_u16]) (acalls_of mixed J_law04_TokenPlaces_ok (Nat.le_of_ble_eq_true rfl) ?_); simp only [J_law04_TokenPlaces, wk,if_true,if_false,forall_const,implies_true,ne_eq,eq_self,Nat.reduceEqDiff,Nat.reduceAdd,Nat.reduceMul,Nat.reduceSub,Nat.reduceLeDiff,Nat.reduceLT,Int.reduceEq,Int.reduceLT,Int.reduceLE,Int.reduceAdd,Int.reduceSub,Int.reduceMul,Int.reduceNeg,Int.reduceNe,reduceCtorEq,Int.reduceToNat,↓reduceIte]
  refine PCalls.use (p_awake04) ?_; simp only [wk,if_true,if_false,forall_const,implies_true,ne_eq,eq_self,Nat.reduceEqDiff,Nat.reduceAdd,Nat.reduceMul,Nat.reduceSub,Nat.reduceLeDiff,Nat.reduceLT,Int.reduceEq,Int.reduceLT,Int.reduceLE,Int.reduceAdd,Int.reduceSub,Int.reduceMul,Int.reduceNeg,Int.reduceNe,reduceCtorEq,Int.reduceToNat,↓reduceIte]
  intro hs
  have q := p_pall s (by omega)
  have e1 := @allT_err s
  have e2 := @allT_place s
  have e3 := @allT_places s
  have e4 := allT_len s
  have e5 := allT_name (s := s) (by omega)
  obtain ⟨R, hR⟩ : ∃ R, R = allT s := ⟨_, rfl⟩
  rw [← hR] at q e1 e2 e3 e4 e5
  simp only [resV, vToks] at q
  refine PCalls.use (q) ?_; simp only [wk,if_true,if_false,forall_const,implies_true,ne_eq,eq_self,Nat.reduceEqDiff,Nat.reduceAdd,Nat.reduceMul,Nat.reduceSub,Nat.reduceLeDiff,Nat.reduceLT,Int.reduceEq,Int.reduceLT,Int.reduceLE,Int.reduceAdd,Int.reduceSub,Int.reduceMul,Int.reduceNeg,Int.reduceNe,reduceCtorEq,Int.reduceToNat,↓reduceIte]
  refine ⟨fun h0 => ?_, fun h0 => ?_⟩
  · rw [e1 h0]
    exact ⟨fun _ => ⟨fun _ => by rw [decide_eq_true (by omega)], fun h => absurd (by omega) h⟩, fun h => absurd rfl h⟩
  · have hp := e3 h0
    refine W_loop (fun n fr h' => ∃ i e : Nat, i ≤ R.1.length + 1 ∧ n = R.1.length + 1 - i ∧ e ≤ s.size ∧ (i ≤ R.1.length → places (s.data.toList.drop e) e (R.1.drop i)) ∧ fr = [(0, .str s), (3, .lst .ro R.1.length (toksC R.1)), (6, .int .i64 e), (7, .int .i64 i)]) (R.1.length + 1) ⟨0, 0, by omega, by omega, by omega, fun _ => hp, rfl⟩ ?_
    rintro n fr h' ⟨i, e, hi, rfl, he, hpl, rfl⟩
    simp only [J_law04_TokenPlaces_j8, wk,if_true,if_false,forall_const,implies_true,ne_eq,eq_self,Nat.reduceEqDiff,Nat.reduceAdd,Nat.reduceMul,Nat.reduceSub,Nat.reduceLeDiff,Nat.reduceLT,Int.reduceEq,Int.reduceLT,Int.reduceLE,Int.reduceAdd,Int.reduceSub,Int.reduceMul,Int.reduceNeg,Int.reduceNe,reduceCtorEq,Int.reduceToNat,↓reduceIte]
    refine ⟨fun hle => ?_, fun hgt => ?_⟩
    · have hplc := hpl (by omega)
      have nxt : ∀ e' : Nat, e' ≤ s.size → (i + 1 ≤ R.1.length → places (s.data.toList.drop e') e' (R.1.drop (i + 1))) → inR ((i : Int) + 1) ∧ ∃ m, m < R.1.length + 1 - i ∧ ∃ i' e2 : Nat, i' ≤ R.1.length + 1 ∧ m = R.1.length + 1 - i' ∧ e2 ≤ s.size ∧ (i' ≤ R.1.length → places (s.data.toList.drop e2) e2 (R.1.drop i')) ∧ [(0, AV.str s), (3, .lst .ro R.1.length (toksC R.1)), (6, .int .i64 e'), (7, .int .i64 ((i : Int) + 1))] = [(0, .str s), (3, .lst .ro R.1.length (toksC R.1)), (6, .int .i64 e2), (7, .int .i64 i')] := fun e' he' hp' =>
        ⟨inR_of (by omega) (by omega), R.1.length + 1 - (i + 1), by omega, i + 1, e', by omega, by omega, he', hp', rfl⟩
      refine ⟨fun hlt => ?_, fun hge => ?_⟩
      · have hil : i < R.1.length := by omega
        have hd : (toksC R.1).drop ((i : Int).toNat * 4) = _ := toksC_drop hil
        have hnm := e5 _ (List.getElem_mem hil)
        refine ⟨⟨by omega, by omega⟩, ?_⟩
        simp only [wk,if_true,if_false,forall_const,implies_true,ne_eq,eq_self,Nat.reduceEqDiff,Nat.reduceAdd,Nat.reduceMul,Nat.reduceSub,Nat.reduceLeDiff,Nat.reduceLT,Int.reduceEq,Int.reduceLT,Int.reduceLE,Int.reduceAdd,Int.reduceSub,Int.reduceMul,Int.reduceNeg,Int.reduceNe,reduceCtorEq,Int.reduceToNat,↓reduceIte, hd]
        rw [List.drop_eq_getElem_cons hil] at hplc
        obtain ⟨g, m, p1, p2, p3, p4, p5, p6, p7⟩ := hplc
        rw [List.length_drop] at p2
        rw [List.drop_drop] at p6 p7
        have p1' : R.1[i].at_ = ((e + g : Nat) : Int) := p1
        simp only [p1']
        have qw := p_word R.1[i].kind R.1[i].name R.1[i].of R.1[i].at_ hnm
        have hw : wordT R.1[i].kind R.1[i].name R.1[i].of = ba ((s.data.toList.drop (e + g)).take m) := p6
        have hx1 := ext_ba s (e + g) m
        rw [hw, p1'] at qw
        have hsz : (ba ((s.data.toList.drop (e + g)).take m)).size = m := by rw [ba_len2, List.length_take, List.length_drop]; omega
        refine gap_loop (s := s) (e := e) (i := i) (st := e + g) (nt := false) (by omega) (by omega) (by omega) ?_ rfl fun fr1 hf1 => ?_
        · rw [show e + g - e = g by omega]; exact p4
        · simp only [J_law04_TokenPlaces_j3, W_keep]
          rw [hf1]
          simp only [wk,if_true,if_false,forall_const,implies_true,ne_eq,eq_self,Nat.reduceEqDiff,Nat.reduceAdd,Nat.reduceMul,Nat.reduceSub,Nat.reduceLeDiff,Nat.reduceLT,Int.reduceEq,Int.reduceLT,Int.reduceLE,Int.reduceAdd,Int.reduceSub,Int.reduceMul,Int.reduceNeg,Int.reduceNe,reduceCtorEq,Int.reduceToNat,↓reduceIte]
          refine ⟨fun _ => ⟨⟨by omega, by omega⟩, ?_⟩, fun h => absurd hlt h⟩
          simp only [hd, p1', wk,if_true,if_false,forall_const,implies_true,ne_eq,eq_self,Nat.reduceEqDiff,Nat.reduceAdd,Nat.reduceMul,Nat.reduceSub,Nat.reduceLeDiff,Nat.reduceLT,Int.reduceEq,Int.reduceLT,Int.reduceLE,Int.reduceAdd,Int.reduceSub,Int.reduceMul,Int.reduceNeg,Int.reduceNe,reduceCtorEq,Int.reduceToNat,↓reduceIte, degr_nil, degr_cons]
          refine PCalls.use (qw) ?_; simp only [wk,if_true,if_false,forall_const,implies_true,ne_eq,eq_self,Nat.reduceEqDiff,Nat.reduceAdd,Nat.reduceMul,Nat.reduceSub,Nat.reduceLeDiff,Nat.reduceLT,Int.reduceEq,Int.reduceLT,Int.reduceLE,Int.reduceAdd,Int.reduceSub,Int.reduceMul,Int.reduceNeg,Int.reduceNe,reduceCtorEq,Int.reduceToNat,↓reduceIte]
          obtain ⟨wd, hwd⟩ : ∃ x, x = ba ((s.data.toList.drop (e + g)).take m) := ⟨_, rfl⟩
          rw [← hwd] at hsz hx1 ⊢
          have hne : wd ≠ ⟨#[]⟩ := ba_ne (by omega)
          have hex : s.extract ((e + g : Nat) : Int).toNat ((((e + g : Nat) : Int) + (wd.size : Int)).toNat) = wd := by
            rw [← hx1]; congr 1; rw [hx1, hsz]; omega
          have hx := nxt (e + g + m) (by omega) (fun _ => by rw [show e + g + m = e + (g + m) by omega] at p7 ⊢; exact p7)
          refine ⟨fun _ => ⟨inR_of (by omega) (by omega), fun _ => ⟨inR_of (by omega) (by omega), ⟨by omega, by omega, by omega⟩, fun h => absurd hex h, fun _ => ⟨inR_of (by omega) (by omega), ?_⟩⟩, fun h => absurd h (by omega)⟩, fun h => absurd h hne⟩
          simp only [J_law04_TokenPlaces_j2, wk,if_true,if_false,forall_const,implies_true,ne_eq,eq_self,Nat.reduceEqDiff,Nat.reduceAdd,Nat.reduceMul,Nat.reduceSub,Nat.reduceLeDiff,Nat.reduceLT,Int.reduceEq,Int.reduceLT,Int.reduceLE,Int.reduceAdd,Int.reduceSub,Int.reduceMul,Int.reduceNeg,Int.reduceNe,reduceCtorEq,Int.reduceToNat,↓reduceIte]
          rw [show ((e + g : Nat) : Int) + (wd.size : Int) = ((e + g + m : Nat) : Int) by omega]
          exact hx
      · obtain rfl : i = R.1.length := by omega
        rw [List.drop_length] at hplc
        obtain ⟨nt, hnt⟩ := hplc
        refine gap_loop (s := s) (e := e) (i := R.1.length) (st := s.size) (nt := nt) (by omega) (by omega) (by omega) ?_ rfl fun fr1 hf1 => ?_
        · rw [List.take_of_length_le (by rw [List.length_drop]; omega)]; exact hnt
        · simp only [J_law04_TokenPlaces_j3, W_keep]
          rw [hf1]
          simp only [wk,if_true,if_false,forall_const,implies_true,ne_eq,eq_self,Nat.reduceEqDiff,Nat.reduceAdd,Nat.reduceMul,Nat.reduceSub,Nat.reduceLeDiff,Nat.reduceLT,Int.reduceEq,Int.reduceLT,Int.reduceLE,Int.reduceAdd,Int.reduceSub,Int.reduceMul,Int.reduceNeg,Int.reduceNe,reduceCtorEq,Int.reduceToNat,↓reduceIte, (show ((R.1.length : Int) < R.1.length) = False by simp)]
          have hx := nxt e he (fun h => absurd h (by omega))
          refine ⟨fun _ => ?_, fun _ => ?_⟩ <;> (simp only [J_law04_TokenPlaces_j2, wk,if_true,if_false,forall_const,implies_true,ne_eq,eq_self,Nat.reduceEqDiff,Nat.reduceAdd,Nat.reduceMul,Nat.reduceSub,Nat.reduceLeDiff,Nat.reduceLT,Int.reduceEq,Int.reduceLT,Int.reduceLE,Int.reduceAdd,Int.reduceSub,Int.reduceMul,Int.reduceNeg,Int.reduceNe,reduceCtorEq,Int.reduceToNat,↓reduceIte]; exact hx)
    · simp only [J_law04_TokenPlaces_j1, wk,if_true,if_false,forall_const,implies_true,ne_eq,eq_self,Nat.reduceEqDiff,Nat.reduceAdd,Nat.reduceMul,Nat.reduceSub,Nat.reduceLeDiff,Nat.reduceLT,Int.reduceEq,Int.reduceLT,Int.reduceLE,Int.reduceAdd,Int.reduceSub,Int.reduceMul,Int.reduceNeg,Int.reduceNe,reduceCtorEq,Int.reduceToNat,↓reduceIte]
end Go.Proofs.Ytmbijfcjfhdnjaa

/- Blanks, and what is passed over: plain laws. -/
namespace Go.Proofs.Ytmbijfcjfhdnjaa
set_option linter.unusedSimpArgs false
set_option linter.unusedVariables false
open Go.RowKit Go.Lib

/-- a text that is passed over -/
def passed (p : List UInt8) : Prop := ∀ (rest : List UInt8) (a : Nat) (acc : List Tok), scan (p ++ rest) a acc = scan rest (a + p.length) acc
theorem scan_note {x : List UInt8} (hx : ∀ b ∈ x, notI b.toNat = true) (rest : List UInt8) (hr : ∀ b r', rest = b :: r' → notI b.toNat = false) (a : Nat) (acc : List Tok) : scan (35 :: (x ++ rest)) a acc = scan rest (a + (1 + x.length)) acc := by
  rw [scan_cons, if_neg (by decide), if_pos (show (35 : UInt8).toNat = 35 from rfl)]
  have hs : stopN notI (35 :: (x ++ rest)) = 1 + x.length := by
    have := stop_app (q := notI) (l := 35 :: x) (r := rest) (fun b hb => by
      rcases List.mem_cons.1 hb with rfl | hb
      · rfl
      · exact hx b hb) hr
    rw [List.cons_append] at this
    rw [this, List.length_cons]; omega
  rw [hs]
  have : (35 :: (x ++ rest)).drop (1 + x.length) = rest := by
    rw [show 1 + x.length = x.length + 1 by omega, List.drop_succ_cons, List.drop_left]
  rw [this]
theorem passed_app {p q : List UInt8} (hp : passed p) (hq : passed q) : passed (p ++ q) := fun rest a acc => by
  rw [List.append_assoc, hp, hq, List.length_append, Nat.add_assoc]
theorem passed_one {b : UInt8} (h : blankB b = true) : passed [b] := fun rest a acc => scan_blank h a acc
theorem passed_note {x : List UInt8} (hx : ∀ b ∈ x, notI b.toNat = true) : passed (35 :: (x ++ [10])) := fun rest a acc => by
  rw [List.cons_append, List.append_assoc, scan_note hx ([10] ++ rest) (by rintro b r' h; injection h with h _; subst h; rfl)]
  show scan (10 :: rest) _ _ = _
  rw [scan_blank rfl]
  simp only [List.length_cons, List.length_append, List.length_nil]
  rw [show a + (1 + x.length) + 1 = a + (x.length + (0 + 1) + 1) by omega]
def sepsB : List (List UInt8) := [[32], [10], [9, 32], [32, 35, 32, 97, 110, 100, 32, 40, 10], [32, 32], [35, 10]]
theorem seps_ok : ∀ p ∈ sepsB, passed p ∧ (∀ rest, fineL (p ++ rest) = true) ∧ p.length ≤ 10 := by
  intro p hp
  simp only [sepsB, List.mem_cons, List.not_mem_nil, or_false] at hp
  rcases hp with rfl | rfl | rfl | rfl | rfl | rfl
  · exact ⟨passed_one rfl, fun _ => rfl, by decide⟩
  · exact ⟨passed_one rfl, fun _ => rfl, by decide⟩
  · exact ⟨passed_app (p := [9]) (q := [32]) (passed_one rfl) (passed_one rfl), fun _ => rfl, by decide⟩
  · exact ⟨passed_app (p := [32]) (q := 35 :: ([32, 97, 110, 100, 32, 40] ++ [10])) (passed_one rfl) (passed_note (by decide)), fun _ => rfl, by decide⟩
  · exact ⟨passed_app (p := [32]) (q := [32]) (passed_one rfl) (passed_one rfl), fun _ => rfl, by decide⟩
  · exact ⟨passed_note (x := []) (by decide), fun _ => rfl, by decide⟩
/-- a text that stands for the first tokens -/
def stands (l : List Tok) (t : List UInt8) : Prop := ∀ (rest : List UInt8) (a : Nat) (acc : List Tok), acc.length + l.length ≤ 1000 → ∃ l' : List Tok, scan (t ++ rest) a acc = scan rest (a + t.length) (acc ++ l') ∧ l.map core = l'.map core
theorem stands_nil : stands [] [] := fun rest a acc _ => ⟨[], by simp, rfl⟩
theorem stands_snoc {l : List Tok} {t p : List UInt8} {x : Tok} (h : stands l t) (hw : wrd x ≠ ⟨#[]⟩) (hp : p ∈ sepsB) : stands (l ++ [x]) (t ++ wl x ++ p) := fun rest a acc hn => by
  obtain ⟨h1, h2, _⟩ := seps_ok p hp
  rw [List.length_append, List.length_singleton] at hn
  obtain ⟨l', e1, e2⟩ := h (wl x ++ (p ++ rest)) a acc (by omega)
  have hl : l.length = l'.length := by have := congrArg List.length e2; simpa using this
  refine ⟨l' ++ [⟨x.kind, x.name, x.of, (a + t.length : Nat)⟩], ?_, by rw [List.map_append, List.map_append, e2]; rfl⟩
  rw [List.append_assoc, List.append_assoc, e1, scan_word hw (h2 rest) _ _ (by rw [List.length_append]; omega), h1]
  have := len_size (wrd x)
  rw [List.length_append, List.length_append, List.append_assoc]
  show scan rest (a + t.length + (wrd x).size + p.length) _ = scan rest (a + (t.length + (wl x).length + p.length)) _
  rw [show (wl x).length = (wrd x).size from this, show a + t.length + (wrd x).size + p.length = a + (t.length + (wrd x).size + p.length) by omega]
/-- blanks ahead -/
theorem blanks_ahead {l : List Tok} {t : ByteArray} (h : stands l t.data.toList) (hl : l.length ≤ 1000) (ht : t.size ≤ 3990) : ∃ l' : List Tok, allT (⟨#[32, 10]⟩ ++ t) = (l', 0, 0) ∧ l.map core = l'.map core := by
  obtain ⟨l', h1, h2⟩ := h [] 2 [] (by simpa using hl)
  refine ⟨l', ?_, h2⟩
  have hs : ((⟨#[32, 10]⟩ : ByteArray) ++ t).size = 2 + t.size := by rw [ByteArray.size_append]; rfl
  have hd : ((⟨#[32, 10]⟩ : ByteArray) ++ t).data.toList = 32 :: 10 :: t.data.toList := by rw [ByteArray.data_append, Array.toList_append]; rfl
  unfold allT
  rw [if_neg (by omega), hd, scan_blank rfl, scan_blank rfl]
  rw [List.append_nil] at h1
  show scan t.data.toList 2 [] = _
  rw [h1]; rfl
/-- a note behind -/
theorem note_behind {l : List Tok} {t : ByteArray} (h : stands l t.data.toList) (hl : l.length ≤ 1000) (ht : t.size ≤ 3990) : ∃ l' : List Tok, allT (t ++ ⟨#[35, 32, 109, 111, 114, 101]⟩) = (l', 0, 0) ∧ l.map core = l'.map core := by
  obtain ⟨l', h1, h2⟩ := h [35, 32, 109, 111, 114, 101] 0 [] (by simpa using hl)
  refine ⟨l', ?_, h2⟩
  have hs : (t ++ (⟨#[35, 32, 109, 111, 114, 101]⟩ : ByteArray)).size = t.size + 6 := by rw [ByteArray.size_append]; rfl
  have hd : (t ++ (⟨#[35, 32, 109, 111, 114, 101]⟩ : ByteArray)).data.toList = t.data.toList ++ [35, 32, 109, 111, 114, 101] := by rw [ByteArray.data_append, Array.toList_append]
  unfold allT
  rw [if_neg (by omega), hd, h1]
  have := scan_note (x := [32, 109, 111, 114, 101]) (by decide) [] (by simp) (0 + t.data.toList.length) ([] ++ l')
  rw [List.append_nil] at this
  rw [this]; rfl
end Go.Proofs.Ytmbijfcjfhdnjaa

/- The first wrong thing from the left is told: plain laws. -/
namespace Go.Proofs.Ytmbijfcjfhdnjaa
set_option linter.unusedSimpArgs false
set_option linter.unusedVariables false
open Go.RowKit Go.Lib

theorem sign_cut {l : List UInt8} {k : Int} {w : ByteArray} {o : Int} {n : Nat} (h : signL l = some (k, w, o, n)) (hf : fineL (l.drop n) = false) : ∃ b : UInt8, l.take n = [b] ∧ ∀ r, signL (b :: r) = some (k, w, o, n) := by
  cases l with
  | nil => rw [sign_nil] at h; cases h
  | cons b r =>
    have name_fine : ∀ {L : List UInt8} {m : Nat}, nameL L = some m → fineL (L.drop m) = true := fun {L m} hn => by
      rw [name_some] at hn
      split at hn
      · next hc => injection hn with hn; subst hn; exact hc.2.2
      · cases hn
    by_cases c1 : lttI b.toNat = true
    · exfalso
      unfold signL at h
      by_cases hk : kindL (b :: r) = 0
      · rw [if_pos hk] at h
        simp only [plainL] at h
        rw [if_pos c1] at h
        cases hn : nameL (b :: r) with
        | none => rw [hn] at h; cases h
        | some m =>
          rw [hn] at h
          simp only at h
          split at h
          · simp only [Option.some.injEq, Prod.mk.injEq] at h
            obtain ⟨_, _, _, rfl⟩ := h
            rw [name_fine hn] at hf; cases hf
          · simp only [Option.some.injEq, Prod.mk.injEq] at h
            obtain ⟨_, _, _, rfl⟩ := h
            rw [name_fine hn] at hf; cases hf
      · rw [if_neg hk] at h
        unfold atomL at h
        cases hn : nameL ((b :: r).drop (preW (kindL (b :: r))).size) with
        | none => rw [hn] at h; cases h
        | some m =>
          rw [hn] at h
          simp only [Option.some.injEq, Prod.mk.injEq] at h
          obtain ⟨_, _, _, rfl⟩ := h
          have := name_fine hn
          rw [List.drop_drop] at this
          rw [this] at hf; cases hf
    · have hl : lttI b.toNat = false := by simpa using c1
      rw [sign_nl hl] at h
      have key : ∀ r', signL (b :: r') = plainL (b :: r') := fun r' => sign_nl hl
      simp only [plainL] at h key
      rw [if_neg c1] at h
      simp only [if_neg c1] at key
      by_cases c2 : b.toNat = 68
      · rw [if_pos c2] at h
        by_cases hr : fineL r = true
        · rw [if_pos hr] at h
          simp only [Option.some.injEq, Prod.mk.injEq] at h
          obtain ⟨_, _, _, rfl⟩ := h
          rw [List.drop_succ_cons, List.drop_zero, hr] at hf; cases hf
        · rw [if_neg hr] at h; cases h
      · rw [if_neg c2] at h
        simp only [if_neg c2] at key
        by_cases c3 : b.toNat = 124
        · rw [if_pos c3] at h
          simp only [if_pos c3] at key
          simp only [Option.some.injEq, Prod.mk.injEq] at h
          obtain ⟨rfl, rfl, rfl, rfl⟩ := h
          exact ⟨b, rfl, key⟩
        · rw [if_neg c3] at h
          simp only [if_neg c3] at key
          by_cases c4 : b.toNat = 40
          · rw [if_pos c4] at h
            simp only [if_pos c4] at key
            simp only [Option.some.injEq, Prod.mk.injEq] at h
            obtain ⟨rfl, rfl, rfl, rfl⟩ := h
            exact ⟨b, rfl, key⟩
          · rw [if_neg c4] at h
            simp only [if_neg c4] at key
            by_cases c5 : b.toNat = 41
            · rw [if_pos c5] at h
              simp only [if_pos c5] at key
              simp only [Option.some.injEq, Prod.mk.injEq] at h
              obtain ⟨rfl, rfl, rfl, rfl⟩ := h
              exact ⟨b, rfl, key⟩
            · rw [if_neg c5] at h
              simp only [if_neg c5] at key
              by_cases c6 : digI b.toNat = true
              · rw [if_pos c6] at h
                by_cases hn : numW (ba ((b :: r).take (stopN digI (b :: r)))) = true ∧ fineL ((b :: r).drop (stopN digI (b :: r))) = true
                · rw [if_pos hn] at h
                  simp only [Option.some.injEq, Prod.mk.injEq] at h
                  obtain ⟨_, _, _, rfl⟩ := h
                  rw [hn.2] at hf; cases hf
                · rw [if_neg hn] at h; cases h
              · rw [if_neg c6] at h
                simp only [if_neg c6] at key
                by_cases c7 : sigB b.toNat = true
                · rw [if_pos c7] at h
                  simp only [if_pos c7] at key
                  simp only [Option.some.injEq, Prod.mk.injEq] at h
                  obtain ⟨rfl, rfl, rfl, rfl⟩ := h
                  exact ⟨b, rfl, key⟩
                · rw [if_neg c7] at h; cases h
/-- a token stays, whatever comes behind it, if that may stand there -/
theorem sign_swap {l r : List UInt8} {k : Int} {w : ByteArray} {o : Int} {n : Nat} (h : signL l = some (k, w, o, n)) (hf : fineL (l.drop n) = true → fineL r = true) : signL (l.take n ++ r) = some (k, w, o, n) := by
  by_cases hr : fineL r = true
  · have hb := sign_back h
    obtain ⟨h1, h2, _⟩ := signL_ascii h
    have hs : (wordT k w o).size = n := by rw [hb, ba_len2, List.length_take]; omega
    have hne : wordT k w o ≠ ⟨#[]⟩ := ba_ne (by omega)
    have := sign_word hne hr
    rw [hs, hb, ba_list] at this
    exact this
  · have : fineL (l.drop n) = false := by
      cases hx : fineL (l.drop n) with
      | false => rfl
      | true => exact absurd (hf hx) hr
    obtain ⟨b, h1, h2⟩ := sign_cut h this
    rw [h1]
    exact h2 r
/-- what is behind the first tokens -/
def blankB32 (rest : List UInt8) : Prop := rest = [] ∨ ∃ r, rest = 32 :: r
theorem scan_cut : ∀ (f : Nat) (l : List UInt8) (a : Nat) (acc : List Tok), l.length ≤ f → (scan l a acc).2.2 = 2 → acc.length ≤ 1000 →
    ∃ (p q : List UInt8) (ts : List Tok), l = p ++ q ∧ (scan l a acc).2.1 = (a + p.length : Nat) ∧ acc.length + ts.length ≤ 1000 ∧ (∀ rest, blankB32 rest → scan (p ++ rest) a acc = scan rest (a + p.length) (acc ++ ts)) ∧ (∃ b r, q = b :: r ∧ blankB b = false ∧ b.toNat ≠ 35 ∧ b.toNat ≠ 10 ∧ signL q = none)
  | 0, l, a, acc, hl, h, _ => by
    have : l = [] := List.eq_nil_of_length_eq_zero (by omega)
    subst this
    rw [scan_nil] at h; cases h
  | f + 1, [], a, acc, _, h, _ => by rw [scan_nil] at h; cases h
  | f + 1, b :: r, a, acc, hl, h, hacc => by
    simp only [List.length_cons] at hl
    rw [scan_cons] at h ⊢
    by_cases c1 : blankB b = true
    · rw [if_pos c1] at h ⊢
      obtain ⟨p, q, ts, e1, e2, e3, e4, e5⟩ := scan_cut f r (a + 1) acc (by omega) h hacc
      refine ⟨b :: p, q, ts, by rw [e1]; rfl, by rw [e2, List.length_cons]; omega, e3, fun rest hr => ?_, e5⟩
      rw [List.cons_append, scan_blank c1, e4 rest hr, List.length_cons, show a + 1 + p.length = a + (p.length + 1) by omega]
    · rw [if_neg c1] at h ⊢
      by_cases c2 : b.toNat = 35
      · rw [if_pos c2] at h ⊢
        obtain ⟨x, n1, n2, n3, n4⟩ := note_split (r := r) c2
        have hn1 := note_one (r := r) c2
        obtain ⟨p, q, ts, e1, e2, e3, e4, b', r', e5, e6, e7, e8, e9⟩ := scan_cut f ((b :: r).drop (stopN notI (b :: r))) (a + stopN notI (b :: r)) acc (by rw [List.length_drop, List.length_cons]; omega) h hacc
        have hp : p ≠ [] := by
          rintro rfl
          rw [e1, List.nil_append, e5] at n3
          exact e8 n3
        refine ⟨35 :: (x ++ p), q, ts, ?_, ?_, e3, fun rest hr => ?_, b', r', e5, e6, e7, e8, e9⟩
        · rw [n1, e1, List.cons_append, List.append_assoc]
        · rw [e2, List.length_cons, List.length_append]; omega
        · rw [List.cons_append, List.append_assoc, scan_note n2 (p ++ rest) (fun c r2 hc => by
            cases p with
            | nil => exact absurd rfl hp
            | cons d p2 =>
              rw [e1] at n3
              rw [List.cons_append] at hc
              injection hc with hc _
              subst hc
              have n3' : d.toNat = 10 := n3
              simp [notI, n3'])]
          rw [show a + (1 + x.length) = a + stopN notI (b :: r) by omega, e4 rest hr, List.length_cons, List.length_append, show a + stopN notI (b :: r) + p.length = a + (x.length + p.length + 1) by omega]
      · rw [if_neg c2] at h ⊢
        cases hs : signL (b :: r) with
        | none =>
          refine ⟨[], b :: r, [], rfl, rfl, by simpa using hacc, fun rest hr => by simp, b, r, rfl, by simpa using c1, c2, fun h10 => c1 (by simp [blankB, h10]), hs⟩
        | some y =>
          obtain ⟨k, w, o, n⟩ := y
          rw [hs] at h
          simp only at h ⊢
          by_cases c3 : acc.length = 1000
          · rw [if_pos c3] at h; cases h
          · rw [if_neg c3] at h ⊢
            obtain ⟨h1, h2, _⟩ := signL_ascii hs
            rw [List.length_cons] at h2
            obtain ⟨p, q, ts, e1, e2, e3, e4, e5⟩ := scan_cut f ((b :: r).drop n) (a + n) (acc ++ [⟨k, w, o, a⟩]) (by rw [List.length_drop, List.length_cons]; omega) h (by rw [List.length_append, List.length_singleton]; omega)
            rw [List.length_append, List.length_singleton] at e3
            have hl3 : ((b :: r).take n).length = n := by rw [List.length_take, List.length_cons]; omega
            refine ⟨(b :: r).take n ++ p, q, ⟨k, w, o, a⟩ :: ts, ?_, ?_, by rw [List.length_cons]; omega, fun rest hr => ?_, e5⟩
            · rw [List.append_assoc, ← e1, List.take_append_drop]
            · rw [e2, List.length_append, hl3]; omega
            · have hsw : signL ((b :: r).take n ++ (p ++ rest)) = some (k, w, o, n) := sign_swap hs (fun hf => by
                cases p with
                | nil =>
                  rcases hr with rfl | ⟨r2, rfl⟩
                  · rfl
                  · rfl
                | cons d p2 =>
                  rw [e1] at hf
                  exact hf)
              rw [List.append_assoc, scan_tok hsw a acc (by omega)]
              have hd : ((b :: r).take n ++ (p ++ rest)).drop n = p ++ rest := by
                have := List.drop_left (l₁ := (b :: r).take n) (l₂ := p ++ rest)
                rwa [hl3] at this
              rw [hd, e4 rest hr, List.length_append, hl3, List.append_assoc, List.singleton_append, show a + n + p.length = a + (n + p.length) by omega]
/-- what is ahead of the first wrong thing is read alike by itself, and the next wrong thing is told -/
theorem allT_cut {s : ByteArray} (h : (allT s).2.2 = 2) : ∃ n : Nat, n ≤ s.size ∧ (allT s).2.1 = n ∧ (∃ ts : List Tok, ts.length ≤ 1000 ∧ allT (s.extract 0 n) = (ts, 0, 0) ∧ (s.size + 2 ≤ 4000 → allT (s.extract 0 n ++ ⟨#[32, 41]⟩ ++ s.extract n s.size) = if ts.length = 1000 then ([], (n + 1 : Nat), 3) else ([], (n + 2 : Nat), 2))) := by
  have hl := len_size s
  unfold allT at h
  by_cases hs : 4000 < s.size
  · rw [if_pos hs] at h; cases h
  rw [if_neg hs] at h
  obtain ⟨p, q, ts, e1, e2, e3, e4, b, r, e5, e6, e7, e8, e9⟩ := scan_cut s.data.toList.length s.data.toList 0 [] (by omega) h (by simp)
  simp only [Nat.zero_add, List.nil_append, List.length_nil] at e2 e3 e4
  have hlen := congrArg List.length e1
  rw [List.length_append] at hlen
  have x1 : s.extract 0 p.length = ba p := by
    have := ext_ba s 0 p.length
    rw [Nat.zero_add] at this
    rw [this, e1, List.drop_zero, List.take_left]
  have x2 : s.extract p.length s.size = ba q := by
    have := ext_ba s p.length q.length
    rw [show p.length + q.length = s.size by omega] at this
    rw [this, e1, List.drop_left, List.take_length]
  refine ⟨p.length, by omega, by unfold allT; rw [if_neg hs, e2], ts, e3, ?_, fun hsz => ?_⟩
  · rw [x1]
    unfold allT
    rw [ba_len2, if_neg (by omega), ba_list]
    have := e4 [] (.inl rfl)
    rw [List.append_nil] at this
    rw [this, scan_nil]
  · rw [x1, x2]
    have hd : (ba p ++ ⟨#[32, 41]⟩ ++ ba q : ByteArray).data.toList = p ++ 32 :: 41 :: q := by
      rw [ByteArray.data_append, ByteArray.data_append, Array.toList_append, Array.toList_append, ba_list, ba_list, List.append_assoc]; rfl
    have hz : (ba p ++ ⟨#[32, 41]⟩ ++ ba q : ByteArray).size = p.length + 2 + q.length := by
      rw [ByteArray.size_append, ByteArray.size_append, ba_len2, ba_len2]; rfl
    unfold allT
    rw [hz, if_neg (by omega), hd, e4 _ (.inr ⟨_, rfl⟩), scan_blank rfl, scan_cons, if_neg (by decide), if_neg (by decide)]
    have h41 : signL (41 :: q) = some (7, ba [], 0, 1) := by rw [sign_nl rfl]; rfl
    rw [h41]
    simp only
    by_cases ht : ts.length = 1000
    · rw [if_pos ht, if_pos ht]
    · rw [if_neg ht, if_neg ht, List.drop_succ_cons, List.drop_zero, e5, scan_cons, if_neg (by simp [e6]), if_neg e7, ← e5, e9]
end Go.Proofs.Ytmbijfcjfhdnjaa
