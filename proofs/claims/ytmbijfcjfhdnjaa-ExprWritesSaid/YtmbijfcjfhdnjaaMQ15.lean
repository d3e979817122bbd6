/- Texts of one proof, laid together: Kl Km Kn Ko Kp Kr Ks Kt Ku Eh Ei Ej Ek El Em En Eo. -/
import Derived.Test.YtmbijfcjfhdnjaaMQ13
import Derived.Test.YtmbijfcjfhdnjaaMQ14
import Derived.Test.YtmbijfcjfhdnjaaMQ1
import Derived.Shelf.Strings.OnBuilder
import Derived.Test.YtmbijfcjfhdnjaaMQ10

/- strings.Join: the kit's contract, as a call that leaves all objects alone. -/
namespace Go.Proofs.Ytmbijfcjfhdnjaa
set_option linter.unusedSimpArgs false
set_option linter.unusedVariables false
open Go.RowKit Go.Lib Go.Shelf

theorem xJoin : Builder.Extra Try.prog lJoin_ren where
  sizeBuilder := by kernel_rfl
  liesBuilder := by kernel_rfl
  t5 := Try.underlying5
  a5 := Try.isAgg5
  z5 := Try.sizeOf5
  v5 := Try.zeroValue5
  infoByte := by kernel_rfl
  cellsByte := by kernel_rfl
  sizeByte := by kernel_rfl
  neB5 := by decide
def joinB (l : List ByteArray) : ByteArray := ba (Lib.join (l.map (·.data.toList)) [32])
theorem rep_cap {g : Gh} {x : Value} {z : AV} (h : Rep g x z) : ∀ a n c f m l, x = .slice a n c → z = .lst f m l → n ≤ c := by
  intro a n c f m l h1 h2
  cases h <;> first
    | (cases h2; done)
    | (cases h1; assumption)
    | (cases h1; omega)
theorem p_join (l : List ByteArray) (hl : l.length ≤ 1000000) (hs : (joinB l).size ≤ 140737488355328) : PCalls Try.prog 46 [.lst .ro l.length (l.map .str), .str ⟨#[32]⟩] (.str (joinB l)) := by
  refine pcalls_calls (by simp [free, free.frees, frees_str]) rfl rfl (by kernel_rfl) ?_
  intro g w vargs hsim hr
  obtain ⟨v, vs, rfl, hv, hvs⟩ : ∃ v vs, vargs = v :: vs ∧ Rep g v (.lst .ro l.length (l.map .str)) ∧ RepL g vs [.str ⟨#[32]⟩] := by
    cases hr with
    | cons h1 h2 => exact ⟨_, _, rfl, h1, h2⟩
  cases hvs with
  | cons h1 h2 =>
  cases h1
  cases h2
  obtain ⟨a, c, rfl, hrow⟩ := rep_strs hsim hv
  have hm : ∀ (e : Ending) (w' : World), e = .returned (.string ⟨(Lib.join (l.map (·.data.toList)) (⟨#[32]⟩ : ByteArray).data.toList).toArray⟩) ∧ Below w.heap.size w w' → ∃ x, e = .returned x ∧ Below w.heap.size w w' ∧ Rep (g.news w w') x (.str (joinB l)) := by
    rintro e w' ⟨rfl, hb⟩
    exact ⟨_, rfl, hb, .str _⟩
  have hcap : l.length ≤ c := rep_cap hv _ _ _ _ _ _ rfl rfl
  by_cases h0 : l = []
  · subst h0
    exact (Any.strings_Join_none (P := Try.prog) lJoin xJoin a c ⟨#[32]⟩ w).mono fun e w' h => hm e w' ⟨by rw [h.1]; rfl, h.2 ▸ Below.refl _ _⟩
  · rcases hrow with h1 | ⟨b, off, rfl, hcells⟩
    · exact absurd (by simpa using h1) h0
    · have hc2 : ∀ (j : Nat) x, l[j]? = some x → w.cell? ⟨b, off + j, none⟩ = some (.string x) := fun j x hj => hcells j (.string x) (by rw [List.getElem?_map, hj]; rfl)
      obtain ⟨y, r, hyr⟩ := List.exists_cons_of_ne_nil h0
      have hbk : b < w.heap.size := World.block_lt_of_cell? w ⟨b, off + 0, none⟩ (hc2 0 y (by rw [hyr]; rfl))
      exact (Any.strings_Join (P := Try.prog) lJoin xJoin b off c l ⟨#[32]⟩ w hc2 hbk (by omega) hcap (by unfold joinB at hs; rw [ba_len2] at hs; exact hs)).mono hm
end Go.Proofs.Ytmbijfcjfhdnjaa

/- Text: the program's and the reference's. -/
namespace Go.Proofs.Ytmbijfcjfhdnjaa
set_option linter.unusedSimpArgs false
set_option linter.unusedVariables false
open Go.RowKit Go.Lib

def wrd (t : Tok) : ByteArray := wordT t.kind t.name t.of
abbrev TextR := ByteArray × Int
def textT (l : List Tok) : TextR :=
  if 1000 < l.length then (⟨#[]⟩, 3)
  else if l.all (fun t => decide (wrd t ≠ ⟨#[]⟩)) = true then (if 4000 < (joinB (l.map wrd)).size then (⟨#[]⟩, 2) else (joinB (l.map wrd), 0))
  else (⟨#[]⟩, 2)
def vText (r : TextR) : AV := .tup [.str r.1, .int .i64 r.2]
theorem atomW_size (o : Int) (w : ByteArray) : (atomW o w).size ≤ w.size + 6 := by
  have h3 : (⟨#[]⟩ : ByteArray).size = 0 := rfl
  unfold atomW
  repeat' split
  all_goals first
    | omega
    | (have := preW_size o; rw [ByteArray.size_append]; omega)
theorem wordT_size (k : Int) (w : ByteArray) (o : Int) : (wordT k w o).size ≤ w.size + 6 := by
  have h0 : (⟨#[]⟩ : ByteArray).size = 0 := rfl
  have h1 : (⟨#[97, 110, 100]⟩ : ByteArray).size = 3 := rfl
  have h2 : (⟨#[102, 111, 114]⟩ : ByteArray).size = 3 := rfl
  have h3 : (⟨#[97, 115]⟩ : ByteArray).size = 2 := rfl
  have h4 : (⟨#[124]⟩ : ByteArray).size = 1 := rfl
  have h5 : (⟨#[40]⟩ : ByteArray).size = 1 := rfl
  have h6 : (⟨#[41]⟩ : ByteArray).size = 1 := rfl
  have := atomW_size o w
  unfold wordT
  repeat' split
  all_goals omega
theorem join_size : ∀ (l : List ByteArray) (c : Nat), (∀ x ∈ l, x.size ≤ c) → (joinB l).size ≤ l.length * (c + 1) := by
  intro l c h
  unfold joinB
  rw [ba_len2]
  cases l with
  | nil => simp [Lib.join_nil]
  | cons x r =>
    rw [List.map_cons, Lib.join_length]
    have gen : ∀ l : List ByteArray, (∀ x ∈ l, x.size ≤ c) → Lib.lens (l.map (·.data.toList)) ≤ l.length * c := by
      intro l
      induction l with
      | nil => intro _; simp [Lib.lens]
      | cons y l ih =>
        intro h
        have h1 := h y (by simp)
        have h2 := ih (fun z hz => h z (by simp [hz]))
        have h3 := len_size y
        simp only [Lib.lens, List.map_cons, List.sum_cons, List.length_cons, Nat.add_mul] at h2 ⊢
        omega
    have this := gen (x :: r) h
    rw [List.map_cons] at this
    simp only [List.length_map, List.length_cons, List.length_nil, Nat.mul_add, Nat.mul_one] at this ⊢
    omega
/-- the program's words so far, and the places that are empty yet -/
def wordsC (l : List Tok) (n : Nat) : List AV := l.map (fun t => .str (wrd t)) ++ List.replicate n (.str ⟨#[]⟩)
theorem wordsC_0 (n : Nat) : ((List.range n).map fun i => [AV.str ⟨#[]⟩].getD (i % 1) .nilp) = wordsC [] n := by
  unfold wordsC
  apply List.ext_getElem
  · simp
  · intro i h1 h2
    simp [Nat.mod_one]
theorem wordsC_len (l : List Tok) (n : Nat) : (wordsC l n).length = l.length + n := by simp [wordsC]
theorem wordsC_set {l : List Tok} {i : Nat} (h : i < l.length) : (wordsC (l.take i) (l.length - i)).set i (.str (wrd l[i])) = wordsC (l.take (i + 1)) (l.length - (i + 1)) := by
  unfold wordsC
  rw [List.set_append_right _ _ (by simp; omega), show i - ((l.take i).map fun t => AV.str (wrd t)).length = 0 by simp; omega]
  rw [show l.length - i = (l.length - (i + 1)) + 1 by omega, List.replicate_succ, List.set_cons_zero, List.take_succ_eq_append_getElem h]
  simp only [List.map_append, List.map_cons, List.map_nil, List.append_assoc, List.singleton_append]
theorem wordsC_drop {l : List Tok} {i : Nat} (h : i < l.length) (m : Nat) : (wordsC (l.take (i + 1)) m).drop i = .str (wordT l[i].kind l[i].name l[i].of) :: List.replicate m (.str ⟨#[]⟩) := by
  unfold wordsC
  have hi : ((l.take i).map fun t => AV.str (wrd t)).length = i := by simp; omega
  rw [List.take_succ_eq_append_getElem h, List.map_append, List.append_assoc]
  conv => lhs; arg 1; rw [← hi]
  rw [List.drop_left]
  rfl
theorem text_no {l : List Tok} {i : Nat} (h : i < l.length) (he : wordT l[i].kind l[i].name l[i].of = ⟨#[]⟩) {x y : TextR} : (if l.all (fun t => decide (wrd t ≠ ⟨#[]⟩)) = true then x else y) = y := by
  rw [if_neg]
  intro h2
  have := of_decide_eq_true (List.all_eq_true.1 h2 _ (List.getElem_mem h))
  exact this he
set_option maxRecDepth 100000 in
set_option maxHeartbeats 4000000 in
theorem p_ptext (l : List Tok) (hl : l.length ≤ 1000000) (hs : ∀ t ∈ l, t.name.size ≤ 1000000) : PCalls Try.prog 31 [vToks l] (vText (textT l)) := by
  refine pcalls_of (by simp [vToks, free, free.frees, frees_toks]) rfl (ACalls.weak (acalls_of mixed J_token_Text_ok (Nat.le_of_ble_eq_true rfl) ?_)); simp only [J_token_Text, vToks, wk,if_true,if_false,forall_const,implies_true,ne_eq,eq_self,Nat.reduceEqDiff,Nat.reduceAdd,Nat.reduceMul,Nat.reduceSub,Nat.reduceLeDiff,Nat.reduceLT,Int.reduceEq,Int.reduceLT,Int.reduceLE,Int.reduceAdd,Int.reduceSub,Int.reduceMul,Int.reduceNeg,Int.reduceNe,reduceCtorEq,Int.reduceToNat,↓reduceIte]
  refine ⟨fun hbig => ?_, fun hbig => ?_⟩
  · unfold textT
    rw [if_pos (by omega)]
    rfl
  refine ⟨⟨by omega, by omega, by omega⟩, ?_⟩
  rw [Int.toNat_natCast, wordsC_0]
  refine W_loop (fun n fr h' => ∃ (i : Nat) (ex : Hp), i ≤ l.length ∧ n = l.length - i ∧ h' = some (false, wordsC (l.take i) (l.length - i)) :: ex ∧ fr = [(4, .hs 0 l.length), (14, .lst .ro l.length (toksC l)), (15, .int .i64 l.length), (16, .int .i64 i)] ∧ ∀ t ∈ l.take i, wrd t ≠ ⟨#[]⟩) l.length ⟨0, [], by omega, by omega, by simp, rfl, by simp⟩ ?_
  rintro n fr h' ⟨i, ex, hi, rfl, rfl, rfl, hall⟩
  simp only [J_token_Text_j2, wk,if_true,if_false,forall_const,implies_true,ne_eq,eq_self,Nat.reduceEqDiff,Nat.reduceAdd,Nat.reduceMul,Nat.reduceSub,Nat.reduceLeDiff,Nat.reduceLT,Int.reduceEq,Int.reduceLT,Int.reduceLE,Int.reduceAdd,Int.reduceSub,Int.reduceMul,Int.reduceNeg,Int.reduceNe,reduceCtorEq,Int.reduceToNat,↓reduceIte]
  refine ⟨fun hlt => ?_, fun hge => ?_⟩
  · have hil : i < l.length := by omega
    have hd : (toksC l).drop ((i : Int).toNat * 4) = _ := toksC_drop hil
    have q := p_word l[i].kind l[i].name l[i].of l[i].at_ (hs _ (List.getElem_mem hil))
    refine ⟨⟨by omega, by omega⟩, ?_⟩
    simp only [hd, wk,if_true,if_false,forall_const,implies_true,ne_eq,eq_self,Nat.reduceEqDiff,Nat.reduceAdd,Nat.reduceMul,Nat.reduceSub,Nat.reduceLeDiff,Nat.reduceLT,Int.reduceEq,Int.reduceLT,Int.reduceLE,Int.reduceAdd,Int.reduceSub,Int.reduceMul,Int.reduceNeg,Int.reduceNe,reduceCtorEq,Int.reduceToNat,↓reduceIte]
    refine PCalls.use (q) ?_; simp only [wk,if_true,if_false,forall_const,implies_true,ne_eq,eq_self,Nat.reduceEqDiff,Nat.reduceAdd,Nat.reduceMul,Nat.reduceSub,Nat.reduceLeDiff,Nat.reduceLT,Int.reduceEq,Int.reduceLT,Int.reduceLE,Int.reduceAdd,Int.reduceSub,Int.reduceMul,Int.reduceNeg,Int.reduceNe,reduceCtorEq,Int.reduceToNat,↓reduceIte]
    have hset : (wordsC (l.take i) (l.length - i)).set i (.str (wordT l[i].kind l[i].name l[i].of)) = wordsC (l.take (i + 1)) (l.length - (i + 1)) := wordsC_set hil
    rw [Int.toNat_natCast, hset, wordsC_drop hil]
    have hlen := wordsC_len (l.take i) (l.length - i)
    rw [List.length_take] at hlen
    simp only [wk,if_true,if_false,forall_const,implies_true,ne_eq,eq_self,Nat.reduceEqDiff,Nat.reduceAdd,Nat.reduceMul,Nat.reduceSub,Nat.reduceLeDiff,Nat.reduceLT,Int.reduceEq,Int.reduceLT,Int.reduceLE,Int.reduceAdd,Int.reduceSub,Int.reduceMul,Int.reduceNeg,Int.reduceNe,reduceCtorEq,Int.reduceToNat,↓reduceIte]
    refine ⟨⟨by omega, by omega⟩, by omega, ⟨by omega, by omega⟩, fun he => ?_, fun hne => ?_⟩
    · unfold textT
      rw [if_neg (by omega), text_no hil he]
      rfl
    · refine ⟨inR_of (by omega) (by omega), l.length - (i + 1), by omega, i + 1, _, by omega, rfl, rfl, by simp, ?_⟩
      intro t ht
      rw [List.take_succ_eq_append_getElem hil] at ht
      rcases List.mem_append.1 ht with ht | ht
      · exact hall t ht
      · simp at ht; subst ht; exact hne
  · have : i = l.length := by omega
    subst this
    rw [List.take_length] at hall ⊢
    rw [Nat.sub_self]
    have hw : (wordsC l 0).map deg = (l.map wrd).map AV.str := by
      unfold wordsC
      simp [deg]
    have hjs := join_size (l.map wrd) 1000006 (fun x hx => by
      obtain ⟨t, ht, rfl⟩ := List.mem_map.1 hx
      have := wordT_size t.kind t.name t.of
      have := hs t ht
      unfold wrd; omega)
    rw [List.length_map] at hjs
    have hall2 : l.all (fun t => decide (wrd t ≠ ⟨#[]⟩)) = true := by
      rw [List.all_eq_true]; intro t ht; exact decide_eq_true (hall t ht)
    have qj := p_join (l.map wrd) (by rw [List.length_map]; omega) (by
      have : l.length * (1000006 + 1) ≤ 1000 * (1000006 + 1) := Nat.mul_le_mul_right _ (by omega)
      omega)
    rw [List.length_map] at qj
    simp only [J_token_Text_j1, wk,if_true,if_false,forall_const,implies_true,ne_eq,eq_self,Nat.reduceEqDiff,Nat.reduceAdd,Nat.reduceMul,Nat.reduceSub,Nat.reduceLeDiff,Nat.reduceLT,Int.reduceEq,Int.reduceLT,Int.reduceLE,Int.reduceAdd,Int.reduceSub,Int.reduceMul,Int.reduceNeg,Int.reduceNe,reduceCtorEq,Int.reduceToNat,↓reduceIte]
    refine ACalls.use (PCalls.iced qj _ (by simp only [fzs_cons, fzs_nil, fz_str]; rw [fz_hs (s := false) (l := wordsC l 0) rfl, hw])) ?_
    rintro _ _ ⟨rfl, rfl⟩
    simp only [fgt_str, wk,if_true,if_false,forall_const,implies_true,ne_eq,eq_self,Nat.reduceEqDiff,Nat.reduceAdd,Nat.reduceMul,Nat.reduceSub,Nat.reduceLeDiff,Nat.reduceLT,Int.reduceEq,Int.reduceLT,Int.reduceLE,Int.reduceAdd,Int.reduceSub,Int.reduceMul,Int.reduceNeg,Int.reduceNe,reduceCtorEq,Int.reduceToNat,↓reduceIte]
    unfold textT
    rw [if_neg (by omega), if_pos hall2]
    refine ⟨fun h => ?_, fun h => ?_⟩
    · rw [if_pos (by omega)]; rfl
    · rw [if_neg (by omega)]; rfl
theorem joinB_nil : joinB [] = ⟨#[]⟩ := rfl
theorem joinB_snoc (l : List ByteArray) (x : ByteArray) : joinB (l ++ [x]) = if l = [] then x else joinB l ++ ⟨#[32]⟩ ++ x := by
  cases l with
  | nil =>
    rw [if_pos rfl]
    unfold joinB
    rw [List.nil_append, List.map_cons, List.map_nil, Lib.join_one, ba_eta]
  | cons y r =>
    rw [if_neg (by simp)]
    unfold joinB
    rw [List.cons_append, List.map_cons, Lib.join_cons, List.map_cons, Lib.join_cons]
    apply ByteArray.ext
    apply Array.ext'
    simp [ba, Lib.joinTail]
end Go.Proofs.Ytmbijfcjfhdnjaa

/- The laws' own functions: same, large, awake. -/
namespace Go.Proofs.Ytmbijfcjfhdnjaa
set_option linter.unusedSimpArgs false
set_option linter.unusedVariables false
open Go.RowKit Go.Lib

def eqT (p : Bool) (x y : Tok) : Bool := decide (x.kind = y.kind) && (decide (x.name = y.name) && (decide (x.of = y.of) && (!p || decide (x.at_ = y.at_))))
def sameT (p : Bool) (a b : List Tok) : Bool := decide (a.length = b.length) && (a.zip b).all fun x => eqT p x.1 x.2
theorem same_no {p : Bool} {a b : List Tok} {i : Nat} (ha : i < a.length) (hb : i < b.length) (h : eqT p a[i] b[i] = false) : sameT p a b = false := by
  unfold sameT
  have : (a.zip b).all (fun x => eqT p x.1 x.2) = false := by
    rw [List.all_eq_false]
    refine ⟨(a[i], b[i]), List.mem_iff_getElem.2 ⟨i, by rw [List.length_zip]; omega, by rw [List.getElem_zip]⟩, by simp [h]⟩
  rw [this, Bool.and_false]
theorem same_yes {p : Bool} {a b : List Tok} (hl : a.length = b.length) (h : ∀ i (ha : i < a.length) (hb : i < b.length), eqT p a[i] b[i] = true) : sameT p a b = true := by
  unfold sameT
  rw [decide_eq_true hl, Bool.true_and, List.all_eq_true]
  intro x hx
  obtain ⟨i, hi, rfl⟩ := List.mem_iff_getElem.1 hx
  rw [List.length_zip] at hi
  rw [List.getElem_zip]
  exact h i (by omega) (by omega)
section
variable {α : Type} (h : List α) (x y z : α)
theorem hole_1 : (if 1 < (h ++ [x, y]).length then some ((h ++ [x, y]).length - 1 - 1) else none) = some h.length := by
  rw [if_pos (by simp)]; simp
theorem hole_0 : (if 0 < (h ++ [x, y]).length then some ((h ++ [x, y]).length - 1 - 0) else none) = some (h.length + 1) := by
  rw [if_pos (by simp)]; simp
theorem hole_set1 : (h ++ [x, y]).set h.length z = h ++ [z, y] := by
  rw [List.set_append_right _ _ (Nat.le_refl _), Nat.sub_self]; rfl
theorem hole_set2 : (h ++ [x, y]).set (h.length + 1) z = h ++ [x, z] := by
  rw [List.set_append_right _ _ (by omega), show h.length + 1 - h.length = 1 by omega]; rfl
theorem hole_get1 : (h ++ [x, y])[h.length]? = some x := by
  rw [List.getElem?_append_right (Nat.le_refl _), Nat.sub_self]; rfl
theorem hole_get2 : (h ++ [x, y])[h.length + 1]? = some y := by
  rw [List.getElem?_append_right (by omega), show h.length + 1 - h.length = 1 by omega]; rfl
end
theorem eq_tok (k k' : Int) (w w' : ByteArray) (o o' a a' : Int) : eqCells [0, 1, 0, 0] [.int .i64 k, .str w, .int .i64 o, .int .i64 a] [.int .i64 k', .str w', .int .i64 o', .int .i64 a'] = some (decide (k = k') && (decide (w = w') && (decide (o = o') && decide (a = a')))) := by
  simp only [eqCells, eqCell, if_true, Bool.and_true]
end Go.Proofs.Ytmbijfcjfhdnjaa

/- large, awake; TokenReads. -/
namespace Go.Proofs.Ytmbijfcjfhdnjaa
set_option linter.unusedSimpArgs false
set_option linter.unusedVariables false
open Go.RowKit Go.Lib

def largeT (l : List Tok) : Bool := decide (1100 < l.length) || l.any fun t => decide (100 < t.name.size)
theorem eq_tok_self (k : Int) (w : ByteArray) (o a : Int) : eqCells [0, 1, 0, 0] [.int .i64 k, .str w, .int .i64 o, .int .i64 a] [.int .i64 k, .str w, .int .i64 o, .int .i64 a] = some true := by
  rw [eq_tok]; simp
def c1 : ByteArray := ⟨#[107, 101, 121, 58, 107, 49, 124, 97, 108, 105, 99, 101, 32, 97, 115, 32, 114, 111, 108, 101, 58, 114, 32, 35, 32, 120]⟩
def c2 : ByteArray := ⟨#[97, 32, 75]⟩
def L5 : List Tok := [⟨1, ⟨#[107, 49]⟩, 1, 0⟩, ⟨4, ⟨#[]⟩, 0, 6⟩, ⟨1, ⟨#[97, 108, 105, 99, 101]⟩, 3, 7⟩, ⟨5, ⟨#[]⟩, 0, 13⟩, ⟨1, ⟨#[114]⟩, 5, 16⟩]
theorem all_c1 : allT c1 = (L5, 0, 0) := by kernel_rfl
theorem all_c2 : allT c2 = ([], 2, 2) := by kernel_rfl
theorem text_L5 : textT L5 = (⟨#[107, 101, 121, 58, 107, 49, 32, 124, 32, 97, 108, 105, 99, 101, 32, 97, 115, 32, 114, 111, 108, 101, 58, 114]⟩, 0) := by kernel_rfl
set_option maxRecDepth 100000 in
set_option maxHeartbeats 4000000 in
theorem p_awake04 : PCalls Try.prog 12 [] (.bool true) := by
  have q1 := p_pall c1 (by decide)
  have q2 := p_pall c2 (by decide)
  have q3 := p_ptext L5 (by decide) (by decide)
  have q4 := p_word 4 ⟨#[]⟩ 0 6 (by decide)
  have q5 := p_word 0 ⟨#[]⟩ 0 0 (by decide)
  rw [all_c1] at q1
  rw [all_c2] at q2
  rw [text_L5] at q3
  rw [show wordT 4 ⟨#[]⟩ 0 = ⟨#[124]⟩ by kernel_rfl] at q4
  rw [show wordT 0 ⟨#[]⟩ 0 = ⟨#[]⟩ by kernel_rfl] at q5
  simp only [resV, vToks, toksC, L5, List.flatMap_cons, List.flatMap_nil, tC, List.cons_append, List.nil_append, List.length_cons, List.length_nil, vText] at q1 q2 q3
  refine pcalls_of (by first | rfl | simp [free, free.frees, frees_str, frees_u8, frees_u16]) (by first | rfl | simp [free, free.frees, frees_str, frees_u8, frees_u16]) (acalls_of mixed J_law04_awake_ok (Nat.le_of_ble_eq_true rfl) ?_); simp only [J_law04_awake, wk,if_true,if_false,forall_const,implies_true,ne_eq,eq_self,Nat.reduceEqDiff,Nat.reduceAdd,Nat.reduceMul,Nat.reduceSub,Nat.reduceLeDiff,Nat.reduceLT,Int.reduceEq,Int.reduceLT,Int.reduceLE,Int.reduceAdd,Int.reduceSub,Int.reduceMul,Int.reduceNeg,Int.reduceNe,reduceCtorEq,Int.reduceToNat,↓reduceIte]
  refine PCalls.use (q1) ?_; simp only [wk,if_true,if_false,forall_const,implies_true,ne_eq,eq_self,Nat.reduceEqDiff,Nat.reduceAdd,Nat.reduceMul,Nat.reduceSub,Nat.reduceLeDiff,Nat.reduceLT,Int.reduceEq,Int.reduceLT,Int.reduceLE,Int.reduceAdd,Int.reduceSub,Int.reduceMul,Int.reduceNeg,Int.reduceNe,reduceCtorEq,Int.reduceToNat,↓reduceIte]
  refine PCalls.use (q2) ?_; simp only [wk,if_true,if_false,forall_const,implies_true,ne_eq,eq_self,Nat.reduceEqDiff,Nat.reduceAdd,Nat.reduceMul,Nat.reduceSub,Nat.reduceLeDiff,Nat.reduceLT,Int.reduceEq,Int.reduceLT,Int.reduceLE,Int.reduceAdd,Int.reduceSub,Int.reduceMul,Int.reduceNeg,Int.reduceNe,reduceCtorEq,Int.reduceToNat,↓reduceIte]
  refine PCalls.use (q3) ?_; simp only [wk,if_true,if_false,forall_const,implies_true,ne_eq,eq_self,Nat.reduceEqDiff,Nat.reduceAdd,Nat.reduceMul,Nat.reduceSub,Nat.reduceLeDiff,Nat.reduceLT,Int.reduceEq,Int.reduceLT,Int.reduceLE,Int.reduceAdd,Int.reduceSub,Int.reduceMul,Int.reduceNeg,Int.reduceNe,reduceCtorEq,Int.reduceToNat,↓reduceIte]
  simp only [eq_tok_self, Option.map_some, wk,if_true,if_false,forall_const,implies_true,ne_eq,eq_self,Nat.reduceEqDiff,Nat.reduceAdd,Nat.reduceMul,Nat.reduceSub,Nat.reduceLeDiff,Nat.reduceLT,Int.reduceEq,Int.reduceLT,Int.reduceLE,Int.reduceAdd,Int.reduceSub,Int.reduceMul,Int.reduceNeg,Int.reduceNe,reduceCtorEq,Int.reduceToNat,↓reduceIte]
  repeat' (first | (refine PCalls.use q4 ?_; simp only [eq_tok_self, Option.map_some, wk,if_true,if_false,forall_const,implies_true,ne_eq,eq_self,Nat.reduceEqDiff,Nat.reduceAdd,Nat.reduceMul,Nat.reduceSub,Nat.reduceLeDiff,Nat.reduceLT,Int.reduceEq,Int.reduceLT,Int.reduceLE,Int.reduceAdd,Int.reduceSub,Int.reduceMul,Int.reduceNeg,Int.reduceNe,reduceCtorEq,Int.reduceToNat,↓reduceIte]) | (refine PCalls.use q5 ?_; simp only [eq_tok_self, Option.map_some, wk,if_true,if_false,forall_const,implies_true,ne_eq,eq_self,Nat.reduceEqDiff,Nat.reduceAdd,Nat.reduceMul,Nat.reduceSub,Nat.reduceLeDiff,Nat.reduceLT,Int.reduceEq,Int.reduceLT,Int.reduceLE,Int.reduceAdd,Int.reduceSub,Int.reduceMul,Int.reduceNeg,Int.reduceNe,reduceCtorEq,Int.reduceToNat,↓reduceIte]) | (with_reducible refine And.intro ?_ ?_) | intro _)
  all_goals first
    | decide
    | rfl
    | exact absurd rfl (by assumption)
end Go.Proofs.Ytmbijfcjfhdnjaa

/- TokenReads and TokenWrites: the calls. -/
namespace Go.Proofs.Ytmbijfcjfhdnjaa
set_option linter.unusedSimpArgs false
set_option linter.unusedVariables false
open Go.RowKit Go.Lib

theorem scanF_len : ∀ (f : Nat) (l : List UInt8) (a : Nat) (acc : List Tok), acc.length ≤ 1000 → (scanF f l a acc).1.length ≤ 1000
  | 0, _, _, acc, h => h
  | f + 1, [], _, acc, h => h
  | f + 1, b :: r, a, acc, h => by
    simp only [scanF]
    split
    · exact scanF_len f r _ _ h
    · split
      · exact scanF_len f _ _ _ h
      · split
        · simp
        · split
          · simp
          · exact scanF_len f _ _ _ (by simp; omega)
theorem allT_len (s : ByteArray) : (allT s).1.length ≤ 1000 := by
  unfold allT
  split
  · simp
  · exact scanF_len _ _ _ _ (by simp)
theorem eqT_refl (p : Bool) (x : Tok) : eqT p x x = true := by unfold eqT; simp
theorem sameT_refl (p : Bool) (a : List Tok) : sameT p a a = true := same_yes rfl fun i ha hb => eqT_refl p _
end Go.Proofs.Ytmbijfcjfhdnjaa

/- A word that is written is read as its token: plain laws. -/
namespace Go.Proofs.Ytmbijfcjfhdnjaa
set_option linter.unusedSimpArgs false
set_option linter.unusedVariables false
open Go.RowKit Go.Lib

theorem stop_app {q : Int → Bool} {l r : List UInt8} (h : ∀ b ∈ l, q b.toNat = true) (h2 : ∀ b r', r = b :: r' → q b.toNat = false) : stopN q (l ++ r) = l.length := by
  unfold stopN
  refine tw_len (by simp) (fun b hb => ?_) (fun hlt => ?_)
  · rw [List.take_left] at hb; exact h b hb
  · rw [List.getElem_append_right (Nat.le_refl _)]
    simp only [Nat.sub_self]
    cases r with
    | nil => simp at hlt
    | cons c r' => exact h2 c r' rfl
theorem fine_inn {r : List UInt8} (h : fineL r = true) : ∀ b r', r = b :: r' → innI b.toNat = false := by
  rintro b r' rfl
  simp only [fineL, freI, Bool.and_eq_true, Bool.not_eq_true'] at h
  exact h.1.1
theorem fine_dig {r : List UInt8} (h : fineL r = true) : ∀ b r', r = b :: r' → digI b.toNat = false := by
  intro b r' e
  have := fine_inn h b r' e
  simp only [innI, Bool.or_eq_false_iff] at this
  exact this.1.1.2
theorem fine_colon {r : List UInt8} (h : fineL r = true) : colonL r = false := by
  cases r with
  | nil => rfl
  | cons b r =>
    simp only [fineL, freI, Bool.and_eq_true, decide_eq_true_eq] at h
    have := h.1.2
    simp only [colonL, beq_eq_false_iff_ne]
    omega
theorem may_all {n : ByteArray} (h : mayN n = true) : 1 ≤ n.size ∧ n.size ≤ 24 ∧ lttI (n.data.toList.headD 0).toNat = true ∧ ∀ b ∈ n.data.toList, innI b.toNat = true := by
  have hl := len_size n
  unfold mayN mayL at h
  simp only [Bool.and_eq_true, decide_eq_true_eq] at h
  obtain ⟨h1, h2, h3, h4⟩ := h
  exact ⟨by omega, by omega, h3, List.all_eq_true.1 h4⟩
theorem take_ba (n : ByteArray) (r : List UInt8) : ba ((n.data.toList ++ r).take n.size) = n := by
  rw [← len_size n, List.take_left, ba_eta]
theorem name_may {n : ByteArray} {r : List UInt8} (h : mayN n = true) (hf : fineL r = true) : nameL (n.data.toList ++ r) = some n.size ∧ stopN innI (n.data.toList ++ r) = n.size := by
  obtain ⟨h1, h2, h3, h4⟩ := may_all h
  have hl := len_size n
  have hs : stopN innI (n.data.toList ++ r) = n.size := by rw [stop_app h4 (fine_inn hf), hl]
  refine ⟨?_, hs⟩
  have hh : (n.data.toList ++ r).headD 0 = n.data.toList.headD 0 := by
    cases hn : n.data.toList with
    | nil => rw [hn] at hl; simp at hl; omega
    | cons c t => rfl
  rw [name_some, hs, hh, if_pos ⟨h3, h2, by rw [← hl, List.drop_left]; exact hf⟩]
theorem sign_name {n : ByteArray} {r : List UInt8} (h : mayN n = true) (hf : fineL r = true) : signL (n.data.toList ++ r) = if keyW n = 0 then some (1, n, 3, n.size) else some (keyW n, ba [], 0, n.size) := by
  obtain ⟨h1, h2, h3, h4⟩ := may_all h
  obtain ⟨g1, g2⟩ := name_may h hf
  have hl := len_size n
  have hk : kindL (n.data.toList ++ r) = 0 := by
    rw [kind_name, g2, if_neg]
    rintro ⟨-, hc⟩
    rw [← hl, List.drop_left, fine_colon hf] at hc
    cases hc
  obtain ⟨L, hL⟩ : ∃ L, L = n.data.toList ++ r := ⟨_, rfl⟩
  have ht := take_ba n r
  rw [← hL] at g1 g2 hk ht ⊢
  unfold signL
  rw [if_pos hk]
  cases L with
  | nil => cases g1
  | cons b t =>
    have hb : lttI b.toNat = true := by
      cases hn : n.data.toList with
      | nil => rw [hn] at hl; simp at hl; omega
      | cons c u =>
        rw [hn] at hL h3
        injection hL with e _
        rw [e]; exact h3
    simp only [plainL]
    rw [if_pos hb, g1]
    simp only [ht]
theorem beg_self (p : ByteArray) (r : List UInt8) : begL p (p.data.toList ++ r) = true := by
  unfold begL
  rw [← len_size p, List.take_left, decide_eq_true_eq]
theorem kind_pre {o : Int} (ho : o ∈ kinds) (r : List UInt8) : kindL ((preW o).data.toList ++ r) = o := by
  have h2 : o = 1 ∨ o = 2 ∨ o = 4 ∨ o = 5 := by simpa [kinds] using ho
  have b1 : begL (preW 1) ((preW 2).data.toList ++ r) = false ∧ begL (preW 1) ((preW 4).data.toList ++ r) = false ∧ begL (preW 1) ((preW 5).data.toList ++ r) = false := ⟨rfl, rfl, rfl⟩
  have b2 : begL (preW 2) ((preW 4).data.toList ++ r) = false ∧ begL (preW 2) ((preW 5).data.toList ++ r) = false := ⟨rfl, rfl⟩
  have b4 : begL (preW 4) ((preW 5).data.toList ++ r) = false := rfl
  obtain ⟨b12, b14, b15⟩ := b1
  obtain ⟨b24, b25⟩ := b2
  unfold kindL
  rcases h2 with rfl | rfl | rfl | rfl
  · rw [if_pos (beg_self _ _)]
  · rw [b12, if_neg (by simp), if_pos (beg_self _ _)]
  · rw [b14, b24, if_neg (by simp), if_neg (by simp), if_pos (beg_self _ _)]
  · rw [b15, b25, b4, if_neg (by simp), if_neg (by simp), if_neg (by simp), if_pos (beg_self _ _)]
theorem sign_atom {n : ByteArray} {o : Int} {r : List UInt8} (ho : o ∈ kinds) (h : mayN n = true) (hf : fineL r = true) : signL ((preW o ++ n).data.toList ++ r) = some (1, n, o, (preW o ++ n).size) := by
  have hp := len_size (preW o)
  have e : (preW o ++ n).data.toList ++ r = (preW o).data.toList ++ (n.data.toList ++ r) := by
    rw [ByteArray.data_append, Array.toList_append, List.append_assoc]
  rw [e]
  unfold signL
  rw [kind_pre ho, if_neg (kinds_nz ho), ← hp, List.drop_left]
  unfold atomL
  rw [(name_may h hf).1]
  simp only [take_ba, ByteArray.size_append, hp]
theorem sign_word {k : Int} {n : ByteArray} {o : Int} {r : List UInt8} (hw : wordT k n o ≠ ⟨#[]⟩) (hf : fineL r = true) : signL ((wordT k n o).data.toList ++ r) = some (k, n, o, (wordT k n o).size) := by
  have hl := len_size n
  by_cases h1 : k = 1
  · subst h1
    have e : wordT 1 n o = atomW o n := by unfold wordT; rw [if_pos rfl]
    rw [e] at hw ⊢
    by_cases h0 : o = 0
    · subst h0
      have e2 : atomW 0 n = if n = ⟨#[68]⟩ then n else ⟨#[]⟩ := by unfold atomW; rw [if_pos rfl]
      rw [e2] at hw ⊢
      by_cases hd : n = ⟨#[68]⟩
      · subst hd
        rw [if_pos rfl]
        show signL (68 :: r) = _
        rw [sig_d rfl, good_d, if_pos hf]; rfl
      · rw [if_neg hd] at hw; exact absurd rfl hw
    · by_cases hm : mayN n = true
      · by_cases hk : o = 1 ∨ o = 2 ∨ o = 4 ∨ o = 5
        · have ho : o ∈ kinds := by simpa [kinds] using hk
          have e2 : atomW o n = preW o ++ n := by unfold atomW; rw [if_neg h0, if_pos hm, if_pos hk]
          rw [e2]; exact sign_atom ho hm hf
        · by_cases h3 : o = 3 ∧ keyW n = 0
          · have e2 : atomW o n = n := by unfold atomW; rw [if_neg h0, if_pos hm, if_neg hk, if_pos h3]
            rw [e2, sign_name hm hf, if_pos h3.2, h3.1]
          · have e2 : atomW o n = ⟨#[]⟩ := by unfold atomW; rw [if_neg h0, if_pos hm, if_neg hk, if_neg h3]
            exact absurd e2 hw
      · have e2 : atomW o n = ⟨#[]⟩ := by unfold atomW; rw [if_neg h0, if_neg hm]
        exact absurd e2 hw
  · by_cases h0 : o = 0
    · subst h0
      by_cases h8 : k = 8
      · subst h8
        have e : wordT 8 n 0 = if numW n = true then n else ⟨#[]⟩ := by unfold wordT; rw [if_neg (by decide), if_neg (by decide), if_pos rfl]
        rw [e] at hw ⊢
        by_cases hn : numW n = true
        · rw [if_pos hn]
          have hn2 := hn
          unfold numW at hn2
          simp only [Bool.and_eq_true, decide_eq_true_eq] at hn2
          obtain ⟨n1, n2, n3, n4⟩ := hn2
          have hs : stopN digI (n.data.toList ++ r) = n.size := by rw [stop_app (fun b hb => List.all_eq_true.1 n3 b hb) (fine_dig hf), hl]
          obtain ⟨b, t, hbt⟩ : ∃ b t, n.data.toList = b :: t := by
            cases hc : n.data.toList with
            | nil => rw [hc] at hl; simp at hl; omega
            | cons b t => exact ⟨b, t, rfl⟩
          have hb : digI b.toNat = true := List.all_eq_true.1 n3 b (by rw [hbt]; simp)
          have ht := take_ba n r
          have hdr : (n.data.toList ++ r).drop n.size = r := by rw [← hl, List.drop_left]
          rw [hbt] at hs ht hdr ⊢
          rw [List.cons_append] at hs ht hdr ⊢
          rw [sig_dig hb, hs, ht]
          have hg : goodT (8, n, 0, n.size) (b :: (t ++ r)) = true := by
            unfold goodT
            simp only [hdr, hf, Bool.and_true, decide_eq_true_eq]
            have e3 : wordT 8 n 0 = n := by rw [e, if_pos hn]
            rw [e3]
            intro e4; rw [e4] at n1; exact absurd n1 (by decide)
          rw [if_pos hg]
        · rw [if_neg hn] at hw; exact absurd rfl hw
      · by_cases h9 : k = 9
        · subst h9
          have e : wordT 9 n 0 = if sigW n = true then n else ⟨#[]⟩ := by unfold wordT; rw [if_neg (by decide), if_neg (by decide), if_neg (by decide), if_pos rfl]
          rw [e] at hw ⊢
          by_cases hn : sigW n = true
          · rw [if_pos hn]
            unfold sigW at hn
            simp only [Bool.and_eq_true, decide_eq_true_eq] at hn
            obtain ⟨b, rfl⟩ := one_byte hn.1
            show signL (b :: r) = _
            rw [sig_sign hn.2]; rfl
          · rw [if_neg hn] at hw; exact absurd rfl hw
        · by_cases hn : n = ⟨#[]⟩
          · subst hn
            have key : ∀ (x : ByteArray) (kk : Int), mayN x = true → keyW x = kk → kk ≠ 0 → signL (x.data.toList ++ r) = some (kk, ⟨#[]⟩, 0, x.size) := fun x kk g1 g2 g3 => by
              rw [sign_name g1 hf, if_neg (by rw [g2]; exact g3), g2]; rfl
            by_cases h2 : k = 2
            · subst h2; exact key ⟨#[97, 110, 100]⟩ 2 (by decide) (by decide) (by decide)
            · by_cases h3 : k = 3
              · subst h3; exact key ⟨#[102, 111, 114]⟩ 3 (by decide) (by decide) (by decide)
              · by_cases h5 : k = 5
                · subst h5; exact key ⟨#[97, 115]⟩ 5 (by decide) (by decide) (by decide)
                · by_cases h4 : k = 4
                  · subst h4
                    show signL (124 :: r) = _
                    rw [sig_124 rfl]; rfl
                  · by_cases h6 : k = 6
                    · subst h6
                      show signL (40 :: r) = _
                      rw [sig_40 rfl]; rfl
                    · by_cases h7 : k = 7
                      · subst h7
                        show signL (41 :: r) = _
                        rw [sig_41 rfl]; rfl
                      · exact absurd (by unfold wordT; simp [h1, h2, h3, h4, h5, h6, h7, h8, h9]) hw
          · exact absurd (by unfold wordT; simp [h1, h8, h9, hn]) hw
    · exact absurd (by unfold wordT; simp [h1, h0]) hw
end Go.Proofs.Ytmbijfcjfhdnjaa

/- What is written is read as it was: plain laws of texts. -/
namespace Go.Proofs.Ytmbijfcjfhdnjaa
set_option linter.unusedSimpArgs false
set_option linter.unusedVariables false
open Go.RowKit Go.Lib

theorem sign_none {b : UInt8} {r : List UInt8} (h : b.toNat = 32 ∨ b.toNat = 9 ∨ b.toNat = 10 ∨ b.toNat = 35) : signL (b :: r) = none := by
  have hl : lttI b.toNat = false := by rcases h with h | h | h | h <;> rw [h] <;> rfl
  have hd : digI b.toNat = false := by rcases h with h | h | h | h <;> rw [h] <;> rfl
  have hs : sigB b.toNat = false := by rcases h with h | h | h | h <;> rw [h] <;> rfl
  rw [sign_nl hl]; simp only [plainL]
  rw [if_neg (by simp [hl]), if_neg (by omega), if_neg (by omega), if_neg (by omega), if_neg (by omega), if_neg (by simp [hd]), if_neg (by simp [hs])]
theorem sign_nil : signL [] = none := by rfl
theorem scan_tok {l : List UInt8} {k : Int} {w : ByteArray} {o : Int} {n : Nat} (h : signL l = some (k, w, o, n)) (a : Nat) (acc : List Tok) (ha : acc.length < 1000) : scan l a acc = scan (l.drop n) (a + n) (acc ++ [⟨k, w, o, a⟩]) := by
  cases l with
  | nil => rw [sign_nil] at h; cases h
  | cons b r =>
    rw [scan_cons]
    have h1 : ¬ blankB b = true := fun hb => by
      rw [sign_none (by simp [blankB] at hb; omega)] at h; cases h
    have h2 : ¬ b.toNat = 35 := fun hb => by rw [sign_none (by omega)] at h; cases h
    rw [if_neg h1, if_neg h2, h]
    simp only
    rw [if_neg (by omega)]
theorem scan_word {x : Tok} (hw : wrd x ≠ ⟨#[]⟩) {r : List UInt8} (hf : fineL r = true) (a : Nat) (acc : List Tok) (ha : acc.length < 1000) : scan ((wrd x).data.toList ++ r) a acc = scan r (a + (wrd x).size) (acc ++ [⟨x.kind, x.name, x.of, a⟩]) := by
  have h1 : signL ((wrd x).data.toList ++ r) = some (x.kind, x.name, x.of, (wrd x).size) := sign_word hw hf
  rw [scan_tok h1 a acc ha]
  rw [← len_size (wrd x), List.drop_left]
theorem scan_blank {b : UInt8} {r : List UInt8} (h : blankB b = true) (a : Nat) (acc : List Tok) : scan (b :: r) a acc = scan r (a + 1) acc := by rw [scan_cons, if_pos h]
/-- without its place -/
def core (t : Tok) : Int × ByteArray × Int := (t.kind, t.name, t.of)
theorem core_at (x : Tok) (a : Int) : core ⟨x.kind, x.name, x.of, a⟩ = core x := rfl
theorem same_core {l m : List Tok} (h : l.map core = m.map core) : sameT false l m = true := by
  have hl : l.length = m.length := by have := congrArg List.length h; simpa using this
  refine same_yes hl fun i ha hb => ?_
  have h1 : (l.map core)[i]? = (m.map core)[i]? := by rw [h]
  rw [List.getElem?_map, List.getElem?_map, List.getElem?_eq_getElem ha, List.getElem?_eq_getElem hb] at h1
  simp only [Option.map_some, Option.some.injEq, core, Prod.mk.injEq] at h1
  unfold eqT
  simp [h1.1, h1.2.1, h1.2.2]
abbrev wl (t : Tok) : List UInt8 := (wrd t).data.toList
theorem tail_cons (x : Tok) (l : List Tok) : Lib.joinTail [32] ((x :: l).map wl) = 32 :: (wl x ++ Lib.joinTail [32] (l.map wl)) := by
  simp [Lib.joinTail]
theorem tail_fine (l : List Tok) : fineL (Lib.joinTail [32] (l.map wl)) = true := by
  cases l with
  | nil => rfl
  | cons x l => rw [tail_cons]; rfl
theorem scan_tail : ∀ (l : List Tok) (a : Nat) (acc : List Tok), (∀ t ∈ l, wrd t ≠ ⟨#[]⟩) → acc.length + l.length ≤ 1000 → ∃ l' : List Tok, scan (Lib.joinTail [32] (l.map wl)) a acc = (acc ++ l', 0, 0) ∧ l.map core = l'.map core
  | [], a, acc, _, _ => ⟨[], by simp [Lib.joinTail, scan_nil], rfl⟩
  | x :: l, a, acc, h, hn => by
    simp only [List.length_cons] at hn
    obtain ⟨l', h1, h2⟩ := scan_tail l (a + 1 + (wrd x).size) (acc ++ [⟨x.kind, x.name, x.of, (a + 1 : Nat)⟩]) (fun t ht => h t (by simp [ht])) (by simp; omega)
    refine ⟨⟨x.kind, x.name, x.of, (a + 1 : Nat)⟩ :: l', ?_, by rw [List.map_cons, List.map_cons, h2]; rfl⟩
    rw [tail_cons, scan_blank rfl, scan_word (h x (by simp)) (tail_fine l) _ _ (by omega), h1, List.append_assoc]
    rfl
theorem scan_join (l : List Tok) (h : ∀ t ∈ l, wrd t ≠ ⟨#[]⟩) (hn : l.length ≤ 1000) : ∃ l' : List Tok, scan (Lib.join (l.map wl) [32]) 0 [] = (l', 0, 0) ∧ l.map core = l'.map core := by
  cases l with
  | nil => exact ⟨[], rfl, rfl⟩
  | cons x l =>
    simp only [List.length_cons] at hn
    obtain ⟨l', h1, h2⟩ := scan_tail l (0 + (wrd x).size) ([] ++ [⟨x.kind, x.name, x.of, (0 : Nat)⟩]) (fun t ht => h t (by simp [ht])) (by simp; omega)
    refine ⟨⟨x.kind, x.name, x.of, (0 : Nat)⟩ :: l', ?_, by rw [List.map_cons, List.map_cons, h2]; rfl⟩
    rw [List.map_cons, Lib.join_cons, scan_word (h x (by simp)) (tail_fine l) _ _ (by simp), h1]
    rfl
theorem text_ok {l : List Tok} (h : (textT l).2 = 0) : l.length ≤ 1000 ∧ (∀ t ∈ l, wrd t ≠ ⟨#[]⟩) ∧ (joinB (l.map wrd)).size ≤ 4000 ∧ (textT l).1 = joinB (l.map wrd) := by
  unfold textT at h ⊢
  by_cases h1 : 1000 < l.length
  · rw [if_pos h1] at h; cases h
  · rw [if_neg h1] at h ⊢
    by_cases h2 : l.all (fun t => decide (wrd t ≠ ⟨#[]⟩)) = true
    · rw [if_pos h2] at h ⊢
      by_cases h3 : 4000 < (joinB (l.map wrd)).size
      · rw [if_pos h3] at h; cases h
      · rw [if_neg h3]
        exact ⟨by omega, fun t ht => of_decide_eq_true (List.all_eq_true.1 h2 t ht), by omega, rfl⟩
    · rw [if_neg h2] at h; cases h
theorem joinB_wl (l : List Tok) : (joinB (l.map wrd)).data.toList = Lib.join (l.map wl) [32] := by
  unfold joinB
  rw [ba_list, List.map_map]
  rfl
/-- WHAT IS WRITTEN IS READ AS IT WAS, but for places -/
theorem text_all {l : List Tok} (h : (textT l).2 = 0) : ∃ l' : List Tok, allT (textT l).1 = (l', 0, 0) ∧ l.map core = l'.map core := by
  obtain ⟨h1, h2, h3, h4⟩ := text_ok h
  obtain ⟨l', h5, h6⟩ := scan_join l h2 h1
  refine ⟨l', ?_, h6⟩
  rw [h4]
  unfold allT
  rw [if_neg (by omega), joinB_wl, h5]
end Go.Proofs.Ytmbijfcjfhdnjaa

/- A token's word is what stood there: plain laws. -/
namespace Go.Proofs.Ytmbijfcjfhdnjaa
set_option linter.unusedSimpArgs false
set_option linter.unusedVariables false
open Go.RowKit Go.Lib

theorem keyW_word {w : ByteArray} (h : keyW w ≠ 0) : wordT (keyW w) ⟨#[]⟩ 0 = w := by
  unfold keyW at h ⊢
  by_cases e1 : w = ⟨#[97, 110, 100]⟩
  · rw [if_pos e1, e1]; decide
  · rw [if_neg e1] at h ⊢
    by_cases e2 : w = ⟨#[102, 111, 114]⟩
    · rw [if_pos e2, e2]; decide
    · rw [if_neg e2] at h ⊢
      by_cases e3 : w = ⟨#[97, 115]⟩
      · rw [if_pos e3, e3]; decide
      · rw [if_neg e3] at h; exact absurd rfl h
theorem name_back {l : List UInt8} {n : Nat} (h : nameL l = some n) : n = stopN innI l ∧ mayN (ba (l.take n)) = true := by
  rw [name_some] at h
  by_cases hc : lttI (l.headD 0).toNat = true ∧ stopN innI l ≤ 24 ∧ fineL (l.drop (stopN innI l)) = true
  · rw [if_pos hc] at h
    injection h with h
    subst h
    exact ⟨rfl, (may_stop l).2 ⟨hc.1, hc.2.1⟩⟩
  · rw [if_neg hc] at h; cases h
theorem ba_append (a b : List UInt8) : ba (a ++ b) = ba a ++ ba b := by
  apply ByteArray.ext; apply Array.ext'; simp [ba]
theorem plain_back {l : List UInt8} {k : Int} {w : ByteArray} {o : Int} {n : Nat} (h : plainL l = some (k, w, o, n)) : wordT k w o = ba (l.take n) := by
  cases l with
  | nil => cases h
  | cons b r =>
    have hb1 : ∀ c : UInt8, b.toNat = c.toNat → b = c := fun c hc => UInt8.toNat_inj.1 hc
    simp only [plainL] at h
    by_cases c1 : lttI b.toNat = true
    · rw [if_pos c1] at h
      cases hn : nameL (b :: r) with
      | none => rw [hn] at h; cases h
      | some m =>
        rw [hn] at h
        simp only at h
        obtain ⟨_, hm⟩ := name_back hn
        by_cases hk : keyW (ba ((b :: r).take m)) = 0
        · rw [if_pos hk] at h
          simp only [Option.some.injEq, Prod.mk.injEq] at h
          obtain ⟨rfl, rfl, rfl, rfl⟩ := h
          unfold wordT atomW
          rw [if_pos rfl, if_neg (by decide), if_pos hm, if_neg (by decide), if_pos ⟨rfl, hk⟩]
        · rw [if_neg hk] at h
          simp only [Option.some.injEq, Prod.mk.injEq] at h
          obtain ⟨rfl, rfl, rfl, rfl⟩ := h
          exact keyW_word hk
    · rw [if_neg c1] at h
      by_cases c2 : b.toNat = 68
      · rw [if_pos c2] at h
        have := hb1 68 c2
        subst this
        by_cases hf : fineL r = true
        · rw [if_pos hf] at h
          simp only [Option.some.injEq, Prod.mk.injEq] at h
          obtain ⟨rfl, rfl, rfl, rfl⟩ := h
          rfl
        · rw [if_neg hf] at h; cases h
      · rw [if_neg c2] at h
        by_cases c3 : b.toNat = 124
        · rw [if_pos c3] at h
          have := hb1 124 c3
          subst this
          simp only [Option.some.injEq, Prod.mk.injEq] at h
          obtain ⟨rfl, rfl, rfl, rfl⟩ := h
          rfl
        · rw [if_neg c3] at h
          by_cases c4 : b.toNat = 40
          · rw [if_pos c4] at h
            have := hb1 40 c4
            subst this
            simp only [Option.some.injEq, Prod.mk.injEq] at h
            obtain ⟨rfl, rfl, rfl, rfl⟩ := h
            rfl
          · rw [if_neg c4] at h
            by_cases c5 : b.toNat = 41
            · rw [if_pos c5] at h
              have := hb1 41 c5
              subst this
              simp only [Option.some.injEq, Prod.mk.injEq] at h
              obtain ⟨rfl, rfl, rfl, rfl⟩ := h
              rfl
            · rw [if_neg c5] at h
              by_cases c6 : digI b.toNat = true
              · rw [if_pos c6] at h
                by_cases hn : numW (ba ((b :: r).take (stopN digI (b :: r)))) = true ∧ fineL ((b :: r).drop (stopN digI (b :: r))) = true
                · rw [if_pos hn] at h
                  simp only [Option.some.injEq, Prod.mk.injEq] at h
                  obtain ⟨rfl, rfl, rfl, rfl⟩ := h
                  unfold wordT
                  rw [if_neg (by decide), if_neg (by decide), if_pos rfl, if_pos hn.1]
                · rw [if_neg hn] at h; cases h
              · rw [if_neg c6] at h
                by_cases c7 : sigB b.toNat = true
                · rw [if_pos c7] at h
                  simp only [Option.some.injEq, Prod.mk.injEq] at h
                  obtain ⟨rfl, rfl, rfl, rfl⟩ := h
                  have hs : sigW (ba [b]) = true := by
                    rw [sigW_one rfl]; exact c7
                  unfold wordT
                  rw [if_neg (by decide), if_neg (by decide), if_neg (by decide), if_pos rfl, if_pos hs]
                  rfl
                · rw [if_neg c7] at h; cases h
theorem sign_back {l : List UInt8} {k : Int} {w : ByteArray} {o : Int} {n : Nat} (h : signL l = some (k, w, o, n)) : wordT k w o = ba (l.take n) := by
  unfold signL at h
  by_cases hk : kindL l = 0
  · rw [if_pos hk] at h; exact plain_back h
  · rw [if_neg hk] at h
    rcases kindL_cases l with h0 | ⟨hm, hbg⟩
    · exact absurd h0 hk
    · obtain ⟨K, hK⟩ : ∃ K, K = kindL l := ⟨_, rfl⟩
      rw [← hK] at h hm hbg hk
      unfold atomL at h
      cases hn : nameL (l.drop (preW K).size) with
      | none => rw [hn] at h; cases h
      | some m =>
        rw [hn] at h
        simp only [Option.some.injEq, Prod.mk.injEq] at h
        obtain ⟨rfl, rfl, rfl, rfl⟩ := h
        obtain ⟨_, hmay⟩ := name_back hn
        have ho : K = 1 ∨ K = 2 ∨ K = 4 ∨ K = 5 := by simpa [kinds] using hm
        unfold begL at hbg
        have hbt := of_decide_eq_true hbg
        have e : wordT 1 (ba ((l.drop (preW K).size).take m)) K = preW K ++ ba ((l.drop (preW K).size).take m) := by
          unfold wordT atomW
          rw [if_pos rfl, if_neg hk, if_pos hmay, if_pos ho]
        rw [e, List.take_add, ba_append, hbt, ba_eta]
def tot (l : List Tok) : Nat := (l.map fun t => (wrd t).size).sum
theorem tot_snoc (l : List Tok) (t : Tok) : tot (l ++ [t]) = tot l + (wrd t).size := by simp [tot]
theorem ba_ne {w : ByteArray} (h : 1 ≤ w.size) : w ≠ ⟨#[]⟩ := by
  intro e; rw [e] at h; exact absurd h (by decide)
theorem scanF_words : ∀ (f : Nat) (l : List UInt8) (a : Nat) (acc : List Tok), (∀ t ∈ acc, wrd t ≠ ⟨#[]⟩) → (∀ t ∈ (scanF f l a acc).1, wrd t ≠ ⟨#[]⟩) ∧ tot (scanF f l a acc).1 ≤ tot acc + l.length
  | 0, _, _, acc, h => ⟨h, by show tot acc ≤ _; omega⟩
  | f + 1, [], _, acc, h => ⟨h, by show tot acc ≤ _; omega⟩
  | f + 1, b :: r, a, acc, h => by
    have h0 : (∀ t ∈ ([] : List Tok), wrd t ≠ ⟨#[]⟩) ∧ tot [] ≤ tot acc + (b :: r).length := ⟨by simp, by simp [tot]⟩
    simp only [scanF]
    split
    · obtain ⟨h1, h2⟩ := scanF_words f r (a + 1) acc h
      exact ⟨h1, by simp only [List.length_cons]; omega⟩
    · split
      · obtain ⟨h1, h2⟩ := scanF_words f ((b :: r).drop (stopN notI (b :: r))) (a + stopN notI (b :: r)) acc h
        refine ⟨h1, ?_⟩
        rw [List.length_drop] at h2
        omega
      · split
        · exact h0
        · next k w o n hs =>
          split
          · exact h0
          · have hb := sign_back hs
            obtain ⟨a1, a2, _⟩ := signL_ascii hs
            have hsz : (wrd ⟨k, w, o, a⟩).size = n := by
              unfold wrd
              rw [hb, ba_len2, List.length_take]; omega
            obtain ⟨h1, h2⟩ := scanF_words f ((b :: r).drop n) (a + n) (acc ++ [⟨k, w, o, a⟩]) (fun t ht => by
              rcases List.mem_append.1 ht with ht | ht
              · exact h t ht
              · simp only [List.mem_singleton] at ht
                subst ht
                exact ba_ne (by omega))
            refine ⟨h1, ?_⟩
            rw [List.length_drop, tot_snoc, hsz] at h2
            omega
theorem allT_words (s : ByteArray) : (∀ t ∈ (allT s).1, wrd t ≠ ⟨#[]⟩) ∧ tot (allT s).1 ≤ s.size := by
  have hl := len_size s
  unfold allT
  split
  · exact ⟨by simp, by simp [tot]⟩
  · obtain ⟨h1, h2⟩ := scanF_words s.data.toList.length s.data.toList 0 [] (by simp)
    refine ⟨h1, ?_⟩
    have h3 : tot [] = 0 := rfl
    unfold scan
    omega
theorem tot_len : ∀ {l : List Tok}, (∀ t ∈ l, wrd t ≠ ⟨#[]⟩) → l.length ≤ tot l
  | [], _ => by simp
  | t :: l, h => by
    have h1 := tot_len (l := l) (fun x hx => h x (by simp [hx]))
    have h2 : 1 ≤ (wrd t).size := by
      rcases Nat.eq_zero_or_pos (wrd t).size with h0 | h0
      · exact absurd (by rw [← ba_eta (wrd t), List.eq_nil_of_length_eq_zero (show (wrd t).data.toList.length = 0 by rw [len_size]; exact h0)]; rfl) (h t (by simp))
      · exact h0
    have e : tot (t :: l) = (wrd t).size + tot l := by simp [tot]
    rw [e, List.length_cons]; omega
theorem joinB_tot (l : List Tok) : (joinB (l.map wrd)).size ≤ tot l + l.length := by
  unfold joinB
  rw [ba_len2]
  cases l with
  | nil => simp [Lib.join_nil]
  | cons x r =>
    rw [List.map_cons, List.map_cons, Lib.join_length]
    have : Lib.lens ((x :: r).map wl) = tot (x :: r) := by
      simp [Lib.lens, tot, wl]
      rfl
    simp only [List.map_map, List.length_map, List.length_cons, List.length_nil] at this ⊢
    have e : Lib.lens ((wrd x).data.toList :: r.map ((fun x => x.data.toList) ∘ wrd)) = tot (x :: r) := this
    rw [e]; omega
/-- what is read can be written -/
theorem all_text {s : ByteArray} (hs : s.size ≤ 1900) : (textT (allT s).1).2 = 0 := by
  obtain ⟨h1, h2⟩ := allT_words s
  have h3 := allT_len s
  have h4 := tot_len h1
  have h5 := joinB_tot (allT s).1
  unfold textT
  rw [if_neg (by omega), if_pos (List.all_eq_true.2 fun t ht => decide_eq_true (h1 t ht)), if_neg (by omega)]
end Go.Proofs.Ytmbijfcjfhdnjaa

/- TokenBack: the call. -/
namespace Go.Proofs.Ytmbijfcjfhdnjaa
set_option linter.unusedSimpArgs false
set_option linter.unusedVariables false
open Go.RowKit Go.Lib

theorem allT_err {s : ByteArray} (h : (allT s).2.2 ≠ 0) : (allT s).1 = [] := by
  have gen : ∀ (f : Nat) (l : List UInt8) (a : Nat) (acc : List Tok), (scanF f l a acc).2.2 ≠ 0 → (scanF f l a acc).1 = [] := by
    intro f
    induction f with
    | zero => intro l a acc h; exact absurd rfl h
    | succ f ih =>
      intro l a acc h
      cases l with
      | nil => exact absurd rfl h
      | cons b r =>
        simp only [scanF] at h ⊢
        split at h
        · next c => rw [if_pos c]; exact ih _ _ _ h
        · next c =>
          rw [if_neg c]
          split at h
          · next c2 => rw [if_pos c2]; exact ih _ _ _ h
          · next c2 =>
            rw [if_neg c2]
            split at h
            · rfl
            · next hs =>
              split at h
              · next c3 => rw [if_pos c3]
              · next c3 => rw [if_neg c3]; exact ih _ _ _ h
  unfold allT at h ⊢
  split
  · rfl
  · next c => rw [if_neg c] at h; exact gen _ _ _ _ h
theorem sign_size {l : List UInt8} {k : Int} {w : ByteArray} {o : Int} {n : Nat} (h : signL l = some (k, w, o, n)) (hl : l.length ≤ 1000000) : w.size ≤ 1000000 := by
  have tk : ∀ (l : List UInt8) (n : Nat), l.length ≤ 1000000 → (ba (l.take n)).size ≤ 1000000 := fun l n h => by rw [ba_len2, List.length_take]; omega
  have z : (ba []).size ≤ 1000000 := by decide
  unfold signL at h
  split at h
  · cases l with
    | nil => cases h
    | cons b r =>
      simp only [plainL] at h
      repeat' split at h
      all_goals first
        | (cases h; done)
        | (simp only [Option.some.injEq, Prod.mk.injEq] at h; obtain ⟨_, rfl, _⟩ := h; first | exact tk _ _ hl | exact z | (rw [ba_len2]; simp))
  · unfold atomL at h
    split at h
    · cases h
    · simp only [Option.some.injEq, Prod.mk.injEq] at h
      obtain ⟨_, rfl, _⟩ := h
      exact tk _ _ (by simp; omega)
theorem allT_name {s : ByteArray} (hs : s.size ≤ 1000000) : ∀ t ∈ (allT s).1, t.name.size ≤ 1000000 := by
  have hl := len_size s
  have gen : ∀ (f : Nat) (l : List UInt8) (a : Nat) (acc : List Tok), l.length ≤ 1000000 → (∀ t ∈ acc, t.name.size ≤ 1000000) → ∀ t ∈ (scanF f l a acc).1, t.name.size ≤ 1000000 := by
    intro f
    induction f with
    | zero => intro l a acc _ h; exact h
    | succ f ih =>
      intro l a acc hlen h
      cases l with
      | nil => exact h
      | cons b r =>
        simp only [scanF]
        simp only [List.length_cons] at hlen
        split
        · exact ih _ _ _ (by omega) h
        · split
          · exact ih _ _ _ (by simp; omega) h
          · split
            · simp
            · next k w o n hsg =>
              split
              · simp
              · refine ih _ _ _ (by simp; omega) fun t ht => ?_
                rcases List.mem_append.1 ht with ht | ht
                · exact h t ht
                · simp only [List.mem_singleton] at ht
                  subst ht
                  exact sign_size hsg (by simp; omega)
  unfold allT
  split
  · simp
  · exact gen _ _ _ _ (by omega) (by simp)
end Go.Proofs.Ytmbijfcjfhdnjaa

/- Expressions: Parse, and the document's. -/
-- fast
-- rows
namespace Go.Proofs.Ytmbijfcjfhdnjaa
set_option linter.unusedSimpArgs false
set_option linter.unusedVariables false
open Go.RowKit Go.Lib

def resI (r : List Trm × Int × Int) : AV := .tup [vTrs r.1, .int .i64 r.2.1, .int .i64 r.2.2]
theorem free_resI (r : List Trm × Int × Int) : free (resI r) = true := by simp [resI, vTrs, free, free.frees, frees_trs]
/-- WHAT A TEXT IS READ AS -/
def parseR (s : ByteArray) : List Trm × Int × Int :=
  if (allT s).2.2 ≠ 0 then ([], ((allT s).2.1 : Nat), (allT s).2.2)
  else if (readR wdB (allT s).1).2.2 = 0 then ((readR wdB (allT s).1).1, 0, 0)
  else match (allT s).1[(readR wdB (allT s).1).2.1]? with
    | some t => ([], t.at_, (readR wdB (allT s).1).2.2)
    | none => if (readR wdB (allT s).1).2.2 = 3 then ([], 0, 3) else ([], (s.size : Nat), (readR wdB (allT s).1).2.2)
theorem trsC_nil : trsC [] = [] := rfl
set_option maxRecDepth 100000 in
set_option maxHeartbeats 8000000 in
theorem p_parse (s : ByteArray) (hs : s.size ≤ 1000000) : PCalls Try.prog 16 [.str s] (resI (parseR s)) := by
  have q1 := p_pall s hs
  have a2 := allT_len s
  have a3 := allT_name (s := s) hs
  have q2 := p_read (allT s).1 (by omega) a3
  obtain ⟨R, hR⟩ : ∃ R, R = readR wdB (allT s).1 := ⟨_, rfl⟩
  obtain ⟨A, hA⟩ : ∃ A, A = allT s := ⟨_, rfl⟩
  unfold parseR
  rw [← hR] at q2 ⊢
  rw [← hA] at q1 a2 a3 q2 ⊢
  simp only [resV, vToks, resX, vTrs] at q1 q2
  refine pcalls_of rfl (free_resI _) (ACalls.deep (acalls_of mixed J_expr_Parse_ok (Nat.le_of_ble_eq_true rfl) ?_)); simp only [J_expr_Parse, wkr,wk,if_true,if_false,forall_const,implies_true,ne_eq,eq_self,Nat.reduceEqDiff,Nat.reduceAdd,Nat.reduceMul,Nat.reduceSub,Nat.reduceLeDiff,Nat.reduceLT,Int.reduceEq,Int.reduceLT,Int.reduceLE,Int.reduceAdd,Int.reduceSub,Int.reduceMul,Int.reduceNeg,Int.reduceNe,reduceCtorEq,Int.reduceToNat,↓reduceIte]
  refine PCalls.use (q1) ?_; simp only [wkr,wk,if_true,if_false,forall_const,implies_true,ne_eq,eq_self,Nat.reduceEqDiff,Nat.reduceAdd,Nat.reduceMul,Nat.reduceSub,Nat.reduceLeDiff,Nat.reduceLT,Int.reduceEq,Int.reduceLT,Int.reduceLE,Int.reduceAdd,Int.reduceSub,Int.reduceMul,Int.reduceNeg,Int.reduceNe,reduceCtorEq,Int.reduceToNat,↓reduceIte]
  refine ⟨fun h0 => ?_, fun h0 => ?_⟩
  · rw [if_pos h0]
    simp only [rdpw, resI, vTrs]
    rfl
  · rw [if_neg (fun h => h h0)]
    refine PCalls.use (q2) ?_; simp only [wkr,wk,if_true,if_false,forall_const,implies_true,ne_eq,eq_self,Nat.reduceEqDiff,Nat.reduceAdd,Nat.reduceMul,Nat.reduceSub,Nat.reduceLeDiff,Nat.reduceLT,Int.reduceEq,Int.reduceLT,Int.reduceLE,Int.reduceAdd,Int.reduceSub,Int.reduceMul,Int.reduceNeg,Int.reduceNe,reduceCtorEq,Int.reduceToNat,↓reduceIte]
    refine ⟨fun h1 => ?_, fun h1 => ?_⟩
    · rw [if_pos h1]
      simp only [rdpw, resI, vTrs, rdps_trs, h1]
    · rw [if_neg h1]
      rcases Nat.lt_or_ge R.2.1 A.1.length with hil | hil
      · have hd : (toksC A.1).drop (((R.2.1 : Nat) : Int).toNat * 4) = _ := toksC_drop hil
        rw [List.getElem?_eq_getElem hil]
        refine ⟨fun _ => ⟨⟨by omega, by omega⟩, ?_⟩, fun h => absurd (by omega) h⟩
        simp only [wkr,wk,if_true,if_false,forall_const,implies_true,ne_eq,eq_self,Nat.reduceEqDiff,Nat.reduceAdd,Nat.reduceMul,Nat.reduceSub,Nat.reduceLeDiff,Nat.reduceLT,Int.reduceEq,Int.reduceLT,Int.reduceLE,Int.reduceAdd,Int.reduceSub,Int.reduceMul,Int.reduceNeg,Int.reduceNe,reduceCtorEq,Int.reduceToNat,↓reduceIte, hd]
        simp only [rdpw, resI, vTrs]
        rfl
      · rw [List.getElem?_eq_none hil]
        refine ⟨fun h => absurd h (by omega), fun _ => ⟨fun h3 => ?_, fun h3 => ?_⟩⟩
        · simp only [if_pos h3, rdpw, resI, vTrs, h3]
          rfl
        · simp only [if_neg h3, rdpw, resI, vTrs]
          rfl
set_option maxRecDepth 100000 in
set_option maxHeartbeats 8000000 in
theorem p_rparse (s : ByteArray) (hs : s.size ≤ 1000000) : PCalls Try.prog 17 [.str s] (resI (parseR s)) := by
  have q1 := p_rall s hs
  have a2 := allT_len s
  have a3 := allT_name (s := s) hs
  have q2 := p_rread (allT s).1 (by omega) a3
  obtain ⟨R, hR⟩ : ∃ R, R = readR wdB (allT s).1 := ⟨_, rfl⟩
  obtain ⟨A, hA⟩ : ∃ A, A = allT s := ⟨_, rfl⟩
  unfold parseR
  rw [← hR] at q2 ⊢
  rw [← hA] at q1 a2 a3 q2 ⊢
  simp only [resV, vToks, resX, vTrs] at q1 q2
  refine pcalls_of rfl (free_resI _) (ACalls.deep (acalls_of mixed J_ref05_Parse_ok (Nat.le_of_ble_eq_true rfl) ?_)); simp only [J_ref05_Parse, wkr,wk,if_true,if_false,forall_const,implies_true,ne_eq,eq_self,Nat.reduceEqDiff,Nat.reduceAdd,Nat.reduceMul,Nat.reduceSub,Nat.reduceLeDiff,Nat.reduceLT,Int.reduceEq,Int.reduceLT,Int.reduceLE,Int.reduceAdd,Int.reduceSub,Int.reduceMul,Int.reduceNeg,Int.reduceNe,reduceCtorEq,Int.reduceToNat,↓reduceIte]
  refine PCalls.use (q1) ?_; simp only [wkr,wk,if_true,if_false,forall_const,implies_true,ne_eq,eq_self,Nat.reduceEqDiff,Nat.reduceAdd,Nat.reduceMul,Nat.reduceSub,Nat.reduceLeDiff,Nat.reduceLT,Int.reduceEq,Int.reduceLT,Int.reduceLE,Int.reduceAdd,Int.reduceSub,Int.reduceMul,Int.reduceNeg,Int.reduceNe,reduceCtorEq,Int.reduceToNat,↓reduceIte]
  refine ⟨fun h0 => ?_, fun h0 => ?_⟩
  · rw [if_pos h0]
    simp only [rdpw, resI, vTrs]
    rfl
  · rw [if_neg (fun h => h h0)]
    refine PCalls.use (q2) ?_; simp only [wkr,wk,if_true,if_false,forall_const,implies_true,ne_eq,eq_self,Nat.reduceEqDiff,Nat.reduceAdd,Nat.reduceMul,Nat.reduceSub,Nat.reduceLeDiff,Nat.reduceLT,Int.reduceEq,Int.reduceLT,Int.reduceLE,Int.reduceAdd,Int.reduceSub,Int.reduceMul,Int.reduceNeg,Int.reduceNe,reduceCtorEq,Int.reduceToNat,↓reduceIte]
    refine ⟨fun h1 => ?_, fun h1 => ?_⟩
    · rw [if_pos h1]
      simp only [rdpw, resI, vTrs, rdps_trs, h1]
    · rw [if_neg h1]
      rcases Nat.lt_or_ge R.2.1 A.1.length with hil | hil
      · have hd : (toksC A.1).drop (((R.2.1 : Nat) : Int).toNat * 4) = _ := toksC_drop hil
        rw [List.getElem?_eq_getElem hil]
        refine ⟨fun _ => ⟨⟨by omega, by omega⟩, ?_⟩, fun h => absurd (by omega) h⟩
        simp only [wkr,wk,if_true,if_false,forall_const,implies_true,ne_eq,eq_self,Nat.reduceEqDiff,Nat.reduceAdd,Nat.reduceMul,Nat.reduceSub,Nat.reduceLeDiff,Nat.reduceLT,Int.reduceEq,Int.reduceLT,Int.reduceLE,Int.reduceAdd,Int.reduceSub,Int.reduceMul,Int.reduceNeg,Int.reduceNe,reduceCtorEq,Int.reduceToNat,↓reduceIte, hd]
        simp only [rdpw, resI, vTrs]
        rfl
      · rw [List.getElem?_eq_none hil]
        refine ⟨fun h => absurd h (by omega), fun _ => ⟨fun h3 => ?_, fun h3 => ?_⟩⟩
        · simp only [if_pos h3, rdpw, resI, vTrs, h3]
          rfl
        · simp only [if_neg h3, rdpw, resI, vTrs]
          rfl
end Go.Proofs.Ytmbijfcjfhdnjaa

/- Expressions: the parts of terms. -/
-- fast
-- rows
namespace Go.Proofs.Ytmbijfcjfhdnjaa
set_option linter.unusedSimpArgs false
set_option linter.unusedVariables false
open Go.RowKit Go.Lib

/-- may a term be written? -/
def wrT (t : Trm) : Bool := !decide (wordT t.op t.name t.of = ⟨#[]⟩)
set_option maxRecDepth 100000 in
theorem p_written (t : Trm) (hn : t.name.size ≤ 1000000) : PCalls Try.prog 45 [.agg (trC t)] (.str (wordT t.op t.name t.of)) := by
  have q := p_word t.op t.name t.of 0 hn
  simp only [trC]
  refine pcalls_of (by first | rfl | simp [free, free.frees, frees_str, frees_u8, frees_u16]) (by first | rfl | simp [free, free.frees, frees_str, frees_u8, frees_u16]) (acalls_of mixed J_expr_written_ok (Nat.le_of_ble_eq_true rfl) ?_); simp only [J_expr_written, wkr,wk,if_true,if_false,forall_const,implies_true,ne_eq,eq_self,Nat.reduceEqDiff,Nat.reduceAdd,Nat.reduceMul,Nat.reduceSub,Nat.reduceLeDiff,Nat.reduceLT,Int.reduceEq,Int.reduceLT,Int.reduceLE,Int.reduceAdd,Int.reduceSub,Int.reduceMul,Int.reduceNeg,Int.reduceNe,reduceCtorEq,Int.reduceToNat,↓reduceIte]
  refine PCalls.use (q) ?_; simp only [wkr,wk,if_true,if_false,forall_const,implies_true,ne_eq,eq_self,Nat.reduceEqDiff,Nat.reduceAdd,Nat.reduceMul,Nat.reduceSub,Nat.reduceLeDiff,Nat.reduceLT,Int.reduceEq,Int.reduceLT,Int.reduceLE,Int.reduceAdd,Int.reduceSub,Int.reduceMul,Int.reduceNeg,Int.reduceNe,reduceCtorEq,Int.reduceToNat,↓reduceIte]
/-- parts as cells -/
def prC (l : List Prt) : List AV := l.flatMap fun p => [.int .i64 p.1, .int .i64 p.2.1, .int .i64 p.2.2]
theorem prC_len (l : List Prt) : (prC l).length = l.length * 3 := by
  induction l with
  | nil => rfl
  | cons x l ih => simp only [prC, List.flatMap_cons, List.length_append, List.length_cons, List.length_nil] at ih ⊢; omega
theorem prC_zero (n : Nat) : ((List.range (n * 3)).map fun i => ([.int .i64 0, .int .i64 0, .int .i64 0] : List AV).getD (i % 3) .nilp) = prC (List.replicate n (0, 0, 0)) := by
  have h1 : ((List.range (n * 3)).map fun i => ([.int .i64 0, .int .i64 0, .int .i64 0] : List AV).getD (i % 3) .nilp) = List.replicate (n * 3) (.int .i64 0) := by
    rw [List.eq_replicate_iff]
    refine ⟨by simp, fun b hb => ?_⟩
    obtain ⟨i, _, rfl⟩ := List.mem_map.1 hb
    rcases (show i % 3 = 0 ∨ i % 3 = 1 ∨ i % 3 = 2 by omega) with h | h | h <;> rw [h] <;> rfl
  rw [h1]
  induction n with
  | zero => rfl
  | succ n ih =>
    rw [List.replicate_succ, show (n + 1) * 3 = n * 3 + 1 + 1 + 1 by omega, List.replicate_succ, List.replicate_succ, List.replicate_succ, ih (by
      rw [List.eq_replicate_iff]
      refine ⟨by simp, fun b hb => ?_⟩
      obtain ⟨i, _, rfl⟩ := List.mem_map.1 hb
      rcases (show i % 3 = 0 ∨ i % 3 = 1 ∨ i % 3 = 2 by omega) with h | h | h <;> rw [h] <;> rfl)]
    rfl
theorem prC_drop : ∀ {l : List Prt} {i : Nat} (h : i < l.length), (prC l).drop (i * 3) = .int .i64 l[i].1 :: .int .i64 l[i].2.1 :: .int .i64 l[i].2.2 :: (prC l).drop ((i + 1) * 3)
  | [], _, h => by simp at h
  | w :: l, 0, h => by simp [prC]
  | w :: l, i + 1, h => by
    have := prC_drop (l := l) (i := i) (by simpa using h)
    simp only [prC, List.flatMap_cons, List.cons_append, List.nil_append] at this ⊢
    rw [show (i + 1) * 3 = i * 3 + 1 + 1 + 1 by omega, show (i + 1 + 1) * 3 = (i + 1) * 3 + 1 + 1 + 1 by omega]
    simp only [List.drop_succ_cons, List.getElem_cons_succ]
    exact this
theorem trsC_drop : ∀ {l : List Trm} {i : Nat} (h : i < l.length), (trsC l).drop (i * 3) = .int .i64 l[i].op :: .int .i64 l[i].of :: .str l[i].name :: (trsC l).drop ((i + 1) * 3)
  | [], _, h => by simp at h
  | w :: l, 0, h => by simp [trsC, trC]
  | w :: l, i + 1, h => by
    have := trsC_drop (l := l) (i := i) (by simpa using h)
    simp only [trsC, List.flatMap_cons, trC, List.cons_append, List.nil_append] at this ⊢
    rw [show (i + 1) * 3 = i * 3 + 1 + 1 + 1 by omega, show (i + 1 + 1) * 3 = (i + 1) * 3 + 1 + 1 + 1 by omega]
    simp only [List.drop_succ_cons, List.getElem_cons_succ]
    exact this
theorem prC_set : ∀ {l : List Prt} {i : Nat} (h : i < l.length) (a b c : Int), (((prC l).set (i * 3) (.int .i64 a)).set (i * 3 + 1) (.int .i64 b)).set (i * 3 + 1 + 1) (.int .i64 c) = prC (l.set i (a, b, c))
  | [], _, h, _, _, _ => by simp at h
  | w :: l, 0, h, a, b, c => by simp [prC]
  | w :: l, i + 1, h, a, b, c => by
    have := prC_set (l := l) (i := i) (by simpa using h) a b c
    simp only [prC, List.flatMap_cons, List.cons_append, List.nil_append, List.set_cons_succ] at this ⊢
    rw [show (i + 1) * 3 = i * 3 + 1 + 1 + 1 by omega]
    simp only [List.set_cons_succ]
    rw [this]
theorem prC_set1 : ∀ {l : List Prt} {i : Nat} (h : i < l.length) (c : Int), (prC l).set (i * 3 + 2) (.int .i64 c) = prC (l.set i (l[i].1, l[i].2.1, c))
  | [], _, h, _ => by simp at h
  | w :: l, 0, h, c => by simp [prC]
  | w :: l, i + 1, h, c => by
    have := prC_set1 (l := l) (i := i) (by simpa using h) c
    simp only [prC, List.flatMap_cons, List.cons_append, List.nil_append, List.set_cons_succ, List.getElem_cons_succ] at this ⊢
    rw [show (i + 1) * 3 = i * 3 + 2 + 1 by omega]
    simp only [List.set_cons_succ]
    rw [this]
/-- the expression that terms are; none: they are none -/
def treeT (x : List Trm) : Option Xp := if x.length ≤ 200 then treeX wrT x else none
def PostP (x : List Trm) (h : Hp) (a : AV) (h' : Hp) : Prop := match treeT x with
  | some e => ∃ l : List Prt, a = .tup [.hs h.length x.length, .bool true] ∧ h' = h ++ [some (false, prC l)] ∧ l.length = x.length ∧ Reps x l (x.length - 1) e
  | none => (a = .tup [.lst .clip 0 [], .bool false] ∧ h' = h) ∨ ∃ (n : Nat) (l : List Prt), a = .tup [.hs h.length n, .bool false] ∧ h' = h ++ [some (false, prC l)]
/-- numbers of terms that wait (the last one ahead) stand for expressions -/
def standX (x : List Trm) (l : List Prt) (k : Nat) : List Int → List Xp → Prop
  | [], [] => True
  | i :: s, e :: st => (∃ n : Nat, i = n ∧ n < k ∧ Reps x l n e) ∧ standX x l k s st
  | _, _ => False
theorem standX_len {x : List Trm} {l : List Prt} {k : Nat} : ∀ {s : List Int} {st : List Xp}, standX x l k s st → s.length = st.length
  | [], [], _ => rfl
  | _ :: _, [], h => h.elim
  | [], _ :: _, h => h.elim
  | i :: s, e :: st, h => by simp [standX_len h.2]
theorem standX_set {x : List Trm} {l : List Prt} {k : Nat} {p : Prt} : ∀ {s : List Int} {st : List Xp}, standX x l k s st → standX x (l.set k p) (k + 1) s st
  | [], [], _ => trivial
  | _ :: _, [], h => h.elim
  | [], _ :: _, h => h.elim
  | i :: s, e :: st, ⟨⟨n, h1, h2, h3⟩, h4⟩ => ⟨⟨n, h1, by omega, h3.set h2⟩, standX_set h4⟩
theorem runX_none {wr : Trm → Bool} : ∀ {l : List Trm} {st : List Xp} (r : List Trm), runX wr l st = none → runX wr (l ++ r) st = none
  | [], _, _, h => by simp [runX] at h
  | t :: l, st, r, h => by
    simp only [List.cons_append, runX] at h ⊢
    cases hs : stepX wr t st with
    | none => rfl
    | some s => rw [hs] at h; exact runX_none r h
theorem trimP0 {x : List Trm} {h ex : Hp} (hx : treeT x = none) : ∃ h2 ex', h ++ ex = h2 ++ ex' ∧ h.length ≤ h2.length ∧ low h2.length (.tup [.lst .clip 0 [], .bool false]) = true ∧ (∀ (j : Nat) s l, h2[j]? = some (some (s, l)) → (∃ s', h[j]? = some (some (s', l))) ∨ low.lows h2.length l = true) ∧ PostP x h (.tup [.lst .clip 0 [], .bool false]) h2 :=
  ⟨h, ex, rfl, Nat.le_refl _, rfl, fun _ s _ hl => .inl ⟨s, hl⟩, by unfold PostP; rw [hx]; exact .inl ⟨rfl, rfl⟩⟩
theorem frees_prs (l : List Prt) : free.frees (prC l) = true := by
  induction l with
  | nil => rfl
  | cons x l ih => simp only [prC, List.flatMap_cons, List.cons_append, List.nil_append, free.frees, free, Bool.true_and] at ih ⊢; exact ih
theorem trimP1 {x : List Trm} {h ex : Hp} {l : List Prt} {n : Nat} {b : Bool} (hp : PostP x h (.tup [.hs h.length n, .bool b]) (h ++ [some (false, prC l)])) : ∃ h2 ex', (h ++ [some (false, prC l)]) ++ ex = h2 ++ ex' ∧ h.length ≤ h2.length ∧ low h2.length (.tup [.hs h.length n, .bool b]) = true ∧ (∀ (j : Nat) s l, h2[j]? = some (some (s, l)) → (∃ s', h[j]? = some (some (s', l))) ∨ low.lows h2.length l = true) ∧ PostP x h (.tup [.hs h.length n, .bool b]) h2 := by
  refine ⟨_, ex, rfl, by simp, by simp [low, low.lows], fun j s l' hj => ?_, hp⟩
  rcases Nat.lt_or_ge j h.length with h1 | h1
  · rw [List.getElem?_append_left h1] at hj
    exact .inl ⟨s, hj⟩
  · rw [List.getElem?_append_right h1] at hj
    cases hd : j - h.length with
    | zero =>
      rw [hd] at hj
      simp only [List.getElem?_cons_zero, Option.some.injEq, Prod.mk.injEq] at hj
      obtain ⟨_, rfl⟩ := hj
      exact .inr (lows_free (frees_prs l))
    | succ n => rw [hd] at hj; simp at hj
theorem row_get {h ex : Hp} {y : Option (Bool × List AV)} : ((h ++ [y]) ++ ex)[h.length]? = some y := by simp
theorem row_set {h ex : Hp} {y z : Option (Bool × List AV)} : ((h ++ [y]) ++ ex).set h.length z = (h ++ [z]) ++ ex := by simp
theorem Reps.drop {x : List Trm} {l : List Prt} {n : Nat} {e : Xp} (h : Reps x l n e) : (prC l).drop (n * 3 + 2) = .int .i64 e.deep :: (prC l).drop ((n + 1) * 3) := by
  obtain ⟨p, h1, h2⟩ := h.deep
  obtain ⟨h3, h4⟩ := List.getElem?_eq_some_iff.1 h1
  rw [← List.drop_drop, prC_drop h3, h4, ← h2]; rfl
theorem Reps.role {x : List Trm} {l : List Prt} {n : Nat} {e : Xp} (h : Reps x l n e) (hn : n < x.length) (ho : e.okE wrT) : e.role = true ↔ x[n].op = 1 ∧ x[n].of = 5 := by
  cases h with
  | atm _ t p h1 h2 h3 =>
    obtain ⟨_, h4⟩ := List.getElem?_eq_some_iff.1 h1
    rw [h4]
    simp only [Xp.role, decide_eq_true_eq]
    exact ⟨fun h => ⟨ho.1, h⟩, fun h => h.2⟩
  | op _ j m k a b h1 h2 h3 h4 h5 h6 =>
    obtain ⟨_, h4⟩ := List.getElem?_eq_some_iff.1 h1
    rw [h4]
    simp only [Xp.role, sgn]
    refine ⟨fun h => (nomatch h), fun h => ?_⟩
    have := ho.1
    rw [h.1, bind1] at this; omega
set_option maxRecDepth 100000 in
set_option maxHeartbeats 8000000 in
theorem a_parts {h : Hp} (x : List Trm) (hl : x.length ≤ 9223372036854775807) (hn : ∀ t ∈ x, t.name.size ≤ 1000000) : ACalls Try.prog 42 [vTrs x] h (PostP x h) := by
  refine ACalls.trim (acalls_of mixed J_expr_parts_ok (Nat.le_of_ble_eq_true rfl) ?_); simp only [J_expr_parts, vTrs, wkr,wk,if_true,if_false,forall_const,implies_true,ne_eq,eq_self,Nat.reduceEqDiff,Nat.reduceAdd,Nat.reduceMul,Nat.reduceSub,Nat.reduceLeDiff,Nat.reduceLT,Int.reduceEq,Int.reduceLT,Int.reduceLE,Int.reduceAdd,Int.reduceSub,Int.reduceMul,Int.reduceNeg,Int.reduceNe,reduceCtorEq,Int.reduceToNat,↓reduceIte]
  refine ⟨fun h1 => ⟨fun h2 => ?_, fun h2 => ?_⟩, fun h1 => ?_⟩
  · have := trimP0 (x := x) (h := h) (ex := []) (by unfold treeT; rw [if_neg (by omega)])
    rw [List.append_nil] at this
    exact this
  · have hl2 : x.length ≤ 200 := by omega
    have hT : treeT x = treeX wrT x := by unfold treeT; rw [if_pos hl2]
    rw [Int.toNat_natCast, prC_zero]
    refine ⟨⟨by omega, by omega, by omega⟩, ?_⟩
    refine W_loop (fun m fr h'' => ∃ (k : Nat) (l : List Prt) (s : List Int) (st : List Xp) (ex : Hp), k ≤ x.length ∧ m = x.length - k ∧ l.length = x.length ∧ runX wrT (x.take k) [] = some st ∧ standX x l k s st ∧ (0 < k → ∃ r, s = ((k - 1 : Nat) : Int) :: r) ∧ s.length ≤ k ∧ h'' = (h ++ [some (false, prC l)]) ++ ex ∧ fr = [(0, .lst .ro x.length (trsC x)), (4, .hs h.length x.length), (5, .stk 3 none s.reverse), (22, .lst .ro x.length (trsC x)), (23, .int .i64 x.length), (24, .int .i64 k)]) x.length ⟨0, List.replicate x.length (0, 0, 0), [], [], [], by omega, by omega, by simp, rfl, trivial, fun h => by omega, by simp, by simp, rfl⟩ ?_
    rintro m fr h'' ⟨k, l, s, st, ex, hk, rfl, hll, hrun, hst, htop, hsk, rfl, rfl⟩
    have hslen := standX_len hst
    have hrl : s.reverse.length = s.length := List.length_reverse
    simp only [J_expr_parts_j3, wkr,wk,if_true,if_false,forall_const,implies_true,ne_eq,eq_self,Nat.reduceEqDiff,Nat.reduceAdd,Nat.reduceMul,Nat.reduceSub,Nat.reduceLeDiff,Nat.reduceLT,Int.reduceEq,Int.reduceLT,Int.reduceLE,Int.reduceAdd,Int.reduceSub,Int.reduceMul,Int.reduceNeg,Int.reduceNe,reduceCtorEq,Int.reduceToNat,↓reduceIte]
    refine ⟨fun hlt => ?_, fun hge => ?_⟩
    · have hkl : k < x.length := by omega
      have hd : (trsC x).drop ((k : Int).toNat * 3) = _ := trsC_drop hkl
      refine ⟨⟨by omega, by omega⟩, ?_⟩
      have hsnoc : runX wrT (x.take (k + 1)) [] = stepX wrT x[k] st := by
        rw [List.take_succ_eq_append_getElem hkl, runX_snoc, hrun]
      have hstop : stepX wrT x[k] st = none → treeT x = none := fun h0 => by
        rw [hT]; unfold treeX
        have : runX wrT x [] = none := by
          rw [← List.take_append_drop (k + 1) x]; exact runX_none _ (by rw [hsnoc, h0])
        rw [this]
      have hnm := hn _ (List.getElem_mem hkl)
      obtain ⟨bx, hbx⟩ : ∃ bx : Option (Bool × List AV), bx = some (true, [.int .i64 x[k].op, .int .i64 x[k].of, .str x[k].name]) := ⟨_, rfl⟩
      have hg : ∀ y : Option (Bool × List AV), ((h ++ [y]) ++ ex ++ [bx])[h.length]? = some y := fun y => by simp
      have hst1 : ∀ y z : Option (Bool × List AV), ((h ++ [y]) ++ ex ++ [bx]).set h.length z = (h ++ [z]) ++ ex ++ [bx] := fun y z => by simp
      have hgb : ∀ y : Option (Bool × List AV), ((h ++ [y]) ++ ex ++ [bx])[((h ++ [y]) ++ ex).length]? = some bx := fun y => by simp
      have stop : stepX wrT x[k] st = none → ∃ h2 ex', ((h ++ [some (false, prC l)]) ++ ex ++ [bx]) = h2 ++ ex' ∧ h.length ≤ h2.length ∧ low h2.length (.tup [.lst .clip 0 [], .bool false]) = true ∧ (∀ (j : Nat) s l, h2[j]? = some (some (s, l)) → (∃ s', h[j]? = some (some (s', l))) ∨ low.lows h2.length l = true) ∧ PostP x h (.tup [.lst .clip 0 [], .bool false]) h2 := fun h0 => by
        have := trimP0 (x := x) (h := h) (ex := [some (false, prC l)] ++ ex ++ [bx]) (hstop h0)
        simpa only [List.append_assoc] using this
      have nxt : ∀ (l' : List Prt) (r : List Int) (st' : List Xp), l'.length = x.length → stepX wrT x[k] st = some st' → standX x l' (k + 1) ((k : Int) :: r) st' → r.length ≤ k → inR ((k : Int) + 1) ∧ ∃ m, m < x.length - k ∧ ∃ (k' : Nat) (l2 : List Prt) (s : List Int) (st : List Xp) (ex' : Hp), k' ≤ x.length ∧ m = x.length - k' ∧ l2.length = x.length ∧ runX wrT (x.take k') [] = some st ∧ standX x l2 k' s st ∧ (0 < k' → ∃ r, s = ((k' - 1 : Nat) : Int) :: r) ∧ s.length ≤ k' ∧ ((h ++ [some (false, prC l')]) ++ ex ++ [bx]) = (h ++ [some (false, prC l2)]) ++ ex' ∧ [(0, AV.lst .ro x.length (trsC x)), (4, .hs h.length x.length), (5, .stk 3 none (r.reverse ++ [(k : Int)])), (22, .lst .ro x.length (trsC x)), (23, .int .i64 x.length), (24, .int .i64 ((k : Int) + 1))] = [(0, .lst .ro x.length (trsC x)), (4, .hs h.length x.length), (5, .stk 3 none s.reverse), (22, .lst .ro x.length (trsC x)), (23, .int .i64 x.length), (24, .int .i64 k')] := fun l' r st' q1 q2 q3 q4 =>
        ⟨inR_of (by omega) (by omega), x.length - (k + 1), by omega, k + 1, l', (k : Int) :: r, st', ex ++ [bx], by omega, rfl, q1, by rw [hsnoc, q2], q3, fun _ => ⟨r, rfl⟩, by simp; omega, by simp only [List.append_assoc], by rw [List.reverse_cons]; rfl⟩
      simp only [wkr,wk,if_true,if_false,forall_const,implies_true,ne_eq,eq_self,Nat.reduceEqDiff,Nat.reduceAdd,Nat.reduceMul,Nat.reduceSub,Nat.reduceLeDiff,Nat.reduceLT,Int.reduceEq,Int.reduceLT,Int.reduceLE,Int.reduceAdd,Int.reduceSub,Int.reduceMul,Int.reduceNeg,Int.reduceNe,reduceCtorEq,Int.reduceToNat,↓reduceIte, hd]
      rw [← hbx]
      by_cases k1 : x[k].op = 1
      · have qw := p_written x[k] hnm
        simp only [trC] at qw
        simp only [wkr,wk,if_true,if_false,forall_const,implies_true,ne_eq,eq_self,Nat.reduceEqDiff,Nat.reduceAdd,Nat.reduceMul,Nat.reduceSub,Nat.reduceLeDiff,Nat.reduceLT,Int.reduceEq,Int.reduceLT,Int.reduceLE,Int.reduceAdd,Int.reduceSub,Int.reduceMul,Int.reduceNeg,Int.reduceNe,reduceCtorEq,Int.reduceToNat,↓reduceIte, eqTrue k1]
        refine PCalls.use (qw) ?_; simp only [wkr,wk,if_true,if_false,forall_const,implies_true,ne_eq,eq_self,Nat.reduceEqDiff,Nat.reduceAdd,Nat.reduceMul,Nat.reduceSub,Nat.reduceLeDiff,Nat.reduceLT,Int.reduceEq,Int.reduceLT,Int.reduceLE,Int.reduceAdd,Int.reduceSub,Int.reduceMul,Int.reduceNeg,Int.reduceNe,reduceCtorEq,Int.reduceToNat,↓reduceIte]
        refine ⟨fun h0 => stop ?_, fun h0 => ?_⟩
        · unfold stepX; rw [if_pos k1, if_neg (by simp [wrT, h0])]
        · simp only [wkr,wk,if_true,if_false,forall_const,implies_true,ne_eq,eq_self,Nat.reduceEqDiff,Nat.reduceAdd,Nat.reduceMul,Nat.reduceSub,Nat.reduceLeDiff,Nat.reduceLT,Int.reduceEq,Int.reduceLT,Int.reduceLE,Int.reduceAdd,Int.reduceSub,Int.reduceMul,Int.reduceNeg,Int.reduceNe,reduceCtorEq,Int.reduceToNat,↓reduceIte, hg, hst1]
          have hx := nxt (l.set k (l[k].1, l[k].2.1, 1)) s (.atm x[k] :: st) (by simp [hll]) (by unfold stepX; rw [if_pos k1, if_pos (by simp [wrT, h0])]) ⟨⟨k, rfl, by omega, .atm k x[k] (l[k].1, l[k].2.1, 1) (List.getElem?_eq_getElem hkl) (List.getElem?_set_self (by omega)) rfl⟩, standX_set hst⟩ hsk
          rw [Int.toNat_natCast, prC_set1]
          refine ⟨⟨by omega, by omega⟩, by rw [prC_len]; omega, ⟨by omega, by omega⟩, ?_⟩
          simp only [J_expr_parts_j2, wkr,wk,if_true,if_false,forall_const,implies_true,ne_eq,eq_self,Nat.reduceEqDiff,Nat.reduceAdd,Nat.reduceMul,Nat.reduceSub,Nat.reduceLeDiff,Nat.reduceLT,Int.reduceEq,Int.reduceLT,Int.reduceLE,Int.reduceAdd,Int.reduceSub,Int.reduceMul,Int.reduceNeg,Int.reduceNe,reduceCtorEq,Int.reduceToNat,↓reduceIte]
          exact hx
      · have qb := p_bind x[k].op
        rw [bindP_ne k1] at qb
        simp only [wkr,wk,if_true,if_false,forall_const,implies_true,ne_eq,eq_self,Nat.reduceEqDiff,Nat.reduceAdd,Nat.reduceMul,Nat.reduceSub,Nat.reduceLeDiff,Nat.reduceLT,Int.reduceEq,Int.reduceLT,Int.reduceLE,Int.reduceAdd,Int.reduceSub,Int.reduceMul,Int.reduceNeg,Int.reduceNe,reduceCtorEq,Int.reduceToNat,↓reduceIte, eqFalse k1]
        intro v
        subst hbx
        have hpos : 0 < bindK x[k].op ↔ ¬ bindK x[k].op = 0 := by have := bind_ge x[k].op; omega
        have bad : ¬ (0 < bindK x[k].op ∧ x[k].of = 0 ∧ x[k].name = ⟨#[]⟩) → stepX wrT x[k] st = none := fun h0 => by
          unfold stepX; rw [if_neg k1, if_neg h0]
        by_cases kb : bindK x[k].op = 0
        · refine PCalls.use (qb) ?_; simp only [wkr,wk,if_true,if_false,forall_const,implies_true,ne_eq,eq_self,Nat.reduceEqDiff,Nat.reduceAdd,Nat.reduceMul,Nat.reduceSub,Nat.reduceLeDiff,Nat.reduceLT,Int.reduceEq,Int.reduceLT,Int.reduceLE,Int.reduceAdd,Int.reduceSub,Int.reduceMul,Int.reduceNeg,Int.reduceNe,reduceCtorEq,Int.reduceToNat,↓reduceIte]
          simp only [wkr,wk,if_true,if_false,forall_const,implies_true,ne_eq,eq_self,Nat.reduceEqDiff,Nat.reduceAdd,Nat.reduceMul,Nat.reduceSub,Nat.reduceLeDiff,Nat.reduceLT,Int.reduceEq,Int.reduceLT,Int.reduceLE,Int.reduceAdd,Int.reduceSub,Int.reduceMul,Int.reduceNeg,Int.reduceNe,reduceCtorEq,Int.reduceToNat,↓reduceIte, eqTrue kb]
          exact stop (bad (fun h => hpos.1 h.1 kb))
        · by_cases ko : x[k].of = 0
          · by_cases kn : x[k].name = ⟨#[]⟩
            · have good : 0 < bindK x[k].op ∧ x[k].of = 0 ∧ x[k].name = ⟨#[]⟩ := ⟨hpos.2 kb, ko, kn⟩
              cases st with
              | nil =>
                refine PCalls.use (qb) ?_; simp only [wkr,wk,if_true,if_false,forall_const,implies_true,ne_eq,eq_self,Nat.reduceEqDiff,Nat.reduceAdd,Nat.reduceMul,Nat.reduceSub,Nat.reduceLeDiff,Nat.reduceLT,Int.reduceEq,Int.reduceLT,Int.reduceLE,Int.reduceAdd,Int.reduceSub,Int.reduceMul,Int.reduceNeg,Int.reduceNe,reduceCtorEq,Int.reduceToNat,↓reduceIte]
                simp only [wkr,wk,if_true,if_false,forall_const,implies_true,ne_eq,eq_self,Nat.reduceEqDiff,Nat.reduceAdd,Nat.reduceMul,Nat.reduceSub,Nat.reduceLeDiff,Nat.reduceLT,Int.reduceEq,Int.reduceLT,Int.reduceLE,Int.reduceAdd,Int.reduceSub,Int.reduceMul,Int.reduceNeg,Int.reduceNe,reduceCtorEq,Int.reduceToNat,↓reduceIte, eqFalse kb, eqTrue ko, eqTrue kn, (show ((s.reverse.length : Int) < 2) = True from eqTrue (by have h := hslen; simp only [List.length_nil, List.length_cons] at h; omega))]
                exact stop (by unfold stepX; rw [if_neg k1, if_pos good])
              | cons e1 st =>
                cases st with
                | nil =>
                  refine PCalls.use (qb) ?_; simp only [wkr,wk,if_true,if_false,forall_const,implies_true,ne_eq,eq_self,Nat.reduceEqDiff,Nat.reduceAdd,Nat.reduceMul,Nat.reduceSub,Nat.reduceLeDiff,Nat.reduceLT,Int.reduceEq,Int.reduceLT,Int.reduceLE,Int.reduceAdd,Int.reduceSub,Int.reduceMul,Int.reduceNeg,Int.reduceNe,reduceCtorEq,Int.reduceToNat,↓reduceIte]
                  simp only [wkr,wk,if_true,if_false,forall_const,implies_true,ne_eq,eq_self,Nat.reduceEqDiff,Nat.reduceAdd,Nat.reduceMul,Nat.reduceSub,Nat.reduceLeDiff,Nat.reduceLT,Int.reduceEq,Int.reduceLT,Int.reduceLE,Int.reduceAdd,Int.reduceSub,Int.reduceMul,Int.reduceNeg,Int.reduceNe,reduceCtorEq,Int.reduceToNat,↓reduceIte, eqFalse kb, eqTrue ko, eqTrue kn, (show ((s.reverse.length : Int) < 2) = True from eqTrue (by have h := hslen; simp only [List.length_nil, List.length_cons] at h; omega))]
                  exact stop (by unfold stepX; rw [if_neg k1, if_pos good])
                | cons e2 st =>
                  cases s with
                  | nil => exact hst.elim
                  | cons i1 s =>
                    cases s with
                    | nil => exact hst.2.elim
                    | cons i2 s =>
                      obtain ⟨⟨n1, rfl, hn1, r1⟩, ⟨n2, rfl, hn2, r2⟩, hst3⟩ := hst
                      have hlen2 : ((n1 : Int) :: (n2 : Int) :: s).reverse.length = s.length + 2 := by simp
                      have hf2 : (((s.length + 2 : Nat) : Int) < 2) = False := eqFalse (by omega)
                      have q1 : ((n1 : Int) :: (n2 : Int) :: s).reverse.getD (s.length + 1) 0 = n1 := by simp
                      have q2 : ((n1 : Int) :: (n2 : Int) :: s).reverse.getD s.length 0 = n2 := by simp
                      have q3 : ((n1 : Int) :: (n2 : Int) :: s).reverse.take s.length = s.reverse := by simp
                      refine PCalls.use (qb) ?_; simp only [wkr,wk,if_true,if_false,forall_const,implies_true,ne_eq,eq_self,Nat.reduceEqDiff,Nat.reduceAdd,Nat.reduceMul,Nat.reduceSub,Nat.reduceLeDiff,Nat.reduceLT,Int.reduceEq,Int.reduceLT,Int.reduceLE,Int.reduceAdd,Int.reduceSub,Int.reduceMul,Int.reduceNeg,Int.reduceNe,reduceCtorEq,Int.reduceToNat,↓reduceIte]
                      have h21 : ((s.length + 2 : Nat) : Int) - 2 = (s.length : Nat) := by omega
                      have h22 : ((s.length + 2 : Nat) : Int) - 1 = ((s.length + 1 : Nat) : Int) := by omega
                      simp only [wkr,wk,if_true,if_false,forall_const,implies_true,ne_eq,eq_self,Nat.reduceEqDiff,Nat.reduceAdd,Nat.reduceMul,Nat.reduceSub,Nat.reduceLeDiff,Nat.reduceLT,Int.reduceEq,Int.reduceLT,Int.reduceLE,Int.reduceAdd,Int.reduceSub,Int.reduceMul,Int.reduceNeg,Int.reduceNe,reduceCtorEq,Int.reduceToNat,↓reduceIte, eqFalse kb, eqTrue ko, eqTrue kn, hf2, hlen2, h21, h22, Int.toNat_natCast, q1, q2, q3]
                      simp only [List.length_cons] at hsk hslen
                      refine ⟨inR_of (by omega) (by omega), ⟨by omega, by omega⟩, by omega, inR_of (by omega) (by omega), ⟨by omega, by omega⟩, by omega, ?_⟩
                      have hok := (runX_ok _ _ _ hrun (by simp)).1
                      have ok1 : e1.okE wrT := hok _ (by simp)
                      have ok2 : e2.okE wrT := hok _ (by simp)
                      have hn1x : n1 < x.length := by omega
                      have hd1 : (trsC x).drop (n1 * 3) = _ := trsC_drop hn1x
                      have hp1 := r1.drop
                      have hp2 := r2.drop
                      have hro := r1.role hn1x ok1
                      have hstp := (runX_ok _ _ _ hrun (by simp)).2
                      have hpl : e1.post.length + e2.post.length ≤ k := by
                        have := congrArg List.length hstp
                        rw [stp_cons, stp_cons] at this
                        simp only [List.length_append, List.length_take] at this
                        have h0 : (stp ([] : List Xp)).length = 0 := rfl
                        omega
                      have hde1 := deep_le e1
                      have hde2 := deep_le e2
                      have hdp1 := deep_pos e1
                      have hdp2 := deep_pos e2
                      have hD : (1 + if e2.deep < e1.deep then e1.deep else e2.deep) = (Xp.op x[k].op e2 e1).deep := by simp only [Xp.deep]; omega
                      have nor : ¬ e1.role = true → x[k].op = 5 → stepX wrT x[k] (e1 :: e2 :: st) = none := fun h k5 => by
                        unfold stepX; rw [if_neg k1, if_pos good]; simp only; rw [if_pos ⟨k5, by simpa using h⟩]
                      have fin : ¬ (x[k].op = 5 ∧ e1.role = false) → _ := fun hro2 => nxt (l.set k ((n2 : Int), (n1 : Int), (Xp.op x[k].op e2 e1).deep)) s (.op x[k].op e2 e1 :: st) (by simp [hll]) (by unfold stepX; rw [if_neg k1, if_pos good]; simp only; rw [if_neg hro2]) ⟨⟨k, rfl, by omega, .op k n2 n1 x[k].op e2 e1 (by rw [List.getElem?_eq_getElem hkl, sgn_eta ko kn]) (List.getElem?_set_self (by omega)) hn2 hn1 (r2.set hn2) (r1.set hn1)⟩, standX_set hst3⟩ (by omega)
                      by_cases k5 : x[k].op = 5
                      · by_cases m1 : x[n1].op = 1
                        · by_cases m5 : x[n1].of = 5
                          · have hx := fin (fun h => by rw [hro.2 ⟨m1, m5⟩] at h; cases h.2)
                            simp only [wkr,wk,if_true,if_false,forall_const,implies_true,ne_eq,eq_self,Nat.reduceEqDiff,Nat.reduceAdd,Nat.reduceMul,Nat.reduceSub,Nat.reduceLeDiff,Nat.reduceLT,Int.reduceEq,Int.reduceLT,Int.reduceLE,Int.reduceAdd,Int.reduceSub,Int.reduceMul,Int.reduceNeg,Int.reduceNe,reduceCtorEq,Int.reduceToNat,↓reduceIte, eqTrue k5, Int.toNat_natCast, hd1, eqTrue m1, eqTrue m5, hp1, hp2, hg]
                            refine ⟨⟨by omega, by omega⟩, ⟨by omega, by omega⟩, ⟨by omega, by omega⟩, ?_⟩
                            simp only [wkr,wk,if_true,if_false,forall_const,implies_true,ne_eq,eq_self,Nat.reduceEqDiff,Nat.reduceAdd,Nat.reduceMul,Nat.reduceSub,Nat.reduceLeDiff,Nat.reduceLT,Int.reduceEq,Int.reduceLT,Int.reduceLE,Int.reduceAdd,Int.reduceSub,Int.reduceMul,Int.reduceNeg,Int.reduceNe,reduceCtorEq,Int.reduceToNat,↓reduceIte, h21, Int.toNat_natCast, q3]
                            rw [hst1, prC_set (by omega), hD]
                            have q4 : s.reverse.length = s.length := List.length_reverse
                            refine ⟨⟨by omega, by omega⟩, by rw [← hD]; split <;> exact inR_of (by omega) (by omega), ⟨by omega, by omega⟩, by rw [prC_len]; omega, inR_of (by omega) (by omega), ⟨by omega, by omega⟩, ⟨by omega, by omega⟩, ?_⟩
                            simp only [J_expr_parts_j2, wkr,wk,if_true,if_false,forall_const,implies_true,ne_eq,eq_self,Nat.reduceEqDiff,Nat.reduceAdd,Nat.reduceMul,Nat.reduceSub,Nat.reduceLeDiff,Nat.reduceLT,Int.reduceEq,Int.reduceLT,Int.reduceLE,Int.reduceAdd,Int.reduceSub,Int.reduceMul,Int.reduceNeg,Int.reduceNe,reduceCtorEq,Int.reduceToNat,↓reduceIte]
                            exact hx
                          · simp only [wkr,wk,if_true,if_false,forall_const,implies_true,ne_eq,eq_self,Nat.reduceEqDiff,Nat.reduceAdd,Nat.reduceMul,Nat.reduceSub,Nat.reduceLeDiff,Nat.reduceLT,Int.reduceEq,Int.reduceLT,Int.reduceLE,Int.reduceAdd,Int.reduceSub,Int.reduceMul,Int.reduceNeg,Int.reduceNe,reduceCtorEq,Int.reduceToNat,↓reduceIte, eqTrue k5, Int.toNat_natCast, hd1, eqTrue m1, eqFalse m5]
                            refine ⟨⟨by omega, by omega⟩, ⟨by omega, by omega⟩, stop (nor (fun h => m5 (hro.1 h).2) k5)⟩
                        · simp only [wkr,wk,if_true,if_false,forall_const,implies_true,ne_eq,eq_self,Nat.reduceEqDiff,Nat.reduceAdd,Nat.reduceMul,Nat.reduceSub,Nat.reduceLeDiff,Nat.reduceLT,Int.reduceEq,Int.reduceLT,Int.reduceLE,Int.reduceAdd,Int.reduceSub,Int.reduceMul,Int.reduceNeg,Int.reduceNe,reduceCtorEq,Int.reduceToNat,↓reduceIte, eqTrue k5, Int.toNat_natCast, hd1, eqFalse m1]
                          refine ⟨⟨by omega, by omega⟩, stop (nor (fun h => m1 (hro.1 h).1) k5)⟩
                      · have hx := fin (fun h => k5 h.1)
                        simp only [wkr,wk,if_true,if_false,forall_const,implies_true,ne_eq,eq_self,Nat.reduceEqDiff,Nat.reduceAdd,Nat.reduceMul,Nat.reduceSub,Nat.reduceLeDiff,Nat.reduceLT,Int.reduceEq,Int.reduceLT,Int.reduceLE,Int.reduceAdd,Int.reduceSub,Int.reduceMul,Int.reduceNeg,Int.reduceNe,reduceCtorEq,Int.reduceToNat,↓reduceIte, eqFalse k5, Int.toNat_natCast, hp1, hp2, hg]
                        refine ⟨⟨by omega, by omega⟩, ?_⟩
                        simp only [wkr,wk,if_true,if_false,forall_const,implies_true,ne_eq,eq_self,Nat.reduceEqDiff,Nat.reduceAdd,Nat.reduceMul,Nat.reduceSub,Nat.reduceLeDiff,Nat.reduceLT,Int.reduceEq,Int.reduceLT,Int.reduceLE,Int.reduceAdd,Int.reduceSub,Int.reduceMul,Int.reduceNeg,Int.reduceNe,reduceCtorEq,Int.reduceToNat,↓reduceIte, h21, Int.toNat_natCast, q3]
                        rw [hst1, prC_set (by omega), hD]
                        have q4 : s.reverse.length = s.length := List.length_reverse
                        refine ⟨⟨by omega, by omega⟩, by rw [← hD]; split <;> exact inR_of (by omega) (by omega), ⟨by omega, by omega⟩, by rw [prC_len]; omega, inR_of (by omega) (by omega), ⟨by omega, by omega⟩, ⟨by omega, by omega⟩, ?_⟩
                        simp only [J_expr_parts_j2, wkr,wk,if_true,if_false,forall_const,implies_true,ne_eq,eq_self,Nat.reduceEqDiff,Nat.reduceAdd,Nat.reduceMul,Nat.reduceSub,Nat.reduceLeDiff,Nat.reduceLT,Int.reduceEq,Int.reduceLT,Int.reduceLE,Int.reduceAdd,Int.reduceSub,Int.reduceMul,Int.reduceNeg,Int.reduceNe,reduceCtorEq,Int.reduceToNat,↓reduceIte]
                        exact hx
            · refine PCalls.use (qb) ?_; simp only [wkr,wk,if_true,if_false,forall_const,implies_true,ne_eq,eq_self,Nat.reduceEqDiff,Nat.reduceAdd,Nat.reduceMul,Nat.reduceSub,Nat.reduceLeDiff,Nat.reduceLT,Int.reduceEq,Int.reduceLT,Int.reduceLE,Int.reduceAdd,Int.reduceSub,Int.reduceMul,Int.reduceNeg,Int.reduceNe,reduceCtorEq,Int.reduceToNat,↓reduceIte]
              simp only [wkr,wk,if_true,if_false,forall_const,implies_true,ne_eq,eq_self,Nat.reduceEqDiff,Nat.reduceAdd,Nat.reduceMul,Nat.reduceSub,Nat.reduceLeDiff,Nat.reduceLT,Int.reduceEq,Int.reduceLT,Int.reduceLE,Int.reduceAdd,Int.reduceSub,Int.reduceMul,Int.reduceNeg,Int.reduceNe,reduceCtorEq,Int.reduceToNat,↓reduceIte, eqFalse kb, eqTrue ko, eqFalse kn]
              exact stop (bad (fun h => kn h.2.2))
          · refine PCalls.use (qb) ?_; simp only [wkr,wk,if_true,if_false,forall_const,implies_true,ne_eq,eq_self,Nat.reduceEqDiff,Nat.reduceAdd,Nat.reduceMul,Nat.reduceSub,Nat.reduceLeDiff,Nat.reduceLT,Int.reduceEq,Int.reduceLT,Int.reduceLE,Int.reduceAdd,Int.reduceSub,Int.reduceMul,Int.reduceNeg,Int.reduceNe,reduceCtorEq,Int.reduceToNat,↓reduceIte]
            simp only [wkr,wk,if_true,if_false,forall_const,implies_true,ne_eq,eq_self,Nat.reduceEqDiff,Nat.reduceAdd,Nat.reduceMul,Nat.reduceSub,Nat.reduceLeDiff,Nat.reduceLT,Int.reduceEq,Int.reduceLT,Int.reduceLE,Int.reduceAdd,Int.reduceSub,Int.reduceMul,Int.reduceNeg,Int.reduceNe,reduceCtorEq,Int.reduceToNat,↓reduceIte, eqFalse kb, eqFalse ko]
            exact stop (bad (fun h => ko h.2.1))
    · obtain rfl : k = x.length := by omega
      rw [List.take_length] at hrun
      have none1 : st.length ≠ 1 → treeT x = none := fun hne => by
        rw [hT]; unfold treeX
        rw [hrun]
        cases st with
        | nil => rfl
        | cons e st => cases st with
          | nil => exact absurd rfl hne
          | cons e2 st => rfl
      simp only [J_expr_parts_j1, wkr,wk,if_true,if_false,forall_const,implies_true,ne_eq,eq_self,Nat.reduceEqDiff,Nat.reduceAdd,Nat.reduceMul,Nat.reduceSub,Nat.reduceLeDiff,Nat.reduceLT,Int.reduceEq,Int.reduceLT,Int.reduceLE,Int.reduceAdd,Int.reduceSub,Int.reduceMul,Int.reduceNeg,Int.reduceNe,reduceCtorEq,Int.reduceToNat,↓reduceIte]
      refine trimP1 ?_
      unfold PostP
      by_cases hone : st.length = 1
      · obtain ⟨e, rfl⟩ := List.length_eq_one_iff.1 hone
        obtain ⟨r, hr⟩ := htop (by omega)
        subst hr
        have hr0 : r = [] := List.eq_nil_of_length_eq_zero (by simp only [List.length_cons, List.length_nil] at hslen; omega)
        subst hr0
        obtain ⟨⟨n, hn1, hn2, hr⟩, _⟩ := hst
        have hnn : n = x.length - 1 := by omega
        subst hnn
        have hte : treeT x = some e := by rw [hT]; unfold treeX; rw [hrun]
        rw [hte]
        exact ⟨l, rfl, rfl, hll, hr⟩
      · rw [none1 hone]
        refine .inr ⟨x.length, l, ?_, rfl⟩
        rw [decide_eq_false (by omega)]
  · have := trimP0 (x := x) (h := h) (ex := []) (by
      have : x = [] := List.eq_nil_of_length_eq_zero (by omega)
      subst this; rfl)
    rw [List.append_nil] at this
    exact this
end Go.Proofs.Ytmbijfcjfhdnjaa

/- Expressions: Text's closure; Text, May, Deep. -/
-- fast
-- rows
namespace Go.Proofs.Ytmbijfcjfhdnjaa
set_option linter.unusedSimpArgs false
set_option linter.unusedVariables false
open Go.RowKit Go.Lib

theorem sealE {h : Hp} {id : Nat} {l l' : List AV} (ho : h[id]? = some (some (false, l))) : SealEq h (h.set id (some (false, l'))) := by
  intro j c
  rw [List.getElem?_set]
  split
  · next e =>
    subst e
    rw [ho]
    split <;> simp
  · rfl
/-- words that were written -/
abbrev wob (ws : List ByteArray) : Option (Bool × List AV) := some (false, [.lst (.own 9) ws.length (ws.map .str)])
theorem wob_sn (ws : List ByteArray) (w : ByteArray) : (some (false, [.lst (.own 9) (ws.length + 1) (ws.map AV.str ++ [.str w])]) : Option (Bool × List AV)) = wob (ws ++ [w]) := by simp [wob]
/-- what Text's closure sees: the terms, the words, itself, the parts -/
structure Clos (x : List Trm) (l : List Prt) (h : Hp) (ix io iw il id : Nat) : Prop where
  hx : h[ix]? = some (some (false, [.lst .ro x.length (trsC x)]))
  hw : h[iw]? = some (some (false, [.fn 43 [.ptr ix 0, .ptr io 0, .ptr iw 0, .ptr il 0]]))
  hl : h[il]? = some (some (false, [.hs id x.length]))
  hd : h[id]? = some (some (false, prC l))
  nx : io ≠ ix
  nw : io ≠ iw
  nl : io ≠ il
  nd : io ≠ id
theorem Clos.set {x : List Trm} {l : List Prt} {h : Hp} {ix io iw il id : Nat} (hc : Clos x l h ix io iw il id) (y : Option (Bool × List AV)) : Clos x l (h.set io y) ix io iw il id :=
  ⟨by rw [List.getElem?_set_ne hc.nx]; exact hc.hx, by rw [List.getElem?_set_ne hc.nw]; exact hc.hw, by rw [List.getElem?_set_ne hc.nl]; exact hc.hl, by rw [List.getElem?_set_ne hc.nd]; exact hc.hd, hc.nx, hc.nw, hc.nl, hc.nd⟩
set_option maxRecDepth 100000 in
set_option maxHeartbeats 8000000 in
theorem a_write {x : List Trm} {l : List Prt} {ix io iw il id : Nat} (hxl : x.length ≤ 200) (hll : l.length = x.length) (hn : ∀ t ∈ x, t.name.size ≤ 1000000) : ∀ (e : Xp) (i : Nat) (m : Int) (h : Hp) (ws : List ByteArray), Reps x l i e → e.okE wrT → m ≤ 5 → ws.length + (e.toks m).length ≤ 100000 → Clos x l h ix io iw il id → h[io]? = some (wob ws) →
    ACalls Try.prog 43 [.int .i64 i, .int .i64 m, .ptr ix 0, .ptr io 0, .ptr iw 0, .ptr il 0] h (fun a h' => a = .tup [] ∧ h' = h.set io (wob (ws ++ (e.toks m).map wrd)))
  | .atm t, i, m, h, ws, hr, hok, hm, hsz, hc, ho => by
    obtain ⟨hx, hw, hl, hd, nx, nw, nl, nd⟩ := hc
    cases hr with
    | atm _ _ p h1 h2 h3 =>
    obtain ⟨hi, h4⟩ := List.getElem?_eq_some_iff.1 h1
    have hdx : (trsC x).drop ((i : Int).toNat * 3) = _ := trsC_drop hi
    rw [h4] at hdx
    have hop : t.op = 1 := hok.1
    have hbp : bindP t.op = 5 := by rw [hop]; rfl
    have qb := p_bind t.op
    rw [hbp] at qb
    have qw := p_written t (by rw [← h4]; exact hn _ (List.getElem_mem hi))
    simp only [trC] at qw
    simp only [wob] at ho
    have n1 : (io = ix) = False := eqFalse nx
    have n2 : (ix = io) = False := eqFalse (fun h => nx h.symm)
    have hs : ∀ y, (h.set io y)[io]? = some y := fun y => hset1 ho y
    have hsx : ∀ y, (h.set io y)[ix]? = _ := fun y => (List.getElem?_set_ne nx).trans hx
    refine acalls_of mixed J_expr_Text_1_ok (Nat.le_of_ble_eq_true rfl) ?_; simp only [J_expr_Text_1, wkr,wk,if_true,if_false,forall_const,implies_true,ne_eq,eq_self,Nat.reduceEqDiff,Nat.reduceAdd,Nat.reduceMul,Nat.reduceSub,Nat.reduceLeDiff,Nat.reduceLT,Int.reduceEq,Int.reduceLT,Int.reduceLE,Int.reduceAdd,Int.reduceSub,Int.reduceMul,Int.reduceNeg,Int.reduceNe,reduceCtorEq,Int.reduceToNat,↓reduceIte]
    simp only [wkr,wk,if_true,if_false,forall_const,implies_true,ne_eq,eq_self,Nat.reduceEqDiff,Nat.reduceAdd,Nat.reduceMul,Nat.reduceSub,Nat.reduceLeDiff,Nat.reduceLT,Int.reduceEq,Int.reduceLT,Int.reduceLE,Int.reduceAdd,Int.reduceSub,Int.reduceMul,Int.reduceNeg,Int.reduceNe,reduceCtorEq,Int.reduceToNat,↓reduceIte, hx, hdx]
    refine ⟨⟨by omega, by omega⟩, ?_⟩
    refine PCalls.use (qb) ?_; simp only [wkr,wk,if_true,if_false,forall_const,implies_true,ne_eq,eq_self,Nat.reduceEqDiff,Nat.reduceAdd,Nat.reduceMul,Nat.reduceSub,Nat.reduceLeDiff,Nat.reduceLT,Int.reduceEq,Int.reduceLT,Int.reduceLE,Int.reduceAdd,Int.reduceSub,Int.reduceMul,Int.reduceNeg,Int.reduceNe,reduceCtorEq,Int.reduceToNat,↓reduceIte]
    simp only [wkr,wk,if_true,if_false,forall_const,implies_true,ne_eq,eq_self,Nat.reduceEqDiff,Nat.reduceAdd,Nat.reduceMul,Nat.reduceSub,Nat.reduceLeDiff,Nat.reduceLT,Int.reduceEq,Int.reduceLT,Int.reduceLE,Int.reduceAdd,Int.reduceSub,Int.reduceMul,Int.reduceNeg,Int.reduceNe,reduceCtorEq,Int.reduceToNat,↓reduceIte, J_expr_Text_1_j2, J_expr_Text_1_j1, hx, hdx, ho, hs, hsx, n1, n2, (show ((5 : Int) < m) = False from eqFalse (by omega)), (show (t.op = 1) = True from eqTrue hop)]
    refine ⟨⟨by omega, by omega⟩, ⟨by omega, by omega⟩, _, qw, ?_⟩
    have hz : ws.length + 1 ≤ 100000 := hsz
    simp only [wkr,wk,if_true,if_false,forall_const,implies_true,ne_eq,eq_self,Nat.reduceEqDiff,Nat.reduceAdd,Nat.reduceMul,Nat.reduceSub,Nat.reduceLeDiff,Nat.reduceLT,Int.reduceEq,Int.reduceLT,Int.reduceLE,Int.reduceAdd,Int.reduceSub,Int.reduceMul,Int.reduceNeg,Int.reduceNe,reduceCtorEq,Int.reduceToNat,↓reduceIte, splice]
    refine ⟨⟨by omega, by omega⟩, ?_⟩
    rw [wob_sn]
    show h.set io (wob (ws ++ [wordT t.op t.name t.of])) = h.set io (wob (ws ++ [wordT 1 t.name t.of]))
    rw [hop]
  | .op k a b, i, m, h, ws, hr, hok, hm, hsz, hc, ho => by
    have hc0 := hc
    obtain ⟨hx, hw, hl, hd, nx, nw, nl, nd⟩ := hc
    cases hr with
    | op _ j q _ _ _ h1 h2 h3 h4 h5 h6 =>
    obtain ⟨hk, hk5, hoa, hob⟩ := hok
    obtain ⟨hi, h7⟩ := List.getElem?_eq_some_iff.1 h1
    obtain ⟨hil, h8⟩ := List.getElem?_eq_some_iff.1 h2
    have hdx : (trsC x).drop (i * 3) = _ := trsC_drop hi
    rw [h7] at hdx
    have hk4 := bind_le k
    have hk1 := (bind_ne hk).1
    have qb := p_bind k
    rw [bindP_ne hk1] at qb
    have qw := p_written (sgn k) (by show (⟨#[]⟩ : ByteArray).size ≤ _; decide)
    simp only [trC, sgn] at qw hdx
    have hdl : (prC l).drop (i * 3) = _ := prC_drop hil
    rw [h8] at hdl
    have hdl1 : (prC l).drop (i * 3 + 1) = .int .i64 (q : Int) :: .int .i64 (Xp.op k a b).deep :: (prC l).drop ((i + 1) * 3) := by rw [← List.drop_drop, hdl]; rfl
    have n1 : (io = ix) = False := eqFalse nx
    have n2 : (ix = io) = False := eqFalse (fun h => nx h.symm)
    have fx : ∀ y, (h.set io y)[ix]? = _ := fun y => (List.getElem?_set_ne nx).trans hx
    have fw : ∀ y, (h.set io y)[iw]? = _ := fun y => (List.getElem?_set_ne nw).trans hw
    have fl : ∀ y, (h.set io y)[il]? = _ := fun y => (List.getElem?_set_ne nl).trans hl
    have fd : ∀ y, (h.set io y)[id]? = _ := fun y => (List.getElem?_set_ne nd).trans hd
    have fo : ∀ y, (h.set io y)[io]? = some y := fun y => hset1 ho y
    have iha := fun ws' hz => a_write hxl hll hn a j (bindK k) (h.set io (wob ws')) ws' h5 hoa (by omega) hz (hc0.set _) (fo _)
    have ihb := fun ws' hz => a_write hxl hll hn b q (bindK k + 1) (h.set io (wob ws')) ws' h6 hob (by omega) hz (hc0.set _) (fo _)
    simp only [wob] at ho
    have hop1 : (k = 1) = False := eqFalse hk1
    refine acalls_of mixed J_expr_Text_1_ok (Nat.le_of_ble_eq_true rfl) ?_; simp only [J_expr_Text_1, wkr,wk,if_true,if_false,forall_const,implies_true,ne_eq,eq_self,Nat.reduceEqDiff,Nat.reduceAdd,Nat.reduceMul,Nat.reduceSub,Nat.reduceLeDiff,Nat.reduceLT,Int.reduceEq,Int.reduceLT,Int.reduceLE,Int.reduceAdd,Int.reduceSub,Int.reduceMul,Int.reduceNeg,Int.reduceNe,reduceCtorEq,Int.reduceToNat,↓reduceIte]
    simp only [wkr,wk,if_true,if_false,forall_const,implies_true,ne_eq,eq_self,Nat.reduceEqDiff,Nat.reduceAdd,Nat.reduceMul,Nat.reduceSub,Nat.reduceLeDiff,Nat.reduceLT,Int.reduceEq,Int.reduceLT,Int.reduceLE,Int.reduceAdd,Int.reduceSub,Int.reduceMul,Int.reduceNeg,Int.reduceNe,reduceCtorEq,Int.reduceToNat,↓reduceIte, hx, hdx, Int.toNat_natCast]
    refine ⟨⟨by omega, by omega⟩, ?_⟩
    refine PCalls.use (qb) ?_; simp only [wkr,wk,if_true,if_false,forall_const,implies_true,ne_eq,eq_self,Nat.reduceEqDiff,Nat.reduceAdd,Nat.reduceMul,Nat.reduceSub,Nat.reduceLeDiff,Nat.reduceLT,Int.reduceEq,Int.reduceLT,Int.reduceLE,Int.reduceAdd,Int.reduceSub,Int.reduceMul,Int.reduceNeg,Int.reduceNe,reduceCtorEq,Int.reduceToNat,↓reduceIte]
    by_cases hb : bindK k < m
    · have hz : ws.length + ((a.toks (bindK k)).length + (b.toks (bindK k + 1)).length) + 3 ≤ 100000 := by
        simp only [Xp.toks] at hsz
        rw [if_pos hb] at hsz
        simp only [List.length_append, List.length_cons, List.length_nil] at hsz; omega
      simp only [wkr,wk,if_true,if_false,forall_const,implies_true,ne_eq,eq_self,Nat.reduceEqDiff,Nat.reduceAdd,Nat.reduceMul,Nat.reduceSub,Nat.reduceLeDiff,Nat.reduceLT,Int.reduceEq,Int.reduceLT,Int.reduceLE,Int.reduceAdd,Int.reduceSub,Int.reduceMul,Int.reduceNeg,Int.reduceNe,reduceCtorEq,Int.reduceToNat,↓reduceIte, J_expr_Text_1_j2, hx, hdx, hw, hl, hd, ho, fx, fw, fl, fd, fo, n1, n2, eqTrue hb, hop1, hdl, Int.toNat_natCast]
      refine ⟨⟨by omega, by omega⟩, ⟨by omega, by omega⟩, ⟨by omega, by omega⟩, ?_⟩
      rw [wob_sn]
      refine ⟨_, _, iha _ (by simp; omega), sealE (fo _), ?_⟩
      simp only [wkr,wk,if_true,if_false,forall_const,implies_true,ne_eq,eq_self,Nat.reduceEqDiff,Nat.reduceAdd,Nat.reduceMul,Nat.reduceSub,Nat.reduceLeDiff,Nat.reduceLT,Int.reduceEq,Int.reduceLT,Int.reduceLE,Int.reduceAdd,Int.reduceSub,Int.reduceMul,Int.reduceNeg,Int.reduceNe,reduceCtorEq,Int.reduceToNat,↓reduceIte, J_expr_Text_1_j1, wob, hx, hdx, hw, hl, hd, fx, fw, fl, fd, fo, n1, n2, hdl, Int.toNat_natCast]
      have hl1 : (ws ++ [(⟨#[40]⟩ : ByteArray)] ++ (a.toks (bindK k)).map wrd).length = ws.length + 1 + (a.toks (bindK k)).length := by simp; omega
      refine ⟨⟨by omega, by omega⟩, _, qw, ?_⟩
      simp only [wkr,wk,if_true,if_false,forall_const,implies_true,ne_eq,eq_self,Nat.reduceEqDiff,Nat.reduceAdd,Nat.reduceMul,Nat.reduceSub,Nat.reduceLeDiff,Nat.reduceLT,Int.reduceEq,Int.reduceLT,Int.reduceLE,Int.reduceAdd,Int.reduceSub,Int.reduceMul,Int.reduceNeg,Int.reduceNe,reduceCtorEq,Int.reduceToNat,↓reduceIte, splice, hdl1]
      refine ⟨⟨by omega, by omega⟩, ⟨by omega, by omega⟩, inR_of (by omega) (by omega), ?_⟩
      rw [wob_sn]
      refine ⟨_, _, ihb _ (by rw [List.length_append, hl1]; simp; omega), sealE (fo _), ?_⟩
      simp only [wkr,wk,if_true,if_false,forall_const,implies_true,ne_eq,eq_self,Nat.reduceEqDiff,Nat.reduceAdd,Nat.reduceMul,Nat.reduceSub,Nat.reduceLeDiff,Nat.reduceLT,Int.reduceEq,Int.reduceLT,Int.reduceLE,Int.reduceAdd,Int.reduceSub,Int.reduceMul,Int.reduceNeg,Int.reduceNe,reduceCtorEq,Int.reduceToNat,↓reduceIte, wob, fo, eqTrue hb]
      have hl2 : (ws ++ [(⟨#[40]⟩ : ByteArray)] ++ (a.toks (bindK k)).map wrd ++ [wordT k ⟨#[]⟩ 0] ++ (b.toks (bindK k + 1)).map wrd).length = ws.length + 1 + (a.toks (bindK k)).length + 1 + (b.toks (bindK k + 1)).length := by simp; omega
      refine ⟨⟨by omega, by omega⟩, ?_⟩
      rw [wob_sn]
      have he : ws ++ [(⟨#[40]⟩ : ByteArray)] ++ (a.toks (bindK k)).map wrd ++ [wordT k ⟨#[]⟩ 0] ++ (b.toks (bindK k + 1)).map wrd ++ [⟨#[41]⟩] = ws ++ ((Xp.op k a b).toks m).map wrd := by
        simp only [Xp.toks]
        rw [if_pos hb]
        simp only [List.map_cons, List.map_append, List.map_nil, List.append_assoc, List.cons_append, List.nil_append]
        rfl
      rw [he]
    · have hz : ws.length + ((a.toks (bindK k)).length + (b.toks (bindK k + 1)).length) + 1 ≤ 100000 := by
        simp only [Xp.toks] at hsz
        rw [if_neg hb] at hsz
        simp only [List.length_append, List.length_cons, List.length_nil] at hsz; omega
      simp only [wkr,wk,if_true,if_false,forall_const,implies_true,ne_eq,eq_self,Nat.reduceEqDiff,Nat.reduceAdd,Nat.reduceMul,Nat.reduceSub,Nat.reduceLeDiff,Nat.reduceLT,Int.reduceEq,Int.reduceLT,Int.reduceLE,Int.reduceAdd,Int.reduceSub,Int.reduceMul,Int.reduceNeg,Int.reduceNe,reduceCtorEq,Int.reduceToNat,↓reduceIte, J_expr_Text_1_j2, hx, hdx, hw, hl, hd, ho, fx, fw, fl, fd, fo, n1, n2, eqFalse hb, hop1, hdl, Int.toNat_natCast]
      have hself : h.set io (wob ws) = h := hself1 ho
      have iha0 := iha ws (by omega)
      rw [hself] at iha0
      refine ⟨⟨by omega, by omega⟩, ⟨by omega, by omega⟩, _, _, iha0, sealE ho, ?_⟩
      simp only [wkr,wk,if_true,if_false,forall_const,implies_true,ne_eq,eq_self,Nat.reduceEqDiff,Nat.reduceAdd,Nat.reduceMul,Nat.reduceSub,Nat.reduceLeDiff,Nat.reduceLT,Int.reduceEq,Int.reduceLT,Int.reduceLE,Int.reduceAdd,Int.reduceSub,Int.reduceMul,Int.reduceNeg,Int.reduceNe,reduceCtorEq,Int.reduceToNat,↓reduceIte, J_expr_Text_1_j1, wob, hx, hdx, hw, hl, hd, fx, fw, fl, fd, fo, n1, n2, hdl, Int.toNat_natCast]
      have hl1 : (ws ++ (a.toks (bindK k)).map wrd).length = ws.length + (a.toks (bindK k)).length := by simp
      refine ⟨⟨by omega, by omega⟩, _, qw, ?_⟩
      simp only [wkr,wk,if_true,if_false,forall_const,implies_true,ne_eq,eq_self,Nat.reduceEqDiff,Nat.reduceAdd,Nat.reduceMul,Nat.reduceSub,Nat.reduceLeDiff,Nat.reduceLT,Int.reduceEq,Int.reduceLT,Int.reduceLE,Int.reduceAdd,Int.reduceSub,Int.reduceMul,Int.reduceNeg,Int.reduceNe,reduceCtorEq,Int.reduceToNat,↓reduceIte, splice, hdl1]
      refine ⟨⟨by omega, by omega⟩, ⟨by omega, by omega⟩, inR_of (by omega) (by omega), ?_⟩
      rw [wob_sn]
      refine ⟨_, _, ihb _ (by rw [List.length_append, hl1]; simp; omega), sealE (fo _), ?_⟩
      simp only [wkr,wk,if_true,if_false,forall_const,implies_true,ne_eq,eq_self,Nat.reduceEqDiff,Nat.reduceAdd,Nat.reduceMul,Nat.reduceSub,Nat.reduceLeDiff,Nat.reduceLT,Int.reduceEq,Int.reduceLT,Int.reduceLE,Int.reduceAdd,Int.reduceSub,Int.reduceMul,Int.reduceNeg,Int.reduceNe,reduceCtorEq,Int.reduceToNat,↓reduceIte, fo, eqFalse hb]
      have he : ws ++ (a.toks (bindK k)).map wrd ++ [wordT k ⟨#[]⟩ 0] ++ (b.toks (bindK k + 1)).map wrd = ws ++ ((Xp.op k a b).toks m).map wrd := by
        simp only [Xp.toks]
        rw [if_neg hb]
        simp only [List.map_cons, List.map_append, List.map_nil, List.append_assoc, List.cons_append, List.nil_append]
        rfl
      rw [he]
end Go.Proofs.Ytmbijfcjfhdnjaa

/- Expressions: Text, May, Deep. -/
-- fast
-- rows
namespace Go.Proofs.Ytmbijfcjfhdnjaa
set_option linter.unusedSimpArgs false
set_option linter.unusedVariables false
open Go.RowKit Go.Lib

def textX (x : List Trm) : ByteArray × Int := match treeT x with
  | some e => (joinB ((e.toks 0).map wrd), 0)
  | none => (⟨#[]⟩, 2)
def deepX (x : List Trm) : Int := match treeT x with
  | some e => e.deep
  | none => 0
theorem toks_len : ∀ (m : Int) (e : Xp), (e.toks m).length + 2 ≤ 4 * e.post.length
  | _, .atm t => by simp [Xp.toks, Xp.post]
  | m, .op k a b => by
    have h1 := toks_len (bindK k) a
    have h2 := toks_len (bindK k + 1) b
    simp only [Xp.toks, Xp.post]
    split <;> simp only [List.length_cons, List.length_append, List.length_nil] <;> omega
theorem toks_name : ∀ (m : Int) (e : Xp), (∀ t ∈ e.post, t.name.size ≤ 1000000) → ∀ t ∈ e.toks m, t.name.size ≤ 1000000
  | _, .atm t, h, u, hu => by
    simp only [Xp.toks, List.mem_singleton] at hu
    subst hu
    exact h t (by simp [Xp.post])
  | m, .op k a b, h, u, hu => by
    have h1 := toks_name (bindK k) a (fun t ht => h t (by simp [Xp.post, ht]))
    have h2 := toks_name (bindK k + 1) b (fun t ht => h t (by simp [Xp.post, ht]))
    have h0 : ∀ k, (tokS k).name.size ≤ 1000000 := fun k => by show (⟨#[]⟩ : ByteArray).size ≤ _; decide
    simp only [Xp.toks] at hu
    split at hu
    · rcases List.mem_cons.1 hu with rfl | hu
      · exact h0 6
      · rcases List.mem_append.1 hu with hu | hu
        · rcases List.mem_append.1 hu with hu | hu
          · exact h1 u hu
          · rcases List.mem_cons.1 hu with rfl | hu
            · exact h0 k
            · exact h2 u hu
        · simp only [List.mem_singleton] at hu; subst hu; exact h0 7
    · rcases List.mem_append.1 hu with hu | hu
      · exact h1 u hu
      · rcases List.mem_cons.1 hu with rfl | hu
        · exact h0 k
        · exact h2 u hu
theorem tree_post {x : List Trm} {e : Xp} (h : treeT x = some e) : x.length ≤ 200 ∧ e.okE wrT ∧ x = e.post := by
  unfold treeT at h
  split at h
  · exact ⟨by assumption, treeX_iff.1 h⟩
  · cases h
theorem text_size {x : List Trm} {e : Xp} (h : treeT x = some e) (hn : ∀ t ∈ x, t.name.size ≤ 1000000) (m : Int) : (e.toks m).length ≤ 800 ∧ (joinB ((e.toks m).map wrd)).size ≤ 140737488355328 := by
  obtain ⟨h1, h2, h3⟩ := tree_post h
  have h4 := toks_len m e
  rw [h3] at h1 hn
  have h5 := toks_name m e hn
  have h6 := join_size ((e.toks m).map wrd) 1000006 (fun w hw => by
    obtain ⟨t, ht, rfl⟩ := List.mem_map.1 hw
    have := wordT_size t.kind t.name t.of
    have := h5 t ht
    show (wordT t.kind t.name t.of).size ≤ _; omega)
  rw [List.length_map] at h6
  refine ⟨by omega, ?_⟩
  have : (e.toks m).length * (1000006 + 1) ≤ 800 * 1000007 := Nat.mul_le_mul (by omega) (by omega)
  omega
theorem frees_vtrs (x : List Trm) : free.frees [vTrs x] = true := by simp [vTrs, free, free.frees, frees_trs]
set_option maxRecDepth 100000 in
set_option maxHeartbeats 8000000 in
theorem p_may (x : List Trm) (hl : x.length ≤ 9223372036854775807) (hn : ∀ t ∈ x, t.name.size ≤ 1000000) : PCalls Try.prog 24 [vTrs x] (.bool (treeT x).isSome) := by
  have q := a_parts (h := []) x hl hn
  simp only [vTrs] at q
  refine pcalls_of (frees_vtrs x) rfl (acalls_of mixed J_expr_May_ok (Nat.le_of_ble_eq_true rfl) ?_); simp only [J_expr_May, vTrs, wkr,wk,if_true,if_false,forall_const,implies_true,ne_eq,eq_self,Nat.reduceEqDiff,Nat.reduceAdd,Nat.reduceMul,Nat.reduceSub,Nat.reduceLeDiff,Nat.reduceLT,Int.reduceEq,Int.reduceLT,Int.reduceLE,Int.reduceAdd,Int.reduceSub,Int.reduceMul,Int.reduceNeg,Int.reduceNe,reduceCtorEq,Int.reduceToNat,↓reduceIte]
  refine ACalls.use q ?_
  intro a h' hp
  unfold PostP at hp
  cases ht : treeT x with
  | some e =>
    rw [ht] at hp
    obtain ⟨l, rfl, rfl, _, _⟩ := hp
    simp only [wkr,wk,if_true,if_false,forall_const,implies_true,ne_eq,eq_self,Nat.reduceEqDiff,Nat.reduceAdd,Nat.reduceMul,Nat.reduceSub,Nat.reduceLeDiff,Nat.reduceLT,Int.reduceEq,Int.reduceLT,Int.reduceLE,Int.reduceAdd,Int.reduceSub,Int.reduceMul,Int.reduceNeg,Int.reduceNe,reduceCtorEq,Int.reduceToNat,↓reduceIte]
    rfl
  | none =>
    rw [ht] at hp
    rcases hp with ⟨rfl, rfl⟩ | ⟨n, l, rfl, rfl⟩
    · simp only [wkr,wk,if_true,if_false,forall_const,implies_true,ne_eq,eq_self,Nat.reduceEqDiff,Nat.reduceAdd,Nat.reduceMul,Nat.reduceSub,Nat.reduceLeDiff,Nat.reduceLT,Int.reduceEq,Int.reduceLT,Int.reduceLE,Int.reduceAdd,Int.reduceSub,Int.reduceMul,Int.reduceNeg,Int.reduceNe,reduceCtorEq,Int.reduceToNat,↓reduceIte]
      rfl
    · simp only [wkr,wk,if_true,if_false,forall_const,implies_true,ne_eq,eq_self,Nat.reduceEqDiff,Nat.reduceAdd,Nat.reduceMul,Nat.reduceSub,Nat.reduceLeDiff,Nat.reduceLT,Int.reduceEq,Int.reduceLT,Int.reduceLE,Int.reduceAdd,Int.reduceSub,Int.reduceMul,Int.reduceNeg,Int.reduceNe,reduceCtorEq,Int.reduceToNat,↓reduceIte]
      rfl
set_option maxRecDepth 100000 in
set_option maxHeartbeats 8000000 in
theorem p_deep (x : List Trm) (hl : x.length ≤ 9223372036854775807) (hn : ∀ t ∈ x, t.name.size ≤ 1000000) : PCalls Try.prog 26 [vTrs x] (.int .i64 (deepX x)) := by
  have q := a_parts (h := []) x hl hn
  simp only [vTrs] at q
  refine pcalls_of (frees_vtrs x) rfl (acalls_of mixed J_expr_Deep_ok (Nat.le_of_ble_eq_true rfl) ?_); simp only [J_expr_Deep, vTrs, wkr,wk,if_true,if_false,forall_const,implies_true,ne_eq,eq_self,Nat.reduceEqDiff,Nat.reduceAdd,Nat.reduceMul,Nat.reduceSub,Nat.reduceLeDiff,Nat.reduceLT,Int.reduceEq,Int.reduceLT,Int.reduceLE,Int.reduceAdd,Int.reduceSub,Int.reduceMul,Int.reduceNeg,Int.reduceNe,reduceCtorEq,Int.reduceToNat,↓reduceIte]
  refine ACalls.use q ?_
  intro a h' hp
  unfold PostP at hp
  unfold deepX
  cases ht : treeT x with
  | some e =>
    rw [ht] at hp
    obtain ⟨l, rfl, rfl, hll, hr⟩ := hp
    obtain ⟨h2, _, h3⟩ := tree_post ht
    have hpos : 1 ≤ x.length := by have := toks_len 0 e; rw [h3]; omega
    have hd := hr.drop
    simp only [wkr,wk,if_true,if_false,forall_const,implies_true,ne_eq,eq_self,Nat.reduceEqDiff,Nat.reduceAdd,Nat.reduceMul,Nat.reduceSub,Nat.reduceLeDiff,Nat.reduceLT,Int.reduceEq,Int.reduceLT,Int.reduceLE,Int.reduceAdd,Int.reduceSub,Int.reduceMul,Int.reduceNeg,Int.reduceNe,reduceCtorEq,Int.reduceToNat,↓reduceIte]
    refine ⟨inR_of (by omega) (by omega), ⟨by omega, by omega⟩, ?_⟩
    rw [show ((x.length : Int) - 1).toNat = x.length - 1 by omega, hd]
    simp only [wkr,wk,if_true,if_false,forall_const,implies_true,ne_eq,eq_self,Nat.reduceEqDiff,Nat.reduceAdd,Nat.reduceMul,Nat.reduceSub,Nat.reduceLeDiff,Nat.reduceLT,Int.reduceEq,Int.reduceLT,Int.reduceLE,Int.reduceAdd,Int.reduceSub,Int.reduceMul,Int.reduceNeg,Int.reduceNe,reduceCtorEq,Int.reduceToNat,↓reduceIte]
  | none =>
    rw [ht] at hp
    rcases hp with ⟨rfl, rfl⟩ | ⟨n, l, rfl, rfl⟩
    · simp only [wkr,wk,if_true,if_false,forall_const,implies_true,ne_eq,eq_self,Nat.reduceEqDiff,Nat.reduceAdd,Nat.reduceMul,Nat.reduceSub,Nat.reduceLeDiff,Nat.reduceLT,Int.reduceEq,Int.reduceLT,Int.reduceLE,Int.reduceAdd,Int.reduceSub,Int.reduceMul,Int.reduceNeg,Int.reduceNe,reduceCtorEq,Int.reduceToNat,↓reduceIte]
    · simp only [wkr,wk,if_true,if_false,forall_const,implies_true,ne_eq,eq_self,Nat.reduceEqDiff,Nat.reduceAdd,Nat.reduceMul,Nat.reduceSub,Nat.reduceLeDiff,Nat.reduceLT,Int.reduceEq,Int.reduceLT,Int.reduceLE,Int.reduceAdd,Int.reduceSub,Int.reduceMul,Int.reduceNeg,Int.reduceNe,reduceCtorEq,Int.reduceToNat,↓reduceIte]
set_option maxRecDepth 100000 in
set_option maxHeartbeats 8000000 in
theorem p_text (x : List Trm) (hl : x.length ≤ 9223372036854775807) (hn : ∀ t ∈ x, t.name.size ≤ 1000000) : PCalls Try.prog 22 [vTrs x] (.tup [.str (textX x).1, .int .i64 (textX x).2]) := by
  have q := a_parts (h := [some (false, [vTrs x])]) x hl hn
  simp only [vTrs] at q
  refine pcalls_of (frees_vtrs x) rfl (acalls_of mixed J_expr_Text_ok (Nat.le_of_ble_eq_true rfl) ?_); simp only [J_expr_Text, vTrs, wkr,wk,if_true,if_false,forall_const,implies_true,ne_eq,eq_self,Nat.reduceEqDiff,Nat.reduceAdd,Nat.reduceMul,Nat.reduceSub,Nat.reduceLeDiff,Nat.reduceLT,Int.reduceEq,Int.reduceLT,Int.reduceLE,Int.reduceAdd,Int.reduceSub,Int.reduceMul,Int.reduceNeg,Int.reduceNe,reduceCtorEq,Int.reduceToNat,↓reduceIte]
  refine ACalls.use q ?_
  intro a h' hp
  unfold PostP at hp
  unfold textX
  cases ht : treeT x with
  | some e =>
    rw [ht] at hp
    obtain ⟨l, rfl, rfl, hll, hr⟩ := hp
    obtain ⟨h2, ho, h3⟩ := tree_post ht
    have hpos : 1 ≤ x.length := by have := toks_len 0 e; rw [h3]; omega
    obtain ⟨z1, z2⟩ := text_size ht hn 0
    have hw := a_write (ix := 0) (io := 3) (iw := 4) (il := 2) (id := 1) h2 hll hn e (x.length - 1) 0 [some (false, [.lst .ro x.length (trsC x)]), some (false, prC l), some (false, [.hs 1 x.length]), some (false, [.lst (.own 9) 0 []]), some (false, [.fn 43 [.ptr 0 0, .ptr 3 0, .ptr 4 0, .ptr 2 0]])] [] hr ho (by decide) (by rw [List.length_nil]; omega) ⟨rfl, rfl, rfl, rfl, by decide, by decide, by decide, by decide⟩ rfl
    have qj := p_join ((e.toks 0).map wrd) (by rw [List.length_map]; omega) z2
    simp only [wob, List.nil_append] at hw
    rw [show ((x.length - 1 : Nat) : Int) = (x.length : Int) - 1 by omega] at hw
    simp only [wkr,wk,if_true,if_false,forall_const,implies_true,ne_eq,eq_self,Nat.reduceEqDiff,Nat.reduceAdd,Nat.reduceMul,Nat.reduceSub,Nat.reduceLeDiff,Nat.reduceLT,Int.reduceEq,Int.reduceLT,Int.reduceLE,Int.reduceAdd,Int.reduceSub,Int.reduceMul,Int.reduceNeg,Int.reduceNe,reduceCtorEq,Int.reduceToNat,↓reduceIte]
    refine ⟨inR_of (by omega) (by omega), ?_⟩
    refine ACalls.use (hw) ?_; rintro _ _ ⟨rfl, rfl⟩; simp only [wkr,wk,if_true,if_false,forall_const,implies_true,ne_eq,eq_self,Nat.reduceEqDiff,Nat.reduceAdd,Nat.reduceMul,Nat.reduceSub,Nat.reduceLeDiff,Nat.reduceLT,Int.reduceEq,Int.reduceLT,Int.reduceLE,Int.reduceAdd,Int.reduceSub,Int.reduceMul,Int.reduceNeg,Int.reduceNe,reduceCtorEq,Int.reduceToNat,↓reduceIte]
    refine PCalls.use (qj) ?_; simp only [wkr,wk,if_true,if_false,forall_const,implies_true,ne_eq,eq_self,Nat.reduceEqDiff,Nat.reduceAdd,Nat.reduceMul,Nat.reduceSub,Nat.reduceLeDiff,Nat.reduceLT,Int.reduceEq,Int.reduceLT,Int.reduceLE,Int.reduceAdd,Int.reduceSub,Int.reduceMul,Int.reduceNeg,Int.reduceNe,reduceCtorEq,Int.reduceToNat,↓reduceIte]
  | none =>
    rw [ht] at hp
    rcases hp with ⟨rfl, rfl⟩ | ⟨n, l, rfl, rfl⟩
    · simp only [wkr,wk,if_true,if_false,forall_const,implies_true,ne_eq,eq_self,Nat.reduceEqDiff,Nat.reduceAdd,Nat.reduceMul,Nat.reduceSub,Nat.reduceLeDiff,Nat.reduceLT,Int.reduceEq,Int.reduceLT,Int.reduceLE,Int.reduceAdd,Int.reduceSub,Int.reduceMul,Int.reduceNeg,Int.reduceNe,reduceCtorEq,Int.reduceToNat,↓reduceIte]
    · simp only [wkr,wk,if_true,if_false,forall_const,implies_true,ne_eq,eq_self,Nat.reduceEqDiff,Nat.reduceAdd,Nat.reduceMul,Nat.reduceSub,Nat.reduceLeDiff,Nat.reduceLT,Int.reduceEq,Int.reduceLT,Int.reduceLE,Int.reduceAdd,Int.reduceSub,Int.reduceMul,Int.reduceNeg,Int.reduceNe,reduceCtorEq,Int.reduceToNat,↓reduceIte]
end Go.Proofs.Ytmbijfcjfhdnjaa

/- Expressions: the document's Last. -/
-- fast
-- rows
namespace Go.Proofs.Ytmbijfcjfhdnjaa
set_option linter.unusedSimpArgs false
set_option linter.unusedVariables false
open Go.RowKit Go.Lib

def textE : Xp → ByteArray
  | .atm t => wordT 1 t.name t.of
  | .op k a b => (if a.lev < bindK k then ⟨#[40, 32]⟩ ++ textE a ++ ⟨#[32, 41]⟩ else textE a) ++ ⟨#[32]⟩ ++ wordT k ⟨#[]⟩ 0 ++ ⟨#[32]⟩ ++ (if b.lev ≤ bindK k then ⟨#[40, 32]⟩ ++ textE b ++ ⟨#[32, 41]⟩ else textE b)
theorem wordT_sgn (k : Int) : (wordT k ⟨#[]⟩ 0).size ≤ 6 := wordT_size k ⟨#[]⟩ 0
theorem textE_size : ∀ e : Xp, (∀ t ∈ e.post, t.name.size ≤ 1000000) → (textE e).size + 30 ≤ e.post.length * 1000100
  | .atm t, h => by
    have h1 := wordT_size 1 t.name t.of
    have h2 := h t (by simp [Xp.post])
    simp only [textE, Xp.post, List.length_singleton]; omega
  | .op k a b, h => by
    have h1 := textE_size a (fun t ht => h t (by simp [Xp.post, ht]))
    have h2 := textE_size b (fun t ht => h t (by simp [Xp.post, ht]))
    have h3 := wordT_sgn k
    have c1 : (⟨#[40, 32]⟩ : ByteArray).size = 2 := rfl
    have c2 : (⟨#[32, 41]⟩ : ByteArray).size = 2 := rfl
    have c3 : (⟨#[32]⟩ : ByteArray).size = 1 := rfl
    simp only [textE, Xp.post, List.length_append, List.length_singleton]
    repeat' split
    all_goals (simp only [ByteArray.size_append]; omega)
def partV : Option (Xp × List Trm) → AV
  | none => .tup [.agg [.int .i64 0, .str ⟨#[]⟩, .int .i64 0, .int .i64 0], .bool false]
  | some (e, r) => .tup [.agg [.int .i64 r.length, .str (textE e), .int .i64 e.lev, .int .i64 e.deep], .bool true]
theorem free_partV (o : Option (Xp × List Trm)) : free (partV o) = true := by
  cases o with
  | none => rfl
  | some y => rfl
theorem trsC_take (a b : List Trm) : (trsC (a ++ b)).take (a.length * 3) = trsC a := by
  rw [trsC_app, ← trsC_len a, List.take_left]
/-- a sign's word -/
theorem sign_word_ne {t : Trm} (h : 0 < bindK t.op) : wordT t.op t.name t.of = ⟨#[]⟩ ↔ ¬ (t.of = 0 ∧ t.name = ⟨#[]⟩) := by
  obtain ⟨op, of, nm⟩ := t
  have hk := bind_pos h
  simp only at hk ⊢
  unfold wordT
  by_cases ho : of = 0
  · by_cases hn : nm = ⟨#[]⟩
    · subst hn; subst ho
      rcases hk with rfl | rfl | rfl | rfl <;> simp
    · rcases hk with rfl | rfl | rfl | rfl <;> simp [ho, hn]
  · rcases hk with rfl | rfl | rfl | rfl <;> simp [ho]
theorem post_last {e : Xp} (ho : e.okE wrT) : ∃ (p : List Trm) (u : Trm), e.post = p ++ [u] ∧ (e.role = true ↔ u.op = 1 ∧ u.of = 5) := by
  cases e with
  | atm t => exact ⟨[], t, rfl, by simp only [Xp.role, decide_eq_true_eq]; exact ⟨fun h => ⟨ho.1, h⟩, fun h => h.2⟩⟩
  | op k a b =>
    refine ⟨a.post ++ b.post, sgn k, by simp [Xp.post], ⟨fun h => (nomatch h), fun h => ?_⟩⟩
    have h1 := ho.1
    have h2 : k = 1 := h.1
    rw [h2, bind1] at h1; omega
set_option maxRecDepth 100000 in
set_option maxHeartbeats 8000000 in
theorem p_last : ∀ (f : Nat) (x : List Trm), x.length ≤ f → x.length ≤ 200 → (∀ t ∈ x, t.name.size ≤ 1000000) → PCalls Try.prog 68 [vTrs x] (partV (lastX wrT f x.reverse))
  | 0, x, hf, hl, hn => by
    have hx : x = [] := List.eq_nil_of_length_eq_zero (by omega)
    subst hx
    refine pcalls_of (frees_vtrs []) (free_partV _) (acalls_of mixed J_ref05_Last_ok (Nat.le_of_ble_eq_true rfl) ?_); simp only [J_ref05_Last, vTrs, trsC, List.flatMap_nil, List.length_nil, valL, (show (((0 : Nat) : Int) = 0) = True by simp), wkr,wk,if_true,if_false,forall_const,implies_true,ne_eq,eq_self,Nat.reduceEqDiff,Nat.reduceAdd,Nat.reduceMul,Nat.reduceSub,Nat.reduceLeDiff,Nat.reduceLT,Int.reduceEq,Int.reduceLT,Int.reduceLE,Int.reduceAdd,Int.reduceSub,Int.reduceMul,Int.reduceNeg,Int.reduceNe,reduceCtorEq,Int.reduceToNat,↓reduceIte]
    rfl
  | f + 1, x, hf, hl, hn => by
    refine pcalls_of (frees_vtrs x) (free_partV _) (acalls_of mixed J_ref05_Last_ok (Nat.le_of_ble_eq_true rfl) ?_); simp only [J_ref05_Last, vTrs, wkr,wk,if_true,if_false,forall_const,implies_true,ne_eq,eq_self,Nat.reduceEqDiff,Nat.reduceAdd,Nat.reduceMul,Nat.reduceSub,Nat.reduceLeDiff,Nat.reduceLT,Int.reduceEq,Int.reduceLT,Int.reduceLE,Int.reduceAdd,Int.reduceSub,Int.reduceMul,Int.reduceNeg,Int.reduceNe,reduceCtorEq,Int.reduceToNat,↓reduceIte]
    refine ⟨fun h0 => ?_, fun h0 => ?_⟩
    · have hx : x = [] := List.eq_nil_of_length_eq_zero (by omega)
      subst hx
      simp only [wkr,wk,if_true,if_false,forall_const,implies_true,ne_eq,eq_self,Nat.reduceEqDiff,Nat.reduceAdd,Nat.reduceMul,Nat.reduceSub,Nat.reduceLeDiff,Nat.reduceLT,Int.reduceEq,Int.reduceLT,Int.reduceLE,Int.reduceAdd,Int.reduceSub,Int.reduceMul,Int.reduceNeg,Int.reduceNe,reduceCtorEq,Int.reduceToNat,↓reduceIte, valL]
      rfl
    · obtain ⟨y, t, rfl⟩ : ∃ y t, x = y ++ [t] := ⟨x.dropLast, x.getLast (by intro e; subst e; simp at h0), (List.dropLast_concat_getLast _).symm⟩
      have hlen : (y ++ [t]).length = y.length + 1 := by simp
      have hm1 : ((y.length + 1 : Nat) : Int) - 1 = (y.length : Nat) := by omega
      have hd : (trsC (y ++ [t])).drop (y.length * 3) = [.int .i64 t.op, .int .i64 t.of, .str t.name] := by
        rw [trsC_app, ← trsC_len y, List.drop_left]; rfl
      have hnt := hn t (by simp)
      have qw := p_rword04 t.op t.name t.of 0 hnt
      have hny : ∀ u ∈ y, u.name.size ≤ 1000000 := fun u hu => hn u (by simp [hu])
      have ih1 := p_last f y (by omega) (by omega) hny
      rw [List.reverse_append, List.reverse_cons, List.reverse_nil, List.nil_append, List.singleton_append]
      simp only [lastX]
      simp only [vTrs] at ih1
      simp only [wkr,wk,if_true,if_false,forall_const,implies_true,ne_eq,eq_self,Nat.reduceEqDiff,Nat.reduceAdd,Nat.reduceMul,Nat.reduceSub,Nat.reduceLeDiff,Nat.reduceLT,Int.reduceEq,Int.reduceLT,Int.reduceLE,Int.reduceAdd,Int.reduceSub,Int.reduceMul,Int.reduceNeg,Int.reduceNe,reduceCtorEq,Int.reduceToNat,↓reduceIte, hm1, Int.toNat_natCast, hd, hlen, splice]
      refine ⟨inR_of (by omega) (by omega), ⟨by omega, by omega⟩, ?_⟩
      refine PCalls.use (qw) ?_; simp only [wkr,wk,if_true,if_false,forall_const,implies_true,ne_eq,eq_self,Nat.reduceEqDiff,Nat.reduceAdd,Nat.reduceMul,Nat.reduceSub,Nat.reduceLeDiff,Nat.reduceLT,Int.reduceEq,Int.reduceLT,Int.reduceLE,Int.reduceAdd,Int.reduceSub,Int.reduceMul,Int.reduceNeg,Int.reduceNe,reduceCtorEq,Int.reduceToNat,↓reduceIte]
      by_cases k1 : t.op = 1
      · rw [if_pos k1]
        by_cases hw : wordT t.op t.name t.of = ⟨#[]⟩
        · rw [if_neg (by simp [wrT, hw])]
          simp only [wkr,wk,if_true,if_false,forall_const,implies_true,ne_eq,eq_self,Nat.reduceEqDiff,Nat.reduceAdd,Nat.reduceMul,Nat.reduceSub,Nat.reduceLeDiff,Nat.reduceLT,Int.reduceEq,Int.reduceLT,Int.reduceLE,Int.reduceAdd,Int.reduceSub,Int.reduceMul,Int.reduceNeg,Int.reduceNe,reduceCtorEq,Int.reduceToNat,↓reduceIte, eqTrue k1, eqTrue hw, valL]
          rfl
        · rw [if_pos (by simp [wrT, hw])]
          simp only [wkr,wk,if_true,if_false,forall_const,implies_true,ne_eq,eq_self,Nat.reduceEqDiff,Nat.reduceAdd,Nat.reduceMul,Nat.reduceSub,Nat.reduceLeDiff,Nat.reduceLT,Int.reduceEq,Int.reduceLT,Int.reduceLE,Int.reduceAdd,Int.reduceSub,Int.reduceMul,Int.reduceNeg,Int.reduceNe,reduceCtorEq,Int.reduceToNat,↓reduceIte, eqTrue k1, eqFalse hw, valL, hm1]
          refine ⟨inR_of (by omega) (by omega), ?_⟩
          simp only [partV, List.length_reverse, textE, Xp.lev, Xp.deep, ← k1]
      · rw [if_neg k1]
        by_cases hs : 0 < bindK t.op
        · have hw := sign_word_ne (t := t) hs
          by_cases hg : t.of = 0 ∧ t.name = ⟨#[]⟩
          · have hwn : (wordT t.op t.name t.of = ⟨#[]⟩) = False := eqFalse (fun h => hw.1 h hg)
            rw [if_pos ⟨hs, hg⟩]
            simp only [wkr,wk,if_true,if_false,forall_const,implies_true,ne_eq,eq_self,Nat.reduceEqDiff,Nat.reduceAdd,Nat.reduceMul,Nat.reduceSub,Nat.reduceLeDiff,Nat.reduceLT,Int.reduceEq,Int.reduceLT,Int.reduceLE,Int.reduceAdd,Int.reduceSub,Int.reduceMul,Int.reduceNeg,Int.reduceNe,reduceCtorEq,Int.reduceToNat,↓reduceIte, hwn, eqFalse k1]
            refine PCalls.use (p_binds _) ?_; simp only [wkr,wk,if_true,if_false,forall_const,implies_true,ne_eq,eq_self,Nat.reduceEqDiff,Nat.reduceAdd,Nat.reduceMul,Nat.reduceSub,Nat.reduceLeDiff,Nat.reduceLT,Int.reduceEq,Int.reduceLT,Int.reduceLE,Int.reduceAdd,Int.reduceSub,Int.reduceMul,Int.reduceNeg,Int.reduceNe,reduceCtorEq,Int.reduceToNat,↓reduceIte]
            simp only [wkr,wk,if_true,if_false,forall_const,implies_true,ne_eq,eq_self,Nat.reduceEqDiff,Nat.reduceAdd,Nat.reduceMul,Nat.reduceSub,Nat.reduceLeDiff,Nat.reduceLT,Int.reduceEq,Int.reduceLT,Int.reduceLE,Int.reduceAdd,Int.reduceSub,Int.reduceMul,Int.reduceNeg,Int.reduceNe,reduceCtorEq,Int.reduceToNat,↓reduceIte, (show (bindK t.op = 0) = False from eqFalse (by omega)), hm1, Int.toNat_natCast, Nat.sub_zero, trsC_take]
            refine ⟨inR_of (by omega) (by omega), ⟨by omega, by omega, by rw [trsC_len, hlen]⟩, ?_⟩
            cases hL : lastX wrT f y.reverse with
            | none =>
              rw [hL] at ih1
              simp only [partV] at ih1
              refine PCalls.use (ih1) ?_; simp only [wkr,wk,if_true,if_false,forall_const,implies_true,ne_eq,eq_self,Nat.reduceEqDiff,Nat.reduceAdd,Nat.reduceMul,Nat.reduceSub,Nat.reduceLeDiff,Nat.reduceLT,Int.reduceEq,Int.reduceLT,Int.reduceLE,Int.reduceAdd,Int.reduceSub,Int.reduceMul,Int.reduceNeg,Int.reduceNe,reduceCtorEq,Int.reduceToNat,↓reduceIte]
              simp only [wkr,wk,if_true,if_false,forall_const,implies_true,ne_eq,eq_self,Nat.reduceEqDiff,Nat.reduceAdd,Nat.reduceMul,Nat.reduceSub,Nat.reduceLeDiff,Nat.reduceLT,Int.reduceEq,Int.reduceLT,Int.reduceLE,Int.reduceAdd,Int.reduceSub,Int.reduceMul,Int.reduceNeg,Int.reduceNe,reduceCtorEq,Int.reduceToNat,↓reduceIte, valL]
              rfl
            | some z =>
              obtain ⟨b, r⟩ := z
              rw [hL] at ih1
              simp only [partV] at ih1
              obtain ⟨okb, hyr⟩ := lastX_ok _ _ _ _ hL
              have hy : y = r.reverse ++ b.post := by
                have := congrArg List.reverse hyr
                rwa [List.reverse_reverse, List.reverse_append, List.reverse_reverse] at this
              obtain ⟨p, u, hpu, hro⟩ := post_last okb
              obtain ⟨Y, hY⟩ : ∃ Y, Y = r.reverse ++ p := ⟨_, rfl⟩
              have hyY : y = Y ++ [u] := by rw [hy, hpu, hY, List.append_assoc]
              have hyl : y.length = Y.length + 1 := by rw [hyY]; simp
              have hm2 : ((y.length + 1 : Nat) : Int) - 2 = (Y.length : Nat) := by omega
              have hd2 : (trsC (y ++ [t])).drop (Y.length * 3) = .int .i64 u.op :: .int .i64 u.of :: .str u.name :: trsC [t] := by
                rw [hyY, List.append_assoc, trsC_app, ← trsC_len Y, List.drop_left]; rfl
              have hrl : r.length ≤ y.length := by rw [hy]; simp
              have hd3 : (trsC (y ++ [t])).take (r.length * 3) = trsC r.reverse := by
                rw [hy, List.append_assoc, ← List.length_reverse, trsC_take]
              have ih2 := p_last f r.reverse (by simp; omega) (by simp; omega) (fun v hv => hny v (by rw [hy]; simp [List.mem_reverse.1 hv]))
              rw [List.reverse_reverse] at ih2
              simp only [vTrs, List.length_reverse] at ih2
              refine PCalls.use (ih1) ?_; simp only [wkr,wk,if_true,if_false,forall_const,implies_true,ne_eq,eq_self,Nat.reduceEqDiff,Nat.reduceAdd,Nat.reduceMul,Nat.reduceSub,Nat.reduceLeDiff,Nat.reduceLT,Int.reduceEq,Int.reduceLT,Int.reduceLE,Int.reduceAdd,Int.reduceSub,Int.reduceMul,Int.reduceNeg,Int.reduceNe,reduceCtorEq,Int.reduceToNat,↓reduceIte]
              by_cases k5 : t.op = 5
              · by_cases m1 : u.op = 1
                · by_cases m5 : u.of = 5
                  · rw [if_neg (by rw [hro.2 ⟨m1, m5⟩]; simp)]
                    simp only [wkr,wk,if_true,if_false,forall_const,implies_true,ne_eq,eq_self,Nat.reduceEqDiff,Nat.reduceAdd,Nat.reduceMul,Nat.reduceSub,Nat.reduceLeDiff,Nat.reduceLT,Int.reduceEq,Int.reduceLT,Int.reduceLE,Int.reduceAdd,Int.reduceSub,Int.reduceMul,Int.reduceNeg,Int.reduceNe,reduceCtorEq,Int.reduceToNat,↓reduceIte, eqTrue k5, hm2, Int.toNat_natCast, hd2, eqTrue m1, eqTrue m5, hd3, Nat.sub_zero]
                    refine ⟨inR_of (by omega) (by omega), ⟨by omega, by omega⟩, inR_of (by omega) (by omega), ⟨by omega, by omega⟩, ?_⟩
                    refine ⟨⟨by omega, by omega, by rw [trsC_len, hlen]⟩, ?_⟩
                    cases hL2 : lastX wrT f r with
                    | none =>
                      rw [hL2] at ih2
                      simp only [partV] at ih2
                      refine PCalls.use (ih2) ?_; simp only [wkr,wk,if_true,if_false,forall_const,implies_true,ne_eq,eq_self,Nat.reduceEqDiff,Nat.reduceAdd,Nat.reduceMul,Nat.reduceSub,Nat.reduceLeDiff,Nat.reduceLT,Int.reduceEq,Int.reduceLT,Int.reduceLE,Int.reduceAdd,Int.reduceSub,Int.reduceMul,Int.reduceNeg,Int.reduceNe,reduceCtorEq,Int.reduceToNat,↓reduceIte]
                      simp only [wkr,wk,if_true,if_false,forall_const,implies_true,ne_eq,eq_self,Nat.reduceEqDiff,Nat.reduceAdd,Nat.reduceMul,Nat.reduceSub,Nat.reduceLeDiff,Nat.reduceLT,Int.reduceEq,Int.reduceLT,Int.reduceLE,Int.reduceAdd,Int.reduceSub,Int.reduceMul,Int.reduceNeg,Int.reduceNe,reduceCtorEq,Int.reduceToNat,↓reduceIte, valL]
                      rfl
                    | some z =>
                      obtain ⟨a, r2⟩ := z
                      rw [hL2] at ih2
                      simp only [partV] at ih2
                      obtain ⟨oka, hrr⟩ := lastX_ok _ _ _ _ hL2
                      have sa := textE_size a (fun v hv => hny v (by rw [hy, hrr]; simp [hv]))
                      have sb := textE_size b (fun v hv => hny v (by rw [hy]; simp [hv]))
                      have la : a.post.length + b.post.length ≤ 200 := by
                        have h1 := congrArg List.length hy
                        have h2 := congrArg List.length hrr
                        simp only [List.length_append, List.length_reverse] at h1 h2; omega
                      have sw := wordT_sgn t.op
                      have hwt : wordT t.op t.name t.of = wordT t.op ⟨#[]⟩ 0 := by rw [hg.1, hg.2]
                      have da := deep_le a
                      have db := deep_le b
                      have da1 := deep_pos a
                      have db1 := deep_pos b
                      have ma : a.post.length * 1000100 ≤ 200 * 1000100 := Nat.mul_le_mul (by omega) (Nat.le_refl _)
                      have mb : b.post.length * 1000100 ≤ 200 * 1000100 := Nat.mul_le_mul (by omega) (Nat.le_refl _)
                      have c1 : (⟨#[40, 32]⟩ : ByteArray).size = 2 := rfl
                      have c2 : (⟨#[32, 41]⟩ : ByteArray).size = 2 := rfl
                      have c3 : (⟨#[32]⟩ : ByteArray).size = 1 := rfl
                      refine PCalls.use (ih2) ?_; simp only [wkr,wk,if_true,if_false,forall_const,implies_true,ne_eq,eq_self,Nat.reduceEqDiff,Nat.reduceAdd,Nat.reduceMul,Nat.reduceSub,Nat.reduceLeDiff,Nat.reduceLT,Int.reduceEq,Int.reduceLT,Int.reduceLE,Int.reduceAdd,Int.reduceSub,Int.reduceMul,Int.reduceNeg,Int.reduceNe,reduceCtorEq,Int.reduceToNat,↓reduceIte]
                      rw [hwt]
                      have hda : (Xp.op t.op a b).deep = (if a.deep < b.deep then b.deep else a.deep) + 1 := rfl
                      have hlev : (Xp.op t.op a b).lev = bindK t.op := rfl
                      simp only [partV, textE, hlev, hda]
                      rcases Classical.propComplete (a.lev < bindK t.op) with fa | fa <;> rcases Classical.propComplete (b.lev ≤ bindK t.op) with fb | fb <;> rcases Classical.propComplete (a.deep < b.deep) with fd | fd
                      all_goals
                        simp only [J_ref05_Last_j3, J_ref05_Last_j2, J_ref05_Last_j1, fa, fb, fd, valL, wkr,wk,if_true,if_false,forall_const,implies_true,ne_eq,eq_self,Nat.reduceEqDiff,Nat.reduceAdd,Nat.reduceMul,Nat.reduceSub,Nat.reduceLeDiff,Nat.reduceLT,Int.reduceEq,Int.reduceLT,Int.reduceLE,Int.reduceAdd,Int.reduceSub,Int.reduceMul,Int.reduceNeg,Int.reduceNe,reduceCtorEq,Int.reduceToNat,↓reduceIte]
                        (repeat' with_reducible refine And.intro ?_ ?_)
                        all_goals first | omega | (simp only [ByteArray.size_append]; omega) | exact inR_of (by omega) (by omega) | rfl | skip
                  · rw [if_pos ⟨k5, by cases hb : b.role with | false => rfl | true => exact absurd (hro.1 hb).2 m5⟩]
                    simp only [wkr,wk,if_true,if_false,forall_const,implies_true,ne_eq,eq_self,Nat.reduceEqDiff,Nat.reduceAdd,Nat.reduceMul,Nat.reduceSub,Nat.reduceLeDiff,Nat.reduceLT,Int.reduceEq,Int.reduceLT,Int.reduceLE,Int.reduceAdd,Int.reduceSub,Int.reduceMul,Int.reduceNeg,Int.reduceNe,reduceCtorEq,Int.reduceToNat,↓reduceIte, eqTrue k5, hm2, Int.toNat_natCast, hd2, eqTrue m1, eqFalse m5, valL]
                    refine ⟨inR_of (by omega) (by omega), ⟨by omega, by omega⟩, inR_of (by omega) (by omega), ⟨by omega, by omega⟩, ?_⟩
                    rfl
                · rw [if_pos ⟨k5, by cases hb : b.role with | false => rfl | true => exact absurd (hro.1 hb).1 m1⟩]
                  simp only [wkr,wk,if_true,if_false,forall_const,implies_true,ne_eq,eq_self,Nat.reduceEqDiff,Nat.reduceAdd,Nat.reduceMul,Nat.reduceSub,Nat.reduceLeDiff,Nat.reduceLT,Int.reduceEq,Int.reduceLT,Int.reduceLE,Int.reduceAdd,Int.reduceSub,Int.reduceMul,Int.reduceNeg,Int.reduceNe,reduceCtorEq,Int.reduceToNat,↓reduceIte, eqTrue k5, hm2, Int.toNat_natCast, hd2, eqFalse m1, valL]
                  refine ⟨inR_of (by omega) (by omega), ⟨by omega, by omega⟩, ?_⟩
                  rfl
              · rw [if_neg (fun h => k5 h.1)]
                simp only [wkr,wk,if_true,if_false,forall_const,implies_true,ne_eq,eq_self,Nat.reduceEqDiff,Nat.reduceAdd,Nat.reduceMul,Nat.reduceSub,Nat.reduceLeDiff,Nat.reduceLT,Int.reduceEq,Int.reduceLT,Int.reduceLE,Int.reduceAdd,Int.reduceSub,Int.reduceMul,Int.reduceNeg,Int.reduceNe,reduceCtorEq,Int.reduceToNat,↓reduceIte, eqFalse k5, Int.toNat_natCast, hd3, Nat.sub_zero]
                refine ⟨⟨by omega, by omega, by rw [trsC_len, hlen]⟩, ?_⟩
                cases hL2 : lastX wrT f r with
                | none =>
                  rw [hL2] at ih2
                  simp only [partV] at ih2
                  refine PCalls.use (ih2) ?_; simp only [wkr,wk,if_true,if_false,forall_const,implies_true,ne_eq,eq_self,Nat.reduceEqDiff,Nat.reduceAdd,Nat.reduceMul,Nat.reduceSub,Nat.reduceLeDiff,Nat.reduceLT,Int.reduceEq,Int.reduceLT,Int.reduceLE,Int.reduceAdd,Int.reduceSub,Int.reduceMul,Int.reduceNeg,Int.reduceNe,reduceCtorEq,Int.reduceToNat,↓reduceIte]
                  simp only [wkr,wk,if_true,if_false,forall_const,implies_true,ne_eq,eq_self,Nat.reduceEqDiff,Nat.reduceAdd,Nat.reduceMul,Nat.reduceSub,Nat.reduceLeDiff,Nat.reduceLT,Int.reduceEq,Int.reduceLT,Int.reduceLE,Int.reduceAdd,Int.reduceSub,Int.reduceMul,Int.reduceNeg,Int.reduceNe,reduceCtorEq,Int.reduceToNat,↓reduceIte, valL]
                  rfl
                | some z =>
                  obtain ⟨a, r2⟩ := z
                  rw [hL2] at ih2
                  simp only [partV] at ih2
                  obtain ⟨oka, hrr⟩ := lastX_ok _ _ _ _ hL2
                  have sa := textE_size a (fun v hv => hny v (by rw [hy, hrr]; simp [hv]))
                  have sb := textE_size b (fun v hv => hny v (by rw [hy]; simp [hv]))
                  have la : a.post.length + b.post.length ≤ 200 := by
                    have h1 := congrArg List.length hy
                    have h2 := congrArg List.length hrr
                    simp only [List.length_append, List.length_reverse] at h1 h2; omega
                  have sw := wordT_sgn t.op
                  have hwt : wordT t.op t.name t.of = wordT t.op ⟨#[]⟩ 0 := by rw [hg.1, hg.2]
                  have da := deep_le a
                  have db := deep_le b
                  have da1 := deep_pos a
                  have db1 := deep_pos b
                  have ma : a.post.length * 1000100 ≤ 200 * 1000100 := Nat.mul_le_mul (by omega) (Nat.le_refl _)
                  have mb : b.post.length * 1000100 ≤ 200 * 1000100 := Nat.mul_le_mul (by omega) (Nat.le_refl _)
                  have c1 : (⟨#[40, 32]⟩ : ByteArray).size = 2 := rfl
                  have c2 : (⟨#[32, 41]⟩ : ByteArray).size = 2 := rfl
                  have c3 : (⟨#[32]⟩ : ByteArray).size = 1 := rfl
                  refine PCalls.use (ih2) ?_; simp only [wkr,wk,if_true,if_false,forall_const,implies_true,ne_eq,eq_self,Nat.reduceEqDiff,Nat.reduceAdd,Nat.reduceMul,Nat.reduceSub,Nat.reduceLeDiff,Nat.reduceLT,Int.reduceEq,Int.reduceLT,Int.reduceLE,Int.reduceAdd,Int.reduceSub,Int.reduceMul,Int.reduceNeg,Int.reduceNe,reduceCtorEq,Int.reduceToNat,↓reduceIte]
                  rw [hwt]
                  have hda : (Xp.op t.op a b).deep = (if a.deep < b.deep then b.deep else a.deep) + 1 := rfl
                  have hlev : (Xp.op t.op a b).lev = bindK t.op := rfl
                  simp only [partV, textE, hlev, hda]
                  rcases Classical.propComplete (a.lev < bindK t.op) with fa | fa <;> rcases Classical.propComplete (b.lev ≤ bindK t.op) with fb | fb <;> rcases Classical.propComplete (a.deep < b.deep) with fd | fd
                  all_goals
                    simp only [J_ref05_Last_j3, J_ref05_Last_j2, J_ref05_Last_j1, fa, fb, fd, valL, wkr,wk,if_true,if_false,forall_const,implies_true,ne_eq,eq_self,Nat.reduceEqDiff,Nat.reduceAdd,Nat.reduceMul,Nat.reduceSub,Nat.reduceLeDiff,Nat.reduceLT,Int.reduceEq,Int.reduceLT,Int.reduceLE,Int.reduceAdd,Int.reduceSub,Int.reduceMul,Int.reduceNeg,Int.reduceNe,reduceCtorEq,Int.reduceToNat,↓reduceIte]
                    (repeat' with_reducible refine And.intro ?_ ?_)
                    all_goals first | omega | (simp only [ByteArray.size_append]; omega) | exact inR_of (by omega) (by omega) | rfl | skip
          · rw [if_neg (fun h => hg h.2)]
            simp only [wkr,wk,if_true,if_false,forall_const,implies_true,ne_eq,eq_self,Nat.reduceEqDiff,Nat.reduceAdd,Nat.reduceMul,Nat.reduceSub,Nat.reduceLeDiff,Nat.reduceLT,Int.reduceEq,Int.reduceLT,Int.reduceLE,Int.reduceAdd,Int.reduceSub,Int.reduceMul,Int.reduceNeg,Int.reduceNe,reduceCtorEq,Int.reduceToNat,↓reduceIte, eqTrue (hw.2 hg), valL]
            rfl
        · have hb0 : bindK t.op = 0 := by have := bind_ge t.op; omega
          rw [if_neg (fun h => hs h.1)]
          by_cases hw : wordT t.op t.name t.of = ⟨#[]⟩
          · simp only [wkr,wk,if_true,if_false,forall_const,implies_true,ne_eq,eq_self,Nat.reduceEqDiff,Nat.reduceAdd,Nat.reduceMul,Nat.reduceSub,Nat.reduceLeDiff,Nat.reduceLT,Int.reduceEq,Int.reduceLT,Int.reduceLE,Int.reduceAdd,Int.reduceSub,Int.reduceMul,Int.reduceNeg,Int.reduceNe,reduceCtorEq,Int.reduceToNat,↓reduceIte, eqTrue hw, valL]
            rfl
          · simp only [wkr,wk,if_true,if_false,forall_const,implies_true,ne_eq,eq_self,Nat.reduceEqDiff,Nat.reduceAdd,Nat.reduceMul,Nat.reduceSub,Nat.reduceLeDiff,Nat.reduceLT,Int.reduceEq,Int.reduceLT,Int.reduceLE,Int.reduceAdd,Int.reduceSub,Int.reduceMul,Int.reduceNeg,Int.reduceNe,reduceCtorEq,Int.reduceToNat,↓reduceIte, eqFalse k1, eqFalse hw]
            refine PCalls.use (p_binds _) ?_; simp only [wkr,wk,if_true,if_false,forall_const,implies_true,ne_eq,eq_self,Nat.reduceEqDiff,Nat.reduceAdd,Nat.reduceMul,Nat.reduceSub,Nat.reduceLeDiff,Nat.reduceLT,Int.reduceEq,Int.reduceLT,Int.reduceLE,Int.reduceAdd,Int.reduceSub,Int.reduceMul,Int.reduceNeg,Int.reduceNe,reduceCtorEq,Int.reduceToNat,↓reduceIte]
            simp only [wkr,wk,if_true,if_false,forall_const,implies_true,ne_eq,eq_self,Nat.reduceEqDiff,Nat.reduceAdd,Nat.reduceMul,Nat.reduceSub,Nat.reduceLeDiff,Nat.reduceLT,Int.reduceEq,Int.reduceLT,Int.reduceLE,Int.reduceAdd,Int.reduceSub,Int.reduceMul,Int.reduceNeg,Int.reduceNe,reduceCtorEq,Int.reduceToNat,↓reduceIte, eqTrue hb0, valL]
            rfl
end Go.Proofs.Ytmbijfcjfhdnjaa

/- Expressions: the document's Text, May, Deep. -/
-- fast
-- rows
namespace Go.Proofs.Ytmbijfcjfhdnjaa
set_option linter.unusedSimpArgs false
set_option linter.unusedVariables false
open Go.RowKit Go.Lib

theorem join_joinS : ∀ l : List (List UInt8), Lib.join l [32] = joinS l
  | [] => rfl
  | [x] => by simp [Lib.join, Lib.joinTail, joinS]
  | x :: y :: r => by
    have := join_joinS (y :: r)
    rw [joinS_cons (by simp), ← this]
    simp [Lib.join, Lib.joinTail]
theorem textE_S : ∀ e : Xp, (textE e).data.toList = textS wl e
  | .atm t => rfl
  | .op k a b => by
    have h1 := textE_S a
    have h2 := textE_S b
    have w6 : wl (tokS 6) = [40] := rfl
    have w7 : wl (tokS 7) = [41] := rfl
    have wk : wl (tokS k) = (wordT k ⟨#[]⟩ 0).data.toList := rfl
    have c1 : (⟨#[40, 32]⟩ : ByteArray).data.toList = [40, 32] := rfl
    have c2 : (⟨#[32, 41]⟩ : ByteArray).data.toList = [32, 41] := rfl
    have c3 : (⟨#[32]⟩ : ByteArray).data.toList = [32] := rfl
    simp only [textE, textS]
    repeat' split
    all_goals simp only [ByteArray.data_append, Array.toList_append, h1, h2, w6, w7, wk, c1, c2, c3, List.cons_append, List.nil_append, List.append_assoc]
theorem textE_join (e : Xp) : joinB ((e.toks 0).map wrd) = textE e := by
  apply ByteArray.ext
  apply Array.toList_inj.1
  have h1 : (joinB ((e.toks 0).map wrd)).data.toList = Lib.join ((e.toks 0).map wl) [32] := joinB_wl _
  rw [h1, join_joinS, text_words wl e 0 (by decide), textE_S, if_neg]
  cases e with
  | atm t => show ¬ (5 : Int) < 0; decide
  | op k a b => have := bind_ge k; show ¬ bindK k < 0; omega
def zeroP : AV := .agg [.int .i64 0, .str ⟨#[]⟩, .int .i64 0, .int .i64 0]
def wholeV (x : List Trm) : AV := if 200 < x.length then .tup [zeroP, .bool false] else match lastX wrT x.length x.reverse with
  | none => .tup [zeroP, .bool false]
  | some (e, r) => .tup [.agg [.int .i64 r.length, .str (textE e), .int .i64 e.lev, .int .i64 e.deep], .bool (decide (r.length = 0))]
theorem wholeV_tree (x : List Trm) : match treeT x with
    | some e => wholeV x = .tup [.agg [.int .i64 0, .str (textE e), .int .i64 e.lev, .int .i64 e.deep], .bool true]
    | none => ∃ a b c d, wholeV x = .tup [.agg [.int .i64 a, .str b, .int .i64 c, .int .i64 d], .bool false] := by
  unfold treeT wholeV
  by_cases hl : x.length ≤ 200
  · rw [if_pos hl, if_neg (by omega), lastX_tree]
    cases lastX wrT x.length x.reverse with
    | none => exact ⟨_, _, _, _, rfl⟩
    | some z =>
      obtain ⟨e, r⟩ := z
      cases r with
      | nil => rfl
      | cons u r => exact ⟨_, _, _, _, rfl⟩
  · rw [if_neg hl, if_pos (by omega)]
    exact ⟨_, _, _, _, rfl⟩
theorem free_wholeV (x : List Trm) : free (wholeV x) = true := by
  unfold wholeV zeroP
  split
  · rfl
  · split <;> rfl
set_option maxRecDepth 100000 in
set_option maxHeartbeats 8000000 in
theorem p_whole (x : List Trm) (hl : x.length ≤ 9223372036854775807) (hn : ∀ t ∈ x, t.name.size ≤ 1000000) : PCalls Try.prog 47 [vTrs x] (wholeV x) := by
  refine pcalls_of (frees_vtrs x) (free_wholeV x) (acalls_of mixed J_ref05_whole_ok (Nat.le_of_ble_eq_true rfl) ?_); simp only [J_ref05_whole, vTrs, wkr,wk,if_true,if_false,forall_const,implies_true,ne_eq,eq_self,Nat.reduceEqDiff,Nat.reduceAdd,Nat.reduceMul,Nat.reduceSub,Nat.reduceLeDiff,Nat.reduceLT,Int.reduceEq,Int.reduceLT,Int.reduceLE,Int.reduceAdd,Int.reduceSub,Int.reduceMul,Int.reduceNeg,Int.reduceNe,reduceCtorEq,Int.reduceToNat,↓reduceIte]
  unfold wholeV
  refine ⟨fun h0 => ?_, fun h0 => ?_⟩
  · rw [if_pos (by omega)]
    simp only [wkr,wk,if_true,if_false,forall_const,implies_true,ne_eq,eq_self,Nat.reduceEqDiff,Nat.reduceAdd,Nat.reduceMul,Nat.reduceSub,Nat.reduceLeDiff,Nat.reduceLT,Int.reduceEq,Int.reduceLT,Int.reduceLE,Int.reduceAdd,Int.reduceSub,Int.reduceMul,Int.reduceNeg,Int.reduceNe,reduceCtorEq,Int.reduceToNat,↓reduceIte, valL]
    rfl
  · rw [if_neg (by omega)]
    have q := p_last x.length x (Nat.le_refl _) (by omega) hn
    simp only [vTrs] at q
    cases hL : lastX wrT x.length x.reverse with
    | none =>
      rw [hL] at q
      simp only [partV] at q
      refine PCalls.use (q) ?_; simp only [wkr,wk,if_true,if_false,forall_const,implies_true,ne_eq,eq_self,Nat.reduceEqDiff,Nat.reduceAdd,Nat.reduceMul,Nat.reduceSub,Nat.reduceLeDiff,Nat.reduceLT,Int.reduceEq,Int.reduceLT,Int.reduceLE,Int.reduceAdd,Int.reduceSub,Int.reduceMul,Int.reduceNeg,Int.reduceNe,reduceCtorEq,Int.reduceToNat,↓reduceIte]
      simp only [wkr,wk,if_true,if_false,forall_const,implies_true,ne_eq,eq_self,Nat.reduceEqDiff,Nat.reduceAdd,Nat.reduceMul,Nat.reduceSub,Nat.reduceLeDiff,Nat.reduceLT,Int.reduceEq,Int.reduceLT,Int.reduceLE,Int.reduceAdd,Int.reduceSub,Int.reduceMul,Int.reduceNeg,Int.reduceNe,reduceCtorEq,Int.reduceToNat,↓reduceIte, valL]
      rfl
    | some z =>
      obtain ⟨e, r⟩ := z
      rw [hL] at q
      simp only [partV] at q
      refine PCalls.use (q) ?_; simp only [wkr,wk,if_true,if_false,forall_const,implies_true,ne_eq,eq_self,Nat.reduceEqDiff,Nat.reduceAdd,Nat.reduceMul,Nat.reduceSub,Nat.reduceLeDiff,Nat.reduceLT,Int.reduceEq,Int.reduceLT,Int.reduceLE,Int.reduceAdd,Int.reduceSub,Int.reduceMul,Int.reduceNeg,Int.reduceNe,reduceCtorEq,Int.reduceToNat,↓reduceIte]
      simp only [wkr,wk,if_true,if_false,forall_const,implies_true,ne_eq,eq_self,Nat.reduceEqDiff,Nat.reduceAdd,Nat.reduceMul,Nat.reduceSub,Nat.reduceLeDiff,Nat.reduceLT,Int.reduceEq,Int.reduceLT,Int.reduceLE,Int.reduceAdd,Int.reduceSub,Int.reduceMul,Int.reduceNeg,Int.reduceNe,reduceCtorEq,Int.reduceToNat,↓reduceIte, valL]
      rw [show decide ((r.length : Int) = 0) = decide (r.length = 0) from decide_eq_decide.2 (by omega)]
set_option maxRecDepth 100000 in
theorem p_rmay (x : List Trm) (hl : x.length ≤ 9223372036854775807) (hn : ∀ t ∈ x, t.name.size ≤ 1000000) : PCalls Try.prog 25 [vTrs x] (.bool (treeT x).isSome) := by
  have q := p_whole x hl hn
  have h := wholeV_tree x
  simp only [vTrs] at q
  refine pcalls_of (frees_vtrs x) rfl (acalls_of mixed J_ref05_May_ok (Nat.le_of_ble_eq_true rfl) ?_); simp only [J_ref05_May, vTrs, wkr,wk,if_true,if_false,forall_const,implies_true,ne_eq,eq_self,Nat.reduceEqDiff,Nat.reduceAdd,Nat.reduceMul,Nat.reduceSub,Nat.reduceLeDiff,Nat.reduceLT,Int.reduceEq,Int.reduceLT,Int.reduceLE,Int.reduceAdd,Int.reduceSub,Int.reduceMul,Int.reduceNeg,Int.reduceNe,reduceCtorEq,Int.reduceToNat,↓reduceIte]
  cases ht : treeT x with
  | some e =>
    rw [ht] at h
    simp only at h
    rw [h] at q
    refine PCalls.use (q) ?_; simp only [wkr,wk,if_true,if_false,forall_const,implies_true,ne_eq,eq_self,Nat.reduceEqDiff,Nat.reduceAdd,Nat.reduceMul,Nat.reduceSub,Nat.reduceLeDiff,Nat.reduceLT,Int.reduceEq,Int.reduceLT,Int.reduceLE,Int.reduceAdd,Int.reduceSub,Int.reduceMul,Int.reduceNeg,Int.reduceNe,reduceCtorEq,Int.reduceToNat,↓reduceIte]
    rfl
  | none =>
    rw [ht] at h
    obtain ⟨a, b, c, d, h⟩ := h
    rw [h] at q
    refine PCalls.use (q) ?_; simp only [wkr,wk,if_true,if_false,forall_const,implies_true,ne_eq,eq_self,Nat.reduceEqDiff,Nat.reduceAdd,Nat.reduceMul,Nat.reduceSub,Nat.reduceLeDiff,Nat.reduceLT,Int.reduceEq,Int.reduceLT,Int.reduceLE,Int.reduceAdd,Int.reduceSub,Int.reduceMul,Int.reduceNeg,Int.reduceNe,reduceCtorEq,Int.reduceToNat,↓reduceIte]
    rfl
set_option maxRecDepth 100000 in
theorem p_rdeep (x : List Trm) (hl : x.length ≤ 9223372036854775807) (hn : ∀ t ∈ x, t.name.size ≤ 1000000) : PCalls Try.prog 27 [vTrs x] (.int .i64 (deepX x)) := by
  have q := p_whole x hl hn
  have h := wholeV_tree x
  simp only [vTrs] at q
  unfold deepX
  refine pcalls_of (frees_vtrs x) rfl (acalls_of mixed J_ref05_Deep_ok (Nat.le_of_ble_eq_true rfl) ?_); simp only [J_ref05_Deep, vTrs, wkr,wk,if_true,if_false,forall_const,implies_true,ne_eq,eq_self,Nat.reduceEqDiff,Nat.reduceAdd,Nat.reduceMul,Nat.reduceSub,Nat.reduceLeDiff,Nat.reduceLT,Int.reduceEq,Int.reduceLT,Int.reduceLE,Int.reduceAdd,Int.reduceSub,Int.reduceMul,Int.reduceNeg,Int.reduceNe,reduceCtorEq,Int.reduceToNat,↓reduceIte]
  cases ht : treeT x with
  | some e =>
    rw [ht] at h
    simp only at h
    rw [h] at q
    refine PCalls.use (q) ?_; simp only [wkr,wk,if_true,if_false,forall_const,implies_true,ne_eq,eq_self,Nat.reduceEqDiff,Nat.reduceAdd,Nat.reduceMul,Nat.reduceSub,Nat.reduceLeDiff,Nat.reduceLT,Int.reduceEq,Int.reduceLT,Int.reduceLE,Int.reduceAdd,Int.reduceSub,Int.reduceMul,Int.reduceNeg,Int.reduceNe,reduceCtorEq,Int.reduceToNat,↓reduceIte]
  | none =>
    rw [ht] at h
    obtain ⟨a, b, c, d, h⟩ := h
    rw [h] at q
    refine PCalls.use (q) ?_; simp only [wkr,wk,if_true,if_false,forall_const,implies_true,ne_eq,eq_self,Nat.reduceEqDiff,Nat.reduceAdd,Nat.reduceMul,Nat.reduceSub,Nat.reduceLeDiff,Nat.reduceLT,Int.reduceEq,Int.reduceLT,Int.reduceLE,Int.reduceAdd,Int.reduceSub,Int.reduceMul,Int.reduceNeg,Int.reduceNe,reduceCtorEq,Int.reduceToNat,↓reduceIte]
set_option maxRecDepth 100000 in
theorem p_rtext (x : List Trm) (hl : x.length ≤ 9223372036854775807) (hn : ∀ t ∈ x, t.name.size ≤ 1000000) : PCalls Try.prog 23 [vTrs x] (.tup [.str (textX x).1, .int .i64 (textX x).2]) := by
  have q := p_whole x hl hn
  have h := wholeV_tree x
  simp only [vTrs] at q
  unfold textX
  refine pcalls_of (frees_vtrs x) rfl (acalls_of mixed J_ref05_Text_ok (Nat.le_of_ble_eq_true rfl) ?_); simp only [J_ref05_Text, vTrs, wkr,wk,if_true,if_false,forall_const,implies_true,ne_eq,eq_self,Nat.reduceEqDiff,Nat.reduceAdd,Nat.reduceMul,Nat.reduceSub,Nat.reduceLeDiff,Nat.reduceLT,Int.reduceEq,Int.reduceLT,Int.reduceLE,Int.reduceAdd,Int.reduceSub,Int.reduceMul,Int.reduceNeg,Int.reduceNe,reduceCtorEq,Int.reduceToNat,↓reduceIte]
  cases ht : treeT x with
  | some e =>
    rw [ht] at h
    simp only at h
    rw [h] at q
    refine PCalls.use (q) ?_; simp only [wkr,wk,if_true,if_false,forall_const,implies_true,ne_eq,eq_self,Nat.reduceEqDiff,Nat.reduceAdd,Nat.reduceMul,Nat.reduceSub,Nat.reduceLeDiff,Nat.reduceLT,Int.reduceEq,Int.reduceLT,Int.reduceLE,Int.reduceAdd,Int.reduceSub,Int.reduceMul,Int.reduceNeg,Int.reduceNe,reduceCtorEq,Int.reduceToNat,↓reduceIte]
    rw [textE_join]
  | none =>
    rw [ht] at h
    obtain ⟨a, b, c, d, h⟩ := h
    rw [h] at q
    refine PCalls.use (q) ?_; simp only [wkr,wk,if_true,if_false,forall_const,implies_true,ne_eq,eq_self,Nat.reduceEqDiff,Nat.reduceAdd,Nat.reduceMul,Nat.reduceSub,Nat.reduceLeDiff,Nat.reduceLT,Int.reduceEq,Int.reduceLT,Int.reduceLE,Int.reduceAdd,Int.reduceSub,Int.reduceMul,Int.reduceNeg,Int.reduceNe,reduceCtorEq,Int.reduceToNat,↓reduceIte]
end Go.Proofs.Ytmbijfcjfhdnjaa

/- Expressions: the laws' own functions: same, large, awake. -/
-- fast
namespace Go.Proofs.Ytmbijfcjfhdnjaa
set_option linter.unusedSimpArgs false
set_option linter.unusedVariables false
open Go.RowKit Go.Lib

instance : DecidableEq Trm := fun a b => if h : a.op = b.op ∧ a.of = b.of ∧ a.name = b.name then isTrue (by cases a; cases b; simp_all) else isFalse (by rintro rfl; exact h ⟨rfl, rfl, rfl⟩)
theorem eq_trm (k k' : Int) (o o' : Int) (w w' : ByteArray) : eqCells [0, 0, 1] [.int .i64 k, .int .i64 o, .str w] [.int .i64 k', .int .i64 o', .str w'] = some (decide (k = k') && (decide (o = o') && decide (w = w'))) := by
  simp only [eqCells, eqCell, if_true, Bool.and_true]
theorem trm_ext {a b : Trm} (h1 : a.op = b.op) (h2 : a.of = b.of) (h3 : a.name = b.name) : a = b := by cases a; cases b; simp_all
set_option maxRecDepth 100000 in
set_option maxHeartbeats 4000000 in
theorem p_samex (a b : List Trm) (hla : a.length ≤ 1000000) (hlb : b.length ≤ 1000000) : PCalls Try.prog 18 [vTrs a, vTrs b] (.bool (decide (a = b))) := by
  refine pcalls_of (by simp [vTrs, free, free.frees, frees_trs]) rfl (ACalls.weak (acalls_of mixed J_law05_same_ok (Nat.le_of_ble_eq_true rfl) ?_)); simp only [J_law05_same, vTrs, wk,if_true,if_false,forall_const,implies_true,ne_eq,eq_self,Nat.reduceEqDiff,Nat.reduceAdd,Nat.reduceMul,Nat.reduceSub,Nat.reduceLeDiff,Nat.reduceLT,Int.reduceEq,Int.reduceLT,Int.reduceLE,Int.reduceAdd,Int.reduceSub,Int.reduceMul,Int.reduceNeg,Int.reduceNe,reduceCtorEq,Int.reduceToNat,↓reduceIte]
  refine ⟨fun hne => ?_, fun heq => ?_⟩
  · rw [decide_eq_false (by rintro rfl; exact hne rfl)]
    rfl
  have hl : a.length = b.length := by omega
  refine W_loop (fun n fr h' => ∃ i : Nat, i ≤ a.length ∧ n = a.length - i ∧ fr = [(0, .lst .ro a.length (trsC a)), (1, .lst .ro b.length (trsC b)), (12, .int .i64 a.length), (13, .int .i64 i)] ∧ ∀ j (ha : j < a.length) (hb : j < b.length), j < i → a[j] = b[j]) a.length ⟨0, by omega, by omega, rfl, fun j ha hb h => by omega⟩ ?_
  rintro n fr h' ⟨i, hi, rfl, rfl, hall⟩
  simp only [J_law05_same_j2, wk,if_true,if_false,forall_const,implies_true,ne_eq,eq_self,Nat.reduceEqDiff,Nat.reduceAdd,Nat.reduceMul,Nat.reduceSub,Nat.reduceLeDiff,Nat.reduceLT,Int.reduceEq,Int.reduceLT,Int.reduceLE,Int.reduceAdd,Int.reduceSub,Int.reduceMul,Int.reduceNeg,Int.reduceNe,reduceCtorEq,Int.reduceToNat,↓reduceIte]
  refine ⟨fun hlt => ?_, fun hge => ?_⟩
  · have hil : i < a.length := by omega
    have hib : i < b.length := by omega
    have hd : (trsC a).drop ((i : Int).toNat * 3) = _ := trsC_drop hil
    have hd2 : (trsC b).drop ((i : Int).toNat * 3) = _ := trsC_drop hib
    simp only [hd, hd2, wk,if_true,if_false,forall_const,implies_true,ne_eq,eq_self,Nat.reduceEqDiff,Nat.reduceAdd,Nat.reduceMul,Nat.reduceSub,Nat.reduceLeDiff,Nat.reduceLT,Int.reduceEq,Int.reduceLT,Int.reduceLE,Int.reduceAdd,Int.reduceSub,Int.reduceMul,Int.reduceNeg,Int.reduceNe,reduceCtorEq,Int.reduceToNat,↓reduceIte]
    refine ⟨⟨by omega, by omega⟩, ⟨by omega, by omega⟩, ?_⟩
    rw [eq_trm]
    simp only [Option.map_some, wk,if_true,if_false,forall_const,implies_true,ne_eq,eq_self,Nat.reduceEqDiff,Nat.reduceAdd,Nat.reduceMul,Nat.reduceSub,Nat.reduceLeDiff,Nat.reduceLT,Int.reduceEq,Int.reduceLT,Int.reduceLE,Int.reduceAdd,Int.reduceSub,Int.reduceMul,Int.reduceNeg,Int.reduceNe,reduceCtorEq,Int.reduceToNat,↓reduceIte]
    refine ⟨fun h => ?_, fun h => ⟨inR_of (by omega) (by omega), a.length - (i + 1), by omega, i + 1, by omega, rfl, rfl, ?_⟩⟩
    · rw [decide_eq_false (by rintro rfl; simp at h)]
      rfl
    · intro j ha hb hj
      by_cases hji : j = i
      · subst hji
        simp only [Bool.and_eq_true, decide_eq_true_eq] at h
        exact trm_ext h.1 h.2.1 h.2.2
      · exact hall j ha hb (by omega)
  · simp only [J_law05_same_j1, wk,if_true,if_false,forall_const,implies_true,ne_eq,eq_self,Nat.reduceEqDiff,Nat.reduceAdd,Nat.reduceMul,Nat.reduceSub,Nat.reduceLeDiff,Nat.reduceLT,Int.reduceEq,Int.reduceLT,Int.reduceLE,Int.reduceAdd,Int.reduceSub,Int.reduceMul,Int.reduceNeg,Int.reduceNe,reduceCtorEq,Int.reduceToNat,↓reduceIte]
    rw [decide_eq_true (List.ext_getElem hl fun j ha hb => hall j ha hb (by omega))]
    rfl
def largeX (l : List Trm) : Bool := decide (300 < l.length) || l.any fun t => decide (100 < t.name.size)
set_option maxRecDepth 100000 in
set_option maxHeartbeats 4000000 in
theorem p_largex (l : List Trm) (hl : l.length ≤ 9223372036854775807) : PCalls Try.prog 21 [vTrs l] (.bool (largeX l)) := by
  refine pcalls_of (frees_vtrs l) rfl (acalls_of mixed J_law05_large_ok (Nat.le_of_ble_eq_true rfl) ?_); simp only [J_law05_large, vTrs, wk,if_true,if_false,forall_const,implies_true,ne_eq,eq_self,Nat.reduceEqDiff,Nat.reduceAdd,Nat.reduceMul,Nat.reduceSub,Nat.reduceLeDiff,Nat.reduceLT,Int.reduceEq,Int.reduceLT,Int.reduceLE,Int.reduceAdd,Int.reduceSub,Int.reduceMul,Int.reduceNeg,Int.reduceNe,reduceCtorEq,Int.reduceToNat,↓reduceIte]
  refine ⟨fun hbig => ?_, fun hbig => ?_⟩
  · unfold largeX
    rw [decide_eq_true (show 300 < l.length by omega), Bool.true_or]
  refine W_loop (fun n fr h' => ∃ i : Nat, i ≤ l.length ∧ n = l.length - i ∧ fr = [(0, .lst .ro l.length (trsC l)), (8, .int .i64 l.length), (9, .int .i64 i)] ∧ ∀ t ∈ l.take i, ¬ 100 < t.name.size) l.length ⟨0, by omega, by omega, rfl, by simp⟩ ?_
  rintro n fr h' ⟨i, hi, rfl, rfl, hall⟩
  simp only [J_law05_large_j2, wk,if_true,if_false,forall_const,implies_true,ne_eq,eq_self,Nat.reduceEqDiff,Nat.reduceAdd,Nat.reduceMul,Nat.reduceSub,Nat.reduceLeDiff,Nat.reduceLT,Int.reduceEq,Int.reduceLT,Int.reduceLE,Int.reduceAdd,Int.reduceSub,Int.reduceMul,Int.reduceNeg,Int.reduceNe,reduceCtorEq,Int.reduceToNat,↓reduceIte]
  refine ⟨fun hlt => ?_, fun hge => ?_⟩
  · have hil : i < l.length := by omega
    have hd : (trsC l).drop ((i : Int).toNat * 3) = _ := trsC_drop hil
    refine ⟨⟨by omega, by omega⟩, ?_⟩
    simp only [hd, wk,if_true,if_false,forall_const,implies_true,ne_eq,eq_self,Nat.reduceEqDiff,Nat.reduceAdd,Nat.reduceMul,Nat.reduceSub,Nat.reduceLeDiff,Nat.reduceLT,Int.reduceEq,Int.reduceLT,Int.reduceLE,Int.reduceAdd,Int.reduceSub,Int.reduceMul,Int.reduceNeg,Int.reduceNe,reduceCtorEq,Int.reduceToNat,↓reduceIte]
    refine ⟨fun h => ?_, fun h => ⟨inR_of (by omega) (by omega), l.length - (i + 1), by omega, i + 1, by omega, rfl, rfl, ?_⟩⟩
    · have : l.any (fun t => decide (100 < t.name.size)) = true := List.any_eq_true.2 ⟨_, List.getElem_mem hil, decide_eq_true (by omega)⟩
      unfold largeX
      rw [this, Bool.or_true]
    · intro t ht
      rw [List.take_succ_eq_append_getElem hil] at ht
      rcases List.mem_append.1 ht with ht | ht
      · exact hall t ht
      · simp at ht; subst ht; omega
  · rw [List.take_of_length_le (by omega)] at hall
    simp only [J_law05_large_j1, wk,if_true,if_false,forall_const,implies_true,ne_eq,eq_self,Nat.reduceEqDiff,Nat.reduceAdd,Nat.reduceMul,Nat.reduceSub,Nat.reduceLeDiff,Nat.reduceLT,Int.reduceEq,Int.reduceLT,Int.reduceLE,Int.reduceAdd,Int.reduceSub,Int.reduceMul,Int.reduceNeg,Int.reduceNe,reduceCtorEq,Int.reduceToNat,↓reduceIte]
    unfold largeX
    rw [decide_eq_false (show ¬ 300 < l.length by omega), Bool.false_or]
    congr 1
    symm
    rw [List.any_eq_false]
    intro t ht
    simpa using hall t ht
theorem largeX_no {l : List Trm} (h : largeX l = false) : l.length ≤ 300 ∧ ∀ t ∈ l, t.name.size ≤ 100 := by
  unfold largeX at h
  rw [Bool.or_eq_false_iff] at h
  refine ⟨by have := of_decide_eq_false h.1; omega, fun t ht => ?_⟩
  have := List.any_eq_false.1 h.2 t ht
  simpa using this
/-- a and b|c as role:r -/
def s1 : ByteArray := ⟨#[97, 32, 97, 110, 100, 32, 98, 124, 99, 32, 97, 115, 32, 114, 111, 108, 101, 58, 114]⟩
def s2 : ByteArray := ⟨#[97, 32, 97, 110, 100, 32, 97, 110, 100]⟩
def s3 : ByteArray := ⟨#[97, 32, 102, 111, 114, 32, 40, 98, 32, 102, 111, 114, 32, 99, 41]⟩
def X1 : List Trm := [⟨1, 3, ⟨#[97]⟩⟩, ⟨1, 3, ⟨#[98]⟩⟩, ⟨1, 3, ⟨#[99]⟩⟩, ⟨1, 5, ⟨#[114]⟩⟩, ⟨5, 0, ⟨#[]⟩⟩, ⟨4, 0, ⟨#[]⟩⟩, ⟨2, 0, ⟨#[]⟩⟩]
def X3 : List Trm := [⟨1, 3, ⟨#[97]⟩⟩, ⟨1, 3, ⟨#[98]⟩⟩, ⟨1, 3, ⟨#[99]⟩⟩, ⟨3, 0, ⟨#[]⟩⟩, ⟨3, 0, ⟨#[]⟩⟩]
theorem parse_s1 : parseR s1 = (X1, 0, 0) := by kernel_rfl
theorem parse_s2 : parseR s2 = ([], 6, 2) := by kernel_rfl
theorem parse_s3 : parseR s3 = (X3, 0, 0) := by kernel_rfl
theorem text_X1 : textX X1 = (⟨#[97, 32, 97, 110, 100, 32, 98, 32, 124, 32, 99, 32, 97, 115, 32, 114, 111, 108, 101, 58, 114]⟩, 0) := by kernel_rfl
theorem text_X3 : textX X3 = (⟨#[97, 32, 102, 111, 114, 32, 40, 32, 98, 32, 102, 111, 114, 32, 99, 32, 41]⟩, 0) := by kernel_rfl
theorem may_X1 : (treeT X1).isSome = true := by kernel_rfl
theorem may_nil : (treeT []).isSome = false := by kernel_rfl
theorem deep_X1 : deepX X1 = 4 := by kernel_rfl
set_option maxRecDepth 100000 in
set_option maxHeartbeats 4000000 in
theorem p_awake05 : PCalls Try.prog 15 [] (.bool true) := by
  have q1 := p_parse s1 (by decide)
  have q2 := p_parse s2 (by decide)
  have q3 := p_parse s3 (by decide)
  have q4 := p_text X1 (by decide) (by decide)
  have q5 := p_text X3 (by decide) (by decide)
  have q6 := p_may X1 (by decide) (by decide)
  have q7 := PCalls.argd (args := [.lst .clip 0 []]) (v := .bool false) (by have := p_may [] (by decide) (by simp); rw [may_nil] at this; simpa only [rdpw, vTrs, trsC_nil, List.length_nil] using this)
  have q8 := p_deep X1 (by decide) (by decide)
  rw [parse_s1] at q1
  rw [parse_s2] at q2
  rw [parse_s3] at q3
  rw [text_X1] at q4
  rw [text_X3] at q5
  rw [may_X1] at q6
  rw [deep_X1] at q8
  simp only [resI, vTrs, trsC, X1, X3, List.flatMap_cons, List.flatMap_nil, trC, List.cons_append, List.nil_append, List.length_cons, List.length_nil] at q1 q2 q3 q4 q5 q6 q8
  refine pcalls_of (by first | rfl | simp [free, free.frees, frees_str, frees_u8, frees_u16]) (by first | rfl | simp [free, free.frees, frees_str, frees_u8, frees_u16]) (acalls_of mixed J_law05_awake_ok (Nat.le_of_ble_eq_true rfl) ?_); simp only [J_law05_awake, wk,if_true,if_false,forall_const,implies_true,ne_eq,eq_self,Nat.reduceEqDiff,Nat.reduceAdd,Nat.reduceMul,Nat.reduceSub,Nat.reduceLeDiff,Nat.reduceLT,Int.reduceEq,Int.reduceLT,Int.reduceLE,Int.reduceAdd,Int.reduceSub,Int.reduceMul,Int.reduceNeg,Int.reduceNe,reduceCtorEq,Int.reduceToNat,↓reduceIte]
  refine PCalls.use (q1) ?_; simp only [wk,if_true,if_false,forall_const,implies_true,ne_eq,eq_self,Nat.reduceEqDiff,Nat.reduceAdd,Nat.reduceMul,Nat.reduceSub,Nat.reduceLeDiff,Nat.reduceLT,Int.reduceEq,Int.reduceLT,Int.reduceLE,Int.reduceAdd,Int.reduceSub,Int.reduceMul,Int.reduceNeg,Int.reduceNe,reduceCtorEq,Int.reduceToNat,↓reduceIte]
  refine PCalls.use (q4) ?_; simp only [wk,if_true,if_false,forall_const,implies_true,ne_eq,eq_self,Nat.reduceEqDiff,Nat.reduceAdd,Nat.reduceMul,Nat.reduceSub,Nat.reduceLeDiff,Nat.reduceLT,Int.reduceEq,Int.reduceLT,Int.reduceLE,Int.reduceAdd,Int.reduceSub,Int.reduceMul,Int.reduceNeg,Int.reduceNe,reduceCtorEq,Int.reduceToNat,↓reduceIte]
  refine PCalls.use (q2) ?_; simp only [wk,if_true,if_false,forall_const,implies_true,ne_eq,eq_self,Nat.reduceEqDiff,Nat.reduceAdd,Nat.reduceMul,Nat.reduceSub,Nat.reduceLeDiff,Nat.reduceLT,Int.reduceEq,Int.reduceLT,Int.reduceLE,Int.reduceAdd,Int.reduceSub,Int.reduceMul,Int.reduceNeg,Int.reduceNe,reduceCtorEq,Int.reduceToNat,↓reduceIte]
  refine PCalls.use (q3) ?_; simp only [wk,if_true,if_false,forall_const,implies_true,ne_eq,eq_self,Nat.reduceEqDiff,Nat.reduceAdd,Nat.reduceMul,Nat.reduceSub,Nat.reduceLeDiff,Nat.reduceLT,Int.reduceEq,Int.reduceLT,Int.reduceLE,Int.reduceAdd,Int.reduceSub,Int.reduceMul,Int.reduceNeg,Int.reduceNe,reduceCtorEq,Int.reduceToNat,↓reduceIte]
  refine PCalls.use (q5) ?_; simp only [wk,if_true,if_false,forall_const,implies_true,ne_eq,eq_self,Nat.reduceEqDiff,Nat.reduceAdd,Nat.reduceMul,Nat.reduceSub,Nat.reduceLeDiff,Nat.reduceLT,Int.reduceEq,Int.reduceLT,Int.reduceLE,Int.reduceAdd,Int.reduceSub,Int.reduceMul,Int.reduceNeg,Int.reduceNe,reduceCtorEq,Int.reduceToNat,↓reduceIte]
  repeat' (first | (refine PCalls.use q6 ?_; simp only [wk,if_true,if_false,forall_const,implies_true,ne_eq,eq_self,Nat.reduceEqDiff,Nat.reduceAdd,Nat.reduceMul,Nat.reduceSub,Nat.reduceLeDiff,Nat.reduceLT,Int.reduceEq,Int.reduceLT,Int.reduceLE,Int.reduceAdd,Int.reduceSub,Int.reduceMul,Int.reduceNeg,Int.reduceNe,reduceCtorEq,Int.reduceToNat,↓reduceIte]) | (refine PCalls.use q7 ?_; simp only [wk,if_true,if_false,forall_const,implies_true,ne_eq,eq_self,Nat.reduceEqDiff,Nat.reduceAdd,Nat.reduceMul,Nat.reduceSub,Nat.reduceLeDiff,Nat.reduceLT,Int.reduceEq,Int.reduceLT,Int.reduceLE,Int.reduceAdd,Int.reduceSub,Int.reduceMul,Int.reduceNeg,Int.reduceNe,reduceCtorEq,Int.reduceToNat,↓reduceIte]) | (refine PCalls.use q8 ?_; simp only [wk,if_true,if_false,forall_const,implies_true,ne_eq,eq_self,Nat.reduceEqDiff,Nat.reduceAdd,Nat.reduceMul,Nat.reduceSub,Nat.reduceLeDiff,Nat.reduceLT,Int.reduceEq,Int.reduceLT,Int.reduceLE,Int.reduceAdd,Int.reduceSub,Int.reduceMul,Int.reduceNeg,Int.reduceNe,reduceCtorEq,Int.reduceToNat,↓reduceIte]) | (with_reducible refine And.intro ?_ ?_) | intro _)
  all_goals first
    | decide
    | rfl
    | exact absurd rfl (by assumption)
end Go.Proofs.Ytmbijfcjfhdnjaa

/- ExprParses, ExprReads, ExprWrites. -/
-- fast
namespace Go.Proofs.Ytmbijfcjfhdnjaa
set_option linter.unusedSimpArgs false
set_option linter.unusedVariables false
open Go.RowKit Go.Lib

theorem readR_len {wd : Tok → Bool} (l : List Tok) : (readR wd l).1.length ≤ l.length := by
  unfold readR
  have := readD_size l
  repeat' split
  all_goals first | (simp; done) | omega
theorem parseR_len (s : ByteArray) : (parseR s).1.length ≤ 1000 := by
  have h1 := readR_len (wd := wdB) (allT s).1
  have h2 := allT_len s
  unfold parseR
  repeat' split
  all_goals first | (simp; done) | (simp only; omega)
set_option maxRecDepth 100000 in
set_option maxHeartbeats 4000000 in
theorem p_parses (s : ByteArray) : PCalls Try.prog 5 [.str s] (.bool true) := by
  refine pcalls_of (by first | rfl | simp [free, free.frees, frees_str, frees_u8, frees_u16]) (by first | rfl | simp [free, free.frees, frees_str, frees_u8, frees_u16]) (acalls_of mixed J_law05_ExprParses_ok (Nat.le_of_ble_eq_true rfl) ?_); simp only [J_law05_ExprParses, wk,if_true,if_false,forall_const,implies_true,ne_eq,eq_self,Nat.reduceEqDiff,Nat.reduceAdd,Nat.reduceMul,Nat.reduceSub,Nat.reduceLeDiff,Nat.reduceLT,Int.reduceEq,Int.reduceLT,Int.reduceLE,Int.reduceAdd,Int.reduceSub,Int.reduceMul,Int.reduceNeg,Int.reduceNe,reduceCtorEq,Int.reduceToNat,↓reduceIte]
  refine PCalls.use (p_awake05) ?_; simp only [wk,if_true,if_false,forall_const,implies_true,ne_eq,eq_self,Nat.reduceEqDiff,Nat.reduceAdd,Nat.reduceMul,Nat.reduceSub,Nat.reduceLeDiff,Nat.reduceLT,Int.reduceEq,Int.reduceLT,Int.reduceLE,Int.reduceAdd,Int.reduceSub,Int.reduceMul,Int.reduceNeg,Int.reduceNe,reduceCtorEq,Int.reduceToNat,↓reduceIte]
  intro hs
  have q1 := p_parse s (by omega)
  have q2 := p_rparse s (by omega)
  have hl := parseR_len s
  have q3 := p_samex (parseR s).1 (parseR s).1 (by omega) (by omega)
  simp only [resI, vTrs] at q1 q2 q3
  refine PCalls.use (q1) ?_; simp only [wk,if_true,if_false,forall_const,implies_true,ne_eq,eq_self,Nat.reduceEqDiff,Nat.reduceAdd,Nat.reduceMul,Nat.reduceSub,Nat.reduceLeDiff,Nat.reduceLT,Int.reduceEq,Int.reduceLT,Int.reduceLE,Int.reduceAdd,Int.reduceSub,Int.reduceMul,Int.reduceNeg,Int.reduceNe,reduceCtorEq,Int.reduceToNat,↓reduceIte]
  refine PCalls.use (q2) ?_; simp only [wk,if_true,if_false,forall_const,implies_true,ne_eq,eq_self,Nat.reduceEqDiff,Nat.reduceAdd,Nat.reduceMul,Nat.reduceSub,Nat.reduceLeDiff,Nat.reduceLT,Int.reduceEq,Int.reduceLT,Int.reduceLE,Int.reduceAdd,Int.reduceSub,Int.reduceMul,Int.reduceNeg,Int.reduceNe,reduceCtorEq,Int.reduceToNat,↓reduceIte]
  refine PCalls.use (q3) ?_; simp only [wk,if_true,if_false,forall_const,implies_true,ne_eq,eq_self,Nat.reduceEqDiff,Nat.reduceAdd,Nat.reduceMul,Nat.reduceSub,Nat.reduceLeDiff,Nat.reduceLT,Int.reduceEq,Int.reduceLT,Int.reduceLE,Int.reduceAdd,Int.reduceSub,Int.reduceMul,Int.reduceNeg,Int.reduceNe,reduceCtorEq,Int.reduceToNat,↓reduceIte]
set_option maxRecDepth 100000 in
set_option maxHeartbeats 4000000 in
theorem p_exwrites (x : List Trm) (hl : x.length ≤ 9223372036854775807) : PCalls Try.prog 7 [vTrs x] (.bool true) := by
  have h2 := p_largex x hl
  simp only [vTrs] at h2
  refine pcalls_of (frees_vtrs x) rfl (acalls_of mixed J_law05_ExprWrites_ok (Nat.le_of_ble_eq_true rfl) ?_); simp only [J_law05_ExprWrites, vTrs, wk,if_true,if_false,forall_const,implies_true,ne_eq,eq_self,Nat.reduceEqDiff,Nat.reduceAdd,Nat.reduceMul,Nat.reduceSub,Nat.reduceLeDiff,Nat.reduceLT,Int.reduceEq,Int.reduceLT,Int.reduceLE,Int.reduceAdd,Int.reduceSub,Int.reduceMul,Int.reduceNeg,Int.reduceNe,reduceCtorEq,Int.reduceToNat,↓reduceIte]
  refine PCalls.use (p_awake05) ?_; simp only [wk,if_true,if_false,forall_const,implies_true,ne_eq,eq_self,Nat.reduceEqDiff,Nat.reduceAdd,Nat.reduceMul,Nat.reduceSub,Nat.reduceLeDiff,Nat.reduceLT,Int.reduceEq,Int.reduceLT,Int.reduceLE,Int.reduceAdd,Int.reduceSub,Int.reduceMul,Int.reduceNeg,Int.reduceNe,reduceCtorEq,Int.reduceToNat,↓reduceIte]
  refine PCalls.use (h2) ?_; simp only [wk,if_true,if_false,forall_const,implies_true,ne_eq,eq_self,Nat.reduceEqDiff,Nat.reduceAdd,Nat.reduceMul,Nat.reduceSub,Nat.reduceLeDiff,Nat.reduceLT,Int.reduceEq,Int.reduceLT,Int.reduceLE,Int.reduceAdd,Int.reduceSub,Int.reduceMul,Int.reduceNeg,Int.reduceNe,reduceCtorEq,Int.reduceToNat,↓reduceIte]
  intro hlg
  obtain ⟨hx, hn0⟩ := largeX_no hlg
  have hn : ∀ t ∈ x, t.name.size ≤ 1000000 := fun t ht => by have := hn0 t ht; omega
  have q1 := p_text x hl hn
  have q2 := p_rtext x hl hn
  have q3 := p_may x hl hn
  have q4 := p_rmay x hl hn
  have q5 := p_deep x hl hn
  have q6 := p_rdeep x hl hn
  have q7 := p_samex x x (by omega) (by omega)
  simp only [vTrs, decide_true] at q1 q2 q3 q4 q5 q6 q7
  refine ⟨⟨trsC_len x, by omega, by omega⟩, ?_⟩
  refine PCalls.use (q1) ?_; simp only [wk,if_true,if_false,forall_const,implies_true,ne_eq,eq_self,Nat.reduceEqDiff,Nat.reduceAdd,Nat.reduceMul,Nat.reduceSub,Nat.reduceLeDiff,Nat.reduceLT,Int.reduceEq,Int.reduceLT,Int.reduceLE,Int.reduceAdd,Int.reduceSub,Int.reduceMul,Int.reduceNeg,Int.reduceNe,reduceCtorEq,Int.reduceToNat,↓reduceIte]
  refine PCalls.use (q2) ?_; simp only [wk,if_true,if_false,forall_const,implies_true,ne_eq,eq_self,Nat.reduceEqDiff,Nat.reduceAdd,Nat.reduceMul,Nat.reduceSub,Nat.reduceLeDiff,Nat.reduceLT,Int.reduceEq,Int.reduceLT,Int.reduceLE,Int.reduceAdd,Int.reduceSub,Int.reduceMul,Int.reduceNeg,Int.reduceNe,reduceCtorEq,Int.reduceToNat,↓reduceIte]
  refine PCalls.use (q3) ?_; simp only [wk,if_true,if_false,forall_const,implies_true,ne_eq,eq_self,Nat.reduceEqDiff,Nat.reduceAdd,Nat.reduceMul,Nat.reduceSub,Nat.reduceLeDiff,Nat.reduceLT,Int.reduceEq,Int.reduceLT,Int.reduceLE,Int.reduceAdd,Int.reduceSub,Int.reduceMul,Int.reduceNeg,Int.reduceNe,reduceCtorEq,Int.reduceToNat,↓reduceIte]
  refine PCalls.use (q4) ?_; simp only [wk,if_true,if_false,forall_const,implies_true,ne_eq,eq_self,Nat.reduceEqDiff,Nat.reduceAdd,Nat.reduceMul,Nat.reduceSub,Nat.reduceLeDiff,Nat.reduceLT,Int.reduceEq,Int.reduceLT,Int.reduceLE,Int.reduceAdd,Int.reduceSub,Int.reduceMul,Int.reduceNeg,Int.reduceNe,reduceCtorEq,Int.reduceToNat,↓reduceIte]
  refine PCalls.use (q5) ?_; simp only [wk,if_true,if_false,forall_const,implies_true,ne_eq,eq_self,Nat.reduceEqDiff,Nat.reduceAdd,Nat.reduceMul,Nat.reduceSub,Nat.reduceLeDiff,Nat.reduceLT,Int.reduceEq,Int.reduceLT,Int.reduceLE,Int.reduceAdd,Int.reduceSub,Int.reduceMul,Int.reduceNeg,Int.reduceNe,reduceCtorEq,Int.reduceToNat,↓reduceIte]
  refine PCalls.use (q6) ?_; simp only [wk,if_true,if_false,forall_const,implies_true,ne_eq,eq_self,Nat.reduceEqDiff,Nat.reduceAdd,Nat.reduceMul,Nat.reduceSub,Nat.reduceLeDiff,Nat.reduceLT,Int.reduceEq,Int.reduceLT,Int.reduceLE,Int.reduceAdd,Int.reduceSub,Int.reduceMul,Int.reduceNeg,Int.reduceNe,reduceCtorEq,Int.reduceToNat,↓reduceIte]
  refine PCalls.use (q7) ?_; simp only [wk,if_true,if_false,forall_const,implies_true,ne_eq,eq_self,Nat.reduceEqDiff,Nat.reduceAdd,Nat.reduceMul,Nat.reduceSub,Nat.reduceLeDiff,Nat.reduceLT,Int.reduceEq,Int.reduceLT,Int.reduceLE,Int.reduceAdd,Int.reduceSub,Int.reduceMul,Int.reduceNeg,Int.reduceNe,reduceCtorEq,Int.reduceToNat,↓reduceIte]
set_option maxRecDepth 100000 in
set_option maxHeartbeats 4000000 in
theorem p_exreads (l : List Tok) (hl : l.length ≤ 9223372036854775807) : PCalls Try.prog 6 [vToks l] (.bool true) := by
  refine pcalls_of (by simp [vToks, free, free.frees, frees_toks]) rfl (acalls_of mixed J_law05_ExprReads_ok (Nat.le_of_ble_eq_true rfl) ?_); simp only [J_law05_ExprReads, vToks, wk,if_true,if_false,forall_const,implies_true,ne_eq,eq_self,Nat.reduceEqDiff,Nat.reduceAdd,Nat.reduceMul,Nat.reduceSub,Nat.reduceLeDiff,Nat.reduceLT,Int.reduceEq,Int.reduceLT,Int.reduceLE,Int.reduceAdd,Int.reduceSub,Int.reduceMul,Int.reduceNeg,Int.reduceNe,reduceCtorEq,Int.reduceToNat,↓reduceIte]
  refine PCalls.use (p_awake05) ?_; simp only [wk,if_true,if_false,forall_const,implies_true,ne_eq,eq_self,Nat.reduceEqDiff,Nat.reduceAdd,Nat.reduceMul,Nat.reduceSub,Nat.reduceLeDiff,Nat.reduceLT,Int.reduceEq,Int.reduceLT,Int.reduceLE,Int.reduceAdd,Int.reduceSub,Int.reduceMul,Int.reduceNeg,Int.reduceNe,reduceCtorEq,Int.reduceToNat,↓reduceIte]
  intro h5
  refine W_loop (fun m fr h' => ∃ i : Nat, i ≤ l.length ∧ m = l.length - i ∧ (∀ t ∈ l.take i, t.name.size ≤ 100) ∧ fr = [(0, .lst .ro l.length (toksC l)), (18, .int .i64 l.length), (19, .int .i64 i)]) l.length ⟨0, by omega, by omega, by simp, rfl⟩ ?_
  rintro m fr h' ⟨i, hi, rfl, hw, rfl⟩
  simp only [J_law05_ExprReads_j4, wk,if_true,if_false,forall_const,implies_true,ne_eq,eq_self,Nat.reduceEqDiff,Nat.reduceAdd,Nat.reduceMul,Nat.reduceSub,Nat.reduceLeDiff,Nat.reduceLT,Int.reduceEq,Int.reduceLT,Int.reduceLE,Int.reduceAdd,Int.reduceSub,Int.reduceMul,Int.reduceNeg,Int.reduceNe,reduceCtorEq,Int.reduceToNat,↓reduceIte]
  refine ⟨fun hlt => ?_, fun hge => ?_⟩
  · have hil : i < l.length := by omega
    have hd : (toksC l).drop ((i : Int).toNat * 4) = _ := toksC_drop hil
    refine ⟨⟨by omega, by omega⟩, ?_⟩
    simp only [wk,if_true,if_false,forall_const,implies_true,ne_eq,eq_self,Nat.reduceEqDiff,Nat.reduceAdd,Nat.reduceMul,Nat.reduceSub,Nat.reduceLeDiff,Nat.reduceLT,Int.reduceEq,Int.reduceLT,Int.reduceLE,Int.reduceAdd,Int.reduceSub,Int.reduceMul,Int.reduceNeg,Int.reduceNe,reduceCtorEq,Int.reduceToNat,↓reduceIte, hd]
    refine fun h => ⟨inR_of (by omega) (by omega), l.length - (i + 1), by omega, i + 1, by omega, rfl, ?_, rfl⟩
    intro t ht
    rw [List.take_succ_eq_append_getElem hil] at ht
    rcases List.mem_append.1 ht with ht | ht
    · exact hw t ht
    · simp at ht; subst ht; omega
  · rw [List.take_of_length_le (by omega)] at hw
    have hn : ∀ t ∈ l, t.name.size ≤ 1000000 := fun t ht => by have := hw t ht; omega
    have q1 := p_read l (by omega) hn
    have q2 := p_rread l (by omega) hn
    have hrl := readR_len (wd := wdB) l
    have q3 := p_samex (readR wdB l).1 (readR wdB l).1 (by omega) (by omega)
    simp only [vToks, vTrs, resX, decide_true] at q1 q2 q3
    simp only [J_law05_ExprReads_j3, wk,if_true,if_false,forall_const,implies_true,ne_eq,eq_self,Nat.reduceEqDiff,Nat.reduceAdd,Nat.reduceMul,Nat.reduceSub,Nat.reduceLeDiff,Nat.reduceLT,Int.reduceEq,Int.reduceLT,Int.reduceLE,Int.reduceAdd,Int.reduceSub,Int.reduceMul,Int.reduceNeg,Int.reduceNe,reduceCtorEq,Int.reduceToNat,↓reduceIte]
    refine ⟨⟨toksC_len l, by omega, by omega⟩, ?_⟩
    refine PCalls.use (q1) ?_; simp only [wk,if_true,if_false,forall_const,implies_true,ne_eq,eq_self,Nat.reduceEqDiff,Nat.reduceAdd,Nat.reduceMul,Nat.reduceSub,Nat.reduceLeDiff,Nat.reduceLT,Int.reduceEq,Int.reduceLT,Int.reduceLE,Int.reduceAdd,Int.reduceSub,Int.reduceMul,Int.reduceNeg,Int.reduceNe,reduceCtorEq,Int.reduceToNat,↓reduceIte]
    refine PCalls.use (q2) ?_; simp only [wk,if_true,if_false,forall_const,implies_true,ne_eq,eq_self,Nat.reduceEqDiff,Nat.reduceAdd,Nat.reduceMul,Nat.reduceSub,Nat.reduceLeDiff,Nat.reduceLT,Int.reduceEq,Int.reduceLT,Int.reduceLE,Int.reduceAdd,Int.reduceSub,Int.reduceMul,Int.reduceNeg,Int.reduceNe,reduceCtorEq,Int.reduceToNat,↓reduceIte]
    refine W_loop (fun m fr h' => ∃ i : Nat, i ≤ l.length ∧ m = l.length - i ∧ fr = [(0, .lst .ro l.length (toksC l)), (4, .lst (.own 28) l.length (toksC l)), (5, .lst .ro (readR wdB l).1.length (trsC (readR wdB l).1)), (6, .int .i64 ((readR wdB l).2.1 : Nat)), (7, .int .i64 (readR wdB l).2.2), (8, .lst .ro (readR wdB l).1.length (trsC (readR wdB l).1)), (9, .int .i64 ((readR wdB l).2.1 : Nat)), (10, .int .i64 (readR wdB l).2.2), (46, .int .i64 l.length), (47, .int .i64 i)]) l.length ⟨0, by omega, by omega, rfl⟩ ?_
    rintro m fr h2 ⟨j, hj, rfl, rfl⟩
    simp only [J_law05_ExprReads_j2, wk,if_true,if_false,forall_const,implies_true,ne_eq,eq_self,Nat.reduceEqDiff,Nat.reduceAdd,Nat.reduceMul,Nat.reduceSub,Nat.reduceLeDiff,Nat.reduceLT,Int.reduceEq,Int.reduceLT,Int.reduceLE,Int.reduceAdd,Int.reduceSub,Int.reduceMul,Int.reduceNeg,Int.reduceNe,reduceCtorEq,Int.reduceToNat,↓reduceIte]
    refine ⟨fun hlt => ?_, fun hge2 => ?_⟩
    · have hil : j < l.length := by omega
      have hd : (toksC l).drop ((j : Int).toNat * 4) = _ := toksC_drop hil
      refine ⟨⟨by omega, by omega⟩, ?_⟩
      simp only [wk,if_true,if_false,forall_const,implies_true,ne_eq,eq_self,Nat.reduceEqDiff,Nat.reduceAdd,Nat.reduceMul,Nat.reduceSub,Nat.reduceLeDiff,Nat.reduceLT,Int.reduceEq,Int.reduceLT,Int.reduceLE,Int.reduceAdd,Int.reduceSub,Int.reduceMul,Int.reduceNeg,Int.reduceNe,reduceCtorEq,Int.reduceToNat,↓reduceIte, hd]
      refine ⟨⟨by omega, by omega⟩, ?_⟩
      rw [eq_tok_self]
      simp only [Option.map_some, wk,if_true,if_false,forall_const,implies_true,ne_eq,eq_self,Nat.reduceEqDiff,Nat.reduceAdd,Nat.reduceMul,Nat.reduceSub,Nat.reduceLeDiff,Nat.reduceLT,Int.reduceEq,Int.reduceLT,Int.reduceLE,Int.reduceAdd,Int.reduceSub,Int.reduceMul,Int.reduceNeg,Int.reduceNe,reduceCtorEq,Int.reduceToNat,↓reduceIte]
      exact ⟨inR_of (by omega) (by omega), l.length - (j + 1), by omega, j + 1, by omega, rfl, rfl⟩
    · simp only [J_law05_ExprReads_j1, wk,if_true,if_false,forall_const,implies_true,ne_eq,eq_self,Nat.reduceEqDiff,Nat.reduceAdd,Nat.reduceMul,Nat.reduceSub,Nat.reduceLeDiff,Nat.reduceLT,Int.reduceEq,Int.reduceLT,Int.reduceLE,Int.reduceAdd,Int.reduceSub,Int.reduceMul,Int.reduceNeg,Int.reduceNe,reduceCtorEq,Int.reduceToNat,↓reduceIte]
      refine PCalls.use (q3) ?_; simp only [wk,if_true,if_false,forall_const,implies_true,ne_eq,eq_self,Nat.reduceEqDiff,Nat.reduceAdd,Nat.reduceMul,Nat.reduceSub,Nat.reduceLeDiff,Nat.reduceLT,Int.reduceEq,Int.reduceLT,Int.reduceLE,Int.reduceAdd,Int.reduceSub,Int.reduceMul,Int.reduceNeg,Int.reduceNe,reduceCtorEq,Int.reduceToNat,↓reduceIte]
end Go.Proofs.Ytmbijfcjfhdnjaa
