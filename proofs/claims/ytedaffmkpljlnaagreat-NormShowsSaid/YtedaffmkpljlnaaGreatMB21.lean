/- Texts of one proof, laid together: Kl Km Kn Ko Kp Kr Ks Kt Ku Eh Ei Na Ej Ek El Em En Eo Kw Ky KB Eq Er Es Et Ev Ew Ex. -/
import Derived.Test.YtedaffmkpljlnaaGreatMB19
import Derived.Test.YtedaffmkpljlnaaGreatMB20
import Derived.Test.YtedaffmkpljlnaaGreatMB1
import Derived.Shelf.Strings.OnBuilder
import Derived.Test.YtedaffmkpljlnaaGreatMB18
import Derived.Test.YtedaffmkpljlnaaGreatMB4
set_option maxRecDepth 100000
set_option maxHeartbeats 16000000

/- strings.Join: the kit's contract, as a call that leaves all objects alone. -/
namespace Go.Proofs.YtedaffmkpljlnaaGreat
set_option linter.unusedSimpArgs false
set_option linter.unusedVariables false
open Go.RowKit Go.Lib Go.Shelf

theorem xJoin : Builder.Extra Tryz.prog lJoin_ren where
  sizeBuilder := by kernel_rfl
  liesBuilder := by kernel_rfl
  t5 := Tryz.underlying5
  a5 := Tryz.isAgg5
  z5 := Tryz.sizeOf5
  v5 := Tryz.zeroValue5
  infoByte := by kernel_rfl
  cellsByte := by kernel_rfl
  sizeByte := by kernel_rfl
  neB5 := by decide
theorem rep_cap {g : Gh} {x : Value} {z : AV} (h : Rep g x z) : ∀ a n c f m l, x = .slice a n c → z = .lst f m l → n ≤ c := by
  intro a n c f m l h1 h2
  cases h <;> first
    | (cases h2; done)
    | (cases h1; assumption)
    | (cases h1; omega)
end Go.Proofs.YtedaffmkpljlnaaGreat

/- Text: the program's and the reference's. -/
namespace Go.Proofs.YtedaffmkpljlnaaGreat
set_option linter.unusedSimpArgs false
set_option linter.unusedVariables false
open Go.RowKit Go.Lib

def wrd (t : Tok) : ByteArray := wordT t.kind t.name t.of
theorem atomW_size (o : Int) (w : ByteArray) : (atomWk o w).size ≤ w.size + 6 := by
  have h3 : (⟨#[]⟩ : ByteArray).size = 0 := rfl
  unfold atomWk
  repeat' split
  all_goals first
    | omega
    | (have := preW_size o; rw [ByteArray.size_append]; omega)
theorem wordT_size (k : Int) (w : ByteArray) (o : Int) : (wordT k w o).size ≤ w.size + 6 := by
  have h0 : (⟨#[]⟩ : ByteArray).size = 0 := rfl
  have h1 : (⟨#[97, 110, 100]⟩ : ByteArray).size = 3 := rfl
  have h2 : (⟨#[102, 111, 114]⟩ : ByteArray).size = 3 := rfl
  have h3 : (⟨#[97, 115]⟩ : ByteArray).size = 2 := rfl
  have h4 : (⟨#[124]⟩ : ByteArray).size = 1 := rfl
  have h5 : (⟨#[40]⟩ : ByteArray).size = 1 := rfl
  have h6 : (⟨#[41]⟩ : ByteArray).size = 1 := rfl
  have := atomW_size o w
  unfold wordT
  repeat' split
  all_goals omega
end Go.Proofs.YtedaffmkpljlnaaGreat

/- The laws' own functions: same, large, awake. -/
namespace Go.Proofs.YtedaffmkpljlnaaGreat
set_option linter.unusedSimpArgs false
set_option linter.unusedVariables false
open Go.RowKit Go.Lib

section
variable {α : Type} (h : List α) (x y z : α)
end
end Go.Proofs.YtedaffmkpljlnaaGreat

/- large, awake; TokenReads. -/
namespace Go.Proofs.YtedaffmkpljlnaaGreat
set_option linter.unusedSimpArgs false
set_option linter.unusedVariables false
open Go.RowKit Go.Lib

def c1 : ByteArray := ⟨#[107, 101, 121, 58, 107, 49, 124, 97, 108, 105, 99, 101, 32, 97, 115, 32, 114, 111, 108, 101, 58, 114, 32, 35, 32, 120]⟩
def c2 : ByteArray := ⟨#[97, 32, 75]⟩
end Go.Proofs.YtedaffmkpljlnaaGreat

/- TokenReads and TokenWrites: the calls. -/
namespace Go.Proofs.YtedaffmkpljlnaaGreat
set_option linter.unusedSimpArgs false
set_option linter.unusedVariables false
open Go.RowKit Go.Lib

theorem scanF_len : ∀ (f : Nat) (l : List UInt8) (a : Nat) (acc : List Tok), acc.length ≤ 1000 → (scanF f l a acc).1.length ≤ 1000
  | 0, _, _, acc, h => h
  | f + 1, [], _, acc, h => h
  | f + 1, b :: r, a, acc, h => by
    simp only [scanF]
    split
    · exact scanF_len f r _ _ h
    · split
      · exact scanF_len f _ _ _ h
      · split
        · simp
        · split
          · simp
          · exact scanF_len f _ _ _ (by simp; omega)
theorem allT_len (s : ByteArray) : (allT s).1.length ≤ 1000 := by
  unfold allT
  split
  · simp
  · exact scanF_len _ _ _ _ (by simp)
end Go.Proofs.YtedaffmkpljlnaaGreat

/- A word that is written is read as its token: plain laws. -/
namespace Go.Proofs.YtedaffmkpljlnaaGreat
set_option linter.unusedSimpArgs false
set_option linter.unusedVariables false
open Go.RowKit Go.Lib

end Go.Proofs.YtedaffmkpljlnaaGreat

/- What is written is read as it was: plain laws of texts. -/
namespace Go.Proofs.YtedaffmkpljlnaaGreat
set_option linter.unusedSimpArgs false
set_option linter.unusedVariables false
open Go.RowKit Go.Lib

def core (t : Tok) : Int × ByteArray × Int := (t.kind, t.name, t.of)
abbrev wl (t : Tok) : List UInt8 := (wrd t).data.toList
theorem tail_cons (x : Tok) (l : List Tok) : Lib.joinTail [32] ((x :: l).map wl) = 32 :: (wl x ++ Lib.joinTail [32] (l.map wl)) := by
  simp [Lib.joinTail]
end Go.Proofs.YtedaffmkpljlnaaGreat

/- A token's word is what stood there: plain laws. -/
namespace Go.Proofs.YtedaffmkpljlnaaGreat
set_option linter.unusedSimpArgs false
set_option linter.unusedVariables false
open Go.RowKit Go.Lib

end Go.Proofs.YtedaffmkpljlnaaGreat

/- TokenBack: the call. -/
namespace Go.Proofs.YtedaffmkpljlnaaGreat
set_option linter.unusedSimpArgs false
set_option linter.unusedVariables false
open Go.RowKit Go.Lib

theorem sign_size {l : List UInt8} {k : Int} {w : ByteArray} {o : Int} {n : Nat} (h : signL l = some (k, w, o, n)) (hl : l.length ≤ 1000000) : w.size ≤ 1000000 := by
  have tk : ∀ (l : List UInt8) (n : Nat), l.length ≤ 1000000 → (ba (l.take n)).size ≤ 1000000 := fun l n h => by rw [ba_len2, List.length_take]; omega
  have z : (ba []).size ≤ 1000000 := by decide
  unfold signL at h
  split at h
  · cases l with
    | nil => cases h
    | cons b r =>
      simp only [plainL] at h
      repeat' split at h
      all_goals first
        | (cases h; done)
        | (simp only [Option.some.injEq, Prod.mk.injEq] at h; obtain ⟨_, rfl, _⟩ := h; first | exact tk _ _ hl | exact z | (rw [ba_len2]; simp))
  · unfold atomL at h
    split at h
    · cases h
    · simp only [Option.some.injEq, Prod.mk.injEq] at h
      obtain ⟨_, rfl, _⟩ := h
      exact tk _ _ (by simp; omega)
theorem allT_name {s : ByteArray} (hs : s.size ≤ 1000000) : ∀ t ∈ (allT s).1, t.name.size ≤ 1000000 := by
  have hl := len_size s
  have gen : ∀ (f : Nat) (l : List UInt8) (a : Nat) (acc : List Tok), l.length ≤ 1000000 → (∀ t ∈ acc, t.name.size ≤ 1000000) → ∀ t ∈ (scanF f l a acc).1, t.name.size ≤ 1000000 := by
    intro f
    induction f with
    | zero => intro l a acc _ h; exact h
    | succ f ih =>
      intro l a acc hlen h
      cases l with
      | nil => exact h
      | cons b r =>
        simp only [scanF]
        simp only [List.length_cons] at hlen
        split
        · exact ih _ _ _ (by omega) h
        · split
          · exact ih _ _ _ (by simp; omega) h
          · split
            · simp
            · next k w o n hsg =>
              split
              · simp
              · refine ih _ _ _ (by simp; omega) fun t ht => ?_
                rcases List.mem_append.1 ht with ht | ht
                · exact h t ht
                · simp only [List.mem_singleton] at ht
                  subst ht
                  exact sign_size hsg (by simp; omega)
  unfold allT
  split
  · simp
  · exact gen _ _ _ _ (by omega) (by simp)
end Go.Proofs.YtedaffmkpljlnaaGreat

/- Expressions: Parse, and the document's. -/
-- fast
-- rows
namespace Go.Proofs.YtedaffmkpljlnaaGreat
set_option linter.unusedSimpArgs false
set_option linter.unusedVariables false
open Go.RowKit Go.Lib

def resI (r : List Trm × Int × Int) : AV := .tup [vTrs r.1, .int .i64 r.2.1, .int .i64 r.2.2]
theorem free_resI (r : List Trm × Int × Int) : free (resI r) = true := by simp [resI, vTrs, free, free.frees, frees_trs]
def parseR (s : ByteArray) : List Trm × Int × Int :=
  if (allT s).2.2 ≠ 0 then ([], ((allT s).2.1 : Nat), (allT s).2.2)
  else if (readR wdB (allT s).1).2.2 = 0 then ((readR wdB (allT s).1).1, 0, 0)
  else match (allT s).1[(readR wdB (allT s).1).2.1]? with
    | some t => ([], t.at_, (readR wdB (allT s).1).2.2)
    | none => if (readR wdB (allT s).1).2.2 = 3 then ([], 0, 3) else ([], (s.size : Nat), (readR wdB (allT s).1).2.2)
theorem p_parse (s : ByteArray) (hs : s.size ≤ 1000000) : PCalls Tryz.prog 33 [.str s] (resI (parseR s)) := by
  have q1 := p_pall s hs
  have a2 := allT_len s
  have a3 := allT_name (s := s) hs
  have q2 := p_read (allT s).1 (by omega) a3
  obtain ⟨R, hR⟩ : ∃ R, R = readR wdB (allT s).1 := ⟨_, rfl⟩
  obtain ⟨A, hA⟩ : ∃ A, A = allT s := ⟨_, rfl⟩
  unfold parseR
  rw [← hR] at q2 ⊢
  rw [← hA] at q1 a2 a3 q2 ⊢
  simp only [resV, vToks, resX, vTrs] at q1 q2
  refine pcalls_of rfl (free_resI _) (ACalls.deep (acalls_of mixed J_expr_Parse_ok (Nat.le_of_ble_eq_true rfl) ?_)); simp only [J_expr_Parse, wk,ne_eq,eq_self,reduceCtorEq,↓reduceIte]
  refine PCalls.use (q1) ?_; simp only [wk,ne_eq,eq_self,Nat.reduceEqDiff,reduceCtorEq,↓reduceIte]
  refine ⟨fun h0 => ?_, fun h0 => ?_⟩
  · rw [if_pos h0]
    simp only [rdpw, resI, vTrs]
    rfl
  · rw [if_neg (fun h => h h0)]
    refine PCalls.use (q2) ?_; simp only [wk,eq_self,Nat.reduceEqDiff,reduceCtorEq,↓reduceIte]
    refine ⟨fun h1 => ?_, fun h1 => ?_⟩
    · rw [if_pos h1]
      simp only [rdpw, resI, vTrs, rdps_trs]
    · rw [if_neg h1]
      rcases Nat.lt_or_ge R.2.1 A.1.length with hil | hil
      · have hd : (toksC A.1).drop (((R.2.1 : Nat) : Int).toNat * 4) = _ := toksC_drop hil
        rw [List.getElem?_eq_getElem hil]
        refine ⟨fun _ => ⟨⟨by omega, by omega⟩, ?_⟩, fun h => absurd (by omega) h⟩
        simp only [wk,eq_self,Nat.reduceEqDiff,reduceCtorEq,↓reduceIte, hd]
        simp only [rdpw, resI, vTrs]
        rfl
      · rw [List.getElem?_eq_none hil]
        refine ⟨fun h => absurd h (by omega), fun _ => ⟨fun h3 => ?_, fun h3 => ?_⟩⟩
        · simp only [rdpw, resI, vTrs, h3]
          rfl
        · simp only [if_neg h3, rdpw, resI, vTrs]
          rfl
end Go.Proofs.YtedaffmkpljlnaaGreat

/- Expressions: the parts of terms. -/
-- fast
-- rows
namespace Go.Proofs.YtedaffmkpljlnaaGreat
set_option linter.unusedSimpArgs false
set_option linter.unusedVariables false
open Go.RowKit Go.Lib

def wrT (t : Trm) : Bool := !decide (wordT t.op t.name t.of = ⟨#[]⟩)
theorem p_written (t : Trm) (hn : t.name.size ≤ 1000000) : PCalls Tryz.prog 85 [.agg (trC t)] (.str (wordT t.op t.name t.of)) := by
  have q := p_word t.op t.name t.of 0 hn
  simp only [trC]
  refine pcalls_of (by first | rfl | simp [free, free.frees, frees_str, frees_u8, frees_u16]) (by first | rfl | simp [free, free.frees, frees_str, frees_u8, frees_u16]) (acalls_of mixed J_expr_written_ok (Nat.le_of_ble_eq_true rfl) ?_); simp only [J_expr_written, wk,eq_self,Nat.reduceEqDiff,Nat.reduceAdd,Nat.reduceLeDiff,↓reduceIte]
  refine PCalls.use (q) ?_; simp only [wk,eq_self,↓reduceIte]
def prC (l : List Prt) : List AV := l.flatMap fun p => [.int .i64 p.1, .int .i64 p.2.1, .int .i64 p.2.2]
theorem prC_len (l : List Prt) : (prC l).length = l.length * 3 := by
  induction l with
  | nil => rfl
  | cons x l ih => simp only [prC, List.flatMap_cons, List.length_append, List.length_cons, List.length_nil] at ih ⊢; omega
theorem prC_zero (n : Nat) : ((List.range (n * 3)).map fun i => ([.int .i64 0, .int .i64 0, .int .i64 0] : List AV).getD (i % 3) .nilp) = prC (List.replicate n (0, 0, 0)) := by
  have h1 : ((List.range (n * 3)).map fun i => ([.int .i64 0, .int .i64 0, .int .i64 0] : List AV).getD (i % 3) .nilp) = List.replicate (n * 3) (.int .i64 0) := by
    rw [List.eq_replicate_iff]
    refine ⟨by simp, fun b hb => ?_⟩
    obtain ⟨i, _, rfl⟩ := List.mem_map.1 hb
    rcases (show i % 3 = 0 ∨ i % 3 = 1 ∨ i % 3 = 2 by omega) with h | h | h <;> rw [h] <;> rfl
  rw [h1]
  induction n with
  | zero => rfl
  | succ n ih =>
    rw [List.replicate_succ, show (n + 1) * 3 = n * 3 + 1 + 1 + 1 by omega, List.replicate_succ, List.replicate_succ, List.replicate_succ, ih (by
      rw [List.eq_replicate_iff]
      refine ⟨by simp, fun b hb => ?_⟩
      obtain ⟨i, _, rfl⟩ := List.mem_map.1 hb
      rcases (show i % 3 = 0 ∨ i % 3 = 1 ∨ i % 3 = 2 by omega) with h | h | h <;> rw [h] <;> rfl)]
    rfl
theorem prC_drop : ∀ {l : List Prt} {i : Nat} (h : i < l.length), (prC l).drop (i * 3) = .int .i64 l[i].1 :: .int .i64 l[i].2.1 :: .int .i64 l[i].2.2 :: (prC l).drop ((i + 1) * 3)
  | [], _, h => by simp at h
  | w :: l, 0, h => by simp [prC]
  | w :: l, i + 1, h => by
    have := prC_drop (l := l) (i := i) (by simpa using h)
    simp only [prC, List.flatMap_cons, List.cons_append, List.nil_append] at this ⊢
    rw [show (i + 1) * 3 = i * 3 + 1 + 1 + 1 by omega, show (i + 1 + 1) * 3 = (i + 1) * 3 + 1 + 1 + 1 by omega]
    simp only [List.drop_succ_cons, List.getElem_cons_succ]
    exact this
theorem trsC_drop : ∀ {l : List Trm} {i : Nat} (h : i < l.length), (trsC l).drop (i * 3) = .int .i64 l[i].op :: .int .i64 l[i].of :: .str l[i].name :: (trsC l).drop ((i + 1) * 3)
  | [], _, h => by simp at h
  | w :: l, 0, h => by simp [trsC, trC]
  | w :: l, i + 1, h => by
    have := trsC_drop (l := l) (i := i) (by simpa using h)
    simp only [trsC, List.flatMap_cons, trC, List.cons_append, List.nil_append] at this ⊢
    rw [show (i + 1) * 3 = i * 3 + 1 + 1 + 1 by omega, show (i + 1 + 1) * 3 = (i + 1) * 3 + 1 + 1 + 1 by omega]
    simp only [List.drop_succ_cons, List.getElem_cons_succ]
    exact this
theorem prC_set : ∀ {l : List Prt} {i : Nat} (h : i < l.length) (a b c : Int), (((prC l).set (i * 3) (.int .i64 a)).set (i * 3 + 1) (.int .i64 b)).set (i * 3 + 1 + 1) (.int .i64 c) = prC (l.set i (a, b, c))
  | [], _, h, _, _, _ => by simp at h
  | w :: l, 0, h, a, b, c => by simp [prC]
  | w :: l, i + 1, h, a, b, c => by
    have := prC_set (l := l) (i := i) (by simpa using h) a b c
    simp only [prC, List.flatMap_cons, List.cons_append, List.nil_append, List.set_cons_succ] at this ⊢
    rw [show (i + 1) * 3 = i * 3 + 1 + 1 + 1 by omega]
    simp only [List.set_cons_succ]
    rw [this]
theorem prC_set1 : ∀ {l : List Prt} {i : Nat} (h : i < l.length) (c : Int), (prC l).set (i * 3 + 2) (.int .i64 c) = prC (l.set i (l[i].1, l[i].2.1, c))
  | [], _, h, _ => by simp at h
  | w :: l, 0, h, c => by simp [prC]
  | w :: l, i + 1, h, c => by
    have := prC_set1 (l := l) (i := i) (by simpa using h) c
    simp only [prC, List.flatMap_cons, List.cons_append, List.nil_append, List.set_cons_succ, List.getElem_cons_succ] at this ⊢
    rw [show (i + 1) * 3 = i * 3 + 2 + 1 by omega]
    simp only [List.set_cons_succ]
    rw [this]
def treeT (x : List Trm) : Option Xp := if x.length ≤ 200 then treeX wrT x else none
def PostP (x : List Trm) (h : Hp) (a : AV) (h' : Hp) : Prop := match treeT x with
  | some e => ∃ l : List Prt, a = .tup [.hs h.length x.length, .bool true] ∧ h' = h ++ [some (false, prC l)] ∧ l.length = x.length ∧ Reps x l (x.length - 1) e
  | none => (a = .tup [.lst .clip 0 [], .bool false] ∧ h' = h) ∨ ∃ (n : Nat) (l : List Prt), a = .tup [.hs h.length n, .bool false] ∧ h' = h ++ [some (false, prC l)]
def standX (x : List Trm) (l : List Prt) (k : Nat) : List Int → List Xp → Prop
  | [], [] => True
  | i :: s, e :: st => (∃ n : Nat, i = n ∧ n < k ∧ Reps x l n e) ∧ standX x l k s st
  | _, _ => False
theorem standX_len {x : List Trm} {l : List Prt} {k : Nat} : ∀ {s : List Int} {st : List Xp}, standX x l k s st → s.length = st.length
  | [], [], _ => rfl
  | _ :: _, [], h => h.elim
  | [], _ :: _, h => h.elim
  | i :: s, e :: st, h => by simp [standX_len h.2]
theorem standX_set {x : List Trm} {l : List Prt} {k : Nat} {p : Prt} : ∀ {s : List Int} {st : List Xp}, standX x l k s st → standX x (l.set k p) (k + 1) s st
  | [], [], _ => trivial
  | _ :: _, [], h => h.elim
  | [], _ :: _, h => h.elim
  | i :: s, e :: st, ⟨⟨n, h1, h2, h3⟩, h4⟩ => ⟨⟨n, h1, by omega, h3.set h2⟩, standX_set h4⟩
theorem runX_none {wr : Trm → Bool} : ∀ {l : List Trm} {st : List Xp} (r : List Trm), runX wr l st = none → runX wr (l ++ r) st = none
  | [], _, _, h => by simp [runX] at h
  | t :: l, st, r, h => by
    simp only [List.cons_append, runX] at h ⊢
    cases hs : stepX wr t st with
    | none => rfl
    | some s => rw [hs] at h; exact runX_none r h
theorem trimP0 {x : List Trm} {h ex : Hp} (hx : treeT x = none) : ∃ h2 ex', h ++ ex = h2 ++ ex' ∧ h.length ≤ h2.length ∧ low h2.length (.tup [.lst .clip 0 [], .bool false]) = true ∧ (∀ (j : Nat) s l, h2[j]? = some (some (s, l)) → (∃ s', h[j]? = some (some (s', l))) ∨ low.lows h2.length l = true) ∧ PostP x h (.tup [.lst .clip 0 [], .bool false]) h2 :=
  ⟨h, ex, rfl, Nat.le_refl _, rfl, fun _ s _ hl => .inl ⟨s, hl⟩, by unfold PostP; rw [hx]; exact .inl ⟨rfl, rfl⟩⟩
theorem frees_prs (l : List Prt) : free.frees (prC l) = true := by
  induction l with
  | nil => rfl
  | cons x l ih => simp only [prC, List.flatMap_cons, List.cons_append, List.nil_append, free.frees, free, Bool.true_and] at ih ⊢; exact ih
theorem trimP1 {x : List Trm} {h ex : Hp} {l : List Prt} {n : Nat} {b : Bool} (hp : PostP x h (.tup [.hs h.length n, .bool b]) (h ++ [some (false, prC l)])) : ∃ h2 ex', (h ++ [some (false, prC l)]) ++ ex = h2 ++ ex' ∧ h.length ≤ h2.length ∧ low h2.length (.tup [.hs h.length n, .bool b]) = true ∧ (∀ (j : Nat) s l, h2[j]? = some (some (s, l)) → (∃ s', h[j]? = some (some (s', l))) ∨ low.lows h2.length l = true) ∧ PostP x h (.tup [.hs h.length n, .bool b]) h2 := by
  refine ⟨_, ex, rfl, by simp, by simp [low, low.lows], fun j s l' hj => ?_, hp⟩
  rcases Nat.lt_or_ge j h.length with h1 | h1
  · rw [List.getElem?_append_left h1] at hj
    exact .inl ⟨s, hj⟩
  · rw [List.getElem?_append_right h1] at hj
    cases hd : j - h.length with
    | zero =>
      rw [hd] at hj
      simp only [List.getElem?_cons_zero, Option.some.injEq, Prod.mk.injEq] at hj
      obtain ⟨_, rfl⟩ := hj
      exact .inr (lows_free (frees_prs l))
    | succ n => rw [hd] at hj; simp at hj
theorem Reps.drop {x : List Trm} {l : List Prt} {n : Nat} {e : Xp} (h : Reps x l n e) : (prC l).drop (n * 3 + 2) = .int .i64 e.deep :: (prC l).drop ((n + 1) * 3) := by
  obtain ⟨p, h1, h2⟩ := h.deep
  obtain ⟨h3, h4⟩ := List.getElem?_eq_some_iff.1 h1
  rw [← List.drop_drop, prC_drop h3, h4, ← h2]; rfl
theorem Reps.role {x : List Trm} {l : List Prt} {n : Nat} {e : Xp} (h : Reps x l n e) (hn : n < x.length) (ho : e.okE wrT) : e.role = true ↔ x[n].op = 1 ∧ x[n].of = 5 := by
  cases h with
  | atm _ t p h1 h2 h3 =>
    obtain ⟨_, h4⟩ := List.getElem?_eq_some_iff.1 h1
    rw [h4]
    simp only [Xp.role, decide_eq_true_eq]
    exact ⟨fun h => ⟨ho.1, h⟩, fun h => h.2⟩
  | op _ j m k a b h1 h2 h3 h4 h5 h6 =>
    obtain ⟨_, h4⟩ := List.getElem?_eq_some_iff.1 h1
    rw [h4]
    simp only [Xp.role, sgn]
    refine ⟨fun h => (nomatch h), fun h => ?_⟩
    have := ho.1
    rw [h.1, bind1] at this; omega
theorem a_parts {h : Hp} (x : List Trm) (hl : x.length ≤ 9223372036854775807) (hn : ∀ t ∈ x, t.name.size ≤ 1000000) : ACalls Tryz.prog 51 [vTrs x] h (PostP x h) := by
  refine ACalls.trim (acalls_of mixed J_expr_parts_ok (Nat.le_of_ble_eq_true rfl) ?_); simp only [J_expr_parts, vTrs, wkr,wk,eq_self,Nat.reduceEqDiff,reduceCtorEq,↓reduceIte]
  refine ⟨fun h1 => ⟨fun h2 => ?_, fun h2 => ?_⟩, fun h1 => ?_⟩
  · have := trimP0 (x := x) (h := h) (ex := []) (by unfold treeT; rw [if_neg (by omega)])
    rw [List.append_nil] at this
    exact this
  · have hl2 : x.length ≤ 200 := by omega
    have hT : treeT x = treeX wrT x := by unfold treeT; rw [if_pos hl2]
    rw [Int.toNat_natCast, prC_zero]
    refine ⟨⟨by omega, by omega, by omega⟩, ?_⟩
    refine W_loop (fun m fr h'' => ∃ (k : Nat) (l : List Prt) (s : List Int) (st : List Xp) (ex : Hp), k ≤ x.length ∧ m = x.length - k ∧ l.length = x.length ∧ runX wrT (x.take k) [] = some st ∧ standX x l k s st ∧ (0 < k → ∃ r, s = ((k - 1 : Nat) : Int) :: r) ∧ s.length ≤ k ∧ h'' = (h ++ [some (false, prC l)]) ++ ex ∧ fr = [(0, .lst .ro x.length (trsC x)), (4, .hs h.length x.length), (5, .stk 3 none s.reverse), (22, .lst .ro x.length (trsC x)), (23, .int .i64 x.length), (24, .int .i64 k)]) x.length ⟨0, List.replicate x.length (0, 0, 0), [], [], [], by omega, by omega, by simp, rfl, trivial, fun h => by omega, by simp, by simp, rfl⟩ ?_
    rintro m fr h'' ⟨k, l, s, st, ex, hk, rfl, hll, hrun, hst, htop, hsk, rfl, rfl⟩
    have hslen := standX_len hst
    have hrl : s.reverse.length = s.length := List.length_reverse
    simp only [J_expr_parts_j3, wk,eq_self,Nat.reduceEqDiff,Nat.reduceAdd,Nat.reduceLeDiff,reduceCtorEq,↓reduceIte]
    refine ⟨fun hlt => ?_, fun hge => ?_⟩
    · have hkl : k < x.length := by omega
      have hd : (trsC x).drop ((k : Int).toNat * 3) = _ := trsC_drop hkl
      refine ⟨⟨by omega, by omega⟩, ?_⟩
      have hsnoc : runX wrT (x.take (k + 1)) [] = stepX wrT x[k] st := by
        rw [List.take_succ_eq_append_getElem hkl, runX_snoc, hrun]
      have hstop : stepX wrT x[k] st = none → treeT x = none := fun h0 => by
        rw [hT]; unfold treeX
        have : runX wrT x [] = none := by
          rw [← List.take_append_drop (k + 1) x]; exact runX_none _ (by rw [hsnoc, h0])
        rw [this]
      have hnm := hn _ (List.getElem_mem hkl)
      obtain ⟨bx, hbx⟩ : ∃ bx : Option (Bool × List AV), bx = some (true, [.int .i64 x[k].op, .int .i64 x[k].of, .str x[k].name]) := ⟨_, rfl⟩
      have hg : ∀ y : Option (Bool × List AV), ((h ++ [y]) ++ ex ++ [bx])[h.length]? = some y := fun y => by simp
      have hst1 : ∀ y z : Option (Bool × List AV), ((h ++ [y]) ++ ex ++ [bx]).set h.length z = (h ++ [z]) ++ ex ++ [bx] := fun y z => by simp
      have hgb : ∀ y : Option (Bool × List AV), ((h ++ [y]) ++ ex ++ [bx])[((h ++ [y]) ++ ex).length]? = some bx := fun y => by simp
      have stop : stepX wrT x[k] st = none → ∃ h2 ex', ((h ++ [some (false, prC l)]) ++ ex ++ [bx]) = h2 ++ ex' ∧ h.length ≤ h2.length ∧ low h2.length (.tup [.lst .clip 0 [], .bool false]) = true ∧ (∀ (j : Nat) s l, h2[j]? = some (some (s, l)) → (∃ s', h[j]? = some (some (s', l))) ∨ low.lows h2.length l = true) ∧ PostP x h (.tup [.lst .clip 0 [], .bool false]) h2 := fun h0 => by
        have := trimP0 (x := x) (h := h) (ex := [some (false, prC l)] ++ ex ++ [bx]) (hstop h0)
        simpa only [List.append_assoc] using this
      have nxt : ∀ (l' : List Prt) (r : List Int) (st' : List Xp), l'.length = x.length → stepX wrT x[k] st = some st' → standX x l' (k + 1) ((k : Int) :: r) st' → r.length ≤ k → inR ((k : Int) + 1) ∧ ∃ m, m < x.length - k ∧ ∃ (k' : Nat) (l2 : List Prt) (s : List Int) (st : List Xp) (ex' : Hp), k' ≤ x.length ∧ m = x.length - k' ∧ l2.length = x.length ∧ runX wrT (x.take k') [] = some st ∧ standX x l2 k' s st ∧ (0 < k' → ∃ r, s = ((k' - 1 : Nat) : Int) :: r) ∧ s.length ≤ k' ∧ ((h ++ [some (false, prC l')]) ++ ex ++ [bx]) = (h ++ [some (false, prC l2)]) ++ ex' ∧ [(0, AV.lst .ro x.length (trsC x)), (4, .hs h.length x.length), (5, .stk 3 none (r.reverse ++ [(k : Int)])), (22, .lst .ro x.length (trsC x)), (23, .int .i64 x.length), (24, .int .i64 ((k : Int) + 1))] = [(0, .lst .ro x.length (trsC x)), (4, .hs h.length x.length), (5, .stk 3 none s.reverse), (22, .lst .ro x.length (trsC x)), (23, .int .i64 x.length), (24, .int .i64 k')] := fun l' r st' q1 q2 q3 q4 =>
        ⟨inR_of (by omega) (by omega), x.length - (k + 1), by omega, k + 1, l', (k : Int) :: r, st', ex ++ [bx], by omega, rfl, q1, by rw [hsnoc, q2], q3, fun _ => ⟨r, rfl⟩, by simp; omega, by simp only [List.append_assoc], by rw [List.reverse_cons]; rfl⟩
      simp only [wkr,wk,eq_self,Nat.reduceEqDiff,Nat.reduceAdd,Nat.reduceLeDiff,reduceCtorEq,↓reduceIte, hd]
      rw [← hbx]
      by_cases k1 : x[k].op = 1
      · have qw := p_written x[k] hnm
        simp only [trC] at qw
        simp only [wk,forall_const,eqTrue k1]
        refine PCalls.use (qw) ?_; simp only [wkr,wk,eq_self,Nat.reduceEqDiff,Nat.reduceLeDiff,reduceCtorEq,↓reduceIte]
        refine ⟨fun h0 => stop ?_, fun h0 => ?_⟩
        · unfold stepX; rw [if_pos k1, if_neg (by simp [wrT, h0])]
        · simp only [hg, hst1]
          have hx := nxt (l.set k (l[k].1, l[k].2.1, 1)) s (.atm x[k] :: st) (by simp [hll]) (by unfold stepX; rw [if_pos k1, if_pos (by simp [wrT, h0])]) ⟨⟨k, rfl, by omega, .atm k x[k] (l[k].1, l[k].2.1, 1) (List.getElem?_eq_getElem hkl) (List.getElem?_set_self (by omega)) rfl⟩, standX_set hst⟩ hsk
          rw [Int.toNat_natCast, prC_set1]
          refine ⟨⟨by omega, by omega⟩, by rw [prC_len]; omega, ⟨by omega, by omega⟩, ?_⟩
          simp only [J_expr_parts_j2, wk,eq_self,Nat.reduceEqDiff,reduceCtorEq,↓reduceIte]
          exact hx
      · have qb := p_bind x[k].op
        rw [bindP_ne k1] at qb
        simp only [wk,forall_const,eqFalse k1]
        intro v
        subst hbx
        have hpos : 0 < bindK x[k].op ↔ ¬ bindK x[k].op = 0 := by have := bind_ge x[k].op; omega
        have bad : ¬ (0 < bindK x[k].op ∧ x[k].of = 0 ∧ x[k].name = ⟨#[]⟩) → stepX wrT x[k] st = none := fun h0 => by
          unfold stepX; rw [if_neg k1, if_neg h0]
        by_cases kb : bindK x[k].op = 0
        · refine PCalls.use (qb) ?_; simp only [wkr,wk,ne_eq,eq_self,Nat.reduceEqDiff,reduceCtorEq,↓reduceIte]
          simp only [wk,forall_const,eqTrue kb]
          exact stop (bad (fun h => hpos.1 h.1 kb))
        · by_cases ko : x[k].of = 0
          · by_cases kn : x[k].name = ⟨#[]⟩
            · have good : 0 < bindK x[k].op ∧ x[k].of = 0 ∧ x[k].name = ⟨#[]⟩ := ⟨hpos.2 kb, ko, kn⟩
              cases st with
              | nil =>
                refine PCalls.use (qb) ?_; simp only [wkr,wk,ne_eq,eq_self,Nat.reduceEqDiff,reduceCtorEq,↓reduceIte]
                simp only [wk,forall_const,eqFalse kb, eqTrue ko, eqTrue kn, (show ((s.reverse.length : Int) < 2) = True from eqTrue (by have h := hslen; simp only [List.length_nil] at h; omega))]
                exact stop (by unfold stepX; rw [if_neg k1, if_pos good])
              | cons e1 st =>
                cases st with
                | nil =>
                  refine PCalls.use (qb) ?_; simp only [wkr,wk,ne_eq,eq_self,Nat.reduceEqDiff,reduceCtorEq,↓reduceIte]
                  simp only [wk,forall_const,eqFalse kb, eqTrue ko, eqTrue kn, (show ((s.reverse.length : Int) < 2) = True from eqTrue (by have h := hslen; simp only [List.length_nil, List.length_cons] at h; omega))]
                  exact stop (by unfold stepX; rw [if_neg k1, if_pos good])
                | cons e2 st =>
                  cases s with
                  | nil => exact hst.elim
                  | cons i1 s =>
                    cases s with
                    | nil => exact hst.2.elim
                    | cons i2 s =>
                      obtain ⟨⟨n1, rfl, hn1, r1⟩, ⟨n2, rfl, hn2, r2⟩, hst3⟩ := hst
                      have hlen2 : ((n1 : Int) :: (n2 : Int) :: s).reverse.length = s.length + 2 := by simp
                      have hf2 : (((s.length + 2 : Nat) : Int) < 2) = False := eqFalse (by omega)
                      have q1 : ((n1 : Int) :: (n2 : Int) :: s).reverse.getD (s.length + 1) 0 = n1 := by simp
                      have q2 : ((n1 : Int) :: (n2 : Int) :: s).reverse.getD s.length 0 = n2 := by simp
                      have q3 : ((n1 : Int) :: (n2 : Int) :: s).reverse.take s.length = s.reverse := by simp
                      refine PCalls.use (qb) ?_; simp only [wkr,wk,ne_eq,eq_self,Nat.reduceEqDiff,reduceCtorEq,↓reduceIte]
                      have h21 : ((s.length + 2 : Nat) : Int) - 2 = (s.length : Nat) := by omega
                      have h22 : ((s.length + 2 : Nat) : Int) - 1 = ((s.length + 1 : Nat) : Int) := by omega
                      simp only [wk,forall_const,eqFalse kb, eqTrue ko, eqTrue kn, hf2, hlen2, h21, h22, Int.toNat_natCast, q1, q2]
                      simp only [List.length_cons] at hsk hslen
                      refine ⟨inR_of (by omega) (by omega), ⟨by omega, by omega⟩, by omega, inR_of (by omega) (by omega), ⟨by omega, by omega⟩, by omega, ?_⟩
                      have hok := (runX_ok _ _ _ hrun (by simp)).1
                      have ok1 : e1.okE wrT := hok _ (by simp)
                      have ok2 : e2.okE wrT := hok _ (by simp)
                      have hn1x : n1 < x.length := by omega
                      have hd1 : (trsC x).drop (n1 * 3) = _ := trsC_drop hn1x
                      have hp1 := r1.drop
                      have hp2 := r2.drop
                      have hro := r1.role hn1x ok1
                      have hstp := (runX_ok _ _ _ hrun (by simp)).2
                      have hpl : e1.post.length + e2.post.length ≤ k := by
                        have := congrArg List.length hstp
                        rw [stp_cons, stp_cons] at this
                        simp only [List.length_append, List.length_take] at this
                        have h0 : (stp ([] : List Xp)).length = 0 := rfl
                        omega
                      have hde1 := deep_le e1
                      have hde2 := deep_le e2
                      have hdp1 := deep_pos e1
                      have hdp2 := deep_pos e2
                      have hD : (1 + if e2.deep < e1.deep then e1.deep else e2.deep) = (Xp.op x[k].op e2 e1).deep := by simp only [Xp.deep]; omega
                      have nor : ¬ e1.role = true → x[k].op = 5 → stepX wrT x[k] (e1 :: e2 :: st) = none := fun h k5 => by
                        unfold stepX; rw [if_neg k1, if_pos good]; simp only; rw [if_pos ⟨k5, by simpa using h⟩]
                      have fin : ¬ (x[k].op = 5 ∧ e1.role = false) → _ := fun hro2 => nxt (l.set k ((n2 : Int), (n1 : Int), (Xp.op x[k].op e2 e1).deep)) s (.op x[k].op e2 e1 :: st) (by simp [hll]) (by unfold stepX; rw [if_neg k1, if_pos good]; simp only; rw [if_neg hro2]) ⟨⟨k, rfl, by omega, .op k n2 n1 x[k].op e2 e1 (by rw [List.getElem?_eq_getElem hkl, sgn_eta ko kn]) (List.getElem?_set_self (by omega)) hn2 hn1 (r2.set hn2) (r1.set hn1)⟩, standX_set hst3⟩ (by omega)
                      by_cases k5 : x[k].op = 5
                      · by_cases m1 : x[n1].op = 1
                        · by_cases m5 : x[n1].of = 5
                          · have hx := fin (fun h => by rw [hro.2 ⟨m1, m5⟩] at h; cases h.2)
                            simp only [wkr,wk,forall_const,ne_eq,eq_self,Nat.reduceEqDiff,Nat.reduceAdd,Nat.reduceLeDiff,reduceCtorEq,↓reduceIte, eqTrue k5, Int.toNat_natCast, hd1, eqTrue m1, eqTrue m5, hp1, hp2, hg]
                            refine ⟨⟨by omega, by omega⟩, ⟨by omega, by omega⟩, ⟨by omega, by omega⟩, ?_⟩
                            simp only [h21, Int.toNat_natCast, q3]
                            rw [hst1, prC_set (by omega), hD]
                            have q4 : s.reverse.length = s.length := List.length_reverse
                            refine ⟨⟨by omega, by omega⟩, by rw [← hD]; split <;> exact inR_of (by omega) (by omega), ⟨by omega, by omega⟩, by rw [prC_len]; omega, inR_of (by omega) (by omega), ⟨by omega, by omega⟩, ⟨by omega, by omega⟩, ?_⟩
                            simp only [J_expr_parts_j2, wk,eq_self,Nat.reduceEqDiff,reduceCtorEq,↓reduceIte]
                            exact hx
                          · simp only [wk,forall_const,ne_eq,eq_self,Nat.reduceEqDiff,reduceCtorEq,↓reduceIte, eqTrue k5, Int.toNat_natCast, hd1, eqTrue m1, eqFalse m5]
                            refine ⟨⟨by omega, by omega⟩, ⟨by omega, by omega⟩, stop (nor (fun h => m5 (hro.1 h).2) k5)⟩
                        · simp only [wk,forall_const,ne_eq,eq_self,Nat.reduceEqDiff,reduceCtorEq,↓reduceIte, eqTrue k5, hd1, eqFalse m1]
                          refine ⟨⟨by omega, by omega⟩, stop (nor (fun h => m1 (hro.1 h).1) k5)⟩
                      · have hx := fin (fun h => k5 h.1)
                        simp only [wkr,wk,forall_const,eq_self,Nat.reduceEqDiff,Nat.reduceAdd,Nat.reduceLeDiff,reduceCtorEq,↓reduceIte, eqFalse k5, Int.toNat_natCast, hp1, hp2, hg]
                        refine ⟨⟨by omega, by omega⟩, ?_⟩
                        simp only [h21, Int.toNat_natCast, q3]
                        rw [hst1, prC_set (by omega), hD]
                        have q4 : s.reverse.length = s.length := List.length_reverse
                        refine ⟨⟨by omega, by omega⟩, by rw [← hD]; split <;> exact inR_of (by omega) (by omega), ⟨by omega, by omega⟩, by rw [prC_len]; omega, inR_of (by omega) (by omega), ⟨by omega, by omega⟩, ⟨by omega, by omega⟩, ?_⟩
                        simp only [J_expr_parts_j2, wk,eq_self,Nat.reduceEqDiff,reduceCtorEq,↓reduceIte]
                        exact hx
            · refine PCalls.use (qb) ?_; simp only [wkr,wk,ne_eq,eq_self,Nat.reduceEqDiff,reduceCtorEq,↓reduceIte]
              simp only [wk,forall_const,eqFalse kb, eqTrue ko, eqFalse kn]
              exact stop (bad (fun h => kn h.2.2))
          · refine PCalls.use (qb) ?_; simp only [wkr,wk,ne_eq,eq_self,Nat.reduceEqDiff,reduceCtorEq,↓reduceIte]
            simp only [wk,forall_const,eqFalse kb, eqFalse ko]
            exact stop (bad (fun h => ko h.2.1))
    · obtain rfl : k = x.length := by omega
      rw [List.take_length] at hrun
      have none1 : st.length ≠ 1 → treeT x = none := fun hne => by
        rw [hT]; unfold treeX
        rw [hrun]
        cases st with
        | nil => rfl
        | cons e st => cases st with
          | nil => exact absurd rfl hne
          | cons e2 st => rfl
      simp only [J_expr_parts_j1, wkr,wk,forall_const,eq_self,Nat.reduceEqDiff,reduceCtorEq,↓reduceIte]
      refine trimP1 ?_
      unfold PostP
      by_cases hone : st.length = 1
      · obtain ⟨e, rfl⟩ := List.length_eq_one_iff.1 hone
        obtain ⟨r, hr⟩ := htop (by omega)
        subst hr
        have hr0 : r = [] := List.eq_nil_of_length_eq_zero (by simp only [List.length_cons, List.length_nil] at hslen; omega)
        subst hr0
        obtain ⟨⟨n, hn1, hn2, hr⟩, _⟩ := hst
        have hnn : n = x.length - 1 := by omega
        subst hnn
        have hte : treeT x = some e := by rw [hT]; unfold treeX; rw [hrun]
        rw [hte]
        exact ⟨l, rfl, rfl, hll, hr⟩
      · rw [none1 hone]
        refine .inr ⟨x.length, l, ?_, rfl⟩
        rw [decide_eq_false (by omega)]
  · have := trimP0 (x := x) (h := h) (ex := []) (by
      have : x = [] := List.eq_nil_of_length_eq_zero (by omega)
      subst this; rfl)
    rw [List.append_nil] at this
    exact this
end Go.Proofs.YtedaffmkpljlnaaGreat

/- Norm, plain: what an expression means by a table, what a text means, a set's text. -/
namespace Go.Proofs.YtedaffmkpljlnaaGreat
set_option linter.unusedSimpArgs false
set_option linter.unusedVariables false
open Go.RowKit Go.Lib

def atomE (L : Nat → List ByteArray) (t : Trm) : List ByteArray × Int :=
  if t.of = 0 then ([atomW 1], 0) else if findB L t.of t.name = true then ([atomW (findA L t.of t.name).toNat], 0) else ([], 10)
def opE (k : Int) (a b : List ByteArray) : List ByteArray × Int :=
  if k = 2 then andE a b else if k = 3 then forE a b else if k = 4 then quoteE a b else asE a (atomAt (b.headD ⟨#[]⟩) 0)
def stepN (L : Nat → List ByteArray) (t : Trm) (st : List (List ByteArray)) : List ByteArray × Int :=
  if t.op = 1 then atomE L t else match st with
    | b :: a :: _ => opE t.op a b
    | _ => ([], 0)
def leftN (t : Trm) (st : List (List ByteArray)) : List (List ByteArray) := if t.op = 1 then st else st.drop 2
def runN (L : Nat → List ByteArray) : List Trm → Nat → List (List ByteArray) → List ByteArray × Nat × Int
  | [], _, st => (st.getLastD [], 0, 0)
  | t :: x, i, st => if (stepN L t st).2 = 0 then runN L x (i + 1) ((stepN L t st).1 :: leftN t st) else ([], i, (stepN L t st).2)
def runE (L : Nat → List ByteArray) (x : List Trm) : List ByteArray × Nat × Int := if (treeT x).isSome then runN L x 0 [] else ([], 0, 2)
def readE (L : Nat → List ByteArray) (s : ByteArray) : List ByteArray × Int × Int :=
  if (parseR s).2.2 = 0 then ((runE L (parseR s).1).1, 0, (runE L (parseR s).1).2.2) else ([], (parseR s).2.1, (parseR s).2.2)
def wordA (L : Nat → List ByteArray) (a : Nat) : ByteArray := wordT 1 (nameS L a) (a / 8192)
def sepA (l : List Nat) (k : Nat) : List UInt8 := if k = 0 then [] else if ((l.take (k + 1)).drop 1).all (fun a => decide (a / 8192 = 5)) then [32, 97, 115, 32] else [32, 124, 32]
def txtW (L : Nat → List ByteArray) (l : List Nat) (n : Nat) : List UInt8 := (List.range n).flatMap fun k => sepA l k ++ (wordA L (l.getD k 0)).data.toList
def noText (L : Nat → List ByteArray) (w : ByteArray) : Bool := (atomNs w).any fun a => decide (wordA L a = ⟨#[]⟩)
def showW (L : Nat → List ByteArray) (w : ByteArray) : List UInt8 := txtW L (atomNs w) (w.size / 2)
def andB : List UInt8 := [32, 97, 110, 100, 32]
def showE (L : Nat → List ByteArray) (s : List ByteArray) : ByteArray × Int :=
  if setMay s = false then (⟨#[]⟩, 2) else if s.any (noText L) = true then (⟨#[]⟩, 10) else (ba (Lib.join (s.map (showW L)) andB), 0)
end Go.Proofs.YtedaffmkpljlnaaGreat

/- Expressions: Text's closure; Text, May, Deep. -/
-- fast
-- rows
namespace Go.Proofs.YtedaffmkpljlnaaGreat
set_option linter.unusedSimpArgs false
set_option linter.unusedVariables false
open Go.RowKit Go.Lib

end Go.Proofs.YtedaffmkpljlnaaGreat

/- Expressions: Text, May, Deep. -/
-- fast
-- rows
namespace Go.Proofs.YtedaffmkpljlnaaGreat
set_option linter.unusedSimpArgs false
set_option linter.unusedVariables false
open Go.RowKit Go.Lib

theorem frees_vtrs (x : List Trm) : free.frees [vTrs x] = true := by simp [vTrs, free, free.frees, frees_trs]
theorem p_may (x : List Trm) (hl : x.length ≤ 9223372036854775807) (hn : ∀ t ∈ x, t.name.size ≤ 1000000) : PCalls Tryz.prog 28 [vTrs x] (.bool (treeT x).isSome) := by
  have q := a_parts (h := []) x hl hn
  simp only [vTrs] at q
  refine pcalls_of (frees_vtrs x) rfl (acalls_of mixed J_expr_May_ok (Nat.le_of_ble_eq_true rfl) ?_); simp only [J_expr_May, vTrs, wk,eq_self,reduceCtorEq,↓reduceIte]
  refine ACalls.use q ?_
  intro a h' hp
  unfold PostP at hp
  cases ht : treeT x with
  | some e =>
    rw [ht] at hp
    obtain ⟨l, rfl, rfl, _, _⟩ := hp
    simp only [wk,eq_self,Nat.reduceEqDiff,↓reduceIte]
    rfl
  | none =>
    rw [ht] at hp
    rcases hp with ⟨rfl, rfl⟩ | ⟨n, l, rfl, rfl⟩
    · simp only [wk,eq_self,Nat.reduceEqDiff,↓reduceIte]
      rfl
    · simp only [wk,eq_self,Nat.reduceEqDiff,↓reduceIte]
      rfl
end Go.Proofs.YtedaffmkpljlnaaGreat

/- Expressions: the document's Last. -/
-- fast
-- rows
namespace Go.Proofs.YtedaffmkpljlnaaGreat
set_option linter.unusedSimpArgs false
set_option linter.unusedVariables false
open Go.RowKit Go.Lib

end Go.Proofs.YtedaffmkpljlnaaGreat

/- Expressions: the document's Text, May, Deep. -/
-- fast
-- rows
namespace Go.Proofs.YtedaffmkpljlnaaGreat
set_option linter.unusedSimpArgs false
set_option linter.unusedVariables false
open Go.RowKit Go.Lib

end Go.Proofs.YtedaffmkpljlnaaGreat

/- Expressions: the laws' own functions: same, large, awake. -/
-- fast
namespace Go.Proofs.YtedaffmkpljlnaaGreat
set_option linter.unusedSimpArgs false
set_option linter.unusedVariables false
open Go.RowKit Go.Lib

instance : DecidableEq Trm := fun a b => if h : a.op = b.op ∧ a.of = b.of ∧ a.name = b.name then isTrue (by cases a; cases b; simp_all) else isFalse (by rintro rfl; exact h ⟨rfl, rfl, rfl⟩)
def s1 : ByteArray := ⟨#[97, 32, 97, 110, 100, 32, 98, 124, 99, 32, 97, 115, 32, 114, 111, 108, 101, 58, 114]⟩
def s2 : ByteArray := ⟨#[97, 32, 97, 110, 100, 32, 97, 110, 100]⟩
def s3 : ByteArray := ⟨#[97, 32, 102, 111, 114, 32, 40, 98, 32, 102, 111, 114, 32, 99, 41]⟩
end Go.Proofs.YtedaffmkpljlnaaGreat

/- ExprParses, ExprReads, ExprWrites. -/
-- fast
namespace Go.Proofs.YtedaffmkpljlnaaGreat
set_option linter.unusedSimpArgs false
set_option linter.unusedVariables false
open Go.RowKit Go.Lib

theorem readR_len {wd : Tok → Bool} (l : List Tok) : (readR wd l).1.length ≤ l.length := by
  unfold readR
  have := readD_size l
  repeat' split
  all_goals first | (simp; done) | omega
theorem parseR_len (s : ByteArray) : (parseR s).1.length ≤ 1000 := by
  have h1 := readR_len (wd := wdB) (allT s).1
  have h2 := allT_len s
  unfold parseR
  repeat' split
  all_goals first | (simp; done) | (simp only; omega)
end Go.Proofs.YtedaffmkpljlnaaGreat

/- Blanks, and what is passed over: plain laws. -/
namespace Go.Proofs.YtedaffmkpljlnaaGreat
set_option linter.unusedSimpArgs false
set_option linter.unusedVariables false
open Go.RowKit Go.Lib

def passed (p : List UInt8) : Prop := ∀ (rest : List UInt8) (a : Nat) (acc : List Tok), scan (p ++ rest) a acc = scan rest (a + p.length) acc
def stands (l : List Tok) (t : List UInt8) : Prop := ∀ (rest : List UInt8) (a : Nat) (acc : List Tok), acc.length + l.length ≤ 1000 → ∃ l' : List Tok, scan (t ++ rest) a acc = scan rest (a + t.length) (acc ++ l') ∧ l.map core = l'.map core
end Go.Proofs.YtedaffmkpljlnaaGreat

/- Tokens stand where they say: plain laws. -/
namespace Go.Proofs.YtedaffmkpljlnaaGreat
set_option linter.unusedSimpArgs false
set_option linter.unusedVariables false
open Go.RowKit Go.Lib

def gapF : Bool → List UInt8 → Option Bool
  | nt, [] => some nt
  | nt, b :: r => if (!(b.toNat == 10) && (b.toNat == 35 || nt)) = true then gapF true r else if blankB b = true then gapF false r else none
def places : List UInt8 → Nat → List Tok → Prop
  | l, _, [] => ∃ nt, gapF false l = some nt
  | l, a, t :: ts => ∃ g n : Nat, t.at_ = (a + g : Nat) ∧ g + n ≤ l.length ∧ 1 ≤ n ∧ gapF false (l.take g) = some false ∧ ((l.drop g).headD 0).toNat ≠ 10 ∧ wrd t = ba ((l.drop g).take n) ∧ places (l.drop (g + n)) (a + g + n) ts
end Go.Proofs.YtedaffmkpljlnaaGreat

/- The first wrong thing from the left is told: plain laws. -/
namespace Go.Proofs.YtedaffmkpljlnaaGreat
set_option linter.unusedSimpArgs false
set_option linter.unusedVariables false
open Go.RowKit Go.Lib

end Go.Proofs.YtedaffmkpljlnaaGreat

/- Expressions: what stands around a text; places don't matter (plain). -/
namespace Go.Proofs.YtedaffmkpljlnaaGreat
set_option linter.unusedSimpArgs false
set_option linter.unusedVariables false
open Go.RowKit Go.Lib

def norm (t : Tok) : Tok := ⟨t.kind, t.name, t.of, 0⟩
end Go.Proofs.YtedaffmkpljlnaaGreat

/- ExprOpen. -/
-- fast
namespace Go.Proofs.YtedaffmkpljlnaaGreat
set_option linter.unusedSimpArgs false
set_option linter.unusedVariables false
open Go.RowKit Go.Lib

theorem parse_ok {s : ByteArray} (h : (parseR s).2.2 = 0) : (allT s).2.2 = 0 ∧ (readR wdB (allT s).1).2.2 = 0 ∧ parseR s = ((readR wdB (allT s).1).1, 0, 0) := by
  unfold parseR at h ⊢
  by_cases h1 : (allT s).2.2 = 0
  · rw [if_neg (fun h => h h1)] at h ⊢
    by_cases h2 : (readR wdB (allT s).1).2.2 = 0
    · rw [if_pos h2] at h ⊢
      exact ⟨h1, h2, rfl⟩
    · rw [if_neg h2] at h
      exfalso
      split at h
      · exact h2 h
      · split at h
        · cases h
        · exact h2 h
  · rw [if_pos h1] at h
    exact absurd h h1
end Go.Proofs.YtedaffmkpljlnaaGreat

/- ExprJoins. -/
-- fast
namespace Go.Proofs.YtedaffmkpljlnaaGreat
set_option linter.unusedSimpArgs false
set_option linter.unusedVariables false
open Go.RowKit Go.Lib

end Go.Proofs.YtedaffmkpljlnaaGreat

/- Expressions: what is read, written again (plain). -/
-- fast
namespace Go.Proofs.YtedaffmkpljlnaaGreat
set_option linter.unusedSimpArgs false
set_option linter.unusedVariables false
open Go.RowKit Go.Lib

theorem srun_names {P : Trm → Prop} (hs : ∀ k, P (sgn k)) : ∀ (l : List Tok) (s : List Trm × List Int), (∀ t ∈ l, P (leaf t)) → (∀ t ∈ s.1, P t) → ∀ t ∈ (srun l s).1, P t
  | [], s, _, h, t, ht => h t ht
  | u :: l, s, hl, h, t, ht => by
    refine srun_names hs l (sstep s u) (fun t ht => hl t (by simp [ht])) ?_ t ht
    intro v hv
    have hmap : ∀ (w : List Int), ∀ v ∈ s.1 ++ w.map sgn, P v := fun w v hv => by
      rcases List.mem_append.1 hv with hv | hv
      · exact h v hv
      · obtain ⟨k, _, rfl⟩ := List.mem_map.1 hv; exact hs k
    unfold sstep at hv
    split at hv
    · rcases List.mem_append.1 hv with hv | hv
      · exact h v hv
      · simp only [List.mem_singleton] at hv; subst hv; exact hl u (by simp)
    · split at hv
      · exact h v hv
      · split at hv
        · exact hmap _ v hv
        · exact hmap _ v hv
theorem readD_names {l : List Tok} (h : ∀ t ∈ l, t.name.size ≤ 1000000) : ∀ t ∈ readD l, t.name.size ≤ 1000000 := by
  have h0 : ∀ k, (sgn k).name.size ≤ 1000000 := fun k => by show (⟨#[]⟩ : ByteArray).size ≤ _; decide
  intro t ht
  unfold readD at ht
  rcases List.mem_append.1 ht with ht | ht
  · exact srun_names (P := fun t => t.name.size ≤ 1000000) h0 l ([], []) (fun t ht => h t ht) (by simp) t ht
  · obtain ⟨k, _, rfl⟩ := List.mem_map.1 ht; exact h0 k
end Go.Proofs.YtedaffmkpljlnaaGreat

/- ExprFew. -/
-- fast
namespace Go.Proofs.YtedaffmkpljlnaaGreat
set_option linter.unusedSimpArgs false
set_option linter.unusedVariables false
open Go.RowKit Go.Lib

end Go.Proofs.YtedaffmkpljlnaaGreat

/- Expressions: what is read can be written and is read alike; how deep parentheses are (plain). -/
-- fast
namespace Go.Proofs.YtedaffmkpljlnaaGreat
set_option linter.unusedSimpArgs false
set_option linter.unusedVariables false
open Go.RowKit Go.Lib

end Go.Proofs.YtedaffmkpljlnaaGreat

/- Expressions: what comes of a text that was written (plain); deepRight. -/
-- fast
namespace Go.Proofs.YtedaffmkpljlnaaGreat
set_option linter.unusedSimpArgs false
set_option linter.unusedVariables false
open Go.RowKit Go.Lib

end Go.Proofs.YtedaffmkpljlnaaGreat
