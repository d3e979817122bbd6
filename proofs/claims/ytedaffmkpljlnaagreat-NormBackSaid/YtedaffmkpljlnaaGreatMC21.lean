/- Texts of one proof, laid together: Kl Km Kn Ko Kp Kr Ks Kt Ku Eh Ei Na Ej Ek El Em En Eo Kw Ky KB Eq Er Es Et Ev Ew Ex. -/
import Derived.Test.YtedaffmkpljlnaaGreatMC19
import Derived.Test.YtedaffmkpljlnaaGreatMC20
import Derived.Test.YtedaffmkpljlnaaGreatMC1
import Derived.Shelf.Strings.OnBuilder
import Derived.Test.YtedaffmkpljlnaaGreatMC18
import Derived.Test.YtedaffmkpljlnaaGreatMC4
set_option maxRecDepth 100000
set_option maxHeartbeats 16000000

set_option linter.unusedSimpArgs false
set_option linter.unusedVariables false
/- strings.Join: the kit's contract, as a call that leaves all objects alone. -/
namespace Go.Proofs.YtedaffmkpljlnaaGreat
open Go.RowKit Go.Lib Go.Shelf

theorem xJoin : Builder.Extra Tryz.prog lJoin_ren where
 sizeBuilder := by kernel_rfl
 liesBuilder := by kernel_rfl
 t5 := Tryz.underlying5
 a5 := Tryz.isAgg5
 z5 := Tryz.sizeOf5
 v5 := Tryz.zeroValue5
 infoByte := by kernel_rfl
 cellsByte := by kernel_rfl
 sizeByte := by kernel_rfl
 neB5 := by decide
def joinB (l : List ByteArray) : ByteArray := ba (Lib.join (l.map (·.data.toList)) [32])
theorem rep_cap {g : Gh} {x : Value} {z : AV} (h : Rep g x z) : ∀ a n c f m l, x = .slice a n c → z = .lst f m l → n ≤ c := by
 intro a n c f m l h1 h2
 cases h <;> first
  | (cases h2; done)
  | (cases h1; assumption)
  | (cases h1; omega)
end Go.Proofs.YtedaffmkpljlnaaGreat
/- Text: the program's and the reference's. -/
namespace Go.Proofs.YtedaffmkpljlnaaGreat
open Go.RowKit Go.Lib

def wrd (t : Tok) : ByteArray := wordT t.kind t.name t.of
theorem atomW_size (o : Int) (w : ByteArray) : (atomWk o w).size ≤ w.size + 6 := by
 have h3 : (⟨#[]⟩ : ByteArray).size = 0 := rfl
 unfold atomWk
 repeat' split
 all_goals first
  | omega
  | (have := preW_size o; rw [ByteArray.size_append]; omega)
theorem wordT_size (k : Int) (w : ByteArray) (o : Int) : (wordT k w o).size ≤ w.size + 6 := by
 have h0 : (⟨#[]⟩ : ByteArray).size = 0 := rfl
 have h1 : (⟨#[97, 110, 100]⟩ : ByteArray).size = 3 := rfl
 have h2 : (⟨#[102, 111, 114]⟩ : ByteArray).size = 3 := rfl
 have h3 : (⟨#[97, 115]⟩ : ByteArray).size = 2 := rfl
 have h4 : (⟨#[124]⟩ : ByteArray).size = 1 := rfl
 have h5 : (⟨#[40]⟩ : ByteArray).size = 1 := rfl
 have h6 : (⟨#[41]⟩ : ByteArray).size = 1 := rfl
 have := atomW_size o w
 unfold wordT
 repeat' split
 all_goals omega
section
variable {α : Type} (h : List α) (x y z : α)
end
def c1 : ByteArray := ⟨#[107, 101, 121, 58, 107, 49, 124, 97, 108, 105, 99, 101, 32, 97, 115, 32, 114, 111, 108, 101, 58, 114, 32, 35, 32, 120]⟩
def c2 : ByteArray := ⟨#[97, 32, 75]⟩
theorem scanF_len : ∀ (f : Nat) (l : List UInt8) (a : Nat) (acc : List Tok), acc.length ≤ 1000 → (scanF f l a acc).1.length ≤ 1000
 | 0, _, _, acc, h => h
 | f + 1, [], _, acc, h => h
 | f + 1, b :: r, a, acc, h => by
  simp only [scanF]
  split
  ·exact scanF_len f r _ _ h
  ·split
   ·exact scanF_len f _ _ _ h
   ·split
    ·simp
    ·split
     ·simp
     ·exact scanF_len f _ _ _ (by simp; omega)
theorem allT_len (s : ByteArray) : (allT s).1.length ≤ 1000 := by
 unfold allT
 split
 ·simp
 ·exact scanF_len _ _ _ _ (by simp)
theorem stop_app {q : Int → Bool} {l r : List UInt8} (h : ∀ b ∈ l, q b.toNat = true) (h2 : ∀ b r', r = b :: r' → q b.toNat = false) : stopN q (l ++ r) = l.length := by
 unfold stopN
 refine tw_len (by simp) (fun b hb => ?_) (fun hlt => ?_)
 ·rw [List.take_left] at hb; exact h b hb
 ·rw [List.getElem_append_right (Nat.le_refl _)]
  simp only [Nat.sub_self]
  cases r with
  | nil => simp at hlt
  | cons c r' => exact h2 c r' rfl
theorem fine_inn {r : List UInt8} (h : fineL r = true) : ∀ b r', r = b :: r' → innI b.toNat = false := by
 rintro b r' rfl
 simp only [fineL, freI, Bool.and_eq_true, Bool.not_eq_true'] at h
 exact h.1.1
theorem fine_dig {r : List UInt8} (h : fineL r = true) : ∀ b r', r = b :: r' → digI b.toNat = false := by
 intro b r' e
 have := fine_inn h b r' e
 simp only [innI, Bool.or_eq_false_iff] at this
 exact this.1.1.2
theorem fine_colon {r : List UInt8} (h : fineL r = true) : colonL r = false := by
 cases r with
 | nil => rfl
 | cons b r =>
  simp only [fineL, freI, Bool.and_eq_true, decide_eq_true_eq] at h
  have := h.1.2
  simp only [colonL, beq_eq_false_iff_ne]
  omega
theorem may_all {n : ByteArray} (h : mayN n = true) : 1 ≤ n.size ∧ n.size ≤ 24 ∧ lttI (n.data.toList.headD 0).toNat = true ∧ ∀ b ∈ n.data.toList, innI b.toNat = true := by
 have hl := len_size n
 unfold mayN mayL at h
 simp only [Bool.and_eq_true, decide_eq_true_eq] at h
 obtain ⟨h1, h2, h3, h4⟩ := h
 exact ⟨by omega, by omega, h3, List.all_eq_true.1 h4⟩
theorem take_ba (n : ByteArray) (r : List UInt8) : ba ((n.data.toList ++ r).take n.size) = n := by
 rw [← len_size n, List.take_left, ba_eta]
theorem name_may {n : ByteArray} {r : List UInt8} (h : mayN n = true) (hf : fineL r = true) : nameL (n.data.toList ++ r) = some n.size ∧ stopN innI (n.data.toList ++ r) = n.size := by
 obtain ⟨h1, h2, h3, h4⟩ := may_all h
 have hl := len_size n
 have hs : stopN innI (n.data.toList ++ r) = n.size := by rw [stop_app h4 (fine_inn hf), hl]
 refine ⟨?_, hs⟩
 have hh : (n.data.toList ++ r).headD 0 = n.data.toList.headD 0 := by
  cases hn : n.data.toList with
  | nil => rw [hn] at hl; simp at hl; omega
  | cons c t => rfl
 rw [name_some, hs, hh, if_pos ⟨h3, h2, by rw [← hl, List.drop_left]; exact hf⟩]
theorem sign_name {n : ByteArray} {r : List UInt8} (h : mayN n = true) (hf : fineL r = true) : signL (n.data.toList ++ r) = if keyW n = 0 then some (1, n, 3, n.size) else some (keyW n, ba [], 0, n.size) := by
 obtain ⟨h1, h2, h3, h4⟩ := may_all h
 obtain ⟨g1, g2⟩ := name_may h hf
 have hl := len_size n
 have hk : kindL (n.data.toList ++ r) = 0 := by
  rw [kind_name, g2, if_neg]
  rintro ⟨-, hc⟩
  rw [← hl, List.drop_left, fine_colon hf] at hc
  cases hc
 obtain ⟨L, hL⟩ : ∃ L, L = n.data.toList ++ r := ⟨_, rfl⟩
 have ht := take_ba n r
 rw [← hL] at g1 g2 hk ht ⊢
 unfold signL
 rw [if_pos hk]
 cases L with
 | nil => cases g1
 | cons b t =>
  have hb : lttI b.toNat = true := by
   cases hn : n.data.toList with
   | nil => rw [hn] at hl; simp at hl; omega
   | cons c u =>
    rw [hn] at hL h3
    injection hL with e _
    rw [e]; exact h3
  simp only [plainL]
  rw [if_pos hb, g1]
  simp only [ht]
theorem beg_self (p : ByteArray) (r : List UInt8) : begL p (p.data.toList ++ r) = true := by
 unfold begL
 rw [← len_size p, List.take_left, decide_eq_true_eq]
theorem kind_pre {o : Int} (ho : o ∈ kinds) (r : List UInt8) : kindL ((preW o).data.toList ++ r) = o := by
 have h2 : o = 1 ∨ o = 2 ∨ o = 4 ∨ o = 5 := by simpa [kinds] using ho
 have b1 : begL (preW 1) ((preW 2).data.toList ++ r) = false ∧ begL (preW 1) ((preW 4).data.toList ++ r) = false ∧ begL (preW 1) ((preW 5).data.toList ++ r) = false := ⟨rfl, rfl, rfl⟩
 have b2 : begL (preW 2) ((preW 4).data.toList ++ r) = false ∧ begL (preW 2) ((preW 5).data.toList ++ r) = false := ⟨rfl, rfl⟩
 have b4 : begL (preW 4) ((preW 5).data.toList ++ r) = false := rfl
 obtain ⟨b12, b14, b15⟩ := b1
 obtain ⟨b24, b25⟩ := b2
 unfold kindL
 rcases h2 with rfl | rfl | rfl | rfl
 ·rw [if_pos (beg_self _ _)]
 ·rw [b12, if_neg (by simp), if_pos (beg_self _ _)]
 ·rw [b14, b24, if_neg (by simp), if_neg (by simp), if_pos (beg_self _ _)]
 ·rw [b15, b25, b4, if_neg (by simp), if_neg (by simp), if_neg (by simp), if_pos (beg_self _ _)]
theorem sign_atom {n : ByteArray} {o : Int} {r : List UInt8} (ho : o ∈ kinds) (h : mayN n = true) (hf : fineL r = true) : signL ((preW o ++ n).data.toList ++ r) = some (1, n, o, (preW o ++ n).size) := by
 have hp := len_size (preW o)
 have e : (preW o ++ n).data.toList ++ r = (preW o).data.toList ++ (n.data.toList ++ r) := by
  rw [ByteArray.data_append, Array.toList_append, List.append_assoc]
 rw [e]
 unfold signL
 rw [kind_pre ho, if_neg (kinds_nz ho), ← hp, List.drop_left]
 unfold atomL
 rw [(name_may h hf).1]
 simp only [take_ba, ByteArray.size_append, hp]
theorem sign_word {k : Int} {n : ByteArray} {o : Int} {r : List UInt8} (hw : wordT k n o ≠ ⟨#[]⟩) (hf : fineL r = true) : signL ((wordT k n o).data.toList ++ r) = some (k, n, o, (wordT k n o).size) := by
 have hl := len_size n
 by_cases h1 : k = 1
 ·subst h1
  have e : wordT 1 n o = atomWk o n := by unfold wordT; rw [if_pos rfl]
  rw [e] at hw ⊢
  by_cases h0 : o = 0
  ·subst h0
   have e2 : atomWk 0 n = if n = ⟨#[68]⟩ then n else ⟨#[]⟩ := by unfold atomWk; rw [if_pos rfl]
   rw [e2] at hw ⊢
   by_cases hd : n = ⟨#[68]⟩
   ·subst hd
    rw [if_pos rfl]
    show signL (68 :: r) = _
    rw [sig_d rfl, good_d, if_pos hf]; rfl
   ·rw [if_neg hd] at hw; exact absurd rfl hw
  ·by_cases hm : mayN n = true
   ·by_cases hk : o = 1 ∨ o = 2 ∨ o = 4 ∨ o = 5
    ·have ho : o ∈ kinds := by simpa [kinds] using hk
     have e2 : atomWk o n = preW o ++ n := by unfold atomWk; rw [if_neg h0, if_pos hm, if_pos hk]
     rw [e2]; exact sign_atom ho hm hf
    ·by_cases h3 : o = 3 ∧ keyW n = 0
     ·have e2 : atomWk o n = n := by unfold atomWk; rw [if_neg h0, if_pos hm, if_neg hk, if_pos h3]
      rw [e2, sign_name hm hf, if_pos h3.2, h3.1]
     ·have e2 : atomWk o n = ⟨#[]⟩ := by unfold atomWk; rw [if_neg h0, if_pos hm, if_neg hk, if_neg h3]
      exact absurd e2 hw
   ·have e2 : atomWk o n = ⟨#[]⟩ := by unfold atomWk; rw [if_neg h0, if_neg hm]
    exact absurd e2 hw
 ·by_cases h0 : o = 0
  ·subst h0
   by_cases h8 : k = 8
   ·subst h8
    have e : wordT 8 n 0 = if numW n = true then n else ⟨#[]⟩ := by unfold wordT; rw [if_neg (by decide), if_neg (by decide), if_pos rfl]
    rw [e] at hw ⊢
    by_cases hn : numW n = true
    ·rw [if_pos hn]
     have hn2 := hn
     unfold numW at hn2
     simp only [Bool.and_eq_true, decide_eq_true_eq] at hn2
     obtain ⟨n1, n2, n3, n4⟩ := hn2
     have hs : stopN digI (n.data.toList ++ r) = n.size := by rw [stop_app (fun b hb => List.all_eq_true.1 n3 b hb) (fine_dig hf), hl]
     obtain ⟨b, t, hbt⟩ : ∃ b t, n.data.toList = b :: t := by
      cases hc : n.data.toList with
      | nil => rw [hc] at hl; simp at hl; omega
      | cons b t => exact ⟨b, t, rfl⟩
     have hb : digI b.toNat = true := List.all_eq_true.1 n3 b (by rw [hbt]; simp)
     have ht := take_ba n r
     have hdr : (n.data.toList ++ r).drop n.size = r := by rw [← hl, List.drop_left]
     rw [hbt] at hs ht hdr ⊢
     rw [List.cons_append] at hs ht hdr ⊢
     rw [sig_dig hb, hs, ht]
     have hg : goodT (8, n, 0, n.size) (b :: (t ++ r)) = true := by
      unfold goodT
      simp only [hdr, hf, Bool.and_true, decide_eq_true_eq]
      have e3 : wordT 8 n 0 = n := by rw [e, if_pos hn]
      rw [e3]
      intro e4; rw [e4] at n1; exact absurd n1 (by decide)
     rw [if_pos hg]
    ·rw [if_neg hn] at hw; exact absurd rfl hw
   ·by_cases h9 : k = 9
    ·subst h9
     have e : wordT 9 n 0 = if sigW n = true then n else ⟨#[]⟩ := by unfold wordT; rw [if_neg (by decide), if_neg (by decide), if_neg (by decide), if_pos rfl]
     rw [e] at hw ⊢
     by_cases hn : sigW n = true
     ·rw [if_pos hn]
      unfold sigW at hn
      simp only [Bool.and_eq_true, decide_eq_true_eq] at hn
      obtain ⟨b, rfl⟩ := one_byte hn.1
      show signL (b :: r) = _
      rw [sig_sign hn.2]; rfl
     ·rw [if_neg hn] at hw; exact absurd rfl hw
    ·by_cases hn : n = ⟨#[]⟩
     ·subst hn
      have key : ∀ (x : ByteArray) (kk : Int), mayN x = true → keyW x = kk → kk ≠ 0 → signL (x.data.toList ++ r) = some (kk, ⟨#[]⟩, 0, x.size) := fun x kk g1 g2 g3 => by
       rw [sign_name g1 hf, if_neg (by rw [g2]; exact g3), g2]; rfl
      by_cases h2 : k = 2
      ·subst h2; exact key ⟨#[97, 110, 100]⟩ 2 (by decide) (by decide) (by decide)
      ·by_cases h3 : k = 3
       ·subst h3; exact key ⟨#[102, 111, 114]⟩ 3 (by decide) (by decide) (by decide)
       ·by_cases h5 : k = 5
        ·subst h5; exact key ⟨#[97, 115]⟩ 5 (by decide) (by decide) (by decide)
        ·by_cases h4 : k = 4
         ·subst h4
          show signL (124 :: r) = _
          rw [sig_124 rfl]; rfl
         ·by_cases h6 : k = 6
          ·subst h6
           show signL (40 :: r) = _
           rw [sig_40 rfl]; rfl
          ·by_cases h7 : k = 7
           ·subst h7
            show signL (41 :: r) = _
            rw [sig_41 rfl]; rfl
           ·exact absurd (by unfold wordT; simp [h1, h2, h3, h4, h5, h6, h7, h8, h9]) hw
     ·exact absurd (by unfold wordT; simp [h1, h8, h9, hn]) hw
  ·exact absurd (by unfold wordT; simp [h1, h0]) hw
theorem sign_none {b : UInt8} {r : List UInt8} (h : b.toNat = 32 ∨ b.toNat = 9 ∨ b.toNat = 10 ∨ b.toNat = 35) : signL (b :: r) = none := by
 have hl : lttI b.toNat = false := by rcases h with h | h | h | h <;> rw [h] <;> rfl
 have hd : digI b.toNat = false := by rcases h with h | h | h | h <;> rw [h] <;> rfl
 have hs : sigB b.toNat = false := by rcases h with h | h | h | h <;> rw [h] <;> rfl
 rw [sign_nl hl]; simp only [plainL]
 rw [if_neg (by simp [hl]), if_neg (by omega), if_neg (by omega), if_neg (by omega), if_neg (by omega), if_neg (by simp [hd]), if_neg (by simp [hs])]
theorem sign_nil : signL [] = none := by rfl
theorem scan_tok {l : List UInt8} {k : Int} {w : ByteArray} {o : Int} {n : Nat} (h : signL l = some (k, w, o, n)) (a : Nat) (acc : List Tok) (ha : acc.length < 1000) : scan l a acc = scan (l.drop n) (a + n) (acc ++ [⟨k, w, o, a⟩]) := by
 cases l with
 | nil => rw [sign_nil] at h; cases h
 | cons b r =>
  rw [scan_cons]
  have h1 : ¬ blankB b = true := fun hb => by
   rw [sign_none (by simp [blankB] at hb; omega)] at h; cases h
  have h2 : ¬ b.toNat = 35 := fun hb => by rw [sign_none (by omega)] at h; cases h
  rw [if_neg h1, if_neg h2, h]
  simp only
  rw [if_neg (by omega)]
theorem scan_word {x : Tok} (hw : wrd x ≠ ⟨#[]⟩) {r : List UInt8} (hf : fineL r = true) (a : Nat) (acc : List Tok) (ha : acc.length < 1000) : scan ((wrd x).data.toList ++ r) a acc = scan r (a + (wrd x).size) (acc ++ [⟨x.kind, x.name, x.of, a⟩]) := by
 have h1 : signL ((wrd x).data.toList ++ r) = some (x.kind, x.name, x.of, (wrd x).size) := sign_word hw hf
 rw [scan_tok h1 a acc ha]
 rw [← len_size (wrd x), List.drop_left]
theorem scan_blank {b : UInt8} {r : List UInt8} (h : blankB b = true) (a : Nat) (acc : List Tok) : scan (b :: r) a acc = scan r (a + 1) acc := by rw [scan_cons, if_pos h]
def core (t : Tok) : Int × ByteArray × Int := (t.kind, t.name, t.of)
abbrev wl (t : Tok) : List UInt8 := (wrd t).data.toList
theorem tail_cons (x : Tok) (l : List Tok) : Lib.joinTail [32] ((x :: l).map wl) = 32 :: (wl x ++ Lib.joinTail [32] (l.map wl)) := by
 simp [Lib.joinTail]
theorem tail_fine (l : List Tok) : fineL (Lib.joinTail [32] (l.map wl)) = true := by
 cases l with
 | nil => rfl
 | cons x l => rw [tail_cons]; rfl
theorem scan_tail : ∀ (l : List Tok) (a : Nat) (acc : List Tok), (∀ t ∈ l, wrd t ≠ ⟨#[]⟩) → acc.length + l.length ≤ 1000 → ∃ l' : List Tok, scan (Lib.joinTail [32] (l.map wl)) a acc = (acc ++ l', 0, 0) ∧ l.map core = l'.map core
 | [], a, acc, _, _ => ⟨[], by simp [Lib.joinTail, scan_nil], rfl⟩
 | x :: l, a, acc, h, hn => by
  simp only [List.length_cons] at hn
  obtain ⟨l', h1, h2⟩ := scan_tail l (a + 1 + (wrd x).size) (acc ++ [⟨x.kind, x.name, x.of, (a + 1 : Nat)⟩]) (fun t ht => h t (by simp [ht])) (by simp; omega)
  refine ⟨⟨x.kind, x.name, x.of, (a + 1 : Nat)⟩ :: l', ?_, by rw [List.map_cons, List.map_cons, h2]; rfl⟩
  rw [tail_cons, scan_blank rfl, scan_word (h x (by simp)) (tail_fine l) _ _ (by omega), h1, List.append_assoc]
  rfl
theorem scan_join (l : List Tok) (h : ∀ t ∈ l, wrd t ≠ ⟨#[]⟩) (hn : l.length ≤ 1000) : ∃ l' : List Tok, scan (Lib.join (l.map wl) [32]) 0 [] = (l', 0, 0) ∧ l.map core = l'.map core := by
 cases l with
 | nil => exact ⟨[], rfl, rfl⟩
 | cons x l =>
  simp only [List.length_cons] at hn
  obtain ⟨l', h1, h2⟩ := scan_tail l (0 + (wrd x).size) ([] ++ [⟨x.kind, x.name, x.of, (0 : Nat)⟩]) (fun t ht => h t (by simp [ht])) (by simp; omega)
  refine ⟨⟨x.kind, x.name, x.of, (0 : Nat)⟩ :: l', ?_, by rw [List.map_cons, List.map_cons, h2]; rfl⟩
  rw [List.map_cons, Lib.join_cons, scan_word (h x (by simp)) (tail_fine l) _ _ (by simp), h1]
  rfl
theorem joinB_wl (l : List Tok) : (joinB (l.map wrd)).data.toList = Lib.join (l.map wl) [32] := by
 unfold joinB
 rw [ba_list, List.map_map]
 rfl
theorem sign_size {l : List UInt8} {k : Int} {w : ByteArray} {o : Int} {n : Nat} (h : signL l = some (k, w, o, n)) (hl : l.length ≤ 1000000) : w.size ≤ 1000000 := by
 have tk : ∀ (l : List UInt8) (n : Nat), l.length ≤ 1000000 → (ba (l.take n)).size ≤ 1000000 := fun l n h => by rw [ba_len2, List.length_take]; omega
 have z : (ba []).size ≤ 1000000 := by decide
 unfold signL at h
 split at h
 ·cases l with
  | nil => cases h
  | cons b r =>
   simp only [plainL] at h
   repeat' split at h
   all_goals first
    | (cases h; done)
    | (simp only [Option.some.injEq, Prod.mk.injEq] at h; obtain ⟨_, rfl, _⟩ := h; first | exact tk _ _ hl | exact z | (rw [ba_len2]; simp))
 ·unfold atomL at h
  split at h
  ·cases h
  ·simp only [Option.some.injEq, Prod.mk.injEq] at h
   obtain ⟨_, rfl, _⟩ := h
   exact tk _ _ (by simp; omega)
theorem allT_name {s : ByteArray} (hs : s.size ≤ 1000000) : ∀ t ∈ (allT s).1, t.name.size ≤ 1000000 := by
 have hl := len_size s
 have gen : ∀ (f : Nat) (l : List UInt8) (a : Nat) (acc : List Tok), l.length ≤ 1000000 → (∀ t ∈ acc, t.name.size ≤ 1000000) → ∀ t ∈ (scanF f l a acc).1, t.name.size ≤ 1000000 := by
  intro f
  induction f with
  | zero => intro l a acc _ h; exact h
  | succ f ih =>
   intro l a acc hlen h
   cases l with
   | nil => exact h
   | cons b r =>
    simp only [scanF]
    simp only [List.length_cons] at hlen
    split
    ·exact ih _ _ _ (by omega) h
    ·split
     ·exact ih _ _ _ (by simp; omega) h
     ·split
      ·simp
      ·next k w o n hsg =>
       split
       ·simp
       ·refine ih _ _ _ (by simp; omega) fun t ht => ?_
        rcases List.mem_append.1 ht with ht | ht
        ·exact h t ht
        ·simp only [List.mem_singleton] at ht
         subst ht
         exact sign_size hsg (by simp; omega)
 unfold allT
 split
 ·simp
 ·exact gen _ _ _ _ (by omega) (by simp)
end Go.Proofs.YtedaffmkpljlnaaGreat
/- Expressions: Parse, and the document's. -/
-- fast
-- rows
namespace Go.Proofs.YtedaffmkpljlnaaGreat
open Go.RowKit Go.Lib

def resI (r : List Trm × Int × Int) : AV := .tup [vTrs r.1, .int .i64 r.2.1, .int .i64 r.2.2]
theorem free_resI (r : List Trm × Int × Int) : free (resI r) = true := by simp [resI, vTrs, free, free.frees, frees_trs]
def parseR (s : ByteArray) : List Trm × Int × Int :=
 if (allT s).2.2 ≠ 0 then ([], ((allT s).2.1 : Nat), (allT s).2.2)
 else if (readR wdB (allT s).1).2.2 = 0 then ((readR wdB (allT s).1).1, 0, 0)
 else match (allT s).1[(readR wdB (allT s).1).2.1]? with
  | some t => ([], t.at_, (readR wdB (allT s).1).2.2)
  | none => if (readR wdB (allT s).1).2.2 = 3 then ([], 0, 3) else ([], (s.size : Nat), (readR wdB (allT s).1).2.2)
theorem p_parse (s : ByteArray) (hs : s.size ≤ 1000000) : PCalls Tryz.prog 33 [.str s] (resI (parseR s)) := by
 have q1 := p_pall s hs
 have a2 := allT_len s
 have a3 := allT_name (s := s) hs
 have q2 := p_read (allT s).1 (by omega) a3
 obtain ⟨R, hR⟩ : ∃ R, R = readR wdB (allT s).1 := ⟨_, rfl⟩
 obtain ⟨A, hA⟩ : ∃ A, A = allT s := ⟨_, rfl⟩
 unfold parseR
 rw [← hR] at q2 ⊢
 rw [← hA] at q1 a2 a3 q2 ⊢
 simp only [resV, vToks, resX, vTrs] at q1 q2
 refine pcalls_of rfl (free_resI _) (ACalls.deep (acalls_of mixed J_expr_Parse_ok (Nat.le_of_ble_eq_true rfl) ?_)); simp only [J_expr_Parse, wk,ne_eq,eq_self,reduceCtorEq,↓reduceIte]
 refine PCalls.use (q1) ?_; simp only [wk,ne_eq,eq_self,Nat.reduceEqDiff,reduceCtorEq,↓reduceIte]
 refine ⟨fun h0 => ?_, fun h0 => ?_⟩
 ·rw [if_pos h0]
  simp only [rdpw, resI, vTrs]
  rfl
 ·rw [if_neg (fun h => h h0)]
  refine PCalls.use (q2) ?_; simp only [wk,eq_self,Nat.reduceEqDiff,reduceCtorEq,↓reduceIte]
  refine ⟨fun h1 => ?_, fun h1 => ?_⟩
  ·rw [if_pos h1]
   simp only [rdpw, resI, vTrs, rdps_trs]
  ·rw [if_neg h1]
   rcases Nat.lt_or_ge R.2.1 A.1.length with hil | hil
   ·have hd : (toksC A.1).drop (((R.2.1 : Nat) : Int).toNat * 4) = _ := toksC_drop hil
    rw [List.getElem?_eq_getElem hil]
    refine ⟨fun _ => ⟨⟨by omega, by omega⟩, ?_⟩, fun h => absurd (by omega) h⟩
    simp only [wk,eq_self,Nat.reduceEqDiff,reduceCtorEq,↓reduceIte, hd]
    simp only [rdpw, resI, vTrs]
    rfl
   ·rw [List.getElem?_eq_none hil]
    refine ⟨fun h => absurd h (by omega), fun _ => ⟨fun h3 => ?_, fun h3 => ?_⟩⟩
    ·simp only [rdpw, resI, vTrs, h3]
     rfl
    ·simp only [if_neg h3, rdpw, resI, vTrs]
     rfl
end Go.Proofs.YtedaffmkpljlnaaGreat
/- Expressions: the parts of terms. -/
-- fast
-- rows
namespace Go.Proofs.YtedaffmkpljlnaaGreat
open Go.RowKit Go.Lib

def wrT (t : Trm) : Bool := !decide (wordT t.op t.name t.of = ⟨#[]⟩)
theorem p_written (t : Trm) (hn : t.name.size ≤ 1000000) : PCalls Tryz.prog 85 [.agg (trC t)] (.str (wordT t.op t.name t.of)) := by
 have q := p_word t.op t.name t.of 0 hn
 simp only [trC]
 refine pcalls_of (by first | rfl | simp [free, free.frees, frees_str, frees_u8, frees_u16]) (by first | rfl | simp [free, free.frees, frees_str, frees_u8, frees_u16]) (acalls_of mixed J_expr_written_ok (Nat.le_of_ble_eq_true rfl) ?_); simp only [J_expr_written, wk,eq_self,Nat.reduceEqDiff,Nat.reduceAdd,Nat.reduceLeDiff,↓reduceIte]
 refine PCalls.use (q) ?_; simp only [wk,eq_self,↓reduceIte]
def prC (l : List Prt) : List AV := l.flatMap fun p => [.int .i64 p.1, .int .i64 p.2.1, .int .i64 p.2.2]
theorem prC_len (l : List Prt) : (prC l).length = l.length * 3 := by
 induction l with
 | nil => rfl
 | cons x l ih => simp only [prC, List.flatMap_cons, List.length_append, List.length_cons, List.length_nil] at ih ⊢; omega
theorem prC_zero (n : Nat) : ((List.range (n * 3)).map fun i => ([.int .i64 0, .int .i64 0, .int .i64 0] : List AV).getD (i % 3) .nilp) = prC (List.replicate n (0, 0, 0)) := by
 have h1 : ((List.range (n * 3)).map fun i => ([.int .i64 0, .int .i64 0, .int .i64 0] : List AV).getD (i % 3) .nilp) = List.replicate (n * 3) (.int .i64 0) := by
  rw [List.eq_replicate_iff]
  refine ⟨by simp, fun b hb => ?_⟩
  obtain ⟨i, _, rfl⟩ := List.mem_map.1 hb
  rcases (show i % 3 = 0 ∨ i % 3 = 1 ∨ i % 3 = 2 by omega) with h | h | h <;> rw [h] <;> rfl
 rw [h1]
 induction n with
 | zero => rfl
 | succ n ih =>
  rw [List.replicate_succ, show (n + 1) * 3 = n * 3 + 1 + 1 + 1 by omega, List.replicate_succ, List.replicate_succ, List.replicate_succ, ih (by
   rw [List.eq_replicate_iff]
   refine ⟨by simp, fun b hb => ?_⟩
   obtain ⟨i, _, rfl⟩ := List.mem_map.1 hb
   rcases (show i % 3 = 0 ∨ i % 3 = 1 ∨ i % 3 = 2 by omega) with h | h | h <;> rw [h] <;> rfl)]
  rfl
theorem prC_drop : ∀ {l : List Prt} {i : Nat} (h : i < l.length), (prC l).drop (i * 3) = .int .i64 l[i].1 :: .int .i64 l[i].2.1 :: .int .i64 l[i].2.2 :: (prC l).drop ((i + 1) * 3)
 | [], _, h => by simp at h
 | w :: l, 0, h => by simp [prC]
 | w :: l, i + 1, h => by
  have := prC_drop (l := l) (i := i) (by simpa using h)
  simp only [prC, List.flatMap_cons, List.cons_append, List.nil_append] at this ⊢
  rw [show (i + 1) * 3 = i * 3 + 1 + 1 + 1 by omega, show (i + 1 + 1) * 3 = (i + 1) * 3 + 1 + 1 + 1 by omega]
  simp only [List.drop_succ_cons, List.getElem_cons_succ]
  exact this
theorem trsC_drop : ∀ {l : List Trm} {i : Nat} (h : i < l.length), (trsC l).drop (i * 3) = .int .i64 l[i].op :: .int .i64 l[i].of :: .str l[i].name :: (trsC l).drop ((i + 1) * 3)
 | [], _, h => by simp at h
 | w :: l, 0, h => by simp [trsC, trC]
 | w :: l, i + 1, h => by
  have := trsC_drop (l := l) (i := i) (by simpa using h)
  simp only [trsC, List.flatMap_cons, trC, List.cons_append, List.nil_append] at this ⊢
  rw [show (i + 1) * 3 = i * 3 + 1 + 1 + 1 by omega, show (i + 1 + 1) * 3 = (i + 1) * 3 + 1 + 1 + 1 by omega]
  simp only [List.drop_succ_cons, List.getElem_cons_succ]
  exact this
theorem prC_set : ∀ {l : List Prt} {i : Nat} (h : i < l.length) (a b c : Int), (((prC l).set (i * 3) (.int .i64 a)).set (i * 3 + 1) (.int .i64 b)).set (i * 3 + 1 + 1) (.int .i64 c) = prC (l.set i (a, b, c))
 | [], _, h, _, _, _ => by simp at h
 | w :: l, 0, h, a, b, c => by simp [prC]
 | w :: l, i + 1, h, a, b, c => by
  have := prC_set (l := l) (i := i) (by simpa using h) a b c
  simp only [prC, List.flatMap_cons, List.cons_append, List.nil_append, List.set_cons_succ] at this ⊢
  rw [show (i + 1) * 3 = i * 3 + 1 + 1 + 1 by omega]
  simp only [List.set_cons_succ]
  rw [this]
theorem prC_set1 : ∀ {l : List Prt} {i : Nat} (h : i < l.length) (c : Int), (prC l).set (i * 3 + 2) (.int .i64 c) = prC (l.set i (l[i].1, l[i].2.1, c))
 | [], _, h, _ => by simp at h
 | w :: l, 0, h, c => by simp [prC]
 | w :: l, i + 1, h, c => by
  have := prC_set1 (l := l) (i := i) (by simpa using h) c
  simp only [prC, List.flatMap_cons, List.cons_append, List.nil_append, List.set_cons_succ, List.getElem_cons_succ] at this ⊢
  rw [show (i + 1) * 3 = i * 3 + 2 + 1 by omega]
  simp only [List.set_cons_succ]
  rw [this]
def treeT (x : List Trm) : Option Xp := if x.length ≤ 200 then treeX wrT x else none
def PostP (x : List Trm) (h : Hp) (a : AV) (h' : Hp) : Prop := match treeT x with
 | some e => ∃ l : List Prt, a = .tup [.hs h.length x.length, .bool true] ∧ h' = h ++ [some (false, prC l)] ∧ l.length = x.length ∧ Reps x l (x.length - 1) e
 | none => (a = .tup [.lst .clip 0 [], .bool false] ∧ h' = h) ∨ ∃ (n : Nat) (l : List Prt), a = .tup [.hs h.length n, .bool false] ∧ h' = h ++ [some (false, prC l)]
def standX (x : List Trm) (l : List Prt) (k : Nat) : List Int → List Xp → Prop
 | [], [] => True
 | i :: s, e :: st => (∃ n : Nat, i = n ∧ n < k ∧ Reps x l n e) ∧ standX x l k s st
 | _, _ => False
theorem standX_len {x : List Trm} {l : List Prt} {k : Nat} : ∀ {s : List Int} {st : List Xp}, standX x l k s st → s.length = st.length
 | [], [], _ => rfl
 | _ :: _, [], h => h.elim
 | [], _ :: _, h => h.elim
 | i :: s, e :: st, h => by simp [standX_len h.2]
theorem standX_set {x : List Trm} {l : List Prt} {k : Nat} {p : Prt} : ∀ {s : List Int} {st : List Xp}, standX x l k s st → standX x (l.set k p) (k + 1) s st
 | [], [], _ => trivial
 | _ :: _, [], h => h.elim
 | [], _ :: _, h => h.elim
 | i :: s, e :: st, ⟨⟨n, h1, h2, h3⟩, h4⟩ => ⟨⟨n, h1, by omega, h3.set h2⟩, standX_set h4⟩
theorem runX_none {wr : Trm → Bool} : ∀ {l : List Trm} {st : List Xp} (r : List Trm), runX wr l st = none → runX wr (l ++ r) st = none
 | [], _, _, h => by simp [runX] at h
 | t :: l, st, r, h => by
  simp only [List.cons_append, runX] at h ⊢
  cases hs : stepX wr t st with
  | none => rfl
  | some s => rw [hs] at h; exact runX_none r h
theorem trimP0 {x : List Trm} {h ex : Hp} (hx : treeT x = none) : ∃ h2 ex', h ++ ex = h2 ++ ex' ∧ h.length ≤ h2.length ∧ low h2.length (.tup [.lst .clip 0 [], .bool false]) = true ∧ (∀ (j : Nat) s l, h2[j]? = some (some (s, l)) → (∃ s', h[j]? = some (some (s', l))) ∨ low.lows h2.length l = true) ∧ PostP x h (.tup [.lst .clip 0 [], .bool false]) h2 :=
 ⟨h, ex, rfl, Nat.le_refl _, rfl, fun _ s _ hl => .inl ⟨s, hl⟩, by unfold PostP; rw [hx]; exact .inl ⟨rfl, rfl⟩⟩
theorem frees_prs (l : List Prt) : free.frees (prC l) = true := by
 induction l with
 | nil => rfl
 | cons x l ih => simp only [prC, List.flatMap_cons, List.cons_append, List.nil_append, free.frees, free, Bool.true_and] at ih ⊢; exact ih
theorem trimP1 {x : List Trm} {h ex : Hp} {l : List Prt} {n : Nat} {b : Bool} (hp : PostP x h (.tup [.hs h.length n, .bool b]) (h ++ [some (false, prC l)])) : ∃ h2 ex', (h ++ [some (false, prC l)]) ++ ex = h2 ++ ex' ∧ h.length ≤ h2.length ∧ low h2.length (.tup [.hs h.length n, .bool b]) = true ∧ (∀ (j : Nat) s l, h2[j]? = some (some (s, l)) → (∃ s', h[j]? = some (some (s', l))) ∨ low.lows h2.length l = true) ∧ PostP x h (.tup [.hs h.length n, .bool b]) h2 := by
 refine ⟨_, ex, rfl, by simp, by simp [low, low.lows], fun j s l' hj => ?_, hp⟩
 rcases Nat.lt_or_ge j h.length with h1 | h1
 ·rw [List.getElem?_append_left h1] at hj
  exact .inl ⟨s, hj⟩
 ·rw [List.getElem?_append_right h1] at hj
  cases hd : j - h.length with
  | zero =>
   rw [hd] at hj
   simp only [List.getElem?_cons_zero, Option.some.injEq, Prod.mk.injEq] at hj
   obtain ⟨_, rfl⟩ := hj
   exact .inr (lows_free (frees_prs l))
  | succ n => rw [hd] at hj; simp at hj
theorem Reps.drop {x : List Trm} {l : List Prt} {n : Nat} {e : Xp} (h : Reps x l n e) : (prC l).drop (n * 3 + 2) = .int .i64 e.deep :: (prC l).drop ((n + 1) * 3) := by
 obtain ⟨p, h1, h2⟩ := h.deep
 obtain ⟨h3, h4⟩ := List.getElem?_eq_some_iff.1 h1
 rw [← List.drop_drop, prC_drop h3, h4, ← h2]; rfl
theorem Reps.role {x : List Trm} {l : List Prt} {n : Nat} {e : Xp} (h : Reps x l n e) (hn : n < x.length) (ho : e.okE wrT) : e.role = true ↔ x[n].op = 1 ∧ x[n].of = 5 := by
 cases h with
 | atm _ t p h1 h2 h3 =>
  obtain ⟨_, h4⟩ := List.getElem?_eq_some_iff.1 h1
  rw [h4]
  simp only [Xp.role, decide_eq_true_eq]
  exact ⟨fun h => ⟨ho.1, h⟩, fun h => h.2⟩
 | op _ j m k a b h1 h2 h3 h4 h5 h6 =>
  obtain ⟨_, h4⟩ := List.getElem?_eq_some_iff.1 h1
  rw [h4]
  simp only [Xp.role, sgn]
  refine ⟨fun h => (nomatch h), fun h => ?_⟩
  have := ho.1
  rw [h.1, bind1] at this; omega
theorem a_parts {h : Hp} (x : List Trm) (hl : x.length ≤ 9223372036854775807) (hn : ∀ t ∈ x, t.name.size ≤ 1000000) : ACalls Tryz.prog 51 [vTrs x] h (PostP x h) := by
 refine ACalls.trim (acalls_of mixed J_expr_parts_ok (Nat.le_of_ble_eq_true rfl) ?_); simp only [J_expr_parts, vTrs, wkr,wk,eq_self,Nat.reduceEqDiff,reduceCtorEq,↓reduceIte]
 refine ⟨fun h1 => ⟨fun h2 => ?_, fun h2 => ?_⟩, fun h1 => ?_⟩
 ·have := trimP0 (x := x) (h := h) (ex := []) (by unfold treeT; rw [if_neg (by omega)])
  rw [List.append_nil] at this
  exact this
 ·have hl2 : x.length ≤ 200 := by omega
  have hT : treeT x = treeX wrT x := by unfold treeT; rw [if_pos hl2]
  rw [Int.toNat_natCast, prC_zero]
  refine ⟨⟨by omega, by omega, by omega⟩, ?_⟩
  refine W_loop (fun m fr h'' => ∃ (k : Nat) (l : List Prt) (s : List Int) (st : List Xp) (ex : Hp), k ≤ x.length ∧ m = x.length - k ∧ l.length = x.length ∧ runX wrT (x.take k) [] = some st ∧ standX x l k s st ∧ (0 < k → ∃ r, s = ((k - 1 : Nat) : Int) :: r) ∧ s.length ≤ k ∧ h'' = (h ++ [some (false, prC l)]) ++ ex ∧ fr = [(0, .lst .ro x.length (trsC x)), (4, .hs h.length x.length), (5, .stk 3 none s.reverse), (22, .lst .ro x.length (trsC x)), (23, .int .i64 x.length), (24, .int .i64 k)]) x.length ⟨0, List.replicate x.length (0, 0, 0), [], [], [], by omega, by omega, by simp, rfl, trivial, fun h => by omega, by simp, by simp, rfl⟩ ?_
  rintro m fr h'' ⟨k, l, s, st, ex, hk, rfl, hll, hrun, hst, htop, hsk, rfl, rfl⟩
  have hslen := standX_len hst
  have hrl : s.reverse.length = s.length := List.length_reverse
  simp only [J_expr_parts_j3, wk,eq_self,Nat.reduceEqDiff,Nat.reduceAdd,Nat.reduceLeDiff,reduceCtorEq,↓reduceIte]
  refine ⟨fun hlt => ?_, fun hge => ?_⟩
  ·have hkl : k < x.length := by omega
   have hd : (trsC x).drop ((k : Int).toNat * 3) = _ := trsC_drop hkl
   refine ⟨⟨by omega, by omega⟩, ?_⟩
   have hsnoc : runX wrT (x.take (k + 1)) [] = stepX wrT x[k] st := by
    rw [List.take_succ_eq_append_getElem hkl, runX_snoc, hrun]
   have hstop : stepX wrT x[k] st = none → treeT x = none := fun h0 => by
    rw [hT]; unfold treeX
    have : runX wrT x [] = none := by
     rw [← List.take_append_drop (k + 1) x]; exact runX_none _ (by rw [hsnoc, h0])
    rw [this]
   have hnm := hn _ (List.getElem_mem hkl)
   obtain ⟨bx, hbx⟩ : ∃ bx : Option (Bool × List AV), bx = some (true, [.int .i64 x[k].op, .int .i64 x[k].of, .str x[k].name]) := ⟨_, rfl⟩
   have hg : ∀ y : Option (Bool × List AV), ((h ++ [y]) ++ ex ++ [bx])[h.length]? = some y := fun y => by simp
   have hst1 : ∀ y z : Option (Bool × List AV), ((h ++ [y]) ++ ex ++ [bx]).set h.length z = (h ++ [z]) ++ ex ++ [bx] := fun y z => by simp
   have hgb : ∀ y : Option (Bool × List AV), ((h ++ [y]) ++ ex ++ [bx])[((h ++ [y]) ++ ex).length]? = some bx := fun y => by simp
   have stop : stepX wrT x[k] st = none → ∃ h2 ex', ((h ++ [some (false, prC l)]) ++ ex ++ [bx]) = h2 ++ ex' ∧ h.length ≤ h2.length ∧ low h2.length (.tup [.lst .clip 0 [], .bool false]) = true ∧ (∀ (j : Nat) s l, h2[j]? = some (some (s, l)) → (∃ s', h[j]? = some (some (s', l))) ∨ low.lows h2.length l = true) ∧ PostP x h (.tup [.lst .clip 0 [], .bool false]) h2 := fun h0 => by
    have := trimP0 (x := x) (h := h) (ex := [some (false, prC l)] ++ ex ++ [bx]) (hstop h0)
    simpa only [List.append_assoc] using this
   have nxt : ∀ (l' : List Prt) (r : List Int) (st' : List Xp), l'.length = x.length → stepX wrT x[k] st = some st' → standX x l' (k + 1) ((k : Int) :: r) st' → r.length ≤ k → inR ((k : Int) + 1) ∧ ∃ m, m < x.length - k ∧ ∃ (k' : Nat) (l2 : List Prt) (s : List Int) (st : List Xp) (ex' : Hp), k' ≤ x.length ∧ m = x.length - k' ∧ l2.length = x.length ∧ runX wrT (x.take k') [] = some st ∧ standX x l2 k' s st ∧ (0 < k' → ∃ r, s = ((k' - 1 : Nat) : Int) :: r) ∧ s.length ≤ k' ∧ ((h ++ [some (false, prC l')]) ++ ex ++ [bx]) = (h ++ [some (false, prC l2)]) ++ ex' ∧ [(0, AV.lst .ro x.length (trsC x)), (4, .hs h.length x.length), (5, .stk 3 none (r.reverse ++ [(k : Int)])), (22, .lst .ro x.length (trsC x)), (23, .int .i64 x.length), (24, .int .i64 ((k : Int) + 1))] = [(0, .lst .ro x.length (trsC x)), (4, .hs h.length x.length), (5, .stk 3 none s.reverse), (22, .lst .ro x.length (trsC x)), (23, .int .i64 x.length), (24, .int .i64 k')] := fun l' r st' q1 q2 q3 q4 =>
    ⟨inR_of (by omega) (by omega), x.length - (k + 1), by omega, k + 1, l', (k : Int) :: r, st', ex ++ [bx], by omega, rfl, q1, by rw [hsnoc, q2], q3, fun _ => ⟨r, rfl⟩, by simp; omega, by simp only [List.append_assoc], by rw [List.reverse_cons]; rfl⟩
   simp only [wkr,wk,eq_self,Nat.reduceEqDiff,Nat.reduceAdd,Nat.reduceLeDiff,reduceCtorEq,↓reduceIte, hd]
   rw [← hbx]
   by_cases k1 : x[k].op = 1
   ·have qw := p_written x[k] hnm
    simp only [trC] at qw
    simp only [wk,forall_const,eqTrue k1]
    refine PCalls.use (qw) ?_; simp only [wkr,wk,eq_self,Nat.reduceEqDiff,Nat.reduceLeDiff,reduceCtorEq,↓reduceIte]
    refine ⟨fun h0 => stop ?_, fun h0 => ?_⟩
    ·unfold stepX; rw [if_pos k1, if_neg (by simp [wrT, h0])]
    ·simp only [hg, hst1]
     have hx := nxt (l.set k (l[k].1, l[k].2.1, 1)) s (.atm x[k] :: st) (by simp [hll]) (by unfold stepX; rw [if_pos k1, if_pos (by simp [wrT, h0])]) ⟨⟨k, rfl, by omega, .atm k x[k] (l[k].1, l[k].2.1, 1) (List.getElem?_eq_getElem hkl) (List.getElem?_set_self (by omega)) rfl⟩, standX_set hst⟩ hsk
     rw [Int.toNat_natCast, prC_set1]
     refine ⟨⟨by omega, by omega⟩, by rw [prC_len]; omega, ⟨by omega, by omega⟩, ?_⟩
     simp only [J_expr_parts_j2, wk,eq_self,Nat.reduceEqDiff,reduceCtorEq,↓reduceIte]
     exact hx
   ·have qb := p_bind x[k].op
    rw [bindP_ne k1] at qb
    simp only [wk,forall_const,eqFalse k1]
    intro v
    subst hbx
    have hpos : 0 < bindK x[k].op ↔ ¬ bindK x[k].op = 0 := by have := bind_ge x[k].op; omega
    have bad : ¬ (0 < bindK x[k].op ∧ x[k].of = 0 ∧ x[k].name = ⟨#[]⟩) → stepX wrT x[k] st = none := fun h0 => by
     unfold stepX; rw [if_neg k1, if_neg h0]
    by_cases kb : bindK x[k].op = 0
    ·refine PCalls.use (qb) ?_; simp only [wkr,wk,ne_eq,eq_self,Nat.reduceEqDiff,reduceCtorEq,↓reduceIte]
     simp only [wk,forall_const,eqTrue kb]
     exact stop (bad (fun h => hpos.1 h.1 kb))
    ·by_cases ko : x[k].of = 0
     ·by_cases kn : x[k].name = ⟨#[]⟩
      ·have good : 0 < bindK x[k].op ∧ x[k].of = 0 ∧ x[k].name = ⟨#[]⟩ := ⟨hpos.2 kb, ko, kn⟩
       cases st with
       | nil =>
        refine PCalls.use (qb) ?_; simp only [wkr,wk,ne_eq,eq_self,Nat.reduceEqDiff,reduceCtorEq,↓reduceIte]
        simp only [wk,forall_const,eqFalse kb, eqTrue ko, eqTrue kn, (show ((s.reverse.length : Int) < 2) = True from eqTrue (by have h := hslen; simp only [List.length_nil] at h; omega))]
        exact stop (by unfold stepX; rw [if_neg k1, if_pos good])
       | cons e1 st =>
        cases st with
        | nil =>
         refine PCalls.use (qb) ?_; simp only [wkr,wk,ne_eq,eq_self,Nat.reduceEqDiff,reduceCtorEq,↓reduceIte]
         simp only [wk,forall_const,eqFalse kb, eqTrue ko, eqTrue kn, (show ((s.reverse.length : Int) < 2) = True from eqTrue (by have h := hslen; simp only [List.length_nil, List.length_cons] at h; omega))]
         exact stop (by unfold stepX; rw [if_neg k1, if_pos good])
        | cons e2 st =>
         cases s with
         | nil => exact hst.elim
         | cons i1 s =>
          cases s with
          | nil => exact hst.2.elim
          | cons i2 s =>
           obtain ⟨⟨n1, rfl, hn1, r1⟩, ⟨n2, rfl, hn2, r2⟩, hst3⟩ := hst
           have hlen2 : ((n1 : Int) :: (n2 : Int) :: s).reverse.length = s.length + 2 := by simp
           have hf2 : (((s.length + 2 : Nat) : Int) < 2) = False := eqFalse (by omega)
           have q1 : ((n1 : Int) :: (n2 : Int) :: s).reverse.getD (s.length + 1) 0 = n1 := by simp
           have q2 : ((n1 : Int) :: (n2 : Int) :: s).reverse.getD s.length 0 = n2 := by simp
           have q3 : ((n1 : Int) :: (n2 : Int) :: s).reverse.take s.length = s.reverse := by simp
           refine PCalls.use (qb) ?_; simp only [wkr,wk,ne_eq,eq_self,Nat.reduceEqDiff,reduceCtorEq,↓reduceIte]
           have h21 : ((s.length + 2 : Nat) : Int) - 2 = (s.length : Nat) := by omega
           have h22 : ((s.length + 2 : Nat) : Int) - 1 = ((s.length + 1 : Nat) : Int) := by omega
           simp only [wk,forall_const,eqFalse kb, eqTrue ko, eqTrue kn, hf2, hlen2, h21, h22, Int.toNat_natCast, q1, q2]
           simp only [List.length_cons] at hsk hslen
           refine ⟨inR_of (by omega) (by omega), ⟨by omega, by omega⟩, by omega, inR_of (by omega) (by omega), ⟨by omega, by omega⟩, by omega, ?_⟩
           have hok := (runX_ok _ _ _ hrun (by simp)).1
           have ok1 : e1.okE wrT := hok _ (by simp)
           have ok2 : e2.okE wrT := hok _ (by simp)
           have hn1x : n1 < x.length := by omega
           have hd1 : (trsC x).drop (n1 * 3) = _ := trsC_drop hn1x
           have hp1 := r1.drop
           have hp2 := r2.drop
           have hro := r1.role hn1x ok1
           have hstp := (runX_ok _ _ _ hrun (by simp)).2
           have hpl : e1.post.length + e2.post.length ≤ k := by
            have := congrArg List.length hstp
            rw [stp_cons, stp_cons] at this
            simp only [List.length_append, List.length_take] at this
            have h0 : (stp ([] : List Xp)).length = 0 := rfl
            omega
           have hde1 := deep_le e1
           have hde2 := deep_le e2
           have hdp1 := deep_pos e1
           have hdp2 := deep_pos e2
           have hD : (1 + if e2.deep < e1.deep then e1.deep else e2.deep) = (Xp.op x[k].op e2 e1).deep := by simp only [Xp.deep]; omega
           have nor : ¬ e1.role = true → x[k].op = 5 → stepX wrT x[k] (e1 :: e2 :: st) = none := fun h k5 => by
            unfold stepX; rw [if_neg k1, if_pos good]; simp only; rw [if_pos ⟨k5, by simpa using h⟩]
           have fin : ¬ (x[k].op = 5 ∧ e1.role = false) → _ := fun hro2 => nxt (l.set k ((n2 : Int), (n1 : Int), (Xp.op x[k].op e2 e1).deep)) s (.op x[k].op e2 e1 :: st) (by simp [hll]) (by unfold stepX; rw [if_neg k1, if_pos good]; simp only; rw [if_neg hro2]) ⟨⟨k, rfl, by omega, .op k n2 n1 x[k].op e2 e1 (by rw [List.getElem?_eq_getElem hkl, sgn_eta ko kn]) (List.getElem?_set_self (by omega)) hn2 hn1 (r2.set hn2) (r1.set hn1)⟩, standX_set hst3⟩ (by omega)
           by_cases k5 : x[k].op = 5
           ·by_cases m1 : x[n1].op = 1
            ·by_cases m5 : x[n1].of = 5
             ·have hx := fin (fun h => by rw [hro.2 ⟨m1, m5⟩] at h; cases h.2)
              simp only [wkr,wk,forall_const,ne_eq,eq_self,Nat.reduceEqDiff,Nat.reduceAdd,Nat.reduceLeDiff,reduceCtorEq,↓reduceIte, eqTrue k5, Int.toNat_natCast, hd1, eqTrue m1, eqTrue m5, hp1, hp2, hg]
              refine ⟨⟨by omega, by omega⟩, ⟨by omega, by omega⟩, ⟨by omega, by omega⟩, ?_⟩
              simp only [h21, Int.toNat_natCast, q3]
              rw [hst1, prC_set (by omega), hD]
              have q4 : s.reverse.length = s.length := List.length_reverse
              refine ⟨⟨by omega, by omega⟩, by rw [← hD]; split <;> exact inR_of (by omega) (by omega), ⟨by omega, by omega⟩, by rw [prC_len]; omega, inR_of (by omega) (by omega), ⟨by omega, by omega⟩, ⟨by omega, by omega⟩, ?_⟩
              simp only [J_expr_parts_j2, wk,eq_self,Nat.reduceEqDiff,reduceCtorEq,↓reduceIte]
              exact hx
             ·simp only [wk,forall_const,ne_eq,eq_self,Nat.reduceEqDiff,reduceCtorEq,↓reduceIte, eqTrue k5, Int.toNat_natCast, hd1, eqTrue m1, eqFalse m5]
              refine ⟨⟨by omega, by omega⟩, ⟨by omega, by omega⟩, stop (nor (fun h => m5 (hro.1 h).2) k5)⟩
            ·simp only [wk,forall_const,ne_eq,eq_self,Nat.reduceEqDiff,reduceCtorEq,↓reduceIte, eqTrue k5, hd1, eqFalse m1]
             refine ⟨⟨by omega, by omega⟩, stop (nor (fun h => m1 (hro.1 h).1) k5)⟩
           ·have hx := fin (fun h => k5 h.1)
            simp only [wkr,wk,forall_const,eq_self,Nat.reduceEqDiff,Nat.reduceAdd,Nat.reduceLeDiff,reduceCtorEq,↓reduceIte, eqFalse k5, Int.toNat_natCast, hp1, hp2, hg]
            refine ⟨⟨by omega, by omega⟩, ?_⟩
            simp only [h21, Int.toNat_natCast, q3]
            rw [hst1, prC_set (by omega), hD]
            have q4 : s.reverse.length = s.length := List.length_reverse
            refine ⟨⟨by omega, by omega⟩, by rw [← hD]; split <;> exact inR_of (by omega) (by omega), ⟨by omega, by omega⟩, by rw [prC_len]; omega, inR_of (by omega) (by omega), ⟨by omega, by omega⟩, ⟨by omega, by omega⟩, ?_⟩
            simp only [J_expr_parts_j2, wk,eq_self,Nat.reduceEqDiff,reduceCtorEq,↓reduceIte]
            exact hx
      ·refine PCalls.use (qb) ?_; simp only [wkr,wk,ne_eq,eq_self,Nat.reduceEqDiff,reduceCtorEq,↓reduceIte]
       simp only [wk,forall_const,eqFalse kb, eqTrue ko, eqFalse kn]
       exact stop (bad (fun h => kn h.2.2))
     ·refine PCalls.use (qb) ?_; simp only [wkr,wk,ne_eq,eq_self,Nat.reduceEqDiff,reduceCtorEq,↓reduceIte]
      simp only [wk,forall_const,eqFalse kb, eqFalse ko]
      exact stop (bad (fun h => ko h.2.1))
  ·obtain rfl : k = x.length := by omega
   rw [List.take_length] at hrun
   have none1 : st.length ≠ 1 → treeT x = none := fun hne => by
    rw [hT]; unfold treeX
    rw [hrun]
    cases st with
    | nil => rfl
    | cons e st => cases st with
     | nil => exact absurd rfl hne
     | cons e2 st => rfl
   simp only [J_expr_parts_j1, wkr,wk,forall_const,eq_self,Nat.reduceEqDiff,reduceCtorEq,↓reduceIte]
   refine trimP1 ?_
   unfold PostP
   by_cases hone : st.length = 1
   ·obtain ⟨e, rfl⟩ := List.length_eq_one_iff.1 hone
    obtain ⟨r, hr⟩ := htop (by omega)
    subst hr
    have hr0 : r = [] := List.eq_nil_of_length_eq_zero (by simp only [List.length_cons, List.length_nil] at hslen; omega)
    subst hr0
    obtain ⟨⟨n, hn1, hn2, hr⟩, _⟩ := hst
    have hnn : n = x.length - 1 := by omega
    subst hnn
    have hte : treeT x = some e := by rw [hT]; unfold treeX; rw [hrun]
    rw [hte]
    exact ⟨l, rfl, rfl, hll, hr⟩
   ·rw [none1 hone]
    refine .inr ⟨x.length, l, ?_, rfl⟩
    rw [decide_eq_false (by omega)]
 ·have := trimP0 (x := x) (h := h) (ex := []) (by
   have : x = [] := List.eq_nil_of_length_eq_zero (by omega)
   subst this; rfl)
  rw [List.append_nil] at this
  exact this
end Go.Proofs.YtedaffmkpljlnaaGreat
/- Norm, plain: what an expression means by a table, what a text means, a set's text. -/
namespace Go.Proofs.YtedaffmkpljlnaaGreat
open Go.RowKit Go.Lib

def atomE (L : Nat → List ByteArray) (t : Trm) : List ByteArray × Int :=
 if t.of = 0 then ([atomW 1], 0) else if findB L t.of t.name = true then ([atomW (findA L t.of t.name).toNat], 0) else ([], 10)
def opE (k : Int) (a b : List ByteArray) : List ByteArray × Int :=
 if k = 2 then andE a b else if k = 3 then forE a b else if k = 4 then quoteE a b else asE a (atomAt (b.headD ⟨#[]⟩) 0)
def stepN (L : Nat → List ByteArray) (t : Trm) (st : List (List ByteArray)) : List ByteArray × Int :=
 if t.op = 1 then atomE L t else match st with
  | b :: a :: _ => opE t.op a b
  | _ => ([], 0)
def leftN (t : Trm) (st : List (List ByteArray)) : List (List ByteArray) := if t.op = 1 then st else st.drop 2
def runN (L : Nat → List ByteArray) : List Trm → Nat → List (List ByteArray) → List ByteArray × Nat × Int
 | [], _, st => (st.getLastD [], 0, 0)
 | t :: x, i, st => if (stepN L t st).2 = 0 then runN L x (i + 1) ((stepN L t st).1 :: leftN t st) else ([], i, (stepN L t st).2)
def runE (L : Nat → List ByteArray) (x : List Trm) : List ByteArray × Nat × Int := if (treeT x).isSome then runN L x 0 [] else ([], 0, 2)
def readE (L : Nat → List ByteArray) (s : ByteArray) : List ByteArray × Int × Int :=
 if (parseR s).2.2 = 0 then ((runE L (parseR s).1).1, 0, (runE L (parseR s).1).2.2) else ([], (parseR s).2.1, (parseR s).2.2)
def wordA (L : Nat → List ByteArray) (a : Nat) : ByteArray := wordT 1 (nameS L a) (a / 8192)
def sepA (l : List Nat) (k : Nat) : List UInt8 := if k = 0 then [] else if ((l.take (k + 1)).drop 1).all (fun a => decide (a / 8192 = 5)) then [32, 97, 115, 32] else [32, 124, 32]
def txtW (L : Nat → List ByteArray) (l : List Nat) (n : Nat) : List UInt8 := (List.range n).flatMap fun k => sepA l k ++ (wordA L (l.getD k 0)).data.toList
def noText (L : Nat → List ByteArray) (w : ByteArray) : Bool := (atomNs w).any fun a => decide (wordA L a = ⟨#[]⟩)
def showW (L : Nat → List ByteArray) (w : ByteArray) : List UInt8 := txtW L (atomNs w) (w.size / 2)
def andB : List UInt8 := [32, 97, 110, 100, 32]
def showE (L : Nat → List ByteArray) (s : List ByteArray) : ByteArray × Int :=
 if setMay s = false then (⟨#[]⟩, 2) else if s.any (noText L) = true then (⟨#[]⟩, 10) else (ba (Lib.join (s.map (showW L)) andB), 0)
end Go.Proofs.YtedaffmkpljlnaaGreat
/- Expressions: Text's closure; Text, May, Deep. -/
-- fast
-- rows
namespace Go.Proofs.YtedaffmkpljlnaaGreat
open Go.RowKit Go.Lib

end Go.Proofs.YtedaffmkpljlnaaGreat
/- Expressions: Text, May, Deep. -/
-- fast
-- rows
namespace Go.Proofs.YtedaffmkpljlnaaGreat
open Go.RowKit Go.Lib

theorem toks_len : ∀ (m : Int) (e : Xp), (e.toks m).length + 2 ≤ 4 * e.post.length
 | _, .atm t => by simp [Xp.toks, Xp.post]
 | m, .op k a b => by
  have h1 := toks_len (bindK k) a
  have h2 := toks_len (bindK k + 1) b
  simp only [Xp.toks, Xp.post]
  split <;> simp only [List.length_cons, List.length_append, List.length_nil] <;> omega
theorem tree_post {x : List Trm} {e : Xp} (h : treeT x = some e) : x.length ≤ 200 ∧ e.okE wrT ∧ x = e.post := by
 unfold treeT at h
 split at h
 ·exact ⟨by assumption, treeX_iff.1 h⟩
 ·cases h
theorem frees_vtrs (x : List Trm) : free.frees [vTrs x] = true := by simp [vTrs, free, free.frees, frees_trs]
theorem p_may (x : List Trm) (hl : x.length ≤ 9223372036854775807) (hn : ∀ t ∈ x, t.name.size ≤ 1000000) : PCalls Tryz.prog 28 [vTrs x] (.bool (treeT x).isSome) := by
 have q := a_parts (h := []) x hl hn
 simp only [vTrs] at q
 refine pcalls_of (frees_vtrs x) rfl (acalls_of mixed J_expr_May_ok (Nat.le_of_ble_eq_true rfl) ?_); simp only [J_expr_May, vTrs, wk,eq_self,reduceCtorEq,↓reduceIte]
 refine ACalls.use q ?_
 intro a h' hp
 unfold PostP at hp
 cases ht : treeT x with
 | some e =>
  rw [ht] at hp
  obtain ⟨l, rfl, rfl, _, _⟩ := hp
  simp only [wk,eq_self,Nat.reduceEqDiff,↓reduceIte]
  rfl
 | none =>
  rw [ht] at hp
  rcases hp with ⟨rfl, rfl⟩ | ⟨n, l, rfl, rfl⟩
  ·simp only [wk,eq_self,Nat.reduceEqDiff,↓reduceIte]
   rfl
  ·simp only [wk,eq_self,Nat.reduceEqDiff,↓reduceIte]
   rfl
end Go.Proofs.YtedaffmkpljlnaaGreat
/- Expressions: the document's Last. -/
-- fast
-- rows
namespace Go.Proofs.YtedaffmkpljlnaaGreat
open Go.RowKit Go.Lib

def textE : Xp → ByteArray
 | .atm t => wordT 1 t.name t.of
 | .op k a b => (if a.lev < bindK k then ⟨#[40, 32]⟩ ++ textE a ++ ⟨#[32, 41]⟩ else textE a) ++ ⟨#[32]⟩ ++ wordT k ⟨#[]⟩ 0 ++ ⟨#[32]⟩ ++ (if b.lev ≤ bindK k then ⟨#[40, 32]⟩ ++ textE b ++ ⟨#[32, 41]⟩ else textE b)
end Go.Proofs.YtedaffmkpljlnaaGreat
/- Expressions: the document's Text, May, Deep. -/
-- fast
-- rows
namespace Go.Proofs.YtedaffmkpljlnaaGreat
open Go.RowKit Go.Lib

theorem join_joinS : ∀ l : List (List UInt8), Lib.join l [32] = joinS l
 | [] => rfl
 | [x] => by simp [Lib.join, joinS]
 | x :: y :: r => by
  have := join_joinS (y :: r)
  rw [joinS_cons (by simp), ← this]
  simp [Lib.join]
theorem textE_S : ∀ e : Xp, (textE e).data.toList = textS wl e
 | .atm t => rfl
 | .op k a b => by
  have h1 := textE_S a
  have h2 := textE_S b
  have w6 : wl (tokS 6) = [40] := rfl
  have w7 : wl (tokS 7) = [41] := rfl
  have wk : wl (tokS k) = (wordT k ⟨#[]⟩ 0).data.toList := rfl
  have c1 : (⟨#[40, 32]⟩ : ByteArray).data.toList = [40, 32] := rfl
  have c2 : (⟨#[32, 41]⟩ : ByteArray).data.toList = [32, 41] := rfl
  have c3 : (⟨#[32]⟩ : ByteArray).data.toList = [32] := rfl
  simp only [textE, textS]
  repeat' split
  all_goals simp only [ByteArray.data_append, Array.toList_append, h1, h2, w6, w7, wk, List.cons_append, List.nil_append, List.append_assoc]
theorem textE_join (e : Xp) : joinB ((e.toks 0).map wrd) = textE e := by
 apply ByteArray.ext
 apply Array.toList_inj.1
 have h1 : (joinB ((e.toks 0).map wrd)).data.toList = Lib.join ((e.toks 0).map wl) [32] := joinB_wl _
 rw [h1, join_joinS, text_words wl e 0 (by decide), textE_S, if_neg]
 cases e with
 | atm t => show ¬ (5 : Int) < 0; decide
 | op k a b => have := bind_ge k; show ¬ bindK k < 0; omega
end Go.Proofs.YtedaffmkpljlnaaGreat
/- Expressions: the laws' own functions: same, large, awake. -/
-- fast
namespace Go.Proofs.YtedaffmkpljlnaaGreat
open Go.RowKit Go.Lib

instance : DecidableEq Trm := fun a b => if h : a.op = b.op ∧ a.of = b.of ∧ a.name = b.name then isTrue (by cases a; cases b; simp_all) else isFalse (by rintro rfl; exact h ⟨rfl, rfl, rfl⟩)
def s1 : ByteArray := ⟨#[97, 32, 97, 110, 100, 32, 98, 124, 99, 32, 97, 115, 32, 114, 111, 108, 101, 58, 114]⟩
def s2 : ByteArray := ⟨#[97, 32, 97, 110, 100, 32, 97, 110, 100]⟩
def s3 : ByteArray := ⟨#[97, 32, 102, 111, 114, 32, 40, 98, 32, 102, 111, 114, 32, 99, 41]⟩
end Go.Proofs.YtedaffmkpljlnaaGreat
/- ExprParses, ExprReads, ExprWrites. -/
-- fast
namespace Go.Proofs.YtedaffmkpljlnaaGreat
open Go.RowKit Go.Lib

theorem readR_len {wd : Tok → Bool} (l : List Tok) : (readR wd l).1.length ≤ l.length := by
 unfold readR
 have := readD_size l
 repeat' split
 all_goals first | (simp; done) | omega
theorem parseR_len (s : ByteArray) : (parseR s).1.length ≤ 1000 := by
 have h1 := readR_len (wd := wdB) (allT s).1
 have h2 := allT_len s
 unfold parseR
 repeat' split
 all_goals first | (simp; done) | (simp only; omega)
end Go.Proofs.YtedaffmkpljlnaaGreat
/- Blanks, and what is passed over: plain laws. -/
namespace Go.Proofs.YtedaffmkpljlnaaGreat
open Go.RowKit Go.Lib

def passed (p : List UInt8) : Prop := ∀ (rest : List UInt8) (a : Nat) (acc : List Tok), scan (p ++ rest) a acc = scan rest (a + p.length) acc
def stands (l : List Tok) (t : List UInt8) : Prop := ∀ (rest : List UInt8) (a : Nat) (acc : List Tok), acc.length + l.length ≤ 1000 → ∃ l' : List Tok, scan (t ++ rest) a acc = scan rest (a + t.length) (acc ++ l') ∧ l.map core = l'.map core
def gapF : Bool → List UInt8 → Option Bool
 | nt, [] => some nt
 | nt, b :: r => if (!(b.toNat == 10) && (b.toNat == 35 || nt)) = true then gapF true r else if blankB b = true then gapF false r else none
def places : List UInt8 → Nat → List Tok → Prop
 | l, _, [] => ∃ nt, gapF false l = some nt
 | l, a, t :: ts => ∃ g n : Nat, t.at_ = (a + g : Nat) ∧ g + n ≤ l.length ∧ 1 ≤ n ∧ gapF false (l.take g) = some false ∧ ((l.drop g).headD 0).toNat ≠ 10 ∧ wrd t = ba ((l.drop g).take n) ∧ places (l.drop (g + n)) (a + g + n) ts
def norm (t : Tok) : Tok := ⟨t.kind, t.name, t.of, 0⟩
theorem ctlE_norm {M : Nat} : ∀ (l : List Tok) (i : Nat) (b : Bool) (n : Nat) (az : Bool), ctlE M i b n az (l.map norm) = ctlE M i b n az l
 | [], _, _, _, _ => rfl
 | t :: l, i, b, n, az => by
  simp only [List.map_cons, ctlE]
  have h1 : cstep M b n az (norm t) = cstep M b n az t := rfl
  rw [h1]
  cases cstep M b n az t with
  | none => rfl
  | some x => simp only; exact ctlE_norm l (i + 1) x.1 x.2 _
theorem srun_norm : ∀ (l : List Tok) (s : List Trm × List Int), srun (l.map norm) s = srun l s
 | [], _ => rfl
 | t :: l, s => by
  show srun (l.map norm) (sstep s (norm t)) = srun l (sstep s t)
  have : sstep s (norm t) = sstep s t := rfl
  rw [this]; exact srun_norm l _
theorem readD_norm (l : List Tok) : readD (l.map norm) = readD l := by unfold readD; rw [srun_norm]
theorem readR_norm (l : List Tok) : readR wdB (l.map norm) = readR wdB l := by
 unfold readR
 have h1 : (l.map norm).findIdx? (fun t => !wdB t) = l.findIdx? (fun t => !wdB t) := by
  rw [List.findIdx?_map]; rfl
 rw [h1, ctlE_norm, readD_norm, List.length_map]
theorem norm_core {l m : List Tok} (h : l.map core = m.map core) : l.map norm = m.map norm := by
 have hn : ∀ l : List Tok, l.map norm = (l.map core).map fun c => ⟨c.1, c.2.1, c.2.2, 0⟩ := fun l => by rw [List.map_map]; rfl
 rw [hn, hn, h]
theorem readR_core {l m : List Tok} (h : l.map core = m.map core) : readR wdB l = readR wdB m := by
 rw [← readR_norm l, ← readR_norm m, norm_core h]
end Go.Proofs.YtedaffmkpljlnaaGreat
/- ExprOpen. -/
-- fast
namespace Go.Proofs.YtedaffmkpljlnaaGreat
open Go.RowKit Go.Lib

theorem parse_ok {s : ByteArray} (h : (parseR s).2.2 = 0) : (allT s).2.2 = 0 ∧ (readR wdB (allT s).1).2.2 = 0 ∧ parseR s = ((readR wdB (allT s).1).1, 0, 0) := by
 unfold parseR at h ⊢
 by_cases h1 : (allT s).2.2 = 0
 ·rw [if_neg (fun h => h h1)] at h ⊢
  by_cases h2 : (readR wdB (allT s).1).2.2 = 0
  ·rw [if_pos h2] at h ⊢
   exact ⟨h1, h2, rfl⟩
  ·rw [if_neg h2] at h
   exfalso
   split at h
   ·exact h2 h
   ·split at h
    ·cases h
    ·exact h2 h
 ·rw [if_pos h1] at h
  exact absurd h h1
theorem len_core {l m : List Tok} (h : l.map core = m.map core) : l.length = m.length := by simpa using congrArg List.length h
end Go.Proofs.YtedaffmkpljlnaaGreat
/- ExprJoins. -/
-- fast
namespace Go.Proofs.YtedaffmkpljlnaaGreat
open Go.RowKit Go.Lib

end Go.Proofs.YtedaffmkpljlnaaGreat
/- Expressions: what is read, written again (plain). -/
-- fast
namespace Go.Proofs.YtedaffmkpljlnaaGreat
open Go.RowKit Go.Lib

theorem toks_wrd {wr : Trm → Bool} (hwr : ∀ t, t.op = 1 → wr t = true → wordT 1 t.name t.of ≠ ⟨#[]⟩) : ∀ (m : Int) (e : Xp), e.okE wr → ∀ t ∈ e.toks m, wrd t ≠ ⟨#[]⟩
 | _, .atm t, h, u, hu => by
  simp only [Xp.toks, List.mem_singleton] at hu
  subst hu
  exact hwr t h.1 h.2
 | m, .op k a b, ⟨hk, _, ha, hb⟩, u, hu => by
  have h1 := toks_wrd hwr (bindK k) a ha
  have h2 := toks_wrd hwr (bindK k + 1) b hb
  have h6 : wrd (tokS 6) ≠ ⟨#[]⟩ := by decide
  have h7 : wrd (tokS 7) ≠ ⟨#[]⟩ := by decide
  have hs : wrd (tokS k) ≠ ⟨#[]⟩ := by rcases bind_pos hk with rfl | rfl | rfl | rfl <;> decide
  simp only [Xp.toks] at hu
  split at hu
  ·rcases List.mem_cons.1 hu with rfl | hu
   ·exact h6
   ·rcases List.mem_append.1 hu with hu | hu
    ·rcases List.mem_append.1 hu with hu | hu
     ·exact h1 u hu
     ·rcases List.mem_cons.1 hu with rfl | hu
      ·exact hs
      ·exact h2 u hu
    ·simp only [List.mem_singleton] at hu; subst hu; exact h7
  ·rcases List.mem_append.1 hu with hu | hu
   ·exact h1 u hu
   ·rcases List.mem_cons.1 hu with rfl | hu
    ·exact hs
    ·exact h2 u hu
theorem wrT_word (t : Trm) (h1 : t.op = 1) (h : wrT t = true) : wordT 1 t.name t.of ≠ ⟨#[]⟩ := by
 unfold wrT at h
 rw [h1] at h
 simpa using h
theorem toks_ok {m : Int} {e : Xp} (ho : e.okE wrT) : ∀ t ∈ e.toks m, wrd t ≠ ⟨#[]⟩ := toks_wrd wrT_word m e ho
theorem text_read {l : List Tok} (hw : ∀ t ∈ l, wrd t ≠ ⟨#[]⟩) (hl : l.length ≤ 1000) (hs : (joinB (l.map wrd)).size ≤ 4000) : ∃ l' : List Tok, allT (joinB (l.map wrd)) = (l', 0, 0) ∧ l.map core = l'.map core := by
 obtain ⟨l', h1, h2⟩ := scan_join l hw hl
 refine ⟨l', ?_, h2⟩
 unfold allT
 rw [if_neg (by omega), joinB_wl]
 exact h1
theorem srun_names {P : Trm → Prop} (hs : ∀ k, P (sgn k)) : ∀ (l : List Tok) (s : List Trm × List Int), (∀ t ∈ l, P (leaf t)) → (∀ t ∈ s.1, P t) → ∀ t ∈ (srun l s).1, P t
 | [], s, _, h, t, ht => h t ht
 | u :: l, s, hl, h, t, ht => by
  refine srun_names hs l (sstep s u) (fun t ht => hl t (by simp [ht])) ?_ t ht
  intro v hv
  have hmap : ∀ (w : List Int), ∀ v ∈ s.1 ++ w.map sgn, P v := fun w v hv => by
   rcases List.mem_append.1 hv with hv | hv
   ·exact h v hv
   ·obtain ⟨k, _, rfl⟩ := List.mem_map.1 hv; exact hs k
  unfold sstep at hv
  split at hv
  ·rcases List.mem_append.1 hv with hv | hv
   ·exact h v hv
   ·simp only [List.mem_singleton] at hv; subst hv; exact hl u (by simp)
  ·split at hv
   ·exact h v hv
   ·split at hv
    ·exact hmap _ v hv
    ·exact hmap _ v hv
theorem readD_names {l : List Tok} (h : ∀ t ∈ l, t.name.size ≤ 1000000) : ∀ t ∈ readD l, t.name.size ≤ 1000000 := by
 have h0 : ∀ k, (sgn k).name.size ≤ 1000000 := fun k => by show (⟨#[]⟩ : ByteArray).size ≤ _; decide
 intro t ht
 unfold readD at ht
 rcases List.mem_append.1 ht with ht | ht
 ·exact srun_names (P := fun t => t.name.size ≤ 1000000) h0 l ([], []) (fun t ht => h t ht) (by simp) t ht
 ·obtain ⟨k, _, rfl⟩ := List.mem_map.1 ht; exact h0 k
end Go.Proofs.YtedaffmkpljlnaaGreat
/- ExprFew. -/
-- fast
namespace Go.Proofs.YtedaffmkpljlnaaGreat
open Go.RowKit Go.Lib

end Go.Proofs.YtedaffmkpljlnaaGreat
/- Expressions: what is read can be written and is read alike; how deep parentheses are (plain). -/
-- fast
namespace Go.Proofs.YtedaffmkpljlnaaGreat
open Go.RowKit Go.Lib

end Go.Proofs.YtedaffmkpljlnaaGreat
/- Expressions: what comes of a text that was written (plain); deepRight. -/
-- fast
namespace Go.Proofs.YtedaffmkpljlnaaGreat
open Go.RowKit Go.Lib

def closes (l : List Tok) : Nat := l.countP fun t => decide (t.kind = 7)
theorem closes_cons (t : Tok) (l : List Tok) : closes (t :: l) = closes l + if t.kind = 7 then 1 else 0 := by
 simp [closes, List.countP_cons]
theorem ctl_raise {M M' : Nat} (hM : M ≤ M') : ∀ (l : List Tok) (b : Bool) (n : Nat) (az : Bool) (r : Bool × Nat), n ≤ M → ctl M b n az l = some r → ctl M' b n az l = some r
 | [], _, _, _, _, _, h => h
 | t :: l, b, n, az, r, hn, h => by
  obtain ⟨b1, n1, p1, p2⟩ := ctl_cons h
  have hs : cstep M' b n az t = some (b1, n1) ∧ n1 ≤ M := by
   rcases cstep_cases p1 with ⟨rfl, k, k2, rfl, rfl⟩ | ⟨rfl, k, rfl, k3, rfl, rfl⟩ | ⟨rfl, k, hp, rfl, rfl⟩ | ⟨rfl, k, rfl, rfl⟩
   ·exact ⟨by unfold cstep; rw [if_pos rfl, if_pos ⟨k, k2⟩], hn⟩
   ·exact ⟨by unfold cstep; rw [if_pos rfl, if_neg (by omega), if_pos ⟨k, rfl⟩, if_neg (by omega)], by omega⟩
   ·exact ⟨by unfold cstep; rw [if_neg (by simp), if_pos k, if_pos hp], by omega⟩
   ·exact ⟨by unfold cstep; rw [if_neg (by simp), if_neg (bind_ne k).2.2, if_pos k], hn⟩
  simp only [ctl, hs.1]
  exact ctl_raise hM l b1 n1 _ r hs.2 p2
theorem ctlE_big {M M' : Nat} (hM : M ≤ M') : ∀ (l : List Tok) (i : Nat) (b : Bool) (n : Nat) (az : Bool) (j : Nat) (er : Int) (r : Bool × Nat), n ≤ M → ctlE M i b n az l = .inl (j, er) → ctl M' b n az l = some r → er = 3 ∧ ∃ (l1 l2 : List Tok) (t : Tok), l = l1 ++ t :: l2 ∧ j = i + l1.length ∧ t.kind = 6 ∧ n + opens l1 = M + closes l1
 | [], i, b, n, az, j, er, r, _, h, _ => by simp [ctlE] at h
 | t :: l, i, b, n, az, j, er, r, hn, h, h' => by
  obtain ⟨b1, n1, p1, p2⟩ := ctl_cons h'
  simp only [ctlE] at h
  cases hc : cstep M b n az t with
  | none =>
   rw [hc] at h
   simp only [Sum.inl.injEq, Prod.mk.injEq] at h
   obtain ⟨rfl, rfl⟩ := h
   rcases cstep_cases p1 with ⟨rfl, k, k2, rfl, rfl⟩ | ⟨rfl, k, rfl, k3, rfl, rfl⟩ | ⟨rfl, k, hp, rfl, rfl⟩ | ⟨rfl, k, rfl, rfl⟩
   ·unfold cstep at hc; rw [if_pos rfl, if_pos ⟨k, k2⟩] at hc; cases hc
   ·have hnM : n = M := by
     by_cases h1 : n = M
     ·exact h1
     ·unfold cstep at hc; rw [if_pos rfl, if_neg (by omega), if_pos ⟨k, rfl⟩, if_neg h1] at hc; cases hc
    refine ⟨by rw [if_pos ⟨rfl, k, rfl⟩], [], l, t, rfl, rfl, k, ?_⟩
    rw [hnM]; rfl
   ·unfold cstep at hc; rw [if_neg (by simp), if_pos k, if_pos hp] at hc; cases hc
   ·unfold cstep at hc; rw [if_neg (by simp), if_neg (bind_ne k).2.2, if_pos k] at hc; cases hc
  | some x =>
   obtain ⟨b2, n2⟩ := x
   rw [hc] at h
   simp only at h
   have hs : b2 = b1 ∧ n2 = n1 ∧ n2 ≤ M ∧ n + (if t.kind = 6 then 1 else 0) = n2 + (if t.kind = 7 then 1 else 0) := by
    rcases cstep_cases hc with ⟨rfl, k, k2, rfl, rfl⟩ | ⟨rfl, k, rfl, k3, rfl, rfl⟩ | ⟨rfl, k, hp, rfl, rfl⟩ | ⟨rfl, k, rfl, rfl⟩
    ·rcases cstep_cases p1 with ⟨_, _, _, rfl, rfl⟩ | ⟨_, k', _⟩ | ⟨h, _⟩ | ⟨h, _⟩
     ·exact ⟨rfl, rfl, hn, by rw [if_neg (by omega), if_neg (by omega)]⟩
     ·omega
     ·cases h
     ·cases h
    ·rcases cstep_cases p1 with ⟨_, k', _⟩ | ⟨_, _, _, k4, rfl, rfl⟩ | ⟨h, _⟩ | ⟨h, _⟩
     ·omega
     ·exact ⟨rfl, rfl, by omega, by rw [if_pos k, if_neg (by omega)]⟩
     ·cases h
     ·cases h
    ·rcases cstep_cases p1 with ⟨h, _⟩ | ⟨h, _⟩ | ⟨_, _, _, rfl, rfl⟩ | ⟨_, k', _⟩
     ·cases h
     ·cases h
     ·exact ⟨rfl, rfl, by omega, by rw [if_neg (by omega), if_pos k]; omega⟩
     ·exact absurd k (bind_ne k').2.2
    ·rcases cstep_cases p1 with ⟨h, _⟩ | ⟨h, _⟩ | ⟨_, k', _⟩ | ⟨_, _, rfl, rfl⟩
     ·cases h
     ·cases h
     ·exact absurd k' (bind_ne k).2.2
     ·exact ⟨rfl, rfl, hn, by rw [if_neg (bind_ne k).2.1, if_neg (bind_ne k).2.2]⟩
   obtain ⟨rfl, rfl, h3, h4⟩ := hs
   obtain ⟨g1, l1, l2, u, g2, g3, g4, g5⟩ := ctlE_big hM l (i + 1) b2 n2 _ j er r h3 h p2
   refine ⟨g1, t :: l1, l2, u, by rw [g2]; rfl, by rw [g3, List.length_cons]; omega, g4, ?_⟩
   rw [opens_cons, closes_cons]
   omega
theorem wd_ok {t : Tok} (h : wrd t ≠ ⟨#[]⟩) : wdB t = true := by
 have h : wordT t.kind t.name t.of ≠ ⟨#[]⟩ := h
 simp [wdB, h]
theorem parse_text {e : Xp} (ho : e.okE wrT) (hp : e.post.length ≤ 200) (hs : (joinB ((e.toks 0).map wrd)).size ≤ 4000) :
  (parseR (joinB ((e.toks 0).map wrd)) = (e.post, 0, 0)) ∨ (100 < e.pd 0 ∧ (parseR (joinB ((e.toks 0).map wrd))).2.2 = 3 ∧ ∃ (l1 l2 : List Tok) (t : Tok), e.toks 0 = l1 ++ t :: l2 ∧ t.kind = 6 ∧ opens l1 = 100 + closes l1) := by
 have hlen := toks_len 0 e
 obtain ⟨l', h1, h2⟩ := text_read (toks_ok (m := 0) ho) (by omega) hs
 have hw : ∀ t ∈ e.toks 0, wdB t = true := fun t ht => wd_ok (toks_ok ho t ht)
 have hll := len_core h2
 have hR : readR wdB l' = readR wdB (e.toks 0) := (readR_core h2).symm
 have hrd := tok_read e 0 ho
 unfold parseR
 rw [h1]
 simp only
 rw [if_neg (by simp), hR, readR_acc hw]
 have hbig := tok_acc (M := max 100 (e.pd 0)) ho 0 (by omega)
 cases hc : ctlE 100 0 false 0 false (e.toks 0) with
 | inr y =>
  left
  obtain ⟨b, n⟩ := y
  have h3 := (ctlE_ok (e.toks 0) 0 false 0 false (b, n)).1 hc
  have h4 := ctl_raise (M' := max 100 (e.pd 0)) (by omega) (e.toks 0) false 0 false (b, n) (by omega) h3
  unfold accT at hbig
  rw [hbig] at h4
  simp only [Option.some.injEq, Prod.mk.injEq] at h4
  obtain ⟨rfl, rfl⟩ := h4
  have hq : (if 200 < (readD (e.toks 0)).length then (([], (e.toks 0).length, 3) : List Trm × Nat × Int) else (readD (e.toks 0), 0, 0)) = (e.post, 0, 0) := by rw [hrd, if_neg (by omega)]
  have hz : ¬ (true = false ∨ 0 < 0) := by simp
  simp only [if_neg hz, hq, if_true]
 | inl y =>
  right
  obtain ⟨j, er⟩ := y
  obtain ⟨g1, l1, l2, t, g2, g3, g4, g5⟩ := ctlE_big (M' := max 100 (e.pd 0)) (by omega) (e.toks 0) 0 false 0 false j er _ (by omega) hc hbig
  subst g1
  refine ⟨?_, ?_, l1, l2, t, g2, g4, by omega⟩
  ·rcases Nat.lt_or_ge 100 (e.pd 0) with h | h
   ·exact h
   ·exfalso
    have h5 := (ctlE_ok (e.toks 0) 0 false 0 false (true, 0)).2 (tok_acc (M := 100) ho 0 h)
    rw [hc] at h5; cases h5
  ·simp only
   rw [if_neg (by decide)]
   split
   ·rfl
   ·simp
end Go.Proofs.YtedaffmkpljlnaaGreat
