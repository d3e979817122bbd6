/- Texts of one proof, laid together: Kl Km Kn Ko Kp Kr Ks Kt Ku Eh Ei Ej Ek El Em En Eo Kw Ky KB Eq Er Es. -/
import Derived.Test.YtmbijfcjfhdnjaaMR11
import Derived.Test.YtmbijfcjfhdnjaaMR12
import Derived.Test.YtmbijfcjfhdnjaaMR1
import Derived.Shelf.Strings.OnBuilder
import Derived.Test.YtmbijfcjfhdnjaaMR10

/- strings.Join: the kit's contract, as a call that leaves all objects alone. -/
namespace Go.Proofs.Ytmbijfcjfhdnjaa
set_option linter.unusedSimpArgs false
set_option linter.unusedVariables false
open Go.RowKit Go.Lib Go.Shelf

theorem xJoin : Builder.Extra Try.prog lJoin_ren where
  sizeBuilder := by kernel_rfl
  liesBuilder := by kernel_rfl
  t5 := Try.underlying5
  a5 := Try.isAgg5
  z5 := Try.sizeOf5
  v5 := Try.zeroValue5
  infoByte := by kernel_rfl
  cellsByte := by kernel_rfl
  sizeByte := by kernel_rfl
  neB5 := by decide
def joinB (l : List ByteArray) : ByteArray := ba (Lib.join (l.map (·.data.toList)) [32])
theorem rep_cap {g : Gh} {x : Value} {z : AV} (h : Rep g x z) : ∀ a n c f m l, x = .slice a n c → z = .lst f m l → n ≤ c := by
  intro a n c f m l h1 h2
  cases h <;> first
    | (cases h2; done)
    | (cases h1; assumption)
    | (cases h1; omega)
theorem p_join (l : List ByteArray) (hl : l.length ≤ 1000000) (hs : (joinB l).size ≤ 140737488355328) : PCalls Try.prog 46 [.lst .ro l.length (l.map .str), .str ⟨#[32]⟩] (.str (joinB l)) := by
  refine pcalls_calls (by simp [free, free.frees, frees_str]) rfl rfl (by kernel_rfl) ?_
  intro g w vargs hsim hr
  obtain ⟨v, vs, rfl, hv, hvs⟩ : ∃ v vs, vargs = v :: vs ∧ Rep g v (.lst .ro l.length (l.map .str)) ∧ RepL g vs [.str ⟨#[32]⟩] := by
    cases hr with
    | cons h1 h2 => exact ⟨_, _, rfl, h1, h2⟩
  cases hvs with
  | cons h1 h2 =>
  cases h1
  cases h2
  obtain ⟨a, c, rfl, hrow⟩ := rep_strs hsim hv
  have hm : ∀ (e : Ending) (w' : World), e = .returned (.string ⟨(Lib.join (l.map (·.data.toList)) (⟨#[32]⟩ : ByteArray).data.toList).toArray⟩) ∧ Below w.heap.size w w' → ∃ x, e = .returned x ∧ Below w.heap.size w w' ∧ Rep (g.news w w') x (.str (joinB l)) := by
    rintro e w' ⟨rfl, hb⟩
    exact ⟨_, rfl, hb, .str _⟩
  have hcap : l.length ≤ c := rep_cap hv _ _ _ _ _ _ rfl rfl
  by_cases h0 : l = []
  · subst h0
    exact (Any.strings_Join_none (P := Try.prog) lJoin xJoin a c ⟨#[32]⟩ w).mono fun e w' h => hm e w' ⟨by rw [h.1]; rfl, h.2 ▸ Below.refl _ _⟩
  · rcases hrow with h1 | ⟨b, off, rfl, hcells⟩
    · exact absurd (by simpa using h1) h0
    · have hc2 : ∀ (j : Nat) x, l[j]? = some x → w.cell? ⟨b, off + j, none⟩ = some (.string x) := fun j x hj => hcells j (.string x) (by rw [List.getElem?_map, hj]; rfl)
      obtain ⟨y, r, hyr⟩ := List.exists_cons_of_ne_nil h0
      have hbk : b < w.heap.size := World.block_lt_of_cell? w ⟨b, off + 0, none⟩ (hc2 0 y (by rw [hyr]; rfl))
      exact (Any.strings_Join (P := Try.prog) lJoin xJoin b off c l ⟨#[32]⟩ w hc2 hbk (by omega) hcap (by unfold joinB at hs; rw [ba_len2] at hs; exact hs)).mono hm
end Go.Proofs.Ytmbijfcjfhdnjaa

/- Text: the program's and the reference's. -/
namespace Go.Proofs.Ytmbijfcjfhdnjaa
set_option linter.unusedSimpArgs false
set_option linter.unusedVariables false
open Go.RowKit Go.Lib

def wrd (t : Tok) : ByteArray := wordT t.kind t.name t.of
theorem atomW_size (o : Int) (w : ByteArray) : (atomW o w).size ≤ w.size + 6 := by
  have h3 : (⟨#[]⟩ : ByteArray).size = 0 := rfl
  unfold atomW
  repeat' split
  all_goals first
    | omega
    | (have := preW_size o; rw [ByteArray.size_append]; omega)
theorem wordT_size (k : Int) (w : ByteArray) (o : Int) : (wordT k w o).size ≤ w.size + 6 := by
  have h0 : (⟨#[]⟩ : ByteArray).size = 0 := rfl
  have h1 : (⟨#[97, 110, 100]⟩ : ByteArray).size = 3 := rfl
  have h2 : (⟨#[102, 111, 114]⟩ : ByteArray).size = 3 := rfl
  have h3 : (⟨#[97, 115]⟩ : ByteArray).size = 2 := rfl
  have h4 : (⟨#[124]⟩ : ByteArray).size = 1 := rfl
  have h5 : (⟨#[40]⟩ : ByteArray).size = 1 := rfl
  have h6 : (⟨#[41]⟩ : ByteArray).size = 1 := rfl
  have := atomW_size o w
  unfold wordT
  repeat' split
  all_goals omega
theorem join_size : ∀ (l : List ByteArray) (c : Nat), (∀ x ∈ l, x.size ≤ c) → (joinB l).size ≤ l.length * (c + 1) := by
  intro l c h
  unfold joinB
  rw [ba_len2]
  cases l with
  | nil => simp [Lib.join_nil]
  | cons x r =>
    rw [List.map_cons, Lib.join_length]
    have gen : ∀ l : List ByteArray, (∀ x ∈ l, x.size ≤ c) → Lib.lens (l.map (·.data.toList)) ≤ l.length * c := by
      intro l
      induction l with
      | nil => intro _; simp [Lib.lens]
      | cons y l ih =>
        intro h
        have h1 := h y (by simp)
        have h2 := ih (fun z hz => h z (by simp [hz]))
        have h3 := len_size y
        simp only [Lib.lens, List.map_cons, List.sum_cons, List.length_cons, Nat.add_mul] at h2 ⊢
        omega
    have this := gen (x :: r) h
    rw [List.map_cons] at this
    simp only [List.length_map, List.length_cons, List.length_nil, Nat.mul_add, Nat.mul_one] at this ⊢
    omega
end Go.Proofs.Ytmbijfcjfhdnjaa

/- The laws' own functions: same, large, awake. -/
namespace Go.Proofs.Ytmbijfcjfhdnjaa
set_option linter.unusedSimpArgs false
set_option linter.unusedVariables false
open Go.RowKit Go.Lib

section
variable {α : Type} (h : List α) (x y z : α)
end
end Go.Proofs.Ytmbijfcjfhdnjaa

/- large, awake; TokenReads. -/
namespace Go.Proofs.Ytmbijfcjfhdnjaa
set_option linter.unusedSimpArgs false
set_option linter.unusedVariables false
open Go.RowKit Go.Lib

def c1 : ByteArray := ⟨#[107, 101, 121, 58, 107, 49, 124, 97, 108, 105, 99, 101, 32, 97, 115, 32, 114, 111, 108, 101, 58, 114, 32, 35, 32, 120]⟩
def c2 : ByteArray := ⟨#[97, 32, 75]⟩
end Go.Proofs.Ytmbijfcjfhdnjaa

/- TokenReads and TokenWrites: the calls. -/
namespace Go.Proofs.Ytmbijfcjfhdnjaa
set_option linter.unusedSimpArgs false
set_option linter.unusedVariables false
open Go.RowKit Go.Lib

theorem scanF_len : ∀ (f : Nat) (l : List UInt8) (a : Nat) (acc : List Tok), acc.length ≤ 1000 → (scanF f l a acc).1.length ≤ 1000
  | 0, _, _, acc, h => h
  | f + 1, [], _, acc, h => h
  | f + 1, b :: r, a, acc, h => by
    simp only [scanF]
    split
    · exact scanF_len f r _ _ h
    · split
      · exact scanF_len f _ _ _ h
      · split
        · simp
        · split
          · simp
          · exact scanF_len f _ _ _ (by simp; omega)
theorem allT_len (s : ByteArray) : (allT s).1.length ≤ 1000 := by
  unfold allT
  split
  · simp
  · exact scanF_len _ _ _ _ (by simp)
end Go.Proofs.Ytmbijfcjfhdnjaa

/- A word that is written is read as its token: plain laws. -/
namespace Go.Proofs.Ytmbijfcjfhdnjaa
set_option linter.unusedSimpArgs false
set_option linter.unusedVariables false
open Go.RowKit Go.Lib

theorem stop_app {q : Int → Bool} {l r : List UInt8} (h : ∀ b ∈ l, q b.toNat = true) (h2 : ∀ b r', r = b :: r' → q b.toNat = false) : stopN q (l ++ r) = l.length := by
  unfold stopN
  refine tw_len (by simp) (fun b hb => ?_) (fun hlt => ?_)
  · rw [List.take_left] at hb; exact h b hb
  · rw [List.getElem_append_right (Nat.le_refl _)]
    simp only [Nat.sub_self]
    cases r with
    | nil => simp at hlt
    | cons c r' => exact h2 c r' rfl
theorem fine_inn {r : List UInt8} (h : fineL r = true) : ∀ b r', r = b :: r' → innI b.toNat = false := by
  rintro b r' rfl
  simp only [fineL, freI, Bool.and_eq_true, Bool.not_eq_true'] at h
  exact h.1.1
theorem fine_dig {r : List UInt8} (h : fineL r = true) : ∀ b r', r = b :: r' → digI b.toNat = false := by
  intro b r' e
  have := fine_inn h b r' e
  simp only [innI, Bool.or_eq_false_iff] at this
  exact this.1.1.2
theorem fine_colon {r : List UInt8} (h : fineL r = true) : colonL r = false := by
  cases r with
  | nil => rfl
  | cons b r =>
    simp only [fineL, freI, Bool.and_eq_true, decide_eq_true_eq] at h
    have := h.1.2
    simp only [colonL, beq_eq_false_iff_ne]
    omega
theorem may_all {n : ByteArray} (h : mayN n = true) : 1 ≤ n.size ∧ n.size ≤ 24 ∧ lttI (n.data.toList.headD 0).toNat = true ∧ ∀ b ∈ n.data.toList, innI b.toNat = true := by
  have hl := len_size n
  unfold mayN mayL at h
  simp only [Bool.and_eq_true, decide_eq_true_eq] at h
  obtain ⟨h1, h2, h3, h4⟩ := h
  exact ⟨by omega, by omega, h3, List.all_eq_true.1 h4⟩
theorem take_ba (n : ByteArray) (r : List UInt8) : ba ((n.data.toList ++ r).take n.size) = n := by
  rw [← len_size n, List.take_left, ba_eta]
theorem name_may {n : ByteArray} {r : List UInt8} (h : mayN n = true) (hf : fineL r = true) : nameL (n.data.toList ++ r) = some n.size ∧ stopN innI (n.data.toList ++ r) = n.size := by
  obtain ⟨h1, h2, h3, h4⟩ := may_all h
  have hl := len_size n
  have hs : stopN innI (n.data.toList ++ r) = n.size := by rw [stop_app h4 (fine_inn hf), hl]
  refine ⟨?_, hs⟩
  have hh : (n.data.toList ++ r).headD 0 = n.data.toList.headD 0 := by
    cases hn : n.data.toList with
    | nil => rw [hn] at hl; simp at hl; omega
    | cons c t => rfl
  rw [name_some, hs, hh, if_pos ⟨h3, h2, by rw [← hl, List.drop_left]; exact hf⟩]
theorem sign_name {n : ByteArray} {r : List UInt8} (h : mayN n = true) (hf : fineL r = true) : signL (n.data.toList ++ r) = if keyW n = 0 then some (1, n, 3, n.size) else some (keyW n, ba [], 0, n.size) := by
  obtain ⟨h1, h2, h3, h4⟩ := may_all h
  obtain ⟨g1, g2⟩ := name_may h hf
  have hl := len_size n
  have hk : kindL (n.data.toList ++ r) = 0 := by
    rw [kind_name, g2, if_neg]
    rintro ⟨-, hc⟩
    rw [← hl, List.drop_left, fine_colon hf] at hc
    cases hc
  obtain ⟨L, hL⟩ : ∃ L, L = n.data.toList ++ r := ⟨_, rfl⟩
  have ht := take_ba n r
  rw [← hL] at g1 g2 hk ht ⊢
  unfold signL
  rw [if_pos hk]
  cases L with
  | nil => cases g1
  | cons b t =>
    have hb : lttI b.toNat = true := by
      cases hn : n.data.toList with
      | nil => rw [hn] at hl; simp at hl; omega
      | cons c u =>
        rw [hn] at hL h3
        injection hL with e _
        rw [e]; exact h3
    simp only [plainL]
    rw [if_pos hb, g1]
    simp only [ht]
theorem beg_self (p : ByteArray) (r : List UInt8) : begL p (p.data.toList ++ r) = true := by
  unfold begL
  rw [← len_size p, List.take_left, decide_eq_true_eq]
theorem kind_pre {o : Int} (ho : o ∈ kinds) (r : List UInt8) : kindL ((preW o).data.toList ++ r) = o := by
  have h2 : o = 1 ∨ o = 2 ∨ o = 4 ∨ o = 5 := by simpa [kinds] using ho
  have b1 : begL (preW 1) ((preW 2).data.toList ++ r) = false ∧ begL (preW 1) ((preW 4).data.toList ++ r) = false ∧ begL (preW 1) ((preW 5).data.toList ++ r) = false := ⟨rfl, rfl, rfl⟩
  have b2 : begL (preW 2) ((preW 4).data.toList ++ r) = false ∧ begL (preW 2) ((preW 5).data.toList ++ r) = false := ⟨rfl, rfl⟩
  have b4 : begL (preW 4) ((preW 5).data.toList ++ r) = false := rfl
  obtain ⟨b12, b14, b15⟩ := b1
  obtain ⟨b24, b25⟩ := b2
  unfold kindL
  rcases h2 with rfl | rfl | rfl | rfl
  · rw [if_pos (beg_self _ _)]
  · rw [b12, if_neg (by simp), if_pos (beg_self _ _)]
  · rw [b14, b24, if_neg (by simp), if_neg (by simp), if_pos (beg_self _ _)]
  · rw [b15, b25, b4, if_neg (by simp), if_neg (by simp), if_neg (by simp), if_pos (beg_self _ _)]
theorem sign_atom {n : ByteArray} {o : Int} {r : List UInt8} (ho : o ∈ kinds) (h : mayN n = true) (hf : fineL r = true) : signL ((preW o ++ n).data.toList ++ r) = some (1, n, o, (preW o ++ n).size) := by
  have hp := len_size (preW o)
  have e : (preW o ++ n).data.toList ++ r = (preW o).data.toList ++ (n.data.toList ++ r) := by
    rw [ByteArray.data_append, Array.toList_append, List.append_assoc]
  rw [e]
  unfold signL
  rw [kind_pre ho, if_neg (kinds_nz ho), ← hp, List.drop_left]
  unfold atomL
  rw [(name_may h hf).1]
  simp only [take_ba, ByteArray.size_append, hp]
theorem sign_word {k : Int} {n : ByteArray} {o : Int} {r : List UInt8} (hw : wordT k n o ≠ ⟨#[]⟩) (hf : fineL r = true) : signL ((wordT k n o).data.toList ++ r) = some (k, n, o, (wordT k n o).size) := by
  have hl := len_size n
  by_cases h1 : k = 1
  · subst h1
    have e : wordT 1 n o = atomW o n := by unfold wordT; rw [if_pos rfl]
    rw [e] at hw ⊢
    by_cases h0 : o = 0
    · subst h0
      have e2 : atomW 0 n = if n = ⟨#[68]⟩ then n else ⟨#[]⟩ := by unfold atomW; rw [if_pos rfl]
      rw [e2] at hw ⊢
      by_cases hd : n = ⟨#[68]⟩
      · subst hd
        rw [if_pos rfl]
        show signL (68 :: r) = _
        rw [sig_d rfl, good_d, if_pos hf]; rfl
      · rw [if_neg hd] at hw; exact absurd rfl hw
    · by_cases hm : mayN n = true
      · by_cases hk : o = 1 ∨ o = 2 ∨ o = 4 ∨ o = 5
        · have ho : o ∈ kinds := by simpa [kinds] using hk
          have e2 : atomW o n = preW o ++ n := by unfold atomW; rw [if_neg h0, if_pos hm, if_pos hk]
          rw [e2]; exact sign_atom ho hm hf
        · by_cases h3 : o = 3 ∧ keyW n = 0
          · have e2 : atomW o n = n := by unfold atomW; rw [if_neg h0, if_pos hm, if_neg hk, if_pos h3]
            rw [e2, sign_name hm hf, if_pos h3.2, h3.1]
          · have e2 : atomW o n = ⟨#[]⟩ := by unfold atomW; rw [if_neg h0, if_pos hm, if_neg hk, if_neg h3]
            exact absurd e2 hw
      · have e2 : atomW o n = ⟨#[]⟩ := by unfold atomW; rw [if_neg h0, if_neg hm]
        exact absurd e2 hw
  · by_cases h0 : o = 0
    · subst h0
      by_cases h8 : k = 8
      · subst h8
        have e : wordT 8 n 0 = if numW n = true then n else ⟨#[]⟩ := by unfold wordT; rw [if_neg (by decide), if_neg (by decide), if_pos rfl]
        rw [e] at hw ⊢
        by_cases hn : numW n = true
        · rw [if_pos hn]
          have hn2 := hn
          unfold numW at hn2
          simp only [Bool.and_eq_true, decide_eq_true_eq] at hn2
          obtain ⟨n1, n2, n3, n4⟩ := hn2
          have hs : stopN digI (n.data.toList ++ r) = n.size := by rw [stop_app (fun b hb => List.all_eq_true.1 n3 b hb) (fine_dig hf), hl]
          obtain ⟨b, t, hbt⟩ : ∃ b t, n.data.toList = b :: t := by
            cases hc : n.data.toList with
            | nil => rw [hc] at hl; simp at hl; omega
            | cons b t => exact ⟨b, t, rfl⟩
          have hb : digI b.toNat = true := List.all_eq_true.1 n3 b (by rw [hbt]; simp)
          have ht := take_ba n r
          have hdr : (n.data.toList ++ r).drop n.size = r := by rw [← hl, List.drop_left]
          rw [hbt] at hs ht hdr ⊢
          rw [List.cons_append] at hs ht hdr ⊢
          rw [sig_dig hb, hs, ht]
          have hg : goodT (8, n, 0, n.size) (b :: (t ++ r)) = true := by
            unfold goodT
            simp only [hdr, hf, Bool.and_true, decide_eq_true_eq]
            have e3 : wordT 8 n 0 = n := by rw [e, if_pos hn]
            rw [e3]
            intro e4; rw [e4] at n1; exact absurd n1 (by decide)
          rw [if_pos hg]
        · rw [if_neg hn] at hw; exact absurd rfl hw
      · by_cases h9 : k = 9
        · subst h9
          have e : wordT 9 n 0 = if sigW n = true then n else ⟨#[]⟩ := by unfold wordT; rw [if_neg (by decide), if_neg (by decide), if_neg (by decide), if_pos rfl]
          rw [e] at hw ⊢
          by_cases hn : sigW n = true
          · rw [if_pos hn]
            unfold sigW at hn
            simp only [Bool.and_eq_true, decide_eq_true_eq] at hn
            obtain ⟨b, rfl⟩ := one_byte hn.1
            show signL (b :: r) = _
            rw [sig_sign hn.2]; rfl
          · rw [if_neg hn] at hw; exact absurd rfl hw
        · by_cases hn : n = ⟨#[]⟩
          · subst hn
            have key : ∀ (x : ByteArray) (kk : Int), mayN x = true → keyW x = kk → kk ≠ 0 → signL (x.data.toList ++ r) = some (kk, ⟨#[]⟩, 0, x.size) := fun x kk g1 g2 g3 => by
              rw [sign_name g1 hf, if_neg (by rw [g2]; exact g3), g2]; rfl
            by_cases h2 : k = 2
            · subst h2; exact key ⟨#[97, 110, 100]⟩ 2 (by decide) (by decide) (by decide)
            · by_cases h3 : k = 3
              · subst h3; exact key ⟨#[102, 111, 114]⟩ 3 (by decide) (by decide) (by decide)
              · by_cases h5 : k = 5
                · subst h5; exact key ⟨#[97, 115]⟩ 5 (by decide) (by decide) (by decide)
                · by_cases h4 : k = 4
                  · subst h4
                    show signL (124 :: r) = _
                    rw [sig_124 rfl]; rfl
                  · by_cases h6 : k = 6
                    · subst h6
                      show signL (40 :: r) = _
                      rw [sig_40 rfl]; rfl
                    · by_cases h7 : k = 7
                      · subst h7
                        show signL (41 :: r) = _
                        rw [sig_41 rfl]; rfl
                      · exact absurd (by unfold wordT; simp [h1, h2, h3, h4, h5, h6, h7, h8, h9]) hw
          · exact absurd (by unfold wordT; simp [h1, h8, h9, hn]) hw
    · exact absurd (by unfold wordT; simp [h1, h0]) hw
end Go.Proofs.Ytmbijfcjfhdnjaa

/- What is written is read as it was: plain laws of texts. -/
namespace Go.Proofs.Ytmbijfcjfhdnjaa
set_option linter.unusedSimpArgs false
set_option linter.unusedVariables false
open Go.RowKit Go.Lib

theorem sign_none {b : UInt8} {r : List UInt8} (h : b.toNat = 32 ∨ b.toNat = 9 ∨ b.toNat = 10 ∨ b.toNat = 35) : signL (b :: r) = none := by
  have hl : lttI b.toNat = false := by rcases h with h | h | h | h <;> rw [h] <;> rfl
  have hd : digI b.toNat = false := by rcases h with h | h | h | h <;> rw [h] <;> rfl
  have hs : sigB b.toNat = false := by rcases h with h | h | h | h <;> rw [h] <;> rfl
  rw [sign_nl hl]; simp only [plainL]
  rw [if_neg (by simp [hl]), if_neg (by omega), if_neg (by omega), if_neg (by omega), if_neg (by omega), if_neg (by simp [hd]), if_neg (by simp [hs])]
theorem sign_nil : signL [] = none := by rfl
theorem scan_tok {l : List UInt8} {k : Int} {w : ByteArray} {o : Int} {n : Nat} (h : signL l = some (k, w, o, n)) (a : Nat) (acc : List Tok) (ha : acc.length < 1000) : scan l a acc = scan (l.drop n) (a + n) (acc ++ [⟨k, w, o, a⟩]) := by
  cases l with
  | nil => rw [sign_nil] at h; cases h
  | cons b r =>
    rw [scan_cons]
    have h1 : ¬ blankB b = true := fun hb => by
      rw [sign_none (by simp [blankB] at hb; omega)] at h; cases h
    have h2 : ¬ b.toNat = 35 := fun hb => by rw [sign_none (by omega)] at h; cases h
    rw [if_neg h1, if_neg h2, h]
    simp only
    rw [if_neg (by omega)]
theorem scan_blank {b : UInt8} {r : List UInt8} (h : blankB b = true) (a : Nat) (acc : List Tok) : scan (b :: r) a acc = scan r (a + 1) acc := by rw [scan_cons, if_pos h]
/-- without its place -/
def core (t : Tok) : Int × ByteArray × Int := (t.kind, t.name, t.of)
abbrev wl (t : Tok) : List UInt8 := (wrd t).data.toList
theorem tail_cons (x : Tok) (l : List Tok) : Lib.joinTail [32] ((x :: l).map wl) = 32 :: (wl x ++ Lib.joinTail [32] (l.map wl)) := by
  simp [Lib.joinTail]
end Go.Proofs.Ytmbijfcjfhdnjaa

/- A token's word is what stood there: plain laws. -/
namespace Go.Proofs.Ytmbijfcjfhdnjaa
set_option linter.unusedSimpArgs false
set_option linter.unusedVariables false
open Go.RowKit Go.Lib

theorem keyW_word {w : ByteArray} (h : keyW w ≠ 0) : wordT (keyW w) ⟨#[]⟩ 0 = w := by
  unfold keyW at h ⊢
  by_cases e1 : w = ⟨#[97, 110, 100]⟩
  · rw [if_pos e1, e1]; decide
  · rw [if_neg e1] at h ⊢
    by_cases e2 : w = ⟨#[102, 111, 114]⟩
    · rw [if_pos e2, e2]; decide
    · rw [if_neg e2] at h ⊢
      by_cases e3 : w = ⟨#[97, 115]⟩
      · rw [if_pos e3, e3]; decide
      · rw [if_neg e3] at h; exact absurd rfl h
theorem name_back {l : List UInt8} {n : Nat} (h : nameL l = some n) : n = stopN innI l ∧ mayN (ba (l.take n)) = true := by
  rw [name_some] at h
  by_cases hc : lttI (l.headD 0).toNat = true ∧ stopN innI l ≤ 24 ∧ fineL (l.drop (stopN innI l)) = true
  · rw [if_pos hc] at h
    injection h with h
    subst h
    exact ⟨rfl, (may_stop l).2 ⟨hc.1, hc.2.1⟩⟩
  · rw [if_neg hc] at h; cases h
theorem ba_append (a b : List UInt8) : ba (a ++ b) = ba a ++ ba b := by
  apply ByteArray.ext; apply Array.ext'; simp [ba]
theorem plain_back {l : List UInt8} {k : Int} {w : ByteArray} {o : Int} {n : Nat} (h : plainL l = some (k, w, o, n)) : wordT k w o = ba (l.take n) := by
  cases l with
  | nil => cases h
  | cons b r =>
    have hb1 : ∀ c : UInt8, b.toNat = c.toNat → b = c := fun c hc => UInt8.toNat_inj.1 hc
    simp only [plainL] at h
    by_cases c1 : lttI b.toNat = true
    · rw [if_pos c1] at h
      cases hn : nameL (b :: r) with
      | none => rw [hn] at h; cases h
      | some m =>
        rw [hn] at h
        simp only at h
        obtain ⟨_, hm⟩ := name_back hn
        by_cases hk : keyW (ba ((b :: r).take m)) = 0
        · rw [if_pos hk] at h
          simp only [Option.some.injEq, Prod.mk.injEq] at h
          obtain ⟨rfl, rfl, rfl, rfl⟩ := h
          unfold wordT atomW
          rw [if_pos rfl, if_neg (by decide), if_pos hm, if_neg (by decide), if_pos ⟨rfl, hk⟩]
        · rw [if_neg hk] at h
          simp only [Option.some.injEq, Prod.mk.injEq] at h
          obtain ⟨rfl, rfl, rfl, rfl⟩ := h
          exact keyW_word hk
    · rw [if_neg c1] at h
      by_cases c2 : b.toNat = 68
      · rw [if_pos c2] at h
        have := hb1 68 c2
        subst this
        by_cases hf : fineL r = true
        · rw [if_pos hf] at h
          simp only [Option.some.injEq, Prod.mk.injEq] at h
          obtain ⟨rfl, rfl, rfl, rfl⟩ := h
          rfl
        · rw [if_neg hf] at h; cases h
      · rw [if_neg c2] at h
        by_cases c3 : b.toNat = 124
        · rw [if_pos c3] at h
          have := hb1 124 c3
          subst this
          simp only [Option.some.injEq, Prod.mk.injEq] at h
          obtain ⟨rfl, rfl, rfl, rfl⟩ := h
          rfl
        · rw [if_neg c3] at h
          by_cases c4 : b.toNat = 40
          · rw [if_pos c4] at h
            have := hb1 40 c4
            subst this
            simp only [Option.some.injEq, Prod.mk.injEq] at h
            obtain ⟨rfl, rfl, rfl, rfl⟩ := h
            rfl
          · rw [if_neg c4] at h
            by_cases c5 : b.toNat = 41
            · rw [if_pos c5] at h
              have := hb1 41 c5
              subst this
              simp only [Option.some.injEq, Prod.mk.injEq] at h
              obtain ⟨rfl, rfl, rfl, rfl⟩ := h
              rfl
            · rw [if_neg c5] at h
              by_cases c6 : digI b.toNat = true
              · rw [if_pos c6] at h
                by_cases hn : numW (ba ((b :: r).take (stopN digI (b :: r)))) = true ∧ fineL ((b :: r).drop (stopN digI (b :: r))) = true
                · rw [if_pos hn] at h
                  simp only [Option.some.injEq, Prod.mk.injEq] at h
                  obtain ⟨rfl, rfl, rfl, rfl⟩ := h
                  unfold wordT
                  rw [if_neg (by decide), if_neg (by decide), if_pos rfl, if_pos hn.1]
                · rw [if_neg hn] at h; cases h
              · rw [if_neg c6] at h
                by_cases c7 : sigB b.toNat = true
                · rw [if_pos c7] at h
                  simp only [Option.some.injEq, Prod.mk.injEq] at h
                  obtain ⟨rfl, rfl, rfl, rfl⟩ := h
                  have hs : sigW (ba [b]) = true := by
                    rw [sigW_one rfl]; exact c7
                  unfold wordT
                  rw [if_neg (by decide), if_neg (by decide), if_neg (by decide), if_pos rfl, if_pos hs]
                  rfl
                · rw [if_neg c7] at h; cases h
theorem sign_back {l : List UInt8} {k : Int} {w : ByteArray} {o : Int} {n : Nat} (h : signL l = some (k, w, o, n)) : wordT k w o = ba (l.take n) := by
  unfold signL at h
  by_cases hk : kindL l = 0
  · rw [if_pos hk] at h; exact plain_back h
  · rw [if_neg hk] at h
    rcases kindL_cases l with h0 | ⟨hm, hbg⟩
    · exact absurd h0 hk
    · obtain ⟨K, hK⟩ : ∃ K, K = kindL l := ⟨_, rfl⟩
      rw [← hK] at h hm hbg hk
      unfold atomL at h
      cases hn : nameL (l.drop (preW K).size) with
      | none => rw [hn] at h; cases h
      | some m =>
        rw [hn] at h
        simp only [Option.some.injEq, Prod.mk.injEq] at h
        obtain ⟨rfl, rfl, rfl, rfl⟩ := h
        obtain ⟨_, hmay⟩ := name_back hn
        have ho : K = 1 ∨ K = 2 ∨ K = 4 ∨ K = 5 := by simpa [kinds] using hm
        unfold begL at hbg
        have hbt := of_decide_eq_true hbg
        have e : wordT 1 (ba ((l.drop (preW K).size).take m)) K = preW K ++ ba ((l.drop (preW K).size).take m) := by
          unfold wordT atomW
          rw [if_pos rfl, if_neg hk, if_pos hmay, if_pos ho]
        rw [e, List.take_add, ba_append, hbt, ba_eta]
theorem ba_ne {w : ByteArray} (h : 1 ≤ w.size) : w ≠ ⟨#[]⟩ := by
  intro e; rw [e] at h; exact absurd h (by decide)
end Go.Proofs.Ytmbijfcjfhdnjaa

/- TokenBack: the call. -/
namespace Go.Proofs.Ytmbijfcjfhdnjaa
set_option linter.unusedSimpArgs false
set_option linter.unusedVariables false
open Go.RowKit Go.Lib

theorem sign_size {l : List UInt8} {k : Int} {w : ByteArray} {o : Int} {n : Nat} (h : signL l = some (k, w, o, n)) (hl : l.length ≤ 1000000) : w.size ≤ 1000000 := by
  have tk : ∀ (l : List UInt8) (n : Nat), l.length ≤ 1000000 → (ba (l.take n)).size ≤ 1000000 := fun l n h => by rw [ba_len2, List.length_take]; omega
  have z : (ba []).size ≤ 1000000 := by decide
  unfold signL at h
  split at h
  · cases l with
    | nil => cases h
    | cons b r =>
      simp only [plainL] at h
      repeat' split at h
      all_goals first
        | (cases h; done)
        | (simp only [Option.some.injEq, Prod.mk.injEq] at h; obtain ⟨_, rfl, _⟩ := h; first | exact tk _ _ hl | exact z | (rw [ba_len2]; simp))
  · unfold atomL at h
    split at h
    · cases h
    · simp only [Option.some.injEq, Prod.mk.injEq] at h
      obtain ⟨_, rfl, _⟩ := h
      exact tk _ _ (by simp; omega)
theorem allT_name {s : ByteArray} (hs : s.size ≤ 1000000) : ∀ t ∈ (allT s).1, t.name.size ≤ 1000000 := by
  have hl := len_size s
  have gen : ∀ (f : Nat) (l : List UInt8) (a : Nat) (acc : List Tok), l.length ≤ 1000000 → (∀ t ∈ acc, t.name.size ≤ 1000000) → ∀ t ∈ (scanF f l a acc).1, t.name.size ≤ 1000000 := by
    intro f
    induction f with
    | zero => intro l a acc _ h; exact h
    | succ f ih =>
      intro l a acc hlen h
      cases l with
      | nil => exact h
      | cons b r =>
        simp only [scanF]
        simp only [List.length_cons] at hlen
        split
        · exact ih _ _ _ (by omega) h
        · split
          · exact ih _ _ _ (by simp; omega) h
          · split
            · simp
            · next k w o n hsg =>
              split
              · simp
              · refine ih _ _ _ (by simp; omega) fun t ht => ?_
                rcases List.mem_append.1 ht with ht | ht
                · exact h t ht
                · simp only [List.mem_singleton] at ht
                  subst ht
                  exact sign_size hsg (by simp; omega)
  unfold allT
  split
  · simp
  · exact gen _ _ _ _ (by omega) (by simp)
end Go.Proofs.Ytmbijfcjfhdnjaa

/- Expressions: Parse, and the document's. -/
-- fast
-- rows
namespace Go.Proofs.Ytmbijfcjfhdnjaa
set_option linter.unusedSimpArgs false
set_option linter.unusedVariables false
open Go.RowKit Go.Lib

def resI (r : List Trm × Int × Int) : AV := .tup [vTrs r.1, .int .i64 r.2.1, .int .i64 r.2.2]
theorem free_resI (r : List Trm × Int × Int) : free (resI r) = true := by simp [resI, vTrs, free, free.frees, frees_trs]
/-- WHAT A TEXT IS READ AS -/
def parseR (s : ByteArray) : List Trm × Int × Int :=
  if (allT s).2.2 ≠ 0 then ([], ((allT s).2.1 : Nat), (allT s).2.2)
  else if (readR wdB (allT s).1).2.2 = 0 then ((readR wdB (allT s).1).1, 0, 0)
  else match (allT s).1[(readR wdB (allT s).1).2.1]? with
    | some t => ([], t.at_, (readR wdB (allT s).1).2.2)
    | none => if (readR wdB (allT s).1).2.2 = 3 then ([], 0, 3) else ([], (s.size : Nat), (readR wdB (allT s).1).2.2)
theorem trsC_nil : trsC [] = [] := rfl
set_option maxRecDepth 100000 in
set_option maxHeartbeats 8000000 in
theorem p_parse (s : ByteArray) (hs : s.size ≤ 1000000) : PCalls Try.prog 16 [.str s] (resI (parseR s)) := by
  have q1 := p_pall s hs
  have a2 := allT_len s
  have a3 := allT_name (s := s) hs
  have q2 := p_read (allT s).1 (by omega) a3
  obtain ⟨R, hR⟩ : ∃ R, R = readR wdB (allT s).1 := ⟨_, rfl⟩
  obtain ⟨A, hA⟩ : ∃ A, A = allT s := ⟨_, rfl⟩
  unfold parseR
  rw [← hR] at q2 ⊢
  rw [← hA] at q1 a2 a3 q2 ⊢
  simp only [resV, vToks, resX, vTrs] at q1 q2
  refine pcalls_of rfl (free_resI _) (ACalls.deep (acalls_of mixed J_expr_Parse_ok (Nat.le_of_ble_eq_true rfl) ?_)); simp only [J_expr_Parse, wkr,wk,if_true,if_false,forall_const,implies_true,ne_eq,eq_self,Nat.reduceEqDiff,Nat.reduceAdd,Nat.reduceMul,Nat.reduceSub,Nat.reduceLeDiff,Nat.reduceLT,Int.reduceEq,Int.reduceLT,Int.reduceLE,Int.reduceAdd,Int.reduceSub,Int.reduceMul,Int.reduceNeg,Int.reduceNe,reduceCtorEq,Int.reduceToNat,↓reduceIte]
  refine PCalls.use (q1) ?_; simp only [wkr,wk,if_true,if_false,forall_const,implies_true,ne_eq,eq_self,Nat.reduceEqDiff,Nat.reduceAdd,Nat.reduceMul,Nat.reduceSub,Nat.reduceLeDiff,Nat.reduceLT,Int.reduceEq,Int.reduceLT,Int.reduceLE,Int.reduceAdd,Int.reduceSub,Int.reduceMul,Int.reduceNeg,Int.reduceNe,reduceCtorEq,Int.reduceToNat,↓reduceIte]
  refine ⟨fun h0 => ?_, fun h0 => ?_⟩
  · rw [if_pos h0]
    simp only [rdpw, resI, vTrs]
    rfl
  · rw [if_neg (fun h => h h0)]
    refine PCalls.use (q2) ?_; simp only [wkr,wk,if_true,if_false,forall_const,implies_true,ne_eq,eq_self,Nat.reduceEqDiff,Nat.reduceAdd,Nat.reduceMul,Nat.reduceSub,Nat.reduceLeDiff,Nat.reduceLT,Int.reduceEq,Int.reduceLT,Int.reduceLE,Int.reduceAdd,Int.reduceSub,Int.reduceMul,Int.reduceNeg,Int.reduceNe,reduceCtorEq,Int.reduceToNat,↓reduceIte]
    refine ⟨fun h1 => ?_, fun h1 => ?_⟩
    · rw [if_pos h1]
      simp only [rdpw, resI, vTrs, rdps_trs, h1]
    · rw [if_neg h1]
      rcases Nat.lt_or_ge R.2.1 A.1.length with hil | hil
      · have hd : (toksC A.1).drop (((R.2.1 : Nat) : Int).toNat * 4) = _ := toksC_drop hil
        rw [List.getElem?_eq_getElem hil]
        refine ⟨fun _ => ⟨⟨by omega, by omega⟩, ?_⟩, fun h => absurd (by omega) h⟩
        simp only [wkr,wk,if_true,if_false,forall_const,implies_true,ne_eq,eq_self,Nat.reduceEqDiff,Nat.reduceAdd,Nat.reduceMul,Nat.reduceSub,Nat.reduceLeDiff,Nat.reduceLT,Int.reduceEq,Int.reduceLT,Int.reduceLE,Int.reduceAdd,Int.reduceSub,Int.reduceMul,Int.reduceNeg,Int.reduceNe,reduceCtorEq,Int.reduceToNat,↓reduceIte, hd]
        simp only [rdpw, resI, vTrs]
        rfl
      · rw [List.getElem?_eq_none hil]
        refine ⟨fun h => absurd h (by omega), fun _ => ⟨fun h3 => ?_, fun h3 => ?_⟩⟩
        · simp only [if_pos h3, rdpw, resI, vTrs, h3]
          rfl
        · simp only [if_neg h3, rdpw, resI, vTrs]
          rfl
end Go.Proofs.Ytmbijfcjfhdnjaa

/- Expressions: the parts of terms. -/
-- fast
-- rows
namespace Go.Proofs.Ytmbijfcjfhdnjaa
set_option linter.unusedSimpArgs false
set_option linter.unusedVariables false
open Go.RowKit Go.Lib

/-- may a term be written? -/
def wrT (t : Trm) : Bool := !decide (wordT t.op t.name t.of = ⟨#[]⟩)
set_option maxRecDepth 100000 in
theorem p_written (t : Trm) (hn : t.name.size ≤ 1000000) : PCalls Try.prog 45 [.agg (trC t)] (.str (wordT t.op t.name t.of)) := by
  have q := p_word t.op t.name t.of 0 hn
  simp only [trC]
  refine pcalls_of (by first | rfl | simp [free, free.frees, frees_str, frees_u8, frees_u16]) (by first | rfl | simp [free, free.frees, frees_str, frees_u8, frees_u16]) (acalls_of mixed J_expr_written_ok (Nat.le_of_ble_eq_true rfl) ?_); simp only [J_expr_written, wkr,wk,if_true,if_false,forall_const,implies_true,ne_eq,eq_self,Nat.reduceEqDiff,Nat.reduceAdd,Nat.reduceMul,Nat.reduceSub,Nat.reduceLeDiff,Nat.reduceLT,Int.reduceEq,Int.reduceLT,Int.reduceLE,Int.reduceAdd,Int.reduceSub,Int.reduceMul,Int.reduceNeg,Int.reduceNe,reduceCtorEq,Int.reduceToNat,↓reduceIte]
  refine PCalls.use (q) ?_; simp only [wkr,wk,if_true,if_false,forall_const,implies_true,ne_eq,eq_self,Nat.reduceEqDiff,Nat.reduceAdd,Nat.reduceMul,Nat.reduceSub,Nat.reduceLeDiff,Nat.reduceLT,Int.reduceEq,Int.reduceLT,Int.reduceLE,Int.reduceAdd,Int.reduceSub,Int.reduceMul,Int.reduceNeg,Int.reduceNe,reduceCtorEq,Int.reduceToNat,↓reduceIte]
/-- parts as cells -/
def prC (l : List Prt) : List AV := l.flatMap fun p => [.int .i64 p.1, .int .i64 p.2.1, .int .i64 p.2.2]
theorem prC_len (l : List Prt) : (prC l).length = l.length * 3 := by
  induction l with
  | nil => rfl
  | cons x l ih => simp only [prC, List.flatMap_cons, List.length_append, List.length_cons, List.length_nil] at ih ⊢; omega
theorem prC_zero (n : Nat) : ((List.range (n * 3)).map fun i => ([.int .i64 0, .int .i64 0, .int .i64 0] : List AV).getD (i % 3) .nilp) = prC (List.replicate n (0, 0, 0)) := by
  have h1 : ((List.range (n * 3)).map fun i => ([.int .i64 0, .int .i64 0, .int .i64 0] : List AV).getD (i % 3) .nilp) = List.replicate (n * 3) (.int .i64 0) := by
    rw [List.eq_replicate_iff]
    refine ⟨by simp, fun b hb => ?_⟩
    obtain ⟨i, _, rfl⟩ := List.mem_map.1 hb
    rcases (show i % 3 = 0 ∨ i % 3 = 1 ∨ i % 3 = 2 by omega) with h | h | h <;> rw [h] <;> rfl
  rw [h1]
  induction n with
  | zero => rfl
  | succ n ih =>
    rw [List.replicate_succ, show (n + 1) * 3 = n * 3 + 1 + 1 + 1 by omega, List.replicate_succ, List.replicate_succ, List.replicate_succ, ih (by
      rw [List.eq_replicate_iff]
      refine ⟨by simp, fun b hb => ?_⟩
      obtain ⟨i, _, rfl⟩ := List.mem_map.1 hb
      rcases (show i % 3 = 0 ∨ i % 3 = 1 ∨ i % 3 = 2 by omega) with h | h | h <;> rw [h] <;> rfl)]
    rfl
theorem prC_drop : ∀ {l : List Prt} {i : Nat} (h : i < l.length), (prC l).drop (i * 3) = .int .i64 l[i].1 :: .int .i64 l[i].2.1 :: .int .i64 l[i].2.2 :: (prC l).drop ((i + 1) * 3)
  | [], _, h => by simp at h
  | w :: l, 0, h => by simp [prC]
  | w :: l, i + 1, h => by
    have := prC_drop (l := l) (i := i) (by simpa using h)
    simp only [prC, List.flatMap_cons, List.cons_append, List.nil_append] at this ⊢
    rw [show (i + 1) * 3 = i * 3 + 1 + 1 + 1 by omega, show (i + 1 + 1) * 3 = (i + 1) * 3 + 1 + 1 + 1 by omega]
    simp only [List.drop_succ_cons, List.getElem_cons_succ]
    exact this
theorem trsC_drop : ∀ {l : List Trm} {i : Nat} (h : i < l.length), (trsC l).drop (i * 3) = .int .i64 l[i].op :: .int .i64 l[i].of :: .str l[i].name :: (trsC l).drop ((i + 1) * 3)
  | [], _, h => by simp at h
  | w :: l, 0, h => by simp [trsC, trC]
  | w :: l, i + 1, h => by
    have := trsC_drop (l := l) (i := i) (by simpa using h)
    simp only [trsC, List.flatMap_cons, trC, List.cons_append, List.nil_append] at this ⊢
    rw [show (i + 1) * 3 = i * 3 + 1 + 1 + 1 by omega, show (i + 1 + 1) * 3 = (i + 1) * 3 + 1 + 1 + 1 by omega]
    simp only [List.drop_succ_cons, List.getElem_cons_succ]
    exact this
theorem prC_set : ∀ {l : List Prt} {i : Nat} (h : i < l.length) (a b c : Int), (((prC l).set (i * 3) (.int .i64 a)).set (i * 3 + 1) (.int .i64 b)).set (i * 3 + 1 + 1) (.int .i64 c) = prC (l.set i (a, b, c))
  | [], _, h, _, _, _ => by simp at h
  | w :: l, 0, h, a, b, c => by simp [prC]
  | w :: l, i + 1, h, a, b, c => by
    have := prC_set (l := l) (i := i) (by simpa using h) a b c
    simp only [prC, List.flatMap_cons, List.cons_append, List.nil_append, List.set_cons_succ] at this ⊢
    rw [show (i + 1) * 3 = i * 3 + 1 + 1 + 1 by omega]
    simp only [List.set_cons_succ]
    rw [this]
theorem prC_set1 : ∀ {l : List Prt} {i : Nat} (h : i < l.length) (c : Int), (prC l).set (i * 3 + 2) (.int .i64 c) = prC (l.set i (l[i].1, l[i].2.1, c))
  | [], _, h, _ => by simp at h
  | w :: l, 0, h, c => by simp [prC]
  | w :: l, i + 1, h, c => by
    have := prC_set1 (l := l) (i := i) (by simpa using h) c
    simp only [prC, List.flatMap_cons, List.cons_append, List.nil_append, List.set_cons_succ, List.getElem_cons_succ] at this ⊢
    rw [show (i + 1) * 3 = i * 3 + 2 + 1 by omega]
    simp only [List.set_cons_succ]
    rw [this]
/-- the expression that terms are; none: they are none -/
def treeT (x : List Trm) : Option Xp := if x.length ≤ 200 then treeX wrT x else none
def PostP (x : List Trm) (h : Hp) (a : AV) (h' : Hp) : Prop := match treeT x with
  | some e => ∃ l : List Prt, a = .tup [.hs h.length x.length, .bool true] ∧ h' = h ++ [some (false, prC l)] ∧ l.length = x.length ∧ Reps x l (x.length - 1) e
  | none => (a = .tup [.lst .clip 0 [], .bool false] ∧ h' = h) ∨ ∃ (n : Nat) (l : List Prt), a = .tup [.hs h.length n, .bool false] ∧ h' = h ++ [some (false, prC l)]
/-- numbers of terms that wait (the last one ahead) stand for expressions -/
def standX (x : List Trm) (l : List Prt) (k : Nat) : List Int → List Xp → Prop
  | [], [] => True
  | i :: s, e :: st => (∃ n : Nat, i = n ∧ n < k ∧ Reps x l n e) ∧ standX x l k s st
  | _, _ => False
theorem standX_len {x : List Trm} {l : List Prt} {k : Nat} : ∀ {s : List Int} {st : List Xp}, standX x l k s st → s.length = st.length
  | [], [], _ => rfl
  | _ :: _, [], h => h.elim
  | [], _ :: _, h => h.elim
  | i :: s, e :: st, h => by simp [standX_len h.2]
theorem standX_set {x : List Trm} {l : List Prt} {k : Nat} {p : Prt} : ∀ {s : List Int} {st : List Xp}, standX x l k s st → standX x (l.set k p) (k + 1) s st
  | [], [], _ => trivial
  | _ :: _, [], h => h.elim
  | [], _ :: _, h => h.elim
  | i :: s, e :: st, ⟨⟨n, h1, h2, h3⟩, h4⟩ => ⟨⟨n, h1, by omega, h3.set h2⟩, standX_set h4⟩
theorem runX_none {wr : Trm → Bool} : ∀ {l : List Trm} {st : List Xp} (r : List Trm), runX wr l st = none → runX wr (l ++ r) st = none
  | [], _, _, h => by simp [runX] at h
  | t :: l, st, r, h => by
    simp only [List.cons_append, runX] at h ⊢
    cases hs : stepX wr t st with
    | none => rfl
    | some s => rw [hs] at h; exact runX_none r h
theorem trimP0 {x : List Trm} {h ex : Hp} (hx : treeT x = none) : ∃ h2 ex', h ++ ex = h2 ++ ex' ∧ h.length ≤ h2.length ∧ low h2.length (.tup [.lst .clip 0 [], .bool false]) = true ∧ (∀ (j : Nat) s l, h2[j]? = some (some (s, l)) → (∃ s', h[j]? = some (some (s', l))) ∨ low.lows h2.length l = true) ∧ PostP x h (.tup [.lst .clip 0 [], .bool false]) h2 :=
  ⟨h, ex, rfl, Nat.le_refl _, rfl, fun _ s _ hl => .inl ⟨s, hl⟩, by unfold PostP; rw [hx]; exact .inl ⟨rfl, rfl⟩⟩
theorem frees_prs (l : List Prt) : free.frees (prC l) = true := by
  induction l with
  | nil => rfl
  | cons x l ih => simp only [prC, List.flatMap_cons, List.cons_append, List.nil_append, free.frees, free, Bool.true_and] at ih ⊢; exact ih
theorem trimP1 {x : List Trm} {h ex : Hp} {l : List Prt} {n : Nat} {b : Bool} (hp : PostP x h (.tup [.hs h.length n, .bool b]) (h ++ [some (false, prC l)])) : ∃ h2 ex', (h ++ [some (false, prC l)]) ++ ex = h2 ++ ex' ∧ h.length ≤ h2.length ∧ low h2.length (.tup [.hs h.length n, .bool b]) = true ∧ (∀ (j : Nat) s l, h2[j]? = some (some (s, l)) → (∃ s', h[j]? = some (some (s', l))) ∨ low.lows h2.length l = true) ∧ PostP x h (.tup [.hs h.length n, .bool b]) h2 := by
  refine ⟨_, ex, rfl, by simp, by simp [low, low.lows], fun j s l' hj => ?_, hp⟩
  rcases Nat.lt_or_ge j h.length with h1 | h1
  · rw [List.getElem?_append_left h1] at hj
    exact .inl ⟨s, hj⟩
  · rw [List.getElem?_append_right h1] at hj
    cases hd : j - h.length with
    | zero =>
      rw [hd] at hj
      simp only [List.getElem?_cons_zero, Option.some.injEq, Prod.mk.injEq] at hj
      obtain ⟨_, rfl⟩ := hj
      exact .inr (lows_free (frees_prs l))
    | succ n => rw [hd] at hj; simp at hj
theorem Reps.drop {x : List Trm} {l : List Prt} {n : Nat} {e : Xp} (h : Reps x l n e) : (prC l).drop (n * 3 + 2) = .int .i64 e.deep :: (prC l).drop ((n + 1) * 3) := by
  obtain ⟨p, h1, h2⟩ := h.deep
  obtain ⟨h3, h4⟩ := List.getElem?_eq_some_iff.1 h1
  rw [← List.drop_drop, prC_drop h3, h4, ← h2]; rfl
theorem Reps.role {x : List Trm} {l : List Prt} {n : Nat} {e : Xp} (h : Reps x l n e) (hn : n < x.length) (ho : e.okE wrT) : e.role = true ↔ x[n].op = 1 ∧ x[n].of = 5 := by
  cases h with
  | atm _ t p h1 h2 h3 =>
    obtain ⟨_, h4⟩ := List.getElem?_eq_some_iff.1 h1
    rw [h4]
    simp only [Xp.role, decide_eq_true_eq]
    exact ⟨fun h => ⟨ho.1, h⟩, fun h => h.2⟩
  | op _ j m k a b h1 h2 h3 h4 h5 h6 =>
    obtain ⟨_, h4⟩ := List.getElem?_eq_some_iff.1 h1
    rw [h4]
    simp only [Xp.role, sgn]
    refine ⟨fun h => (nomatch h), fun h => ?_⟩
    have := ho.1
    rw [h.1, bind1] at this; omega
set_option maxRecDepth 100000 in
set_option maxHeartbeats 8000000 in
theorem a_parts {h : Hp} (x : List Trm) (hl : x.length ≤ 9223372036854775807) (hn : ∀ t ∈ x, t.name.size ≤ 1000000) : ACalls Try.prog 42 [vTrs x] h (PostP x h) := by
  refine ACalls.trim (acalls_of mixed J_expr_parts_ok (Nat.le_of_ble_eq_true rfl) ?_); simp only [J_expr_parts, vTrs, wkr,wk,if_true,if_false,forall_const,implies_true,ne_eq,eq_self,Nat.reduceEqDiff,Nat.reduceAdd,Nat.reduceMul,Nat.reduceSub,Nat.reduceLeDiff,Nat.reduceLT,Int.reduceEq,Int.reduceLT,Int.reduceLE,Int.reduceAdd,Int.reduceSub,Int.reduceMul,Int.reduceNeg,Int.reduceNe,reduceCtorEq,Int.reduceToNat,↓reduceIte]
  refine ⟨fun h1 => ⟨fun h2 => ?_, fun h2 => ?_⟩, fun h1 => ?_⟩
  · have := trimP0 (x := x) (h := h) (ex := []) (by unfold treeT; rw [if_neg (by omega)])
    rw [List.append_nil] at this
    exact this
  · have hl2 : x.length ≤ 200 := by omega
    have hT : treeT x = treeX wrT x := by unfold treeT; rw [if_pos hl2]
    rw [Int.toNat_natCast, prC_zero]
    refine ⟨⟨by omega, by omega, by omega⟩, ?_⟩
    refine W_loop (fun m fr h'' => ∃ (k : Nat) (l : List Prt) (s : List Int) (st : List Xp) (ex : Hp), k ≤ x.length ∧ m = x.length - k ∧ l.length = x.length ∧ runX wrT (x.take k) [] = some st ∧ standX x l k s st ∧ (0 < k → ∃ r, s = ((k - 1 : Nat) : Int) :: r) ∧ s.length ≤ k ∧ h'' = (h ++ [some (false, prC l)]) ++ ex ∧ fr = [(0, .lst .ro x.length (trsC x)), (4, .hs h.length x.length), (5, .stk 3 none s.reverse), (22, .lst .ro x.length (trsC x)), (23, .int .i64 x.length), (24, .int .i64 k)]) x.length ⟨0, List.replicate x.length (0, 0, 0), [], [], [], by omega, by omega, by simp, rfl, trivial, fun h => by omega, by simp, by simp, rfl⟩ ?_
    rintro m fr h'' ⟨k, l, s, st, ex, hk, rfl, hll, hrun, hst, htop, hsk, rfl, rfl⟩
    have hslen := standX_len hst
    have hrl : s.reverse.length = s.length := List.length_reverse
    simp only [J_expr_parts_j3, wkr,wk,if_true,if_false,forall_const,implies_true,ne_eq,eq_self,Nat.reduceEqDiff,Nat.reduceAdd,Nat.reduceMul,Nat.reduceSub,Nat.reduceLeDiff,Nat.reduceLT,Int.reduceEq,Int.reduceLT,Int.reduceLE,Int.reduceAdd,Int.reduceSub,Int.reduceMul,Int.reduceNeg,Int.reduceNe,reduceCtorEq,Int.reduceToNat,↓reduceIte]
    refine ⟨fun hlt => ?_, fun hge => ?_⟩
    · have hkl : k < x.length := by omega
      have hd : (trsC x).drop ((k : Int).toNat * 3) = _ := trsC_drop hkl
      refine ⟨⟨by omega, by omega⟩, ?_⟩
      have hsnoc : runX wrT (x.take (k + 1)) [] = stepX wrT x[k] st := by
        rw [List.take_succ_eq_append_getElem hkl, runX_snoc, hrun]
      have hstop : stepX wrT x[k] st = none → treeT x = none := fun h0 => by
        rw [hT]; unfold treeX
        have : runX wrT x [] = none := by
          rw [← List.take_append_drop (k + 1) x]; exact runX_none _ (by rw [hsnoc, h0])
        rw [this]
      have hnm := hn _ (List.getElem_mem hkl)
      obtain ⟨bx, hbx⟩ : ∃ bx : Option (Bool × List AV), bx = some (true, [.int .i64 x[k].op, .int .i64 x[k].of, .str x[k].name]) := ⟨_, rfl⟩
      have hg : ∀ y : Option (Bool × List AV), ((h ++ [y]) ++ ex ++ [bx])[h.length]? = some y := fun y => by simp
      have hst1 : ∀ y z : Option (Bool × List AV), ((h ++ [y]) ++ ex ++ [bx]).set h.length z = (h ++ [z]) ++ ex ++ [bx] := fun y z => by simp
      have hgb : ∀ y : Option (Bool × List AV), ((h ++ [y]) ++ ex ++ [bx])[((h ++ [y]) ++ ex).length]? = some bx := fun y => by simp
      have stop : stepX wrT x[k] st = none → ∃ h2 ex', ((h ++ [some (false, prC l)]) ++ ex ++ [bx]) = h2 ++ ex' ∧ h.length ≤ h2.length ∧ low h2.length (.tup [.lst .clip 0 [], .bool false]) = true ∧ (∀ (j : Nat) s l, h2[j]? = some (some (s, l)) → (∃ s', h[j]? = some (some (s', l))) ∨ low.lows h2.length l = true) ∧ PostP x h (.tup [.lst .clip 0 [], .bool false]) h2 := fun h0 => by
        have := trimP0 (x := x) (h := h) (ex := [some (false, prC l)] ++ ex ++ [bx]) (hstop h0)
        simpa only [List.append_assoc] using this
      have nxt : ∀ (l' : List Prt) (r : List Int) (st' : List Xp), l'.length = x.length → stepX wrT x[k] st = some st' → standX x l' (k + 1) ((k : Int) :: r) st' → r.length ≤ k → inR ((k : Int) + 1) ∧ ∃ m, m < x.length - k ∧ ∃ (k' : Nat) (l2 : List Prt) (s : List Int) (st : List Xp) (ex' : Hp), k' ≤ x.length ∧ m = x.length - k' ∧ l2.length = x.length ∧ runX wrT (x.take k') [] = some st ∧ standX x l2 k' s st ∧ (0 < k' → ∃ r, s = ((k' - 1 : Nat) : Int) :: r) ∧ s.length ≤ k' ∧ ((h ++ [some (false, prC l')]) ++ ex ++ [bx]) = (h ++ [some (false, prC l2)]) ++ ex' ∧ [(0, AV.lst .ro x.length (trsC x)), (4, .hs h.length x.length), (5, .stk 3 none (r.reverse ++ [(k : Int)])), (22, .lst .ro x.length (trsC x)), (23, .int .i64 x.length), (24, .int .i64 ((k : Int) + 1))] = [(0, .lst .ro x.length (trsC x)), (4, .hs h.length x.length), (5, .stk 3 none s.reverse), (22, .lst .ro x.length (trsC x)), (23, .int .i64 x.length), (24, .int .i64 k')] := fun l' r st' q1 q2 q3 q4 =>
        ⟨inR_of (by omega) (by omega), x.length - (k + 1), by omega, k + 1, l', (k : Int) :: r, st', ex ++ [bx], by omega, rfl, q1, by rw [hsnoc, q2], q3, fun _ => ⟨r, rfl⟩, by simp; omega, by simp only [List.append_assoc], by rw [List.reverse_cons]; rfl⟩
      simp only [wkr,wk,if_true,if_false,forall_const,implies_true,ne_eq,eq_self,Nat.reduceEqDiff,Nat.reduceAdd,Nat.reduceMul,Nat.reduceSub,Nat.reduceLeDiff,Nat.reduceLT,Int.reduceEq,Int.reduceLT,Int.reduceLE,Int.reduceAdd,Int.reduceSub,Int.reduceMul,Int.reduceNeg,Int.reduceNe,reduceCtorEq,Int.reduceToNat,↓reduceIte, hd]
      rw [← hbx]
      by_cases k1 : x[k].op = 1
      · have qw := p_written x[k] hnm
        simp only [trC] at qw
        simp only [wkr,wk,if_true,if_false,forall_const,implies_true,ne_eq,eq_self,Nat.reduceEqDiff,Nat.reduceAdd,Nat.reduceMul,Nat.reduceSub,Nat.reduceLeDiff,Nat.reduceLT,Int.reduceEq,Int.reduceLT,Int.reduceLE,Int.reduceAdd,Int.reduceSub,Int.reduceMul,Int.reduceNeg,Int.reduceNe,reduceCtorEq,Int.reduceToNat,↓reduceIte, eqTrue k1]
        refine PCalls.use (qw) ?_; simp only [wkr,wk,if_true,if_false,forall_const,implies_true,ne_eq,eq_self,Nat.reduceEqDiff,Nat.reduceAdd,Nat.reduceMul,Nat.reduceSub,Nat.reduceLeDiff,Nat.reduceLT,Int.reduceEq,Int.reduceLT,Int.reduceLE,Int.reduceAdd,Int.reduceSub,Int.reduceMul,Int.reduceNeg,Int.reduceNe,reduceCtorEq,Int.reduceToNat,↓reduceIte]
        refine ⟨fun h0 => stop ?_, fun h0 => ?_⟩
        · unfold stepX; rw [if_pos k1, if_neg (by simp [wrT, h0])]
        · simp only [wkr,wk,if_true,if_false,forall_const,implies_true,ne_eq,eq_self,Nat.reduceEqDiff,Nat.reduceAdd,Nat.reduceMul,Nat.reduceSub,Nat.reduceLeDiff,Nat.reduceLT,Int.reduceEq,Int.reduceLT,Int.reduceLE,Int.reduceAdd,Int.reduceSub,Int.reduceMul,Int.reduceNeg,Int.reduceNe,reduceCtorEq,Int.reduceToNat,↓reduceIte, hg, hst1]
          have hx := nxt (l.set k (l[k].1, l[k].2.1, 1)) s (.atm x[k] :: st) (by simp [hll]) (by unfold stepX; rw [if_pos k1, if_pos (by simp [wrT, h0])]) ⟨⟨k, rfl, by omega, .atm k x[k] (l[k].1, l[k].2.1, 1) (List.getElem?_eq_getElem hkl) (List.getElem?_set_self (by omega)) rfl⟩, standX_set hst⟩ hsk
          rw [Int.toNat_natCast, prC_set1]
          refine ⟨⟨by omega, by omega⟩, by rw [prC_len]; omega, ⟨by omega, by omega⟩, ?_⟩
          simp only [J_expr_parts_j2, wkr,wk,if_true,if_false,forall_const,implies_true,ne_eq,eq_self,Nat.reduceEqDiff,Nat.reduceAdd,Nat.reduceMul,Nat.reduceSub,Nat.reduceLeDiff,Nat.reduceLT,Int.reduceEq,Int.reduceLT,Int.reduceLE,Int.reduceAdd,Int.reduceSub,Int.reduceMul,Int.reduceNeg,Int.reduceNe,reduceCtorEq,Int.reduceToNat,↓reduceIte]
          exact hx
      · have qb := p_bind x[k].op
        rw [bindP_ne k1] at qb
        simp only [wkr,wk,if_true,if_false,forall_const,implies_true,ne_eq,eq_self,Nat.reduceEqDiff,Nat.reduceAdd,Nat.reduceMul,Nat.reduceSub,Nat.reduceLeDiff,Nat.reduceLT,Int.reduceEq,Int.reduceLT,Int.reduceLE,Int.reduceAdd,Int.reduceSub,Int.reduceMul,Int.reduceNeg,Int.reduceNe,reduceCtorEq,Int.reduceToNat,↓reduceIte, eqFalse k1]
        intro v
        subst hbx
        have hpos : 0 < bindK x[k].op ↔ ¬ bindK x[k].op = 0 := by have := bind_ge x[k].op; omega
        have bad : ¬ (0 < bindK x[k].op ∧ x[k].of = 0 ∧ x[k].name = ⟨#[]⟩) → stepX wrT x[k] st = none := fun h0 => by
          unfold stepX; rw [if_neg k1, if_neg h0]
        by_cases kb : bindK x[k].op = 0
        · refine PCalls.use (qb) ?_; simp only [wkr,wk,if_true,if_false,forall_const,implies_true,ne_eq,eq_self,Nat.reduceEqDiff,Nat.reduceAdd,Nat.reduceMul,Nat.reduceSub,Nat.reduceLeDiff,Nat.reduceLT,Int.reduceEq,Int.reduceLT,Int.reduceLE,Int.reduceAdd,Int.reduceSub,Int.reduceMul,Int.reduceNeg,Int.reduceNe,reduceCtorEq,Int.reduceToNat,↓reduceIte]
          simp only [wkr,wk,if_true,if_false,forall_const,implies_true,ne_eq,eq_self,Nat.reduceEqDiff,Nat.reduceAdd,Nat.reduceMul,Nat.reduceSub,Nat.reduceLeDiff,Nat.reduceLT,Int.reduceEq,Int.reduceLT,Int.reduceLE,Int.reduceAdd,Int.reduceSub,Int.reduceMul,Int.reduceNeg,Int.reduceNe,reduceCtorEq,Int.reduceToNat,↓reduceIte, eqTrue kb]
          exact stop (bad (fun h => hpos.1 h.1 kb))
        · by_cases ko : x[k].of = 0
          · by_cases kn : x[k].name = ⟨#[]⟩
            · have good : 0 < bindK x[k].op ∧ x[k].of = 0 ∧ x[k].name = ⟨#[]⟩ := ⟨hpos.2 kb, ko, kn⟩
              cases st with
              | nil =>
                refine PCalls.use (qb) ?_; simp only [wkr,wk,if_true,if_false,forall_const,implies_true,ne_eq,eq_self,Nat.reduceEqDiff,Nat.reduceAdd,Nat.reduceMul,Nat.reduceSub,Nat.reduceLeDiff,Nat.reduceLT,Int.reduceEq,Int.reduceLT,Int.reduceLE,Int.reduceAdd,Int.reduceSub,Int.reduceMul,Int.reduceNeg,Int.reduceNe,reduceCtorEq,Int.reduceToNat,↓reduceIte]
                simp only [wkr,wk,if_true,if_false,forall_const,implies_true,ne_eq,eq_self,Nat.reduceEqDiff,Nat.reduceAdd,Nat.reduceMul,Nat.reduceSub,Nat.reduceLeDiff,Nat.reduceLT,Int.reduceEq,Int.reduceLT,Int.reduceLE,Int.reduceAdd,Int.reduceSub,Int.reduceMul,Int.reduceNeg,Int.reduceNe,reduceCtorEq,Int.reduceToNat,↓reduceIte, eqFalse kb, eqTrue ko, eqTrue kn, (show ((s.reverse.length : Int) < 2) = True from eqTrue (by have h := hslen; simp only [List.length_nil, List.length_cons] at h; omega))]
                exact stop (by unfold stepX; rw [if_neg k1, if_pos good])
              | cons e1 st =>
                cases st with
                | nil =>
                  refine PCalls.use (qb) ?_; simp only [wkr,wk,if_true,if_false,forall_const,implies_true,ne_eq,eq_self,Nat.reduceEqDiff,Nat.reduceAdd,Nat.reduceMul,Nat.reduceSub,Nat.reduceLeDiff,Nat.reduceLT,Int.reduceEq,Int.reduceLT,Int.reduceLE,Int.reduceAdd,Int.reduceSub,Int.reduceMul,Int.reduceNeg,Int.reduceNe,reduceCtorEq,Int.reduceToNat,↓reduceIte]
                  simp only [wkr,wk,if_true,if_false,forall_const,implies_true,ne_eq,eq_self,Nat.reduceEqDiff,Nat.reduceAdd,Nat.reduceMul,Nat.reduceSub,Nat.reduceLeDiff,Nat.reduceLT,Int.reduceEq,Int.reduceLT,Int.reduceLE,Int.reduceAdd,Int.reduceSub,Int.reduceMul,Int.reduceNeg,Int.reduceNe,reduceCtorEq,Int.reduceToNat,↓reduceIte, eqFalse kb, eqTrue ko, eqTrue kn, (show ((s.reverse.length : Int) < 2) = True from eqTrue (by have h := hslen; simp only [List.length_nil, List.length_cons] at h; omega))]
                  exact stop (by unfold stepX; rw [if_neg k1, if_pos good])
                | cons e2 st =>
                  cases s with
                  | nil => exact hst.elim
                  | cons i1 s =>
                    cases s with
                    | nil => exact hst.2.elim
                    | cons i2 s =>
                      obtain ⟨⟨n1, rfl, hn1, r1⟩, ⟨n2, rfl, hn2, r2⟩, hst3⟩ := hst
                      have hlen2 : ((n1 : Int) :: (n2 : Int) :: s).reverse.length = s.length + 2 := by simp
                      have hf2 : (((s.length + 2 : Nat) : Int) < 2) = False := eqFalse (by omega)
                      have q1 : ((n1 : Int) :: (n2 : Int) :: s).reverse.getD (s.length + 1) 0 = n1 := by simp
                      have q2 : ((n1 : Int) :: (n2 : Int) :: s).reverse.getD s.length 0 = n2 := by simp
                      have q3 : ((n1 : Int) :: (n2 : Int) :: s).reverse.take s.length = s.reverse := by simp
                      refine PCalls.use (qb) ?_; simp only [wkr,wk,if_true,if_false,forall_const,implies_true,ne_eq,eq_self,Nat.reduceEqDiff,Nat.reduceAdd,Nat.reduceMul,Nat.reduceSub,Nat.reduceLeDiff,Nat.reduceLT,Int.reduceEq,Int.reduceLT,Int.reduceLE,Int.reduceAdd,Int.reduceSub,Int.reduceMul,Int.reduceNeg,Int.reduceNe,reduceCtorEq,Int.reduceToNat,↓reduceIte]
                      have h21 : ((s.length + 2 : Nat) : Int) - 2 = (s.length : Nat) := by omega
                      have h22 : ((s.length + 2 : Nat) : Int) - 1 = ((s.length + 1 : Nat) : Int) := by omega
                      simp only [wkr,wk,if_true,if_false,forall_const,implies_true,ne_eq,eq_self,Nat.reduceEqDiff,Nat.reduceAdd,Nat.reduceMul,Nat.reduceSub,Nat.reduceLeDiff,Nat.reduceLT,Int.reduceEq,Int.reduceLT,Int.reduceLE,Int.reduceAdd,Int.reduceSub,Int.reduceMul,Int.reduceNeg,Int.reduceNe,reduceCtorEq,Int.reduceToNat,↓reduceIte, eqFalse kb, eqTrue ko, eqTrue kn, hf2, hlen2, h21, h22, Int.toNat_natCast, q1, q2, q3]
                      simp only [List.length_cons] at hsk hslen
                      refine ⟨inR_of (by omega) (by omega), ⟨by omega, by omega⟩, by omega, inR_of (by omega) (by omega), ⟨by omega, by omega⟩, by omega, ?_⟩
                      have hok := (runX_ok _ _ _ hrun (by simp)).1
                      have ok1 : e1.okE wrT := hok _ (by simp)
                      have ok2 : e2.okE wrT := hok _ (by simp)
                      have hn1x : n1 < x.length := by omega
                      have hd1 : (trsC x).drop (n1 * 3) = _ := trsC_drop hn1x
                      have hp1 := r1.drop
                      have hp2 := r2.drop
                      have hro := r1.role hn1x ok1
                      have hstp := (runX_ok _ _ _ hrun (by simp)).2
                      have hpl : e1.post.length + e2.post.length ≤ k := by
                        have := congrArg List.length hstp
                        rw [stp_cons, stp_cons] at this
                        simp only [List.length_append, List.length_take] at this
                        have h0 : (stp ([] : List Xp)).length = 0 := rfl
                        omega
                      have hde1 := deep_le e1
                      have hde2 := deep_le e2
                      have hdp1 := deep_pos e1
                      have hdp2 := deep_pos e2
                      have hD : (1 + if e2.deep < e1.deep then e1.deep else e2.deep) = (Xp.op x[k].op e2 e1).deep := by simp only [Xp.deep]; omega
                      have nor : ¬ e1.role = true → x[k].op = 5 → stepX wrT x[k] (e1 :: e2 :: st) = none := fun h k5 => by
                        unfold stepX; rw [if_neg k1, if_pos good]; simp only; rw [if_pos ⟨k5, by simpa using h⟩]
                      have fin : ¬ (x[k].op = 5 ∧ e1.role = false) → _ := fun hro2 => nxt (l.set k ((n2 : Int), (n1 : Int), (Xp.op x[k].op e2 e1).deep)) s (.op x[k].op e2 e1 :: st) (by simp [hll]) (by unfold stepX; rw [if_neg k1, if_pos good]; simp only; rw [if_neg hro2]) ⟨⟨k, rfl, by omega, .op k n2 n1 x[k].op e2 e1 (by rw [List.getElem?_eq_getElem hkl, sgn_eta ko kn]) (List.getElem?_set_self (by omega)) hn2 hn1 (r2.set hn2) (r1.set hn1)⟩, standX_set hst3⟩ (by omega)
                      by_cases k5 : x[k].op = 5
                      · by_cases m1 : x[n1].op = 1
                        · by_cases m5 : x[n1].of = 5
                          · have hx := fin (fun h => by rw [hro.2 ⟨m1, m5⟩] at h; cases h.2)
                            simp only [wkr,wk,if_true,if_false,forall_const,implies_true,ne_eq,eq_self,Nat.reduceEqDiff,Nat.reduceAdd,Nat.reduceMul,Nat.reduceSub,Nat.reduceLeDiff,Nat.reduceLT,Int.reduceEq,Int.reduceLT,Int.reduceLE,Int.reduceAdd,Int.reduceSub,Int.reduceMul,Int.reduceNeg,Int.reduceNe,reduceCtorEq,Int.reduceToNat,↓reduceIte, eqTrue k5, Int.toNat_natCast, hd1, eqTrue m1, eqTrue m5, hp1, hp2, hg]
                            refine ⟨⟨by omega, by omega⟩, ⟨by omega, by omega⟩, ⟨by omega, by omega⟩, ?_⟩
                            simp only [wkr,wk,if_true,if_false,forall_const,implies_true,ne_eq,eq_self,Nat.reduceEqDiff,Nat.reduceAdd,Nat.reduceMul,Nat.reduceSub,Nat.reduceLeDiff,Nat.reduceLT,Int.reduceEq,Int.reduceLT,Int.reduceLE,Int.reduceAdd,Int.reduceSub,Int.reduceMul,Int.reduceNeg,Int.reduceNe,reduceCtorEq,Int.reduceToNat,↓reduceIte, h21, Int.toNat_natCast, q3]
                            rw [hst1, prC_set (by omega), hD]
                            have q4 : s.reverse.length = s.length := List.length_reverse
                            refine ⟨⟨by omega, by omega⟩, by rw [← hD]; split <;> exact inR_of (by omega) (by omega), ⟨by omega, by omega⟩, by rw [prC_len]; omega, inR_of (by omega) (by omega), ⟨by omega, by omega⟩, ⟨by omega, by omega⟩, ?_⟩
                            simp only [J_expr_parts_j2, wkr,wk,if_true,if_false,forall_const,implies_true,ne_eq,eq_self,Nat.reduceEqDiff,Nat.reduceAdd,Nat.reduceMul,Nat.reduceSub,Nat.reduceLeDiff,Nat.reduceLT,Int.reduceEq,Int.reduceLT,Int.reduceLE,Int.reduceAdd,Int.reduceSub,Int.reduceMul,Int.reduceNeg,Int.reduceNe,reduceCtorEq,Int.reduceToNat,↓reduceIte]
                            exact hx
                          · simp only [wkr,wk,if_true,if_false,forall_const,implies_true,ne_eq,eq_self,Nat.reduceEqDiff,Nat.reduceAdd,Nat.reduceMul,Nat.reduceSub,Nat.reduceLeDiff,Nat.reduceLT,Int.reduceEq,Int.reduceLT,Int.reduceLE,Int.reduceAdd,Int.reduceSub,Int.reduceMul,Int.reduceNeg,Int.reduceNe,reduceCtorEq,Int.reduceToNat,↓reduceIte, eqTrue k5, Int.toNat_natCast, hd1, eqTrue m1, eqFalse m5]
                            refine ⟨⟨by omega, by omega⟩, ⟨by omega, by omega⟩, stop (nor (fun h => m5 (hro.1 h).2) k5)⟩
                        · simp only [wkr,wk,if_true,if_false,forall_const,implies_true,ne_eq,eq_self,Nat.reduceEqDiff,Nat.reduceAdd,Nat.reduceMul,Nat.reduceSub,Nat.reduceLeDiff,Nat.reduceLT,Int.reduceEq,Int.reduceLT,Int.reduceLE,Int.reduceAdd,Int.reduceSub,Int.reduceMul,Int.reduceNeg,Int.reduceNe,reduceCtorEq,Int.reduceToNat,↓reduceIte, eqTrue k5, Int.toNat_natCast, hd1, eqFalse m1]
                          refine ⟨⟨by omega, by omega⟩, stop (nor (fun h => m1 (hro.1 h).1) k5)⟩
                      · have hx := fin (fun h => k5 h.1)
                        simp only [wkr,wk,if_true,if_false,forall_const,implies_true,ne_eq,eq_self,Nat.reduceEqDiff,Nat.reduceAdd,Nat.reduceMul,Nat.reduceSub,Nat.reduceLeDiff,Nat.reduceLT,Int.reduceEq,Int.reduceLT,Int.reduceLE,Int.reduceAdd,Int.reduceSub,Int.reduceMul,Int.reduceNeg,Int.reduceNe,reduceCtorEq,Int.reduceToNat,↓reduceIte, eqFalse k5, Int.toNat_natCast, hp1, hp2, hg]
                        refine ⟨⟨by omega, by omega⟩, ?_⟩
                        simp only [wkr,wk,if_true,if_false,forall_const,implies_true,ne_eq,eq_self,Nat.reduceEqDiff,Nat.reduceAdd,Nat.reduceMul,Nat.reduceSub,Nat.reduceLeDiff,Nat.reduceLT,Int.reduceEq,Int.reduceLT,Int.reduceLE,Int.reduceAdd,Int.reduceSub,Int.reduceMul,Int.reduceNeg,Int.reduceNe,reduceCtorEq,Int.reduceToNat,↓reduceIte, h21, Int.toNat_natCast, q3]
                        rw [hst1, prC_set (by omega), hD]
                        have q4 : s.reverse.length = s.length := List.length_reverse
                        refine ⟨⟨by omega, by omega⟩, by rw [← hD]; split <;> exact inR_of (by omega) (by omega), ⟨by omega, by omega⟩, by rw [prC_len]; omega, inR_of (by omega) (by omega), ⟨by omega, by omega⟩, ⟨by omega, by omega⟩, ?_⟩
                        simp only [J_expr_parts_j2, wkr,wk,if_true,if_false,forall_const,implies_true,ne_eq,eq_self,Nat.reduceEqDiff,Nat.reduceAdd,Nat.reduceMul,Nat.reduceSub,Nat.reduceLeDiff,Nat.reduceLT,Int.reduceEq,Int.reduceLT,Int.reduceLE,Int.reduceAdd,Int.reduceSub,Int.reduceMul,Int.reduceNeg,Int.reduceNe,reduceCtorEq,Int.reduceToNat,↓reduceIte]
                        exact hx
            · refine PCalls.use (qb) ?_; simp only [wkr,wk,if_true,if_false,forall_const,implies_true,ne_eq,eq_self,Nat.reduceEqDiff,Nat.reduceAdd,Nat.reduceMul,Nat.reduceSub,Nat.reduceLeDiff,Nat.reduceLT,Int.reduceEq,Int.reduceLT,Int.reduceLE,Int.reduceAdd,Int.reduceSub,Int.reduceMul,Int.reduceNeg,Int.reduceNe,reduceCtorEq,Int.reduceToNat,↓reduceIte]
              simp only [wkr,wk,if_true,if_false,forall_const,implies_true,ne_eq,eq_self,Nat.reduceEqDiff,Nat.reduceAdd,Nat.reduceMul,Nat.reduceSub,Nat.reduceLeDiff,Nat.reduceLT,Int.reduceEq,Int.reduceLT,Int.reduceLE,Int.reduceAdd,Int.reduceSub,Int.reduceMul,Int.reduceNeg,Int.reduceNe,reduceCtorEq,Int.reduceToNat,↓reduceIte, eqFalse kb, eqTrue ko, eqFalse kn]
              exact stop (bad (fun h => kn h.2.2))
          · refine PCalls.use (qb) ?_; simp only [wkr,wk,if_true,if_false,forall_const,implies_true,ne_eq,eq_self,Nat.reduceEqDiff,Nat.reduceAdd,Nat.reduceMul,Nat.reduceSub,Nat.reduceLeDiff,Nat.reduceLT,Int.reduceEq,Int.reduceLT,Int.reduceLE,Int.reduceAdd,Int.reduceSub,Int.reduceMul,Int.reduceNeg,Int.reduceNe,reduceCtorEq,Int.reduceToNat,↓reduceIte]
            simp only [wkr,wk,if_true,if_false,forall_const,implies_true,ne_eq,eq_self,Nat.reduceEqDiff,Nat.reduceAdd,Nat.reduceMul,Nat.reduceSub,Nat.reduceLeDiff,Nat.reduceLT,Int.reduceEq,Int.reduceLT,Int.reduceLE,Int.reduceAdd,Int.reduceSub,Int.reduceMul,Int.reduceNeg,Int.reduceNe,reduceCtorEq,Int.reduceToNat,↓reduceIte, eqFalse kb, eqFalse ko]
            exact stop (bad (fun h => ko h.2.1))
    · obtain rfl : k = x.length := by omega
      rw [List.take_length] at hrun
      have none1 : st.length ≠ 1 → treeT x = none := fun hne => by
        rw [hT]; unfold treeX
        rw [hrun]
        cases st with
        | nil => rfl
        | cons e st => cases st with
          | nil => exact absurd rfl hne
          | cons e2 st => rfl
      simp only [J_expr_parts_j1, wkr,wk,if_true,if_false,forall_const,implies_true,ne_eq,eq_self,Nat.reduceEqDiff,Nat.reduceAdd,Nat.reduceMul,Nat.reduceSub,Nat.reduceLeDiff,Nat.reduceLT,Int.reduceEq,Int.reduceLT,Int.reduceLE,Int.reduceAdd,Int.reduceSub,Int.reduceMul,Int.reduceNeg,Int.reduceNe,reduceCtorEq,Int.reduceToNat,↓reduceIte]
      refine trimP1 ?_
      unfold PostP
      by_cases hone : st.length = 1
      · obtain ⟨e, rfl⟩ := List.length_eq_one_iff.1 hone
        obtain ⟨r, hr⟩ := htop (by omega)
        subst hr
        have hr0 : r = [] := List.eq_nil_of_length_eq_zero (by simp only [List.length_cons, List.length_nil] at hslen; omega)
        subst hr0
        obtain ⟨⟨n, hn1, hn2, hr⟩, _⟩ := hst
        have hnn : n = x.length - 1 := by omega
        subst hnn
        have hte : treeT x = some e := by rw [hT]; unfold treeX; rw [hrun]
        rw [hte]
        exact ⟨l, rfl, rfl, hll, hr⟩
      · rw [none1 hone]
        refine .inr ⟨x.length, l, ?_, rfl⟩
        rw [decide_eq_false (by omega)]
  · have := trimP0 (x := x) (h := h) (ex := []) (by
      have : x = [] := List.eq_nil_of_length_eq_zero (by omega)
      subst this; rfl)
    rw [List.append_nil] at this
    exact this
end Go.Proofs.Ytmbijfcjfhdnjaa

/- Expressions: Text's closure; Text, May, Deep. -/
-- fast
-- rows
namespace Go.Proofs.Ytmbijfcjfhdnjaa
set_option linter.unusedSimpArgs false
set_option linter.unusedVariables false
open Go.RowKit Go.Lib

theorem sealE {h : Hp} {id : Nat} {l l' : List AV} (ho : h[id]? = some (some (false, l))) : SealEq h (h.set id (some (false, l'))) := by
  intro j c
  rw [List.getElem?_set]
  split
  · next e =>
    subst e
    rw [ho]
    split <;> simp
  · rfl
/-- words that were written -/
abbrev wob (ws : List ByteArray) : Option (Bool × List AV) := some (false, [.lst (.own 9) ws.length (ws.map .str)])
theorem wob_sn (ws : List ByteArray) (w : ByteArray) : (some (false, [.lst (.own 9) (ws.length + 1) (ws.map AV.str ++ [.str w])]) : Option (Bool × List AV)) = wob (ws ++ [w]) := by simp [wob]
/-- what Text's closure sees: the terms, the words, itself, the parts -/
structure Clos (x : List Trm) (l : List Prt) (h : Hp) (ix io iw il id : Nat) : Prop where
  hx : h[ix]? = some (some (false, [.lst .ro x.length (trsC x)]))
  hw : h[iw]? = some (some (false, [.fn 43 [.ptr ix 0, .ptr io 0, .ptr iw 0, .ptr il 0]]))
  hl : h[il]? = some (some (false, [.hs id x.length]))
  hd : h[id]? = some (some (false, prC l))
  nx : io ≠ ix
  nw : io ≠ iw
  nl : io ≠ il
  nd : io ≠ id
theorem Clos.set {x : List Trm} {l : List Prt} {h : Hp} {ix io iw il id : Nat} (hc : Clos x l h ix io iw il id) (y : Option (Bool × List AV)) : Clos x l (h.set io y) ix io iw il id :=
  ⟨by rw [List.getElem?_set_ne hc.nx]; exact hc.hx, by rw [List.getElem?_set_ne hc.nw]; exact hc.hw, by rw [List.getElem?_set_ne hc.nl]; exact hc.hl, by rw [List.getElem?_set_ne hc.nd]; exact hc.hd, hc.nx, hc.nw, hc.nl, hc.nd⟩
set_option maxRecDepth 100000 in
set_option maxHeartbeats 8000000 in
theorem a_write {x : List Trm} {l : List Prt} {ix io iw il id : Nat} (hxl : x.length ≤ 200) (hll : l.length = x.length) (hn : ∀ t ∈ x, t.name.size ≤ 1000000) : ∀ (e : Xp) (i : Nat) (m : Int) (h : Hp) (ws : List ByteArray), Reps x l i e → e.okE wrT → m ≤ 5 → ws.length + (e.toks m).length ≤ 100000 → Clos x l h ix io iw il id → h[io]? = some (wob ws) →
    ACalls Try.prog 43 [.int .i64 i, .int .i64 m, .ptr ix 0, .ptr io 0, .ptr iw 0, .ptr il 0] h (fun a h' => a = .tup [] ∧ h' = h.set io (wob (ws ++ (e.toks m).map wrd)))
  | .atm t, i, m, h, ws, hr, hok, hm, hsz, hc, ho => by
    obtain ⟨hx, hw, hl, hd, nx, nw, nl, nd⟩ := hc
    cases hr with
    | atm _ _ p h1 h2 h3 =>
    obtain ⟨hi, h4⟩ := List.getElem?_eq_some_iff.1 h1
    have hdx : (trsC x).drop ((i : Int).toNat * 3) = _ := trsC_drop hi
    rw [h4] at hdx
    have hop : t.op = 1 := hok.1
    have hbp : bindP t.op = 5 := by rw [hop]; rfl
    have qb := p_bind t.op
    rw [hbp] at qb
    have qw := p_written t (by rw [← h4]; exact hn _ (List.getElem_mem hi))
    simp only [trC] at qw
    simp only [wob] at ho
    have n1 : (io = ix) = False := eqFalse nx
    have n2 : (ix = io) = False := eqFalse (fun h => nx h.symm)
    have hs : ∀ y, (h.set io y)[io]? = some y := fun y => hset1 ho y
    have hsx : ∀ y, (h.set io y)[ix]? = _ := fun y => (List.getElem?_set_ne nx).trans hx
    refine acalls_of mixed J_expr_Text_1_ok (Nat.le_of_ble_eq_true rfl) ?_; simp only [J_expr_Text_1, wkr,wk,if_true,if_false,forall_const,implies_true,ne_eq,eq_self,Nat.reduceEqDiff,Nat.reduceAdd,Nat.reduceMul,Nat.reduceSub,Nat.reduceLeDiff,Nat.reduceLT,Int.reduceEq,Int.reduceLT,Int.reduceLE,Int.reduceAdd,Int.reduceSub,Int.reduceMul,Int.reduceNeg,Int.reduceNe,reduceCtorEq,Int.reduceToNat,↓reduceIte]
    simp only [wkr,wk,if_true,if_false,forall_const,implies_true,ne_eq,eq_self,Nat.reduceEqDiff,Nat.reduceAdd,Nat.reduceMul,Nat.reduceSub,Nat.reduceLeDiff,Nat.reduceLT,Int.reduceEq,Int.reduceLT,Int.reduceLE,Int.reduceAdd,Int.reduceSub,Int.reduceMul,Int.reduceNeg,Int.reduceNe,reduceCtorEq,Int.reduceToNat,↓reduceIte, hx, hdx]
    refine ⟨⟨by omega, by omega⟩, ?_⟩
    refine PCalls.use (qb) ?_; simp only [wkr,wk,if_true,if_false,forall_const,implies_true,ne_eq,eq_self,Nat.reduceEqDiff,Nat.reduceAdd,Nat.reduceMul,Nat.reduceSub,Nat.reduceLeDiff,Nat.reduceLT,Int.reduceEq,Int.reduceLT,Int.reduceLE,Int.reduceAdd,Int.reduceSub,Int.reduceMul,Int.reduceNeg,Int.reduceNe,reduceCtorEq,Int.reduceToNat,↓reduceIte]
    simp only [wkr,wk,if_true,if_false,forall_const,implies_true,ne_eq,eq_self,Nat.reduceEqDiff,Nat.reduceAdd,Nat.reduceMul,Nat.reduceSub,Nat.reduceLeDiff,Nat.reduceLT,Int.reduceEq,Int.reduceLT,Int.reduceLE,Int.reduceAdd,Int.reduceSub,Int.reduceMul,Int.reduceNeg,Int.reduceNe,reduceCtorEq,Int.reduceToNat,↓reduceIte, J_expr_Text_1_j2, J_expr_Text_1_j1, hx, hdx, ho, hs, hsx, n1, n2, (show ((5 : Int) < m) = False from eqFalse (by omega)), (show (t.op = 1) = True from eqTrue hop)]
    refine ⟨⟨by omega, by omega⟩, ⟨by omega, by omega⟩, _, qw, ?_⟩
    have hz : ws.length + 1 ≤ 100000 := hsz
    simp only [wkr,wk,if_true,if_false,forall_const,implies_true,ne_eq,eq_self,Nat.reduceEqDiff,Nat.reduceAdd,Nat.reduceMul,Nat.reduceSub,Nat.reduceLeDiff,Nat.reduceLT,Int.reduceEq,Int.reduceLT,Int.reduceLE,Int.reduceAdd,Int.reduceSub,Int.reduceMul,Int.reduceNeg,Int.reduceNe,reduceCtorEq,Int.reduceToNat,↓reduceIte, splice]
    refine ⟨⟨by omega, by omega⟩, ?_⟩
    rw [wob_sn]
    show h.set io (wob (ws ++ [wordT t.op t.name t.of])) = h.set io (wob (ws ++ [wordT 1 t.name t.of]))
    rw [hop]
  | .op k a b, i, m, h, ws, hr, hok, hm, hsz, hc, ho => by
    have hc0 := hc
    obtain ⟨hx, hw, hl, hd, nx, nw, nl, nd⟩ := hc
    cases hr with
    | op _ j q _ _ _ h1 h2 h3 h4 h5 h6 =>
    obtain ⟨hk, hk5, hoa, hob⟩ := hok
    obtain ⟨hi, h7⟩ := List.getElem?_eq_some_iff.1 h1
    obtain ⟨hil, h8⟩ := List.getElem?_eq_some_iff.1 h2
    have hdx : (trsC x).drop (i * 3) = _ := trsC_drop hi
    rw [h7] at hdx
    have hk4 := bind_le k
    have hk1 := (bind_ne hk).1
    have qb := p_bind k
    rw [bindP_ne hk1] at qb
    have qw := p_written (sgn k) (by show (⟨#[]⟩ : ByteArray).size ≤ _; decide)
    simp only [trC, sgn] at qw hdx
    have hdl : (prC l).drop (i * 3) = _ := prC_drop hil
    rw [h8] at hdl
    have hdl1 : (prC l).drop (i * 3 + 1) = .int .i64 (q : Int) :: .int .i64 (Xp.op k a b).deep :: (prC l).drop ((i + 1) * 3) := by rw [← List.drop_drop, hdl]; rfl
    have n1 : (io = ix) = False := eqFalse nx
    have n2 : (ix = io) = False := eqFalse (fun h => nx h.symm)
    have fx : ∀ y, (h.set io y)[ix]? = _ := fun y => (List.getElem?_set_ne nx).trans hx
    have fw : ∀ y, (h.set io y)[iw]? = _ := fun y => (List.getElem?_set_ne nw).trans hw
    have fl : ∀ y, (h.set io y)[il]? = _ := fun y => (List.getElem?_set_ne nl).trans hl
    have fd : ∀ y, (h.set io y)[id]? = _ := fun y => (List.getElem?_set_ne nd).trans hd
    have fo : ∀ y, (h.set io y)[io]? = some y := fun y => hset1 ho y
    have iha := fun ws' hz => a_write hxl hll hn a j (bindK k) (h.set io (wob ws')) ws' h5 hoa (by omega) hz (hc0.set _) (fo _)
    have ihb := fun ws' hz => a_write hxl hll hn b q (bindK k + 1) (h.set io (wob ws')) ws' h6 hob (by omega) hz (hc0.set _) (fo _)
    simp only [wob] at ho
    have hop1 : (k = 1) = False := eqFalse hk1
    refine acalls_of mixed J_expr_Text_1_ok (Nat.le_of_ble_eq_true rfl) ?_; simp only [J_expr_Text_1, wkr,wk,if_true,if_false,forall_const,implies_true,ne_eq,eq_self,Nat.reduceEqDiff,Nat.reduceAdd,Nat.reduceMul,Nat.reduceSub,Nat.reduceLeDiff,Nat.reduceLT,Int.reduceEq,Int.reduceLT,Int.reduceLE,Int.reduceAdd,Int.reduceSub,Int.reduceMul,Int.reduceNeg,Int.reduceNe,reduceCtorEq,Int.reduceToNat,↓reduceIte]
    simp only [wkr,wk,if_true,if_false,forall_const,implies_true,ne_eq,eq_self,Nat.reduceEqDiff,Nat.reduceAdd,Nat.reduceMul,Nat.reduceSub,Nat.reduceLeDiff,Nat.reduceLT,Int.reduceEq,Int.reduceLT,Int.reduceLE,Int.reduceAdd,Int.reduceSub,Int.reduceMul,Int.reduceNeg,Int.reduceNe,reduceCtorEq,Int.reduceToNat,↓reduceIte, hx, hdx, Int.toNat_natCast]
    refine ⟨⟨by omega, by omega⟩, ?_⟩
    refine PCalls.use (qb) ?_; simp only [wkr,wk,if_true,if_false,forall_const,implies_true,ne_eq,eq_self,Nat.reduceEqDiff,Nat.reduceAdd,Nat.reduceMul,Nat.reduceSub,Nat.reduceLeDiff,Nat.reduceLT,Int.reduceEq,Int.reduceLT,Int.reduceLE,Int.reduceAdd,Int.reduceSub,Int.reduceMul,Int.reduceNeg,Int.reduceNe,reduceCtorEq,Int.reduceToNat,↓reduceIte]
    by_cases hb : bindK k < m
    · have hz : ws.length + ((a.toks (bindK k)).length + (b.toks (bindK k + 1)).length) + 3 ≤ 100000 := by
        simp only [Xp.toks] at hsz
        rw [if_pos hb] at hsz
        simp only [List.length_append, List.length_cons, List.length_nil] at hsz; omega
      simp only [wkr,wk,if_true,if_false,forall_const,implies_true,ne_eq,eq_self,Nat.reduceEqDiff,Nat.reduceAdd,Nat.reduceMul,Nat.reduceSub,Nat.reduceLeDiff,Nat.reduceLT,Int.reduceEq,Int.reduceLT,Int.reduceLE,Int.reduceAdd,Int.reduceSub,Int.reduceMul,Int.reduceNeg,Int.reduceNe,reduceCtorEq,Int.reduceToNat,↓reduceIte, J_expr_Text_1_j2, hx, hdx, hw, hl, hd, ho, fx, fw, fl, fd, fo, n1, n2, eqTrue hb, hop1, hdl, Int.toNat_natCast]
      refine ⟨⟨by omega, by omega⟩, ⟨by omega, by omega⟩, ⟨by omega, by omega⟩, ?_⟩
      rw [wob_sn]
      refine ⟨_, _, iha _ (by simp; omega), sealE (fo _), ?_⟩
      simp only [wkr,wk,if_true,if_false,forall_const,implies_true,ne_eq,eq_self,Nat.reduceEqDiff,Nat.reduceAdd,Nat.reduceMul,Nat.reduceSub,Nat.reduceLeDiff,Nat.reduceLT,Int.reduceEq,Int.reduceLT,Int.reduceLE,Int.reduceAdd,Int.reduceSub,Int.reduceMul,Int.reduceNeg,Int.reduceNe,reduceCtorEq,Int.reduceToNat,↓reduceIte, J_expr_Text_1_j1, wob, hx, hdx, hw, hl, hd, fx, fw, fl, fd, fo, n1, n2, hdl, Int.toNat_natCast]
      have hl1 : (ws ++ [(⟨#[40]⟩ : ByteArray)] ++ (a.toks (bindK k)).map wrd).length = ws.length + 1 + (a.toks (bindK k)).length := by simp; omega
      refine ⟨⟨by omega, by omega⟩, _, qw, ?_⟩
      simp only [wkr,wk,if_true,if_false,forall_const,implies_true,ne_eq,eq_self,Nat.reduceEqDiff,Nat.reduceAdd,Nat.reduceMul,Nat.reduceSub,Nat.reduceLeDiff,Nat.reduceLT,Int.reduceEq,Int.reduceLT,Int.reduceLE,Int.reduceAdd,Int.reduceSub,Int.reduceMul,Int.reduceNeg,Int.reduceNe,reduceCtorEq,Int.reduceToNat,↓reduceIte, splice, hdl1]
      refine ⟨⟨by omega, by omega⟩, ⟨by omega, by omega⟩, inR_of (by omega) (by omega), ?_⟩
      rw [wob_sn]
      refine ⟨_, _, ihb _ (by rw [List.length_append, hl1]; simp; omega), sealE (fo _), ?_⟩
      simp only [wkr,wk,if_true,if_false,forall_const,implies_true,ne_eq,eq_self,Nat.reduceEqDiff,Nat.reduceAdd,Nat.reduceMul,Nat.reduceSub,Nat.reduceLeDiff,Nat.reduceLT,Int.reduceEq,Int.reduceLT,Int.reduceLE,Int.reduceAdd,Int.reduceSub,Int.reduceMul,Int.reduceNeg,Int.reduceNe,reduceCtorEq,Int.reduceToNat,↓reduceIte, wob, fo, eqTrue hb]
      have hl2 : (ws ++ [(⟨#[40]⟩ : ByteArray)] ++ (a.toks (bindK k)).map wrd ++ [wordT k ⟨#[]⟩ 0] ++ (b.toks (bindK k + 1)).map wrd).length = ws.length + 1 + (a.toks (bindK k)).length + 1 + (b.toks (bindK k + 1)).length := by simp; omega
      refine ⟨⟨by omega, by omega⟩, ?_⟩
      rw [wob_sn]
      have he : ws ++ [(⟨#[40]⟩ : ByteArray)] ++ (a.toks (bindK k)).map wrd ++ [wordT k ⟨#[]⟩ 0] ++ (b.toks (bindK k + 1)).map wrd ++ [⟨#[41]⟩] = ws ++ ((Xp.op k a b).toks m).map wrd := by
        simp only [Xp.toks]
        rw [if_pos hb]
        simp only [List.map_cons, List.map_append, List.map_nil, List.append_assoc, List.cons_append, List.nil_append]
        rfl
      rw [he]
    · have hz : ws.length + ((a.toks (bindK k)).length + (b.toks (bindK k + 1)).length) + 1 ≤ 100000 := by
        simp only [Xp.toks] at hsz
        rw [if_neg hb] at hsz
        simp only [List.length_append, List.length_cons, List.length_nil] at hsz; omega
      simp only [wkr,wk,if_true,if_false,forall_const,implies_true,ne_eq,eq_self,Nat.reduceEqDiff,Nat.reduceAdd,Nat.reduceMul,Nat.reduceSub,Nat.reduceLeDiff,Nat.reduceLT,Int.reduceEq,Int.reduceLT,Int.reduceLE,Int.reduceAdd,Int.reduceSub,Int.reduceMul,Int.reduceNeg,Int.reduceNe,reduceCtorEq,Int.reduceToNat,↓reduceIte, J_expr_Text_1_j2, hx, hdx, hw, hl, hd, ho, fx, fw, fl, fd, fo, n1, n2, eqFalse hb, hop1, hdl, Int.toNat_natCast]
      have hself : h.set io (wob ws) = h := hself1 ho
      have iha0 := iha ws (by omega)
      rw [hself] at iha0
      refine ⟨⟨by omega, by omega⟩, ⟨by omega, by omega⟩, _, _, iha0, sealE ho, ?_⟩
      simp only [wkr,wk,if_true,if_false,forall_const,implies_true,ne_eq,eq_self,Nat.reduceEqDiff,Nat.reduceAdd,Nat.reduceMul,Nat.reduceSub,Nat.reduceLeDiff,Nat.reduceLT,Int.reduceEq,Int.reduceLT,Int.reduceLE,Int.reduceAdd,Int.reduceSub,Int.reduceMul,Int.reduceNeg,Int.reduceNe,reduceCtorEq,Int.reduceToNat,↓reduceIte, J_expr_Text_1_j1, wob, hx, hdx, hw, hl, hd, fx, fw, fl, fd, fo, n1, n2, hdl, Int.toNat_natCast]
      have hl1 : (ws ++ (a.toks (bindK k)).map wrd).length = ws.length + (a.toks (bindK k)).length := by simp
      refine ⟨⟨by omega, by omega⟩, _, qw, ?_⟩
      simp only [wkr,wk,if_true,if_false,forall_const,implies_true,ne_eq,eq_self,Nat.reduceEqDiff,Nat.reduceAdd,Nat.reduceMul,Nat.reduceSub,Nat.reduceLeDiff,Nat.reduceLT,Int.reduceEq,Int.reduceLT,Int.reduceLE,Int.reduceAdd,Int.reduceSub,Int.reduceMul,Int.reduceNeg,Int.reduceNe,reduceCtorEq,Int.reduceToNat,↓reduceIte, splice, hdl1]
      refine ⟨⟨by omega, by omega⟩, ⟨by omega, by omega⟩, inR_of (by omega) (by omega), ?_⟩
      rw [wob_sn]
      refine ⟨_, _, ihb _ (by rw [List.length_append, hl1]; simp; omega), sealE (fo _), ?_⟩
      simp only [wkr,wk,if_true,if_false,forall_const,implies_true,ne_eq,eq_self,Nat.reduceEqDiff,Nat.reduceAdd,Nat.reduceMul,Nat.reduceSub,Nat.reduceLeDiff,Nat.reduceLT,Int.reduceEq,Int.reduceLT,Int.reduceLE,Int.reduceAdd,Int.reduceSub,Int.reduceMul,Int.reduceNeg,Int.reduceNe,reduceCtorEq,Int.reduceToNat,↓reduceIte, fo, eqFalse hb]
      have he : ws ++ (a.toks (bindK k)).map wrd ++ [wordT k ⟨#[]⟩ 0] ++ (b.toks (bindK k + 1)).map wrd = ws ++ ((Xp.op k a b).toks m).map wrd := by
        simp only [Xp.toks]
        rw [if_neg hb]
        simp only [List.map_cons, List.map_append, List.map_nil, List.append_assoc, List.cons_append, List.nil_append]
        rfl
      rw [he]
end Go.Proofs.Ytmbijfcjfhdnjaa

/- Expressions: Text, May, Deep. -/
-- fast
-- rows
namespace Go.Proofs.Ytmbijfcjfhdnjaa
set_option linter.unusedSimpArgs false
set_option linter.unusedVariables false
open Go.RowKit Go.Lib

def textX (x : List Trm) : ByteArray × Int := match treeT x with
  | some e => (joinB ((e.toks 0).map wrd), 0)
  | none => (⟨#[]⟩, 2)
def deepX (x : List Trm) : Int := match treeT x with
  | some e => e.deep
  | none => 0
theorem toks_len : ∀ (m : Int) (e : Xp), (e.toks m).length + 2 ≤ 4 * e.post.length
  | _, .atm t => by simp [Xp.toks, Xp.post]
  | m, .op k a b => by
    have h1 := toks_len (bindK k) a
    have h2 := toks_len (bindK k + 1) b
    simp only [Xp.toks, Xp.post]
    split <;> simp only [List.length_cons, List.length_append, List.length_nil] <;> omega
theorem toks_name : ∀ (m : Int) (e : Xp), (∀ t ∈ e.post, t.name.size ≤ 1000000) → ∀ t ∈ e.toks m, t.name.size ≤ 1000000
  | _, .atm t, h, u, hu => by
    simp only [Xp.toks, List.mem_singleton] at hu
    subst hu
    exact h t (by simp [Xp.post])
  | m, .op k a b, h, u, hu => by
    have h1 := toks_name (bindK k) a (fun t ht => h t (by simp [Xp.post, ht]))
    have h2 := toks_name (bindK k + 1) b (fun t ht => h t (by simp [Xp.post, ht]))
    have h0 : ∀ k, (tokS k).name.size ≤ 1000000 := fun k => by show (⟨#[]⟩ : ByteArray).size ≤ _; decide
    simp only [Xp.toks] at hu
    split at hu
    · rcases List.mem_cons.1 hu with rfl | hu
      · exact h0 6
      · rcases List.mem_append.1 hu with hu | hu
        · rcases List.mem_append.1 hu with hu | hu
          · exact h1 u hu
          · rcases List.mem_cons.1 hu with rfl | hu
            · exact h0 k
            · exact h2 u hu
        · simp only [List.mem_singleton] at hu; subst hu; exact h0 7
    · rcases List.mem_append.1 hu with hu | hu
      · exact h1 u hu
      · rcases List.mem_cons.1 hu with rfl | hu
        · exact h0 k
        · exact h2 u hu
theorem tree_post {x : List Trm} {e : Xp} (h : treeT x = some e) : x.length ≤ 200 ∧ e.okE wrT ∧ x = e.post := by
  unfold treeT at h
  split at h
  · exact ⟨by assumption, treeX_iff.1 h⟩
  · cases h
theorem text_size {x : List Trm} {e : Xp} (h : treeT x = some e) (hn : ∀ t ∈ x, t.name.size ≤ 1000000) (m : Int) : (e.toks m).length ≤ 800 ∧ (joinB ((e.toks m).map wrd)).size ≤ 140737488355328 := by
  obtain ⟨h1, h2, h3⟩ := tree_post h
  have h4 := toks_len m e
  rw [h3] at h1 hn
  have h5 := toks_name m e hn
  have h6 := join_size ((e.toks m).map wrd) 1000006 (fun w hw => by
    obtain ⟨t, ht, rfl⟩ := List.mem_map.1 hw
    have := wordT_size t.kind t.name t.of
    have := h5 t ht
    show (wordT t.kind t.name t.of).size ≤ _; omega)
  rw [List.length_map] at h6
  refine ⟨by omega, ?_⟩
  have : (e.toks m).length * (1000006 + 1) ≤ 800 * 1000007 := Nat.mul_le_mul (by omega) (by omega)
  omega
theorem frees_vtrs (x : List Trm) : free.frees [vTrs x] = true := by simp [vTrs, free, free.frees, frees_trs]
set_option maxRecDepth 100000 in
set_option maxHeartbeats 8000000 in
theorem p_may (x : List Trm) (hl : x.length ≤ 9223372036854775807) (hn : ∀ t ∈ x, t.name.size ≤ 1000000) : PCalls Try.prog 24 [vTrs x] (.bool (treeT x).isSome) := by
  have q := a_parts (h := []) x hl hn
  simp only [vTrs] at q
  refine pcalls_of (frees_vtrs x) rfl (acalls_of mixed J_expr_May_ok (Nat.le_of_ble_eq_true rfl) ?_); simp only [J_expr_May, vTrs, wkr,wk,if_true,if_false,forall_const,implies_true,ne_eq,eq_self,Nat.reduceEqDiff,Nat.reduceAdd,Nat.reduceMul,Nat.reduceSub,Nat.reduceLeDiff,Nat.reduceLT,Int.reduceEq,Int.reduceLT,Int.reduceLE,Int.reduceAdd,Int.reduceSub,Int.reduceMul,Int.reduceNeg,Int.reduceNe,reduceCtorEq,Int.reduceToNat,↓reduceIte]
  refine ACalls.use q ?_
  intro a h' hp
  unfold PostP at hp
  cases ht : treeT x with
  | some e =>
    rw [ht] at hp
    obtain ⟨l, rfl, rfl, _, _⟩ := hp
    simp only [wkr,wk,if_true,if_false,forall_const,implies_true,ne_eq,eq_self,Nat.reduceEqDiff,Nat.reduceAdd,Nat.reduceMul,Nat.reduceSub,Nat.reduceLeDiff,Nat.reduceLT,Int.reduceEq,Int.reduceLT,Int.reduceLE,Int.reduceAdd,Int.reduceSub,Int.reduceMul,Int.reduceNeg,Int.reduceNe,reduceCtorEq,Int.reduceToNat,↓reduceIte]
    rfl
  | none =>
    rw [ht] at hp
    rcases hp with ⟨rfl, rfl⟩ | ⟨n, l, rfl, rfl⟩
    · simp only [wkr,wk,if_true,if_false,forall_const,implies_true,ne_eq,eq_self,Nat.reduceEqDiff,Nat.reduceAdd,Nat.reduceMul,Nat.reduceSub,Nat.reduceLeDiff,Nat.reduceLT,Int.reduceEq,Int.reduceLT,Int.reduceLE,Int.reduceAdd,Int.reduceSub,Int.reduceMul,Int.reduceNeg,Int.reduceNe,reduceCtorEq,Int.reduceToNat,↓reduceIte]
      rfl
    · simp only [wkr,wk,if_true,if_false,forall_const,implies_true,ne_eq,eq_self,Nat.reduceEqDiff,Nat.reduceAdd,Nat.reduceMul,Nat.reduceSub,Nat.reduceLeDiff,Nat.reduceLT,Int.reduceEq,Int.reduceLT,Int.reduceLE,Int.reduceAdd,Int.reduceSub,Int.reduceMul,Int.reduceNeg,Int.reduceNe,reduceCtorEq,Int.reduceToNat,↓reduceIte]
      rfl
set_option maxRecDepth 100000 in
set_option maxHeartbeats 8000000 in
theorem p_deep (x : List Trm) (hl : x.length ≤ 9223372036854775807) (hn : ∀ t ∈ x, t.name.size ≤ 1000000) : PCalls Try.prog 26 [vTrs x] (.int .i64 (deepX x)) := by
  have q := a_parts (h := []) x hl hn
  simp only [vTrs] at q
  refine pcalls_of (frees_vtrs x) rfl (acalls_of mixed J_expr_Deep_ok (Nat.le_of_ble_eq_true rfl) ?_); simp only [J_expr_Deep, vTrs, wkr,wk,if_true,if_false,forall_const,implies_true,ne_eq,eq_self,Nat.reduceEqDiff,Nat.reduceAdd,Nat.reduceMul,Nat.reduceSub,Nat.reduceLeDiff,Nat.reduceLT,Int.reduceEq,Int.reduceLT,Int.reduceLE,Int.reduceAdd,Int.reduceSub,Int.reduceMul,Int.reduceNeg,Int.reduceNe,reduceCtorEq,Int.reduceToNat,↓reduceIte]
  refine ACalls.use q ?_
  intro a h' hp
  unfold PostP at hp
  unfold deepX
  cases ht : treeT x with
  | some e =>
    rw [ht] at hp
    obtain ⟨l, rfl, rfl, hll, hr⟩ := hp
    obtain ⟨h2, _, h3⟩ := tree_post ht
    have hpos : 1 ≤ x.length := by have := toks_len 0 e; rw [h3]; omega
    have hd := hr.drop
    simp only [wkr,wk,if_true,if_false,forall_const,implies_true,ne_eq,eq_self,Nat.reduceEqDiff,Nat.reduceAdd,Nat.reduceMul,Nat.reduceSub,Nat.reduceLeDiff,Nat.reduceLT,Int.reduceEq,Int.reduceLT,Int.reduceLE,Int.reduceAdd,Int.reduceSub,Int.reduceMul,Int.reduceNeg,Int.reduceNe,reduceCtorEq,Int.reduceToNat,↓reduceIte]
    refine ⟨inR_of (by omega) (by omega), ⟨by omega, by omega⟩, ?_⟩
    rw [show ((x.length : Int) - 1).toNat = x.length - 1 by omega, hd]
    simp only [wkr,wk,if_true,if_false,forall_const,implies_true,ne_eq,eq_self,Nat.reduceEqDiff,Nat.reduceAdd,Nat.reduceMul,Nat.reduceSub,Nat.reduceLeDiff,Nat.reduceLT,Int.reduceEq,Int.reduceLT,Int.reduceLE,Int.reduceAdd,Int.reduceSub,Int.reduceMul,Int.reduceNeg,Int.reduceNe,reduceCtorEq,Int.reduceToNat,↓reduceIte]
  | none =>
    rw [ht] at hp
    rcases hp with ⟨rfl, rfl⟩ | ⟨n, l, rfl, rfl⟩
    · simp only [wkr,wk,if_true,if_false,forall_const,implies_true,ne_eq,eq_self,Nat.reduceEqDiff,Nat.reduceAdd,Nat.reduceMul,Nat.reduceSub,Nat.reduceLeDiff,Nat.reduceLT,Int.reduceEq,Int.reduceLT,Int.reduceLE,Int.reduceAdd,Int.reduceSub,Int.reduceMul,Int.reduceNeg,Int.reduceNe,reduceCtorEq,Int.reduceToNat,↓reduceIte]
    · simp only [wkr,wk,if_true,if_false,forall_const,implies_true,ne_eq,eq_self,Nat.reduceEqDiff,Nat.reduceAdd,Nat.reduceMul,Nat.reduceSub,Nat.reduceLeDiff,Nat.reduceLT,Int.reduceEq,Int.reduceLT,Int.reduceLE,Int.reduceAdd,Int.reduceSub,Int.reduceMul,Int.reduceNeg,Int.reduceNe,reduceCtorEq,Int.reduceToNat,↓reduceIte]
set_option maxRecDepth 100000 in
set_option maxHeartbeats 8000000 in
theorem p_text (x : List Trm) (hl : x.length ≤ 9223372036854775807) (hn : ∀ t ∈ x, t.name.size ≤ 1000000) : PCalls Try.prog 22 [vTrs x] (.tup [.str (textX x).1, .int .i64 (textX x).2]) := by
  have q := a_parts (h := [some (false, [vTrs x])]) x hl hn
  simp only [vTrs] at q
  refine pcalls_of (frees_vtrs x) rfl (acalls_of mixed J_expr_Text_ok (Nat.le_of_ble_eq_true rfl) ?_); simp only [J_expr_Text, vTrs, wkr,wk,if_true,if_false,forall_const,implies_true,ne_eq,eq_self,Nat.reduceEqDiff,Nat.reduceAdd,Nat.reduceMul,Nat.reduceSub,Nat.reduceLeDiff,Nat.reduceLT,Int.reduceEq,Int.reduceLT,Int.reduceLE,Int.reduceAdd,Int.reduceSub,Int.reduceMul,Int.reduceNeg,Int.reduceNe,reduceCtorEq,Int.reduceToNat,↓reduceIte]
  refine ACalls.use q ?_
  intro a h' hp
  unfold PostP at hp
  unfold textX
  cases ht : treeT x with
  | some e =>
    rw [ht] at hp
    obtain ⟨l, rfl, rfl, hll, hr⟩ := hp
    obtain ⟨h2, ho, h3⟩ := tree_post ht
    have hpos : 1 ≤ x.length := by have := toks_len 0 e; rw [h3]; omega
    obtain ⟨z1, z2⟩ := text_size ht hn 0
    have hw := a_write (ix := 0) (io := 3) (iw := 4) (il := 2) (id := 1) h2 hll hn e (x.length - 1) 0 [some (false, [.lst .ro x.length (trsC x)]), some (false, prC l), some (false, [.hs 1 x.length]), some (false, [.lst (.own 9) 0 []]), some (false, [.fn 43 [.ptr 0 0, .ptr 3 0, .ptr 4 0, .ptr 2 0]])] [] hr ho (by decide) (by rw [List.length_nil]; omega) ⟨rfl, rfl, rfl, rfl, by decide, by decide, by decide, by decide⟩ rfl
    have qj := p_join ((e.toks 0).map wrd) (by rw [List.length_map]; omega) z2
    simp only [wob, List.nil_append] at hw
    rw [show ((x.length - 1 : Nat) : Int) = (x.length : Int) - 1 by omega] at hw
    simp only [wkr,wk,if_true,if_false,forall_const,implies_true,ne_eq,eq_self,Nat.reduceEqDiff,Nat.reduceAdd,Nat.reduceMul,Nat.reduceSub,Nat.reduceLeDiff,Nat.reduceLT,Int.reduceEq,Int.reduceLT,Int.reduceLE,Int.reduceAdd,Int.reduceSub,Int.reduceMul,Int.reduceNeg,Int.reduceNe,reduceCtorEq,Int.reduceToNat,↓reduceIte]
    refine ⟨inR_of (by omega) (by omega), ?_⟩
    refine ACalls.use (hw) ?_; rintro _ _ ⟨rfl, rfl⟩; simp only [wkr,wk,if_true,if_false,forall_const,implies_true,ne_eq,eq_self,Nat.reduceEqDiff,Nat.reduceAdd,Nat.reduceMul,Nat.reduceSub,Nat.reduceLeDiff,Nat.reduceLT,Int.reduceEq,Int.reduceLT,Int.reduceLE,Int.reduceAdd,Int.reduceSub,Int.reduceMul,Int.reduceNeg,Int.reduceNe,reduceCtorEq,Int.reduceToNat,↓reduceIte]
    refine PCalls.use (qj) ?_; simp only [wkr,wk,if_true,if_false,forall_const,implies_true,ne_eq,eq_self,Nat.reduceEqDiff,Nat.reduceAdd,Nat.reduceMul,Nat.reduceSub,Nat.reduceLeDiff,Nat.reduceLT,Int.reduceEq,Int.reduceLT,Int.reduceLE,Int.reduceAdd,Int.reduceSub,Int.reduceMul,Int.reduceNeg,Int.reduceNe,reduceCtorEq,Int.reduceToNat,↓reduceIte]
  | none =>
    rw [ht] at hp
    rcases hp with ⟨rfl, rfl⟩ | ⟨n, l, rfl, rfl⟩
    · simp only [wkr,wk,if_true,if_false,forall_const,implies_true,ne_eq,eq_self,Nat.reduceEqDiff,Nat.reduceAdd,Nat.reduceMul,Nat.reduceSub,Nat.reduceLeDiff,Nat.reduceLT,Int.reduceEq,Int.reduceLT,Int.reduceLE,Int.reduceAdd,Int.reduceSub,Int.reduceMul,Int.reduceNeg,Int.reduceNe,reduceCtorEq,Int.reduceToNat,↓reduceIte]
    · simp only [wkr,wk,if_true,if_false,forall_const,implies_true,ne_eq,eq_self,Nat.reduceEqDiff,Nat.reduceAdd,Nat.reduceMul,Nat.reduceSub,Nat.reduceLeDiff,Nat.reduceLT,Int.reduceEq,Int.reduceLT,Int.reduceLE,Int.reduceAdd,Int.reduceSub,Int.reduceMul,Int.reduceNeg,Int.reduceNe,reduceCtorEq,Int.reduceToNat,↓reduceIte]
end Go.Proofs.Ytmbijfcjfhdnjaa

/- Expressions: the document's Last. -/
-- fast
-- rows
namespace Go.Proofs.Ytmbijfcjfhdnjaa
set_option linter.unusedSimpArgs false
set_option linter.unusedVariables false
open Go.RowKit Go.Lib

end Go.Proofs.Ytmbijfcjfhdnjaa

/- Expressions: the document's Text, May, Deep. -/
-- fast
-- rows
namespace Go.Proofs.Ytmbijfcjfhdnjaa
set_option linter.unusedSimpArgs false
set_option linter.unusedVariables false
open Go.RowKit Go.Lib

end Go.Proofs.Ytmbijfcjfhdnjaa

/- Expressions: the laws' own functions: same, large, awake. -/
-- fast
namespace Go.Proofs.Ytmbijfcjfhdnjaa
set_option linter.unusedSimpArgs false
set_option linter.unusedVariables false
open Go.RowKit Go.Lib

instance : DecidableEq Trm := fun a b => if h : a.op = b.op ∧ a.of = b.of ∧ a.name = b.name then isTrue (by cases a; cases b; simp_all) else isFalse (by rintro rfl; exact h ⟨rfl, rfl, rfl⟩)
theorem eq_trm (k k' : Int) (o o' : Int) (w w' : ByteArray) : eqCells [0, 0, 1] [.int .i64 k, .int .i64 o, .str w] [.int .i64 k', .int .i64 o', .str w'] = some (decide (k = k') && (decide (o = o') && decide (w = w'))) := by
  simp only [eqCells, eqCell, if_true, Bool.and_true]
theorem trm_ext {a b : Trm} (h1 : a.op = b.op) (h2 : a.of = b.of) (h3 : a.name = b.name) : a = b := by cases a; cases b; simp_all
set_option maxRecDepth 100000 in
set_option maxHeartbeats 4000000 in
theorem p_samex (a b : List Trm) (hla : a.length ≤ 1000000) (hlb : b.length ≤ 1000000) : PCalls Try.prog 18 [vTrs a, vTrs b] (.bool (decide (a = b))) := by
  refine pcalls_of (by simp [vTrs, free, free.frees, frees_trs]) rfl (ACalls.weak (acalls_of mixed J_law05_same_ok (Nat.le_of_ble_eq_true rfl) ?_)); simp only [J_law05_same, vTrs, wk,if_true,if_false,forall_const,implies_true,ne_eq,eq_self,Nat.reduceEqDiff,Nat.reduceAdd,Nat.reduceMul,Nat.reduceSub,Nat.reduceLeDiff,Nat.reduceLT,Int.reduceEq,Int.reduceLT,Int.reduceLE,Int.reduceAdd,Int.reduceSub,Int.reduceMul,Int.reduceNeg,Int.reduceNe,reduceCtorEq,Int.reduceToNat,↓reduceIte]
  refine ⟨fun hne => ?_, fun heq => ?_⟩
  · rw [decide_eq_false (by rintro rfl; exact hne rfl)]
    rfl
  have hl : a.length = b.length := by omega
  refine W_loop (fun n fr h' => ∃ i : Nat, i ≤ a.length ∧ n = a.length - i ∧ fr = [(0, .lst .ro a.length (trsC a)), (1, .lst .ro b.length (trsC b)), (12, .int .i64 a.length), (13, .int .i64 i)] ∧ ∀ j (ha : j < a.length) (hb : j < b.length), j < i → a[j] = b[j]) a.length ⟨0, by omega, by omega, rfl, fun j ha hb h => by omega⟩ ?_
  rintro n fr h' ⟨i, hi, rfl, rfl, hall⟩
  simp only [J_law05_same_j2, wk,if_true,if_false,forall_const,implies_true,ne_eq,eq_self,Nat.reduceEqDiff,Nat.reduceAdd,Nat.reduceMul,Nat.reduceSub,Nat.reduceLeDiff,Nat.reduceLT,Int.reduceEq,Int.reduceLT,Int.reduceLE,Int.reduceAdd,Int.reduceSub,Int.reduceMul,Int.reduceNeg,Int.reduceNe,reduceCtorEq,Int.reduceToNat,↓reduceIte]
  refine ⟨fun hlt => ?_, fun hge => ?_⟩
  · have hil : i < a.length := by omega
    have hib : i < b.length := by omega
    have hd : (trsC a).drop ((i : Int).toNat * 3) = _ := trsC_drop hil
    have hd2 : (trsC b).drop ((i : Int).toNat * 3) = _ := trsC_drop hib
    simp only [hd, hd2, wk,if_true,if_false,forall_const,implies_true,ne_eq,eq_self,Nat.reduceEqDiff,Nat.reduceAdd,Nat.reduceMul,Nat.reduceSub,Nat.reduceLeDiff,Nat.reduceLT,Int.reduceEq,Int.reduceLT,Int.reduceLE,Int.reduceAdd,Int.reduceSub,Int.reduceMul,Int.reduceNeg,Int.reduceNe,reduceCtorEq,Int.reduceToNat,↓reduceIte]
    refine ⟨⟨by omega, by omega⟩, ⟨by omega, by omega⟩, ?_⟩
    rw [eq_trm]
    simp only [Option.map_some, wk,if_true,if_false,forall_const,implies_true,ne_eq,eq_self,Nat.reduceEqDiff,Nat.reduceAdd,Nat.reduceMul,Nat.reduceSub,Nat.reduceLeDiff,Nat.reduceLT,Int.reduceEq,Int.reduceLT,Int.reduceLE,Int.reduceAdd,Int.reduceSub,Int.reduceMul,Int.reduceNeg,Int.reduceNe,reduceCtorEq,Int.reduceToNat,↓reduceIte]
    refine ⟨fun h => ?_, fun h => ⟨inR_of (by omega) (by omega), a.length - (i + 1), by omega, i + 1, by omega, rfl, rfl, ?_⟩⟩
    · rw [decide_eq_false (by rintro rfl; simp at h)]
      rfl
    · intro j ha hb hj
      by_cases hji : j = i
      · subst hji
        simp only [Bool.and_eq_true, decide_eq_true_eq] at h
        exact trm_ext h.1 h.2.1 h.2.2
      · exact hall j ha hb (by omega)
  · simp only [J_law05_same_j1, wk,if_true,if_false,forall_const,implies_true,ne_eq,eq_self,Nat.reduceEqDiff,Nat.reduceAdd,Nat.reduceMul,Nat.reduceSub,Nat.reduceLeDiff,Nat.reduceLT,Int.reduceEq,Int.reduceLT,Int.reduceLE,Int.reduceAdd,Int.reduceSub,Int.reduceMul,Int.reduceNeg,Int.reduceNe,reduceCtorEq,Int.reduceToNat,↓reduceIte]
    rw [decide_eq_true (List.ext_getElem hl fun j ha hb => hall j ha hb (by omega))]
    rfl
def largeX (l : List Trm) : Bool := decide (300 < l.length) || l.any fun t => decide (100 < t.name.size)
set_option maxRecDepth 100000 in
set_option maxHeartbeats 4000000 in
theorem p_largex (l : List Trm) (hl : l.length ≤ 9223372036854775807) : PCalls Try.prog 21 [vTrs l] (.bool (largeX l)) := by
  refine pcalls_of (frees_vtrs l) rfl (acalls_of mixed J_law05_large_ok (Nat.le_of_ble_eq_true rfl) ?_); simp only [J_law05_large, vTrs, wk,if_true,if_false,forall_const,implies_true,ne_eq,eq_self,Nat.reduceEqDiff,Nat.reduceAdd,Nat.reduceMul,Nat.reduceSub,Nat.reduceLeDiff,Nat.reduceLT,Int.reduceEq,Int.reduceLT,Int.reduceLE,Int.reduceAdd,Int.reduceSub,Int.reduceMul,Int.reduceNeg,Int.reduceNe,reduceCtorEq,Int.reduceToNat,↓reduceIte]
  refine ⟨fun hbig => ?_, fun hbig => ?_⟩
  · unfold largeX
    rw [decide_eq_true (show 300 < l.length by omega), Bool.true_or]
  refine W_loop (fun n fr h' => ∃ i : Nat, i ≤ l.length ∧ n = l.length - i ∧ fr = [(0, .lst .ro l.length (trsC l)), (8, .int .i64 l.length), (9, .int .i64 i)] ∧ ∀ t ∈ l.take i, ¬ 100 < t.name.size) l.length ⟨0, by omega, by omega, rfl, by simp⟩ ?_
  rintro n fr h' ⟨i, hi, rfl, rfl, hall⟩
  simp only [J_law05_large_j2, wk,if_true,if_false,forall_const,implies_true,ne_eq,eq_self,Nat.reduceEqDiff,Nat.reduceAdd,Nat.reduceMul,Nat.reduceSub,Nat.reduceLeDiff,Nat.reduceLT,Int.reduceEq,Int.reduceLT,Int.reduceLE,Int.reduceAdd,Int.reduceSub,Int.reduceMul,Int.reduceNeg,Int.reduceNe,reduceCtorEq,Int.reduceToNat,↓reduceIte]
  refine ⟨fun hlt => ?_, fun hge => ?_⟩
  · have hil : i < l.length := by omega
    have hd : (trsC l).drop ((i : Int).toNat * 3) = _ := trsC_drop hil
    refine ⟨⟨by omega, by omega⟩, ?_⟩
    simp only [hd, wk,if_true,if_false,forall_const,implies_true,ne_eq,eq_self,Nat.reduceEqDiff,Nat.reduceAdd,Nat.reduceMul,Nat.reduceSub,Nat.reduceLeDiff,Nat.reduceLT,Int.reduceEq,Int.reduceLT,Int.reduceLE,Int.reduceAdd,Int.reduceSub,Int.reduceMul,Int.reduceNeg,Int.reduceNe,reduceCtorEq,Int.reduceToNat,↓reduceIte]
    refine ⟨fun h => ?_, fun h => ⟨inR_of (by omega) (by omega), l.length - (i + 1), by omega, i + 1, by omega, rfl, rfl, ?_⟩⟩
    · have : l.any (fun t => decide (100 < t.name.size)) = true := List.any_eq_true.2 ⟨_, List.getElem_mem hil, decide_eq_true (by omega)⟩
      unfold largeX
      rw [this, Bool.or_true]
    · intro t ht
      rw [List.take_succ_eq_append_getElem hil] at ht
      rcases List.mem_append.1 ht with ht | ht
      · exact hall t ht
      · simp at ht; subst ht; omega
  · rw [List.take_of_length_le (by omega)] at hall
    simp only [J_law05_large_j1, wk,if_true,if_false,forall_const,implies_true,ne_eq,eq_self,Nat.reduceEqDiff,Nat.reduceAdd,Nat.reduceMul,Nat.reduceSub,Nat.reduceLeDiff,Nat.reduceLT,Int.reduceEq,Int.reduceLT,Int.reduceLE,Int.reduceAdd,Int.reduceSub,Int.reduceMul,Int.reduceNeg,Int.reduceNe,reduceCtorEq,Int.reduceToNat,↓reduceIte]
    unfold largeX
    rw [decide_eq_false (show ¬ 300 < l.length by omega), Bool.false_or]
    congr 1
    symm
    rw [List.any_eq_false]
    intro t ht
    simpa using hall t ht
theorem largeX_no {l : List Trm} (h : largeX l = false) : l.length ≤ 300 ∧ ∀ t ∈ l, t.name.size ≤ 100 := by
  unfold largeX at h
  rw [Bool.or_eq_false_iff] at h
  refine ⟨by have := of_decide_eq_false h.1; omega, fun t ht => ?_⟩
  have := List.any_eq_false.1 h.2 t ht
  simpa using this
/-- a and b|c as role:r -/
def s1 : ByteArray := ⟨#[97, 32, 97, 110, 100, 32, 98, 124, 99, 32, 97, 115, 32, 114, 111, 108, 101, 58, 114]⟩
def s2 : ByteArray := ⟨#[97, 32, 97, 110, 100, 32, 97, 110, 100]⟩
def s3 : ByteArray := ⟨#[97, 32, 102, 111, 114, 32, 40, 98, 32, 102, 111, 114, 32, 99, 41]⟩
def X1 : List Trm := [⟨1, 3, ⟨#[97]⟩⟩, ⟨1, 3, ⟨#[98]⟩⟩, ⟨1, 3, ⟨#[99]⟩⟩, ⟨1, 5, ⟨#[114]⟩⟩, ⟨5, 0, ⟨#[]⟩⟩, ⟨4, 0, ⟨#[]⟩⟩, ⟨2, 0, ⟨#[]⟩⟩]
def X3 : List Trm := [⟨1, 3, ⟨#[97]⟩⟩, ⟨1, 3, ⟨#[98]⟩⟩, ⟨1, 3, ⟨#[99]⟩⟩, ⟨3, 0, ⟨#[]⟩⟩, ⟨3, 0, ⟨#[]⟩⟩]
theorem parse_s1 : parseR s1 = (X1, 0, 0) := by kernel_rfl
theorem parse_s2 : parseR s2 = ([], 6, 2) := by kernel_rfl
theorem parse_s3 : parseR s3 = (X3, 0, 0) := by kernel_rfl
theorem text_X1 : textX X1 = (⟨#[97, 32, 97, 110, 100, 32, 98, 32, 124, 32, 99, 32, 97, 115, 32, 114, 111, 108, 101, 58, 114]⟩, 0) := by kernel_rfl
theorem text_X3 : textX X3 = (⟨#[97, 32, 102, 111, 114, 32, 40, 32, 98, 32, 102, 111, 114, 32, 99, 32, 41]⟩, 0) := by kernel_rfl
theorem may_X1 : (treeT X1).isSome = true := by kernel_rfl
theorem may_nil : (treeT []).isSome = false := by kernel_rfl
theorem deep_X1 : deepX X1 = 4 := by kernel_rfl
set_option maxRecDepth 100000 in
set_option maxHeartbeats 4000000 in
theorem p_awake05 : PCalls Try.prog 15 [] (.bool true) := by
  have q1 := p_parse s1 (by decide)
  have q2 := p_parse s2 (by decide)
  have q3 := p_parse s3 (by decide)
  have q4 := p_text X1 (by decide) (by decide)
  have q5 := p_text X3 (by decide) (by decide)
  have q6 := p_may X1 (by decide) (by decide)
  have q7 := PCalls.argd (args := [.lst .clip 0 []]) (v := .bool false) (by have := p_may [] (by decide) (by simp); rw [may_nil] at this; simpa only [rdpw, vTrs, trsC_nil, List.length_nil] using this)
  have q8 := p_deep X1 (by decide) (by decide)
  rw [parse_s1] at q1
  rw [parse_s2] at q2
  rw [parse_s3] at q3
  rw [text_X1] at q4
  rw [text_X3] at q5
  rw [may_X1] at q6
  rw [deep_X1] at q8
  simp only [resI, vTrs, trsC, X1, X3, List.flatMap_cons, List.flatMap_nil, trC, List.cons_append, List.nil_append, List.length_cons, List.length_nil] at q1 q2 q3 q4 q5 q6 q8
  refine pcalls_of (by first | rfl | simp [free, free.frees, frees_str, frees_u8, frees_u16]) (by first | rfl | simp [free, free.frees, frees_str, frees_u8, frees_u16]) (acalls_of mixed J_law05_awake_ok (Nat.le_of_ble_eq_true rfl) ?_); simp only [J_law05_awake, wk,if_true,if_false,forall_const,implies_true,ne_eq,eq_self,Nat.reduceEqDiff,Nat.reduceAdd,Nat.reduceMul,Nat.reduceSub,Nat.reduceLeDiff,Nat.reduceLT,Int.reduceEq,Int.reduceLT,Int.reduceLE,Int.reduceAdd,Int.reduceSub,Int.reduceMul,Int.reduceNeg,Int.reduceNe,reduceCtorEq,Int.reduceToNat,↓reduceIte]
  refine PCalls.use (q1) ?_; simp only [wk,if_true,if_false,forall_const,implies_true,ne_eq,eq_self,Nat.reduceEqDiff,Nat.reduceAdd,Nat.reduceMul,Nat.reduceSub,Nat.reduceLeDiff,Nat.reduceLT,Int.reduceEq,Int.reduceLT,Int.reduceLE,Int.reduceAdd,Int.reduceSub,Int.reduceMul,Int.reduceNeg,Int.reduceNe,reduceCtorEq,Int.reduceToNat,↓reduceIte]
  refine PCalls.use (q4) ?_; simp only [wk,if_true,if_false,forall_const,implies_true,ne_eq,eq_self,Nat.reduceEqDiff,Nat.reduceAdd,Nat.reduceMul,Nat.reduceSub,Nat.reduceLeDiff,Nat.reduceLT,Int.reduceEq,Int.reduceLT,Int.reduceLE,Int.reduceAdd,Int.reduceSub,Int.reduceMul,Int.reduceNeg,Int.reduceNe,reduceCtorEq,Int.reduceToNat,↓reduceIte]
  refine PCalls.use (q2) ?_; simp only [wk,if_true,if_false,forall_const,implies_true,ne_eq,eq_self,Nat.reduceEqDiff,Nat.reduceAdd,Nat.reduceMul,Nat.reduceSub,Nat.reduceLeDiff,Nat.reduceLT,Int.reduceEq,Int.reduceLT,Int.reduceLE,Int.reduceAdd,Int.reduceSub,Int.reduceMul,Int.reduceNeg,Int.reduceNe,reduceCtorEq,Int.reduceToNat,↓reduceIte]
  refine PCalls.use (q3) ?_; simp only [wk,if_true,if_false,forall_const,implies_true,ne_eq,eq_self,Nat.reduceEqDiff,Nat.reduceAdd,Nat.reduceMul,Nat.reduceSub,Nat.reduceLeDiff,Nat.reduceLT,Int.reduceEq,Int.reduceLT,Int.reduceLE,Int.reduceAdd,Int.reduceSub,Int.reduceMul,Int.reduceNeg,Int.reduceNe,reduceCtorEq,Int.reduceToNat,↓reduceIte]
  refine PCalls.use (q5) ?_; simp only [wk,if_true,if_false,forall_const,implies_true,ne_eq,eq_self,Nat.reduceEqDiff,Nat.reduceAdd,Nat.reduceMul,Nat.reduceSub,Nat.reduceLeDiff,Nat.reduceLT,Int.reduceEq,Int.reduceLT,Int.reduceLE,Int.reduceAdd,Int.reduceSub,Int.reduceMul,Int.reduceNeg,Int.reduceNe,reduceCtorEq,Int.reduceToNat,↓reduceIte]
  repeat' (first | (refine PCalls.use q6 ?_; simp only [wk,if_true,if_false,forall_const,implies_true,ne_eq,eq_self,Nat.reduceEqDiff,Nat.reduceAdd,Nat.reduceMul,Nat.reduceSub,Nat.reduceLeDiff,Nat.reduceLT,Int.reduceEq,Int.reduceLT,Int.reduceLE,Int.reduceAdd,Int.reduceSub,Int.reduceMul,Int.reduceNeg,Int.reduceNe,reduceCtorEq,Int.reduceToNat,↓reduceIte]) | (refine PCalls.use q7 ?_; simp only [wk,if_true,if_false,forall_const,implies_true,ne_eq,eq_self,Nat.reduceEqDiff,Nat.reduceAdd,Nat.reduceMul,Nat.reduceSub,Nat.reduceLeDiff,Nat.reduceLT,Int.reduceEq,Int.reduceLT,Int.reduceLE,Int.reduceAdd,Int.reduceSub,Int.reduceMul,Int.reduceNeg,Int.reduceNe,reduceCtorEq,Int.reduceToNat,↓reduceIte]) | (refine PCalls.use q8 ?_; simp only [wk,if_true,if_false,forall_const,implies_true,ne_eq,eq_self,Nat.reduceEqDiff,Nat.reduceAdd,Nat.reduceMul,Nat.reduceSub,Nat.reduceLeDiff,Nat.reduceLT,Int.reduceEq,Int.reduceLT,Int.reduceLE,Int.reduceAdd,Int.reduceSub,Int.reduceMul,Int.reduceNeg,Int.reduceNe,reduceCtorEq,Int.reduceToNat,↓reduceIte]) | (with_reducible refine And.intro ?_ ?_) | intro _)
  all_goals first
    | decide
    | rfl
    | exact absurd rfl (by assumption)
end Go.Proofs.Ytmbijfcjfhdnjaa

/- ExprParses, ExprReads, ExprWrites. -/
-- fast
namespace Go.Proofs.Ytmbijfcjfhdnjaa
set_option linter.unusedSimpArgs false
set_option linter.unusedVariables false
open Go.RowKit Go.Lib

theorem readR_len {wd : Tok → Bool} (l : List Tok) : (readR wd l).1.length ≤ l.length := by
  unfold readR
  have := readD_size l
  repeat' split
  all_goals first | (simp; done) | omega
theorem parseR_len (s : ByteArray) : (parseR s).1.length ≤ 1000 := by
  have h1 := readR_len (wd := wdB) (allT s).1
  have h2 := allT_len s
  unfold parseR
  repeat' split
  all_goals first | (simp; done) | (simp only; omega)
end Go.Proofs.Ytmbijfcjfhdnjaa

/- Blanks, and what is passed over: plain laws. -/
namespace Go.Proofs.Ytmbijfcjfhdnjaa
set_option linter.unusedSimpArgs false
set_option linter.unusedVariables false
open Go.RowKit Go.Lib

/-- a text that is passed over -/
def passed (p : List UInt8) : Prop := ∀ (rest : List UInt8) (a : Nat) (acc : List Tok), scan (p ++ rest) a acc = scan rest (a + p.length) acc
theorem scan_note {x : List UInt8} (hx : ∀ b ∈ x, notI b.toNat = true) (rest : List UInt8) (hr : ∀ b r', rest = b :: r' → notI b.toNat = false) (a : Nat) (acc : List Tok) : scan (35 :: (x ++ rest)) a acc = scan rest (a + (1 + x.length)) acc := by
  rw [scan_cons, if_neg (by decide), if_pos (show (35 : UInt8).toNat = 35 from rfl)]
  have hs : stopN notI (35 :: (x ++ rest)) = 1 + x.length := by
    have := stop_app (q := notI) (l := 35 :: x) (r := rest) (fun b hb => by
      rcases List.mem_cons.1 hb with rfl | hb
      · rfl
      · exact hx b hb) hr
    rw [List.cons_append] at this
    rw [this, List.length_cons]; omega
  rw [hs]
  have : (35 :: (x ++ rest)).drop (1 + x.length) = rest := by
    rw [show 1 + x.length = x.length + 1 by omega, List.drop_succ_cons, List.drop_left]
  rw [this]
/-- a text that stands for the first tokens -/
def stands (l : List Tok) (t : List UInt8) : Prop := ∀ (rest : List UInt8) (a : Nat) (acc : List Tok), acc.length + l.length ≤ 1000 → ∃ l' : List Tok, scan (t ++ rest) a acc = scan rest (a + t.length) (acc ++ l') ∧ l.map core = l'.map core
end Go.Proofs.Ytmbijfcjfhdnjaa

/- Tokens stand where they say: plain laws. -/
namespace Go.Proofs.Ytmbijfcjfhdnjaa
set_option linter.unusedSimpArgs false
set_option linter.unusedVariables false
open Go.RowKit Go.Lib

/-- bytes between tokens, with the note's mark; none: something else stands there -/
def gapF : Bool → List UInt8 → Option Bool
  | nt, [] => some nt
  | nt, b :: r => if (!(b.toNat == 10) && (b.toNat == 35 || nt)) = true then gapF true r else if blankB b = true then gapF false r else none
/-- tokens stand in bytes, the first of which is at a place -/
def places : List UInt8 → Nat → List Tok → Prop
  | l, _, [] => ∃ nt, gapF false l = some nt
  | l, a, t :: ts => ∃ g n : Nat, t.at_ = (a + g : Nat) ∧ g + n ≤ l.length ∧ 1 ≤ n ∧ gapF false (l.take g) = some false ∧ ((l.drop g).headD 0).toNat ≠ 10 ∧ wrd t = ba ((l.drop g).take n) ∧ places (l.drop (g + n)) (a + g + n) ts
theorem note_split {b : UInt8} {r : List UInt8} (h : b.toNat = 35) : ∃ x : List UInt8, b :: r = 35 :: (x ++ (b :: r).drop (stopN notI (b :: r))) ∧ (∀ c ∈ x, notI c.toNat = true) ∧ (((b :: r).drop (stopN notI (b :: r))).headD 10).toNat = 10 ∧ x.length + 1 = stopN notI (b :: r) := by
  have hb : b = 35 := UInt8.toNat_inj.1 h
  have h1 := note_one (r := r) h
  have hle := stopN_le notI (b :: r)
  obtain ⟨m, hm⟩ : ∃ m, stopN notI (b :: r) = m + 1 := ⟨stopN notI (b :: r) - 1, by omega⟩
  simp only [List.length_cons] at hle
  refine ⟨r.take m, ?_, fun c hc => ?_, ?_, ?_⟩
  · rw [hm, List.drop_succ_cons, List.take_append_drop, hb]
  · obtain ⟨j, hj, rfl⟩ := List.mem_iff_getElem.1 hc
    rw [List.length_take] at hj
    rw [List.getElem_take]
    have := stopN_at (q := notI) (l := b :: r) (i := j + 1) (by simp; omega) (by omega)
    rwa [List.getElem_cons_succ] at this
  · rcases Nat.lt_or_ge (stopN notI (b :: r)) (b :: r).length with h2 | h2
    · have h3 := stopN_end h2
      rw [List.drop_eq_getElem_cons h2]
      show ((b :: r)[stopN notI (b :: r)]).toNat = 10
      simp only [notI, decide_eq_false_iff_not, Decidable.not_not] at h3
      omega
    · rw [List.drop_of_length_le h2]; rfl
  · rw [List.length_take, hm]; omega
end Go.Proofs.Ytmbijfcjfhdnjaa

/- The first wrong thing from the left is told: plain laws. -/
namespace Go.Proofs.Ytmbijfcjfhdnjaa
set_option linter.unusedSimpArgs false
set_option linter.unusedVariables false
open Go.RowKit Go.Lib

theorem sign_cut {l : List UInt8} {k : Int} {w : ByteArray} {o : Int} {n : Nat} (h : signL l = some (k, w, o, n)) (hf : fineL (l.drop n) = false) : ∃ b : UInt8, l.take n = [b] ∧ ∀ r, signL (b :: r) = some (k, w, o, n) := by
  cases l with
  | nil => rw [sign_nil] at h; cases h
  | cons b r =>
    have name_fine : ∀ {L : List UInt8} {m : Nat}, nameL L = some m → fineL (L.drop m) = true := fun {L m} hn => by
      rw [name_some] at hn
      split at hn
      · next hc => injection hn with hn; subst hn; exact hc.2.2
      · cases hn
    by_cases c1 : lttI b.toNat = true
    · exfalso
      unfold signL at h
      by_cases hk : kindL (b :: r) = 0
      · rw [if_pos hk] at h
        simp only [plainL] at h
        rw [if_pos c1] at h
        cases hn : nameL (b :: r) with
        | none => rw [hn] at h; cases h
        | some m =>
          rw [hn] at h
          simp only at h
          split at h
          · simp only [Option.some.injEq, Prod.mk.injEq] at h
            obtain ⟨_, _, _, rfl⟩ := h
            rw [name_fine hn] at hf; cases hf
          · simp only [Option.some.injEq, Prod.mk.injEq] at h
            obtain ⟨_, _, _, rfl⟩ := h
            rw [name_fine hn] at hf; cases hf
      · rw [if_neg hk] at h
        unfold atomL at h
        cases hn : nameL ((b :: r).drop (preW (kindL (b :: r))).size) with
        | none => rw [hn] at h; cases h
        | some m =>
          rw [hn] at h
          simp only [Option.some.injEq, Prod.mk.injEq] at h
          obtain ⟨_, _, _, rfl⟩ := h
          have := name_fine hn
          rw [List.drop_drop] at this
          rw [this] at hf; cases hf
    · have hl : lttI b.toNat = false := by simpa using c1
      rw [sign_nl hl] at h
      have key : ∀ r', signL (b :: r') = plainL (b :: r') := fun r' => sign_nl hl
      simp only [plainL] at h key
      rw [if_neg c1] at h
      simp only [if_neg c1] at key
      by_cases c2 : b.toNat = 68
      · rw [if_pos c2] at h
        by_cases hr : fineL r = true
        · rw [if_pos hr] at h
          simp only [Option.some.injEq, Prod.mk.injEq] at h
          obtain ⟨_, _, _, rfl⟩ := h
          rw [List.drop_succ_cons, List.drop_zero, hr] at hf; cases hf
        · rw [if_neg hr] at h; cases h
      · rw [if_neg c2] at h
        simp only [if_neg c2] at key
        by_cases c3 : b.toNat = 124
        · rw [if_pos c3] at h
          simp only [if_pos c3] at key
          simp only [Option.some.injEq, Prod.mk.injEq] at h
          obtain ⟨rfl, rfl, rfl, rfl⟩ := h
          exact ⟨b, rfl, key⟩
        · rw [if_neg c3] at h
          simp only [if_neg c3] at key
          by_cases c4 : b.toNat = 40
          · rw [if_pos c4] at h
            simp only [if_pos c4] at key
            simp only [Option.some.injEq, Prod.mk.injEq] at h
            obtain ⟨rfl, rfl, rfl, rfl⟩ := h
            exact ⟨b, rfl, key⟩
          · rw [if_neg c4] at h
            simp only [if_neg c4] at key
            by_cases c5 : b.toNat = 41
            · rw [if_pos c5] at h
              simp only [if_pos c5] at key
              simp only [Option.some.injEq, Prod.mk.injEq] at h
              obtain ⟨rfl, rfl, rfl, rfl⟩ := h
              exact ⟨b, rfl, key⟩
            · rw [if_neg c5] at h
              simp only [if_neg c5] at key
              by_cases c6 : digI b.toNat = true
              · rw [if_pos c6] at h
                by_cases hn : numW (ba ((b :: r).take (stopN digI (b :: r)))) = true ∧ fineL ((b :: r).drop (stopN digI (b :: r))) = true
                · rw [if_pos hn] at h
                  simp only [Option.some.injEq, Prod.mk.injEq] at h
                  obtain ⟨_, _, _, rfl⟩ := h
                  rw [hn.2] at hf; cases hf
                · rw [if_neg hn] at h; cases h
              · rw [if_neg c6] at h
                simp only [if_neg c6] at key
                by_cases c7 : sigB b.toNat = true
                · rw [if_pos c7] at h
                  simp only [if_pos c7] at key
                  simp only [Option.some.injEq, Prod.mk.injEq] at h
                  obtain ⟨rfl, rfl, rfl, rfl⟩ := h
                  exact ⟨b, rfl, key⟩
                · rw [if_neg c7] at h; cases h
/-- a token stays, whatever comes behind it, if that may stand there -/
theorem sign_swap {l r : List UInt8} {k : Int} {w : ByteArray} {o : Int} {n : Nat} (h : signL l = some (k, w, o, n)) (hf : fineL (l.drop n) = true → fineL r = true) : signL (l.take n ++ r) = some (k, w, o, n) := by
  by_cases hr : fineL r = true
  · have hb := sign_back h
    obtain ⟨h1, h2, _⟩ := signL_ascii h
    have hs : (wordT k w o).size = n := by rw [hb, ba_len2, List.length_take]; omega
    have hne : wordT k w o ≠ ⟨#[]⟩ := ba_ne (by omega)
    have := sign_word hne hr
    rw [hs, hb, ba_list] at this
    exact this
  · have : fineL (l.drop n) = false := by
      cases hx : fineL (l.drop n) with
      | false => rfl
      | true => exact absurd (hf hx) hr
    obtain ⟨b, h1, h2⟩ := sign_cut h this
    rw [h1]
    exact h2 r
end Go.Proofs.Ytmbijfcjfhdnjaa

/- Expressions: what stands around a text; places don't matter (plain). -/
namespace Go.Proofs.Ytmbijfcjfhdnjaa
set_option linter.unusedSimpArgs false
set_option linter.unusedVariables false
open Go.RowKit Go.Lib

/-- a token without its place -/
def norm (t : Tok) : Tok := ⟨t.kind, t.name, t.of, 0⟩
theorem ctlE_norm {M : Nat} : ∀ (l : List Tok) (i : Nat) (b : Bool) (n : Nat) (az : Bool), ctlE M i b n az (l.map norm) = ctlE M i b n az l
  | [], _, _, _, _ => rfl
  | t :: l, i, b, n, az => by
    simp only [List.map_cons, ctlE]
    have h1 : cstep M b n az (norm t) = cstep M b n az t := rfl
    rw [h1]
    cases cstep M b n az t with
    | none => rfl
    | some x => simp only; exact ctlE_norm l (i + 1) x.1 x.2 _
theorem srun_norm : ∀ (l : List Tok) (s : List Trm × List Int), srun (l.map norm) s = srun l s
  | [], _ => rfl
  | t :: l, s => by
    show srun (l.map norm) (sstep s (norm t)) = srun l (sstep s t)
    have : sstep s (norm t) = sstep s t := rfl
    rw [this]; exact srun_norm l _
theorem readD_norm (l : List Tok) : readD (l.map norm) = readD l := by unfold readD; rw [srun_norm]
theorem readR_norm (l : List Tok) : readR wdB (l.map norm) = readR wdB l := by
  unfold readR
  have h1 : (l.map norm).findIdx? (fun t => !wdB t) = l.findIdx? (fun t => !wdB t) := by
    rw [List.findIdx?_map]; rfl
  rw [h1, ctlE_norm, readD_norm, List.length_map]
theorem norm_core {l m : List Tok} (h : l.map core = m.map core) : l.map norm = m.map norm := by
  have hn : ∀ l : List Tok, l.map norm = (l.map core).map fun c => ⟨c.1, c.2.1, c.2.2, 0⟩ := fun l => by rw [List.map_map]; rfl
  rw [hn, hn, h]
theorem readR_core {l m : List Tok} (h : l.map core = m.map core) : readR wdB l = readR wdB m := by
  rw [← readR_norm l, ← readR_norm m, norm_core h]
/-- what may stand behind a text: nothing, or a new line -/
def nlB (rest : List UInt8) : Prop := rest = [] ∨ ∃ r, rest = 10 :: r
theorem nl_fine {rest : List UInt8} (h : nlB rest) : fineL rest = true := by
  rcases h with rfl | ⟨r, rfl⟩ <;> rfl
theorem scan_ok : ∀ (f : Nat) (l : List UInt8) (a : Nat) (acc : List Tok), l.length ≤ f → (scan l a acc).2.2 = 0 → ∃ ts : List Tok, (scan l a acc).1 = acc ++ ts ∧ ∀ rest, nlB rest → ∀ (a' : Nat) (acc' : List Tok),
    (acc'.length + ts.length ≤ 1000 → ∃ ts' : List Tok, scan (l ++ rest) a' acc' = scan rest (a' + l.length) (acc' ++ ts') ∧ ts'.map core = ts.map core) ∧ (acc'.length ≤ 1000 → 1000 < acc'.length + ts.length → (scan (l ++ rest) a' acc').2.2 = 3)
  | 0, l, a, acc, hl, _ => by
    have : l = [] := List.eq_nil_of_length_eq_zero (by omega)
    subst this
    exact ⟨[], by simp [scan_nil], fun rest _ a' acc' => ⟨fun _ => ⟨[], by simp, rfl⟩, fun h1 h2 => by simp at h2; omega⟩⟩
  | f + 1, [], a, acc, _, _ => ⟨[], by simp [scan_nil], fun rest _ a' acc' => ⟨fun _ => ⟨[], by simp, rfl⟩, fun h1 h2 => by simp at h2; omega⟩⟩
  | f + 1, b :: r, a, acc, hl, h => by
    simp only [List.length_cons] at hl
    rw [scan_cons] at h ⊢
    by_cases c1 : blankB b = true
    · rw [if_pos c1] at h ⊢
      obtain ⟨ts, e1, e2⟩ := scan_ok f r (a + 1) acc (by omega) h
      refine ⟨ts, e1, fun rest hr a' acc' => ?_⟩
      rw [List.cons_append, scan_blank c1, List.length_cons, show a' + (r.length + 1) = a' + 1 + r.length by omega]
      exact e2 rest hr (a' + 1) acc'
    · rw [if_neg c1] at h ⊢
      by_cases c2 : b.toNat = 35
      · rw [if_pos c2] at h ⊢
        obtain ⟨x, n1, n2, n3, n4⟩ := note_split (r := r) c2
        have hn1 := note_one (r := r) c2
        obtain ⟨ts, e1, e2⟩ := scan_ok f ((b :: r).drop (stopN notI (b :: r))) (a + stopN notI (b :: r)) acc (by rw [List.length_drop, List.length_cons]; omega) h
        refine ⟨ts, e1, fun rest hr a' acc' => ?_⟩
        obtain ⟨D, hD⟩ : ∃ D, D = (b :: r).drop (stopN notI (b :: r)) := ⟨_, rfl⟩
        rw [← hD] at n1 n3 e2
        have := e2 rest hr (a' + (1 + x.length)) acc'
        rw [n1, List.cons_append, List.append_assoc, scan_note n2 (D ++ rest) (fun c r2 hc => by
          cases D with
          | nil =>
            rcases hr with rfl | ⟨r3, rfl⟩
            · simp at hc
            · rw [List.nil_append] at hc
              injection hc with hc _
              subst hc; rfl
          | cons d p2 =>
            rw [List.cons_append] at hc
            injection hc with hc _
            subst hc
            have n3' : d.toNat = 10 := n3
            simp [notI, n3'])]
        rw [List.length_cons, List.length_append, show a' + (x.length + D.length + 1) = a' + (1 + x.length) + D.length by omega]
        exact this
      · rw [if_neg c2] at h ⊢
        cases hs : signL (b :: r) with
        | none => rw [hs] at h; cases h
        | some y =>
          obtain ⟨k, w, o, n⟩ := y
          rw [hs] at h
          simp only at h ⊢
          by_cases c3 : acc.length = 1000
          · rw [if_pos c3] at h; cases h
          · rw [if_neg c3] at h ⊢
            obtain ⟨h1, h2, _⟩ := signL_ascii hs
            rw [List.length_cons] at h2
            obtain ⟨ts, e1, e2⟩ := scan_ok f ((b :: r).drop n) (a + n) (acc ++ [⟨k, w, o, a⟩]) (by rw [List.length_drop, List.length_cons]; omega) h
            have hl3 : ((b :: r).take n).length = n := by rw [List.length_take, List.length_cons]; omega
            have hbr : (b :: r).take n ++ (b :: r).drop n = b :: r := List.take_append_drop _ _
            refine ⟨⟨k, w, o, a⟩ :: ts, by rw [e1, List.append_assoc]; rfl, fun rest hr a' acc' => ?_⟩
            have hfin : fineL ((b :: r).drop n) = true → fineL ((b :: r).drop n ++ rest) = true := fun hf => by
              cases hd : (b :: r).drop n with
              | nil => exact nl_fine hr
              | cons d p2 => rw [hd] at hf; exact hf
            have hsw : signL (b :: r ++ rest) = some (k, w, o, n) := by
              have := sign_swap (r := (b :: r).drop n ++ rest) hs hfin
              rwa [← List.append_assoc, hbr] at this
            have hd : (b :: r ++ rest).drop n = (b :: r).drop n ++ rest := by
              rw [List.drop_append_of_le_length (by rw [List.length_cons]; omega)]
            have hlen2 : ((b :: r).drop n).length + n = (b :: r).length := by rw [List.length_drop, List.length_cons]; omega
            rcases Nat.lt_or_ge acc'.length 1000 with hlt | hge
            · rw [scan_tok hsw a' acc' hlt, hd]
              obtain ⟨q1, q2⟩ := e2 rest hr (a' + n) (acc' ++ [⟨k, w, o, a'⟩])
              rw [List.length_append, List.length_singleton] at q1 q2
              rw [List.length_cons]
              refine ⟨fun hz => ?_, fun _ hz => q2 (by omega) (by omega)⟩
              obtain ⟨ts', g1, g2⟩ := q1 (by omega)
              refine ⟨⟨k, w, o, a'⟩ :: ts', ?_, by simp only [List.map_cons, g2, core]⟩
              rw [g1, List.append_assoc, show a' + n + ((b :: r).drop n).length = a' + (b :: r).length by omega]
              rfl
            · rw [List.length_cons]
              refine ⟨fun hz => by omega, fun hz _ => ?_⟩
              have h1000 : acc'.length = 1000 := by omega
              rw [List.cons_append, scan_cons, if_neg c1, if_neg c2]
              have hsw' : signL (b :: (r ++ rest)) = some (k, w, o, n) := hsw
              rw [hsw']
              simp only
              rw [if_pos h1000]
end Go.Proofs.Ytmbijfcjfhdnjaa

/- ExprOpen. -/
-- fast
namespace Go.Proofs.Ytmbijfcjfhdnjaa
set_option linter.unusedSimpArgs false
set_option linter.unusedVariables false
open Go.RowKit Go.Lib

theorem allT_ext {s : ByteArray} (h : (allT s).2.2 = 0) : s.size ≤ 4000 ∧ ∀ rest, nlB rest → ∀ (a' : Nat) (acc' : List Tok),
    (acc'.length + (allT s).1.length ≤ 1000 → ∃ ts' : List Tok, scan (s.data.toList ++ rest) a' acc' = scan rest (a' + s.size) (acc' ++ ts') ∧ ts'.map core = (allT s).1.map core) ∧ (acc'.length ≤ 1000 → 1000 < acc'.length + (allT s).1.length → (scan (s.data.toList ++ rest) a' acc').2.2 = 3) := by
  have hl := len_size s
  unfold allT at h ⊢
  by_cases hs : 4000 < s.size
  · rw [if_pos hs] at h; cases h
  rw [if_neg hs] at h ⊢
  obtain ⟨ts, e1, e2⟩ := scan_ok s.data.toList.length s.data.toList 0 [] (Nat.le_refl _) h
  rw [List.nil_append] at e1
  rw [e1, ← hl]
  exact ⟨by omega, e2⟩
theorem sign_41 (r : List UInt8) : signL (41 :: r) = some (7, ba [], 0, 1) := by rw [sign_nl rfl]; rfl
theorem sign_40 (r : List UInt8) : signL (40 :: r) = some (6, ba [], 0, 1) := by rw [sign_nl rfl]; rfl
theorem scan_close (a : Nat) (acc : List Tok) : scan [10, 41] a acc = if acc.length = 1000 then ([], a + 1, 3) else (acc ++ [⟨7, ba [], 0, (a + 1 : Nat)⟩], 0, 0) := by
  rw [scan_blank rfl, scan_cons, if_neg (by decide), if_neg (by decide), sign_41]
  simp only
  by_cases h : acc.length = 1000
  · rw [if_pos h, if_pos h]
  · rw [if_neg h, if_neg h]; rfl
theorem scan_open (l : List UInt8) : scan (40 :: l) 0 [] = scan l 1 [⟨6, ba [], 0, 0⟩] := by
  rw [scan_cons, if_neg (by decide), if_neg (by decide), sign_40]
  rfl
theorem allT_close {s : ByteArray} (h : (allT s).2.2 = 0) (hs : s.size ≤ 3000) : (allT (s ++ ⟨#[10, 41]⟩)).2.2 = 3 ∨ ∃ L : List Tok, L.map core = (allT s).1.map core ∧ allT (s ++ ⟨#[10, 41]⟩) = (L ++ [⟨7, ba [], 0, (s.size + 1 : Nat)⟩], 0, 0) := by
  obtain ⟨_, e⟩ := allT_ext h
  have hd : (s ++ ⟨#[10, 41]⟩ : ByteArray).data.toList = s.data.toList ++ [10, 41] := by rw [ByteArray.data_append, Array.toList_append]
  have hz : (s ++ ⟨#[10, 41]⟩ : ByteArray).size = s.size + 2 := by rw [ByteArray.size_append]; rfl
  obtain ⟨q1, q2⟩ := e [10, 41] (.inr ⟨_, rfl⟩) 0 []
  have hA : allT (s ++ ⟨#[10, 41]⟩) = scan (s.data.toList ++ [10, 41]) 0 [] := by
    conv => lhs; unfold allT
    rw [hz, if_neg (by omega), hd]
  rw [hA]
  rcases Nat.lt_or_ge 1000 (allT s).1.length with hb | hb
  · exact .inl (q2 (by simp) (by simp; omega))
  · obtain ⟨L, g1, g2⟩ := q1 (by simp; omega)
    rw [g1, List.nil_append, Nat.zero_add, scan_close]
    by_cases h1 : L.length = 1000
    · rw [if_pos h1]; exact .inl rfl
    · rw [if_neg h1]; exact .inr ⟨L, g2, rfl⟩
theorem allT_open {s : ByteArray} (h : (allT s).2.2 = 0) (hs : s.size ≤ 3000) : (allT (⟨#[40]⟩ ++ s)).2.2 = 3 ∨ ∃ L : List Tok, L.map core = (allT s).1.map core ∧ allT (⟨#[40]⟩ ++ s) = (⟨6, ba [], 0, 0⟩ :: L, 0, 0) := by
  obtain ⟨_, e⟩ := allT_ext h
  have hd : (⟨#[40]⟩ ++ s : ByteArray).data.toList = 40 :: s.data.toList := by rw [ByteArray.data_append, Array.toList_append]; rfl
  have hz : (⟨#[40]⟩ ++ s : ByteArray).size = 1 + s.size := by rw [ByteArray.size_append]; rfl
  obtain ⟨q1, q2⟩ := e [] (.inl rfl) 1 [⟨6, ba [], 0, 0⟩]
  rw [List.append_nil] at q1 q2
  have hA : allT (⟨#[40]⟩ ++ s) = scan s.data.toList 1 [⟨6, ba [], 0, 0⟩] := by
    conv => lhs; unfold allT
    rw [hz, if_neg (by omega), hd, scan_open]
  rw [hA]
  rcases Nat.lt_or_ge 1000 ((allT s).1.length + 1) with hb | hb
  · exact .inl (q2 (by simp) (by simp; omega))
  · obtain ⟨L, g1, g2⟩ := q1 (by simp; omega)
    rw [g1, scan_nil]
    exact .inr ⟨L, g2, rfl⟩
theorem allT_around {s : ByteArray} (h : (allT s).2.2 = 0) (hs : s.size ≤ 3000) : (allT (⟨#[40]⟩ ++ s ++ ⟨#[10, 41]⟩)).2.2 = 3 ∨ ∃ (L : List Tok) (p : Int), L.map core = (allT s).1.map core ∧ allT (⟨#[40]⟩ ++ s ++ ⟨#[10, 41]⟩) = (⟨6, ba [], 0, 0⟩ :: (L ++ [⟨7, ba [], 0, p⟩]), 0, 0) := by
  obtain ⟨_, e⟩ := allT_ext h
  have hd : (⟨#[40]⟩ ++ s ++ ⟨#[10, 41]⟩ : ByteArray).data.toList = 40 :: (s.data.toList ++ [10, 41]) := by rw [ByteArray.data_append, Array.toList_append, ByteArray.data_append, Array.toList_append]; rfl
  have hz : (⟨#[40]⟩ ++ s ++ ⟨#[10, 41]⟩ : ByteArray).size = 1 + s.size + 2 := by rw [ByteArray.size_append, ByteArray.size_append]; rfl
  obtain ⟨q1, q2⟩ := e [10, 41] (.inr ⟨_, rfl⟩) 1 [⟨6, ba [], 0, 0⟩]
  have hA : allT (⟨#[40]⟩ ++ s ++ ⟨#[10, 41]⟩) = scan (s.data.toList ++ [10, 41]) 1 [⟨6, ba [], 0, 0⟩] := by
    conv => lhs; unfold allT
    rw [hz, if_neg (by omega), hd, scan_open]
  rw [hA]
  rcases Nat.lt_or_ge 1000 ((allT s).1.length + 1) with hb | hb
  · exact .inl (q2 (by simp) (by simp; omega))
  · obtain ⟨L, g1, g2⟩ := q1 (by simp; omega)
    rw [g1, scan_close]
    split
    · exact .inl rfl
    · exact .inr ⟨L, _, g2, rfl⟩
theorem parse_ok {s : ByteArray} (h : (parseR s).2.2 = 0) : (allT s).2.2 = 0 ∧ (readR wdB (allT s).1).2.2 = 0 ∧ parseR s = ((readR wdB (allT s).1).1, 0, 0) := by
  unfold parseR at h ⊢
  by_cases h1 : (allT s).2.2 = 0
  · rw [if_neg (fun h => h h1)] at h ⊢
    by_cases h2 : (readR wdB (allT s).1).2.2 = 0
    · rw [if_pos h2] at h ⊢
      exact ⟨h1, h2, rfl⟩
    · rw [if_neg h2] at h
      exfalso
      split at h
      · exact h2 h
      · split at h
        · cases h
        · exact h2 h
  · rw [if_pos h1] at h
    exact absurd h h1
theorem parse_err {s : ByteArray} (h : (allT s).2.2 = 3) : (parseR s).2.2 = 3 := by
  unfold parseR
  rw [if_pos (by rw [h]; decide)]
  exact h
theorem wd7 (p : Int) : wdB ⟨7, ba [], 0, p⟩ = true := by rfl
theorem wd6 (p : Int) : wdB ⟨6, ba [], 0, p⟩ = true := by rfl
theorem parse_close {s : ByteArray} (h : (parseR s).2.2 = 0) (hs : s.size ≤ 3000) : (parseR (s ++ ⟨#[10, 41]⟩)).2.2 = 3 ∨ parseR (s ++ ⟨#[10, 41]⟩) = ([], (s.size : Int) + 1, 2) := by
  obtain ⟨h1, h2, _⟩ := parse_ok h
  rcases allT_close h1 hs with h3 | ⟨L, g1, g2⟩
  · exact .inl (parse_err h3)
  · right
    have h4 : (readR wdB L).2.2 = 0 := by rw [readR_core g1]; exact h2
    have h5 := readR_close (c := ⟨7, ba [], 0, (s.size + 1 : Nat)⟩) h4 rfl (wd7 _)
    unfold parseR
    rw [g2]
    simp only
    rw [if_neg (by simp), h5, if_neg (by simp)]
    simp only [List.getElem?_append_right (Nat.le_refl _), Nat.sub_self, List.getElem?_cons_zero]
    rfl
theorem parse_open {s : ByteArray} (h : (parseR s).2.2 = 0) (hs : s.size ≤ 3000) : (parseR (⟨#[40]⟩ ++ s)).2.2 = 3 ∨ parseR (⟨#[40]⟩ ++ s) = ([], (s.size : Int) + 1, 2) := by
  obtain ⟨h1, h2, _⟩ := parse_ok h
  rcases allT_open h1 hs with h3 | ⟨L, g1, g2⟩
  · exact .inl (parse_err h3)
  · have h4 : (readR wdB L).2.2 = 0 := by rw [readR_core g1]; exact h2
    have hz : (⟨#[40]⟩ ++ s : ByteArray).size = 1 + s.size := by rw [ByteArray.size_append]; rfl
    unfold parseR
    rw [g2]
    simp only
    rw [if_neg (by simp)]
    rcases readR_open (o := ⟨6, ba [], 0, 0⟩) h4 rfl (wd6 _) with h5 | h5
    · right
      rw [h5, if_neg (by simp)]
      simp only
      rw [List.getElem?_eq_none (by simp)]
      simp only
      rw [if_neg (by decide), hz]
      simp only [Prod.mk.injEq, true_and, and_true]
      omega
    · left
      rw [if_neg (by rw [h5]; decide)]
      split
      · exact h5
      · rw [if_pos h5]
theorem parse_around {s : ByteArray} (h : (parseR s).2.2 = 0) (hs : s.size ≤ 3000) : (parseR (⟨#[40]⟩ ++ s ++ ⟨#[10, 41]⟩)).2.2 = 3 ∨ parseR (⟨#[40]⟩ ++ s ++ ⟨#[10, 41]⟩) = parseR s := by
  obtain ⟨h1, h2, h3⟩ := parse_ok h
  rcases allT_around h1 hs with h3 | ⟨L, p, g1, g2⟩
  · exact .inl (parse_err h3)
  · have h4 : (readR wdB L).2.2 = 0 := by rw [readR_core g1]; exact h2
    rw [h3]
    unfold parseR
    rw [g2]
    simp only
    rw [if_neg (by simp)]
    rcases readR_around (o := ⟨6, ba [], 0, 0⟩) (c := ⟨7, ba [], 0, p⟩) h4 rfl rfl (wd6 _) (wd7 _) with h5 | h5
    · right
      rw [h5, if_pos h4, readR_core g1]
    · left
      rw [if_neg (by rw [h5]; decide)]
      split
      · exact h5
      · rw [if_pos h5]
set_option maxRecDepth 100000 in
set_option maxHeartbeats 4000000 in
theorem p_exopen (s : ByteArray) : PCalls Try.prog 11 [.str s] (.bool true) := by
  have c1 : (⟨#[40]⟩ : ByteArray).size = 1 := rfl
  have c2 : (⟨#[10, 41]⟩ : ByteArray).size = 2 := rfl
  refine pcalls_of (by first | rfl | simp [free, free.frees, frees_str, frees_u8, frees_u16]) (by first | rfl | simp [free, free.frees, frees_str, frees_u8, frees_u16]) (acalls_of mixed J_law05_ExprOpen_ok (Nat.le_of_ble_eq_true rfl) ?_); simp only [J_law05_ExprOpen, wk,if_true,if_false,forall_const,implies_true,ne_eq,eq_self,Nat.reduceEqDiff,Nat.reduceAdd,Nat.reduceMul,Nat.reduceSub,Nat.reduceLeDiff,Nat.reduceLT,Int.reduceEq,Int.reduceLT,Int.reduceLE,Int.reduceAdd,Int.reduceSub,Int.reduceMul,Int.reduceNeg,Int.reduceNe,reduceCtorEq,Int.reduceToNat,↓reduceIte]
  refine PCalls.use (p_awake05) ?_; simp only [wk,if_true,if_false,forall_const,implies_true,ne_eq,eq_self,Nat.reduceEqDiff,Nat.reduceAdd,Nat.reduceMul,Nat.reduceSub,Nat.reduceLeDiff,Nat.reduceLT,Int.reduceEq,Int.reduceLT,Int.reduceLE,Int.reduceAdd,Int.reduceSub,Int.reduceMul,Int.reduceNeg,Int.reduceNe,reduceCtorEq,Int.reduceToNat,↓reduceIte]
  intro hs
  have q1 := p_parse s (by omega)
  have q2 := p_parse (⟨#[40]⟩ ++ s ++ ⟨#[10, 41]⟩) (by simp only [ByteArray.size_append]; omega)
  have q3 := p_parse (s ++ ⟨#[10, 41]⟩) (by simp only [ByteArray.size_append]; omega)
  have q4 := p_parse (⟨#[40]⟩ ++ s) (by simp only [ByteArray.size_append]; omega)
  have e2 := fun h => parse_around (s := s) h (by omega)
  have e3 := fun h => parse_close (s := s) h (by omega)
  have e4 := fun h => parse_open (s := s) h (by omega)
  have hl := parseR_len s
  have hl2 := parseR_len (⟨#[40]⟩ ++ s ++ ⟨#[10, 41]⟩)
  obtain ⟨R, hR⟩ : ∃ R, R = parseR s := ⟨_, rfl⟩
  obtain ⟨R2, hR2⟩ : ∃ R, R = parseR (⟨#[40]⟩ ++ s ++ ⟨#[10, 41]⟩) := ⟨_, rfl⟩
  obtain ⟨R3, hR3⟩ : ∃ R, R = parseR (s ++ ⟨#[10, 41]⟩) := ⟨_, rfl⟩
  obtain ⟨R4, hR4⟩ : ∃ R, R = parseR (⟨#[40]⟩ ++ s) := ⟨_, rfl⟩
  rw [← hR, ← hR2] at e2
  rw [← hR, ← hR3] at e3
  rw [← hR, ← hR4] at e4
  rw [← hR] at q1 hl
  rw [← hR2] at q2 hl2
  rw [← hR3] at q3
  rw [← hR4] at q4
  have q5 := p_samex R.1 R2.1 (by omega) (by omega)
  simp only [resI, vTrs] at q1 q2 q3 q4 q5
  refine PCalls.use (q1) ?_; simp only [wk,if_true,if_false,forall_const,implies_true,ne_eq,eq_self,Nat.reduceEqDiff,Nat.reduceAdd,Nat.reduceMul,Nat.reduceSub,Nat.reduceLeDiff,Nat.reduceLT,Int.reduceEq,Int.reduceLT,Int.reduceLE,Int.reduceAdd,Int.reduceSub,Int.reduceMul,Int.reduceNeg,Int.reduceNe,reduceCtorEq,Int.reduceToNat,↓reduceIte]
  intro h0
  have e2 := e2 h0
  have e3 := e3 h0
  have e4 := e4 h0
  have c3 : (⟨#[40]⟩ ++ s : ByteArray).size = 1 + s.size := by rw [ByteArray.size_append, c1]
  refine ⟨by omega, by omega, ?_⟩
  refine PCalls.use (q2) ?_; simp only [wk,if_true,if_false,forall_const,implies_true,ne_eq,eq_self,Nat.reduceEqDiff,Nat.reduceAdd,Nat.reduceMul,Nat.reduceSub,Nat.reduceLeDiff,Nat.reduceLT,Int.reduceEq,Int.reduceLT,Int.reduceLE,Int.reduceAdd,Int.reduceSub,Int.reduceMul,Int.reduceNeg,Int.reduceNe,reduceCtorEq,Int.reduceToNat,↓reduceIte]
  refine ⟨by omega, ?_⟩
  refine PCalls.use (q3) ?_; simp only [wk,if_true,if_false,forall_const,implies_true,ne_eq,eq_self,Nat.reduceEqDiff,Nat.reduceAdd,Nat.reduceMul,Nat.reduceSub,Nat.reduceLeDiff,Nat.reduceLT,Int.reduceEq,Int.reduceLT,Int.reduceLE,Int.reduceAdd,Int.reduceSub,Int.reduceMul,Int.reduceNeg,Int.reduceNe,reduceCtorEq,Int.reduceToNat,↓reduceIte]
  refine ⟨by omega, ?_⟩
  refine PCalls.use (q4) ?_; simp only [wk,if_true,if_false,forall_const,implies_true,ne_eq,eq_self,Nat.reduceEqDiff,Nat.reduceAdd,Nat.reduceMul,Nat.reduceSub,Nat.reduceLeDiff,Nat.reduceLT,Int.reduceEq,Int.reduceLT,Int.reduceLE,Int.reduceAdd,Int.reduceSub,Int.reduceMul,Int.reduceNeg,Int.reduceNe,reduceCtorEq,Int.reduceToNat,↓reduceIte]
  by_cases k2 : R2.2.2 = 3
  · simp only [wk,if_true,if_false,forall_const,implies_true,ne_eq,eq_self,Nat.reduceEqDiff,Nat.reduceAdd,Nat.reduceMul,Nat.reduceSub,Nat.reduceLeDiff,Nat.reduceLT,Int.reduceEq,Int.reduceLT,Int.reduceLE,Int.reduceAdd,Int.reduceSub,Int.reduceMul,Int.reduceNeg,Int.reduceNe,reduceCtorEq,Int.reduceToNat,↓reduceIte, k2]
  · by_cases k3 : R3.2.2 = 3
    · simp only [wk,if_true,if_false,forall_const,implies_true,ne_eq,eq_self,Nat.reduceEqDiff,Nat.reduceAdd,Nat.reduceMul,Nat.reduceSub,Nat.reduceLeDiff,Nat.reduceLT,Int.reduceEq,Int.reduceLT,Int.reduceLE,Int.reduceAdd,Int.reduceSub,Int.reduceMul,Int.reduceNeg,Int.reduceNe,reduceCtorEq,Int.reduceToNat,↓reduceIte, k3]
    · by_cases k4 : R4.2.2 = 3
      · simp only [wk,if_true,if_false,forall_const,implies_true,ne_eq,eq_self,Nat.reduceEqDiff,Nat.reduceAdd,Nat.reduceMul,Nat.reduceSub,Nat.reduceLeDiff,Nat.reduceLT,Int.reduceEq,Int.reduceLT,Int.reduceLE,Int.reduceAdd,Int.reduceSub,Int.reduceMul,Int.reduceNeg,Int.reduceNe,reduceCtorEq,Int.reduceToNat,↓reduceIte, k4]
      · have e2 := e2.resolve_left k2
        have e3 := e3.resolve_left k3
        have e4 := e4.resolve_left k4
        rw [e2, decide_eq_true rfl] at q5
        simp only [wk,if_true,if_false,forall_const,implies_true,ne_eq,eq_self,Nat.reduceEqDiff,Nat.reduceAdd,Nat.reduceMul,Nat.reduceSub,Nat.reduceLeDiff,Nat.reduceLT,Int.reduceEq,Int.reduceLT,Int.reduceLE,Int.reduceAdd,Int.reduceSub,Int.reduceMul,Int.reduceNeg,Int.reduceNe,reduceCtorEq,Int.reduceToNat,↓reduceIte, e2, e3, e4, h0, (show ((0 : Int) = 3) = False by simp), (show ((2 : Int) = 3) = False by simp)]
        refine PCalls.use (q5) ?_; simp only [wk,if_true,if_false,forall_const,implies_true,ne_eq,eq_self,Nat.reduceEqDiff,Nat.reduceAdd,Nat.reduceMul,Nat.reduceSub,Nat.reduceLeDiff,Nat.reduceLT,Int.reduceEq,Int.reduceLT,Int.reduceLE,Int.reduceAdd,Int.reduceSub,Int.reduceMul,Int.reduceNeg,Int.reduceNe,reduceCtorEq,Int.reduceToNat,↓reduceIte]
        exact inR_of (by omega) (by omega)
end Go.Proofs.Ytmbijfcjfhdnjaa

/- ExprJoins. -/
-- fast
namespace Go.Proofs.Ytmbijfcjfhdnjaa
set_option linter.unusedSimpArgs false
set_option linter.unusedVariables false
open Go.RowKit Go.Lib

theorem tree_app {x y : List Trm} {a b : Xp} (hx : treeT x = some a) (hy : treeT y = some b) (hl : x.length + y.length < 200) : treeT (x ++ y) = none ∧ ∀ k, 0 < bindK k → treeT (x ++ y ++ [sgn k]) = if k = 5 ∧ b.role = false then none else some (.op k a b) := by
  obtain ⟨_, oa, rfl⟩ := tree_post hx
  obtain ⟨_, ob, rfl⟩ := tree_post hy
  have h1 : ∀ r, runX wrT (a.post ++ b.post ++ r) [] = runX wrT r [b, a] := fun r => by
    rw [List.append_assoc, runX_post a _ _ oa, runX_post b _ _ ob]
  refine ⟨?_, fun k hk => ?_⟩
  · unfold treeT treeX
    have := h1 []
    rw [List.append_nil] at this
    rw [this]
    split <;> rfl
  · unfold treeT treeX
    rw [h1, if_pos (by simp; omega)]
    have hk1 := (bind_ne hk).1
    simp only [runX, stepX]
    rw [if_neg (show ¬ (sgn k).op = 1 from hk1), if_pos (show 0 < bindK (sgn k).op ∧ (sgn k).of = 0 ∧ (sgn k).name = ⟨#[]⟩ from ⟨hk, rfl, rfl⟩)]
    show (match (match (if k = 5 ∧ b.role = false then none else some [Xp.op k a b]) with | none => none | some st => some st) with | some [e] => some e | _ => none) = _
    by_cases h5 : k = 5 ∧ b.role = false
    · rw [if_pos h5, if_pos h5]
    · rw [if_neg h5, if_neg h5]
theorem tree_role {y : List Trm} {b : Xp} (hy : treeT y = some b) : (b.role = true ↔ ∃ t, y = [t] ∧ t.of = 5) := by
  obtain ⟨_, ob, rfl⟩ := tree_post hy
  rw [role_iff]
  constructor
  · rintro ⟨t, rfl, h⟩; exact ⟨t, rfl, h⟩
  · rintro ⟨t, h1, h2⟩
    cases b with
    | atm u => simp only [Xp.post, List.cons.injEq, and_true] at h1; subst h1; exact ⟨u, rfl, h2⟩
    | op k a c =>
      have := congrArg List.length h1
      have ha := toks_len 0 a
      have hc := toks_len 0 c
      simp only [Xp.post, List.length_append, List.length_singleton] at this
      omega
theorem deepX_some {x : List Trm} {e : Xp} (h : treeT x = some e) : deepX x = e.deep := by unfold deepX; rw [h]
theorem deepX_none {x : List Trm} (h : treeT x = none) : deepX x = 0 := by unfold deepX; rw [h]
set_option maxRecDepth 100000 in
set_option maxHeartbeats 8000000 in
theorem p_exjoins (x y : List Trm) (s : Int) (hlx : x.length ≤ 9223372036854775807) (hly : y.length ≤ 9223372036854775807) (hs : 0 ≤ s ∧ s ≤ 255) : PCalls Try.prog 10 [vTrs x, vTrs y, .int .u8 s] (.bool true) := by
  have g1 := p_largex x hlx
  have g2 := p_largex y hly
  simp only [vTrs] at g1 g2
  refine pcalls_of (by simp [vTrs, free, free.frees, frees_trs]) rfl (acalls_of mixed J_law05_ExprJoins_ok (Nat.le_of_ble_eq_true rfl) ?_); simp only [J_law05_ExprJoins, vTrs, wk,if_true,if_false,forall_const,implies_true,ne_eq,eq_self,Nat.reduceEqDiff,Nat.reduceAdd,Nat.reduceMul,Nat.reduceSub,Nat.reduceLeDiff,Nat.reduceLT,Int.reduceEq,Int.reduceLT,Int.reduceLE,Int.reduceAdd,Int.reduceSub,Int.reduceMul,Int.reduceNeg,Int.reduceNe,reduceCtorEq,Int.reduceToNat,↓reduceIte]
  refine PCalls.use (p_awake05) ?_; simp only [wk,if_true,if_false,forall_const,implies_true,ne_eq,eq_self,Nat.reduceEqDiff,Nat.reduceAdd,Nat.reduceMul,Nat.reduceSub,Nat.reduceLeDiff,Nat.reduceLT,Int.reduceEq,Int.reduceLT,Int.reduceLE,Int.reduceAdd,Int.reduceSub,Int.reduceMul,Int.reduceNeg,Int.reduceNe,reduceCtorEq,Int.reduceToNat,↓reduceIte]
  refine PCalls.use (g1) ?_; simp only [wk,if_true,if_false,forall_const,implies_true,ne_eq,eq_self,Nat.reduceEqDiff,Nat.reduceAdd,Nat.reduceMul,Nat.reduceSub,Nat.reduceLeDiff,Nat.reduceLT,Int.reduceEq,Int.reduceLT,Int.reduceLE,Int.reduceAdd,Int.reduceSub,Int.reduceMul,Int.reduceNeg,Int.reduceNe,reduceCtorEq,Int.reduceToNat,↓reduceIte]
  by_cases l1 : largeX x = true
  · simp only [wk,if_true,if_false,forall_const,implies_true,ne_eq,eq_self,Nat.reduceEqDiff,Nat.reduceAdd,Nat.reduceMul,Nat.reduceSub,Nat.reduceLeDiff,Nat.reduceLT,Int.reduceEq,Int.reduceLT,Int.reduceLE,Int.reduceAdd,Int.reduceSub,Int.reduceMul,Int.reduceNeg,Int.reduceNe,reduceCtorEq,Int.reduceToNat,↓reduceIte, l1]
  · have l1 : largeX x = false := by simpa using l1
    simp only [wk,if_true,if_false,forall_const,implies_true,ne_eq,eq_self,Nat.reduceEqDiff,Nat.reduceAdd,Nat.reduceMul,Nat.reduceSub,Nat.reduceLeDiff,Nat.reduceLT,Int.reduceEq,Int.reduceLT,Int.reduceLE,Int.reduceAdd,Int.reduceSub,Int.reduceMul,Int.reduceNeg,Int.reduceNe,reduceCtorEq,Int.reduceToNat,↓reduceIte, l1]
    refine PCalls.use (g2) ?_; simp only [wk,if_true,if_false,forall_const,implies_true,ne_eq,eq_self,Nat.reduceEqDiff,Nat.reduceAdd,Nat.reduceMul,Nat.reduceSub,Nat.reduceLeDiff,Nat.reduceLT,Int.reduceEq,Int.reduceLT,Int.reduceLE,Int.reduceAdd,Int.reduceSub,Int.reduceMul,Int.reduceNeg,Int.reduceNe,reduceCtorEq,Int.reduceToNat,↓reduceIte]
    by_cases l2 : largeX y = true
    · simp only [wk,if_true,if_false,forall_const,implies_true,ne_eq,eq_self,Nat.reduceEqDiff,Nat.reduceAdd,Nat.reduceMul,Nat.reduceSub,Nat.reduceLeDiff,Nat.reduceLT,Int.reduceEq,Int.reduceLT,Int.reduceLE,Int.reduceAdd,Int.reduceSub,Int.reduceMul,Int.reduceNeg,Int.reduceNe,reduceCtorEq,Int.reduceToNat,↓reduceIte, l2]
    · have l2 : largeX y = false := by simpa using l2
      obtain ⟨hx, hnx0⟩ := largeX_no l1
      obtain ⟨hy, hny0⟩ := largeX_no l2
      have hnx : ∀ t ∈ x, t.name.size ≤ 1000000 := fun t ht => by have := hnx0 t ht; omega
      have hny : ∀ t ∈ y, t.name.size ≤ 1000000 := fun t ht => by have := hny0 t ht; omega
      have m1 := p_may x hlx hnx
      have m2 := p_may y hly hny
      simp only [vTrs] at m1 m2
      simp only [wk,if_true,if_false,forall_const,implies_true,ne_eq,eq_self,Nat.reduceEqDiff,Nat.reduceAdd,Nat.reduceMul,Nat.reduceSub,Nat.reduceLeDiff,Nat.reduceLT,Int.reduceEq,Int.reduceLT,Int.reduceLE,Int.reduceAdd,Int.reduceSub,Int.reduceMul,Int.reduceNeg,Int.reduceNe,reduceCtorEq,Int.reduceToNat,↓reduceIte, l2]
      refine PCalls.use (m1) ?_; simp only [wk,if_true,if_false,forall_const,implies_true,ne_eq,eq_self,Nat.reduceEqDiff,Nat.reduceAdd,Nat.reduceMul,Nat.reduceSub,Nat.reduceLeDiff,Nat.reduceLT,Int.reduceEq,Int.reduceLT,Int.reduceLE,Int.reduceAdd,Int.reduceSub,Int.reduceMul,Int.reduceNeg,Int.reduceNe,reduceCtorEq,Int.reduceToNat,↓reduceIte]
      cases t1 : treeT x with
      | none => simp only [wk,if_true,if_false,forall_const,implies_true,ne_eq,eq_self,Nat.reduceEqDiff,Nat.reduceAdd,Nat.reduceMul,Nat.reduceSub,Nat.reduceLeDiff,Nat.reduceLT,Int.reduceEq,Int.reduceLT,Int.reduceLE,Int.reduceAdd,Int.reduceSub,Int.reduceMul,Int.reduceNeg,Int.reduceNe,reduceCtorEq,Int.reduceToNat,↓reduceIte, Option.isSome_none]
      | some a =>
        simp only [wk,if_true,if_false,forall_const,implies_true,ne_eq,eq_self,Nat.reduceEqDiff,Nat.reduceAdd,Nat.reduceMul,Nat.reduceSub,Nat.reduceLeDiff,Nat.reduceLT,Int.reduceEq,Int.reduceLT,Int.reduceLE,Int.reduceAdd,Int.reduceSub,Int.reduceMul,Int.reduceNeg,Int.reduceNe,reduceCtorEq,Int.reduceToNat,↓reduceIte, Option.isSome_some]
        refine PCalls.use (m2) ?_; simp only [wk,if_true,if_false,forall_const,implies_true,ne_eq,eq_self,Nat.reduceEqDiff,Nat.reduceAdd,Nat.reduceMul,Nat.reduceSub,Nat.reduceLeDiff,Nat.reduceLT,Int.reduceEq,Int.reduceLT,Int.reduceLE,Int.reduceAdd,Int.reduceSub,Int.reduceMul,Int.reduceNeg,Int.reduceNe,reduceCtorEq,Int.reduceToNat,↓reduceIte]
        cases t2 : treeT y with
        | none => simp only [wk,if_true,if_false,forall_const,implies_true,ne_eq,eq_self,Nat.reduceEqDiff,Nat.reduceAdd,Nat.reduceMul,Nat.reduceSub,Nat.reduceLeDiff,Nat.reduceLT,Int.reduceEq,Int.reduceLT,Int.reduceLE,Int.reduceAdd,Int.reduceSub,Int.reduceMul,Int.reduceNeg,Int.reduceNe,reduceCtorEq,Int.reduceToNat,↓reduceIte, Option.isSome_none]
        | some b =>
          simp only [wk,if_true,if_false,forall_const,implies_true,ne_eq,eq_self,Nat.reduceEqDiff,Nat.reduceAdd,Nat.reduceMul,Nat.reduceSub,Nat.reduceLeDiff,Nat.reduceLT,Int.reduceEq,Int.reduceLT,Int.reduceLE,Int.reduceAdd,Int.reduceSub,Int.reduceMul,Int.reduceNeg,Int.reduceNe,reduceCtorEq,Int.reduceToNat,↓reduceIte, Option.isSome_some]
          refine ⟨inR_of (by omega) (by omega), fun h200 => ?_⟩
          have hsum : x.length + y.length < 200 := by omega
          obtain ⟨e1, e2⟩ := tree_app t1 t2 hsum
          have hro := tree_role t2
          have hz : (x ++ y).length = x.length + y.length := List.length_append
          have nz : ∀ t ∈ x ++ y, t.name.size ≤ 1000000 := fun t ht => by
            rcases List.mem_append.1 ht with h | h
            · exact hnx t h
            · exact hny t h
          have m3 := p_may (x ++ y) (by omega) nz
          simp only [vTrs, e1, Option.isSome_none, hz, trsC_app] at m3
          have nz4 : ∀ k, ∀ t ∈ x ++ y ++ [sgn k], t.name.size ≤ 1000000 := fun k t ht => by
            rcases List.mem_append.1 ht with h | h
            · exact nz t h
            · simp only [List.mem_singleton] at h; subst h; show (⟨#[]⟩ : ByteArray).size ≤ _; decide
          have m4 := fun k => p_may (x ++ y ++ [sgn k]) (by simp; omega) (nz4 k)
          have d4 := fun k => p_deep (x ++ y ++ [sgn k]) (by simp; omega) (nz4 k)
          have hz4 : ∀ k, (x ++ y ++ [sgn k]).length = x.length + y.length + 1 := fun k => by simp; omega
          have hc4 : ∀ k, trsC (x ++ y ++ [sgn k]) = trsC x ++ trsC y ++ [.int .i64 k, .int .i64 0, .str ⟨#[]⟩] := fun k => by rw [trsC_app, trsC_app]; rfl
          have dx := p_deep x hlx hnx
          have dy := p_deep y hly hny
          rw [deepX_some t1] at dx
          rw [deepX_some t2] at dy
          have pa : a.deep ≤ 200 := by have := deep_le a; have := (tree_post t1).2.2; have h3 := congrArg List.length this; omega
          have pb : b.deep ≤ 200 := by have := deep_le b; have := (tree_post t2).2.2; have h3 := congrArg List.length this; omega
          have pa1 := deep_pos a
          have pb1 := deep_pos b
          have hy1 : 1 ≤ y.length := by have := (tree_post t2).2.2; have h3 := toks_len 0 b; rw [this]; omega
          simp only [vTrs, hz4, hc4] at m4 d4 dx dy
          obtain ⟨z, hzz⟩ : ∃ z, z = s.tmod 4 := ⟨_, rfl⟩
          have hz6 : 0 ≤ z ∧ z < 4 := by rw [hzz, Int.tmod_eq_emod_of_nonneg hs.1]; omega
          rw [← hzz]
          refine ⟨⟨hz6.1, hz6.2⟩, ?_⟩
          have hdy : 1 ≤ y.length → (trsC y) = .int .i64 (y.headD (sgn 0)).op :: .int .i64 (y.headD (sgn 0)).of :: .str (y.headD (sgn 0)).name :: trsC y.tail := fun _ => by cases y with
            | nil => simp at hy1
            | cons u y => rfl
          rcases (show z = 0 ∨ z = 1 ∨ z = 2 ∨ z = 3 by omega) with e | e | e | e
          all_goals rw [e]
          all_goals
            simp only [wk,if_true,if_false,forall_const,implies_true,ne_eq,eq_self,Nat.reduceEqDiff,Nat.reduceAdd,Nat.reduceMul,Nat.reduceSub,Nat.reduceLeDiff,Nat.reduceLT,Int.reduceEq,Int.reduceLT,Int.reduceLE,Int.reduceAdd,Int.reduceSub,Int.reduceMul,Int.reduceNeg,Int.reduceNe,reduceCtorEq,Int.reduceToNat,↓reduceIte, Int.reduceToNat, List.drop_succ_cons, List.drop_zero]
            refine ⟨⟨trsC_len x, by omega, by omega⟩, ⟨trsC_len y, by omega, by omega⟩, ?_⟩
            refine PCalls.use (m3) ?_; simp only [wk,if_true,if_false,forall_const,implies_true,ne_eq,eq_self,Nat.reduceEqDiff,Nat.reduceAdd,Nat.reduceMul,Nat.reduceSub,Nat.reduceLeDiff,Nat.reduceLT,Int.reduceEq,Int.reduceLT,Int.reduceLE,Int.reduceAdd,Int.reduceSub,Int.reduceMul,Int.reduceNeg,Int.reduceNe,reduceCtorEq,Int.reduceToNat,↓reduceIte]
            refine ⟨⟨by omega, by omega⟩, ?_⟩
          · by_cases hone : y.length = 1
            · obtain ⟨u, rfl⟩ := List.length_eq_one_iff.1 hone
              have hdr : (trsC [u]).drop 1 = [.int .i64 u.of, .str u.name] := rfl
              have h11 : (((1 : Nat) : Int) = 1) = True := eqTrue rfl
              have h01 : ((0 : Int) < ((1 : Nat) : Int)) = True := eqTrue (by decide)
              simp only [List.length_cons, List.length_nil, Nat.zero_add] at m4 d4 dy
              by_cases u5 : u.of = 5
              · have hr : b.role = true := hro.2 ⟨u, rfl, u5⟩
                have ek := e2 2 (by decide)
                rw [if_neg (by rintro ⟨_, h⟩; rw [hr] at h; cases h)] at ek
                have mk := m4 2
                have dk := d4 2
                rw [ek, Option.isSome_some] at mk
                rw [deepX_some ek] at dk
                simp only [wk,if_true,if_false,forall_const,implies_true,ne_eq,eq_self,Nat.reduceEqDiff,Nat.reduceAdd,Nat.reduceMul,Nat.reduceSub,Nat.reduceLeDiff,Nat.reduceLT,Int.reduceEq,Int.reduceLT,Int.reduceLE,Int.reduceAdd,Int.reduceSub,Int.reduceMul,Int.reduceNeg,Int.reduceNe,reduceCtorEq,Int.reduceToNat,↓reduceIte, h11, h01, hdr, eqTrue u5]
                refine PCalls.use (mk) ?_; simp only [wk,if_true,if_false,forall_const,implies_true,ne_eq,eq_self,Nat.reduceEqDiff,Nat.reduceAdd,Nat.reduceMul,Nat.reduceSub,Nat.reduceLeDiff,Nat.reduceLT,Int.reduceEq,Int.reduceLT,Int.reduceLE,Int.reduceAdd,Int.reduceSub,Int.reduceMul,Int.reduceNeg,Int.reduceNe,reduceCtorEq,Int.reduceToNat,↓reduceIte]
                refine PCalls.use (dk) ?_; simp only [wk,if_true,if_false,forall_const,implies_true,ne_eq,eq_self,Nat.reduceEqDiff,Nat.reduceAdd,Nat.reduceMul,Nat.reduceSub,Nat.reduceLeDiff,Nat.reduceLT,Int.reduceEq,Int.reduceLT,Int.reduceLE,Int.reduceAdd,Int.reduceSub,Int.reduceMul,Int.reduceNeg,Int.reduceNe,reduceCtorEq,Int.reduceToNat,↓reduceIte]
                refine PCalls.use (dx) ?_; simp only [wk,if_true,if_false,forall_const,implies_true,ne_eq,eq_self,Nat.reduceEqDiff,Nat.reduceAdd,Nat.reduceMul,Nat.reduceSub,Nat.reduceLeDiff,Nat.reduceLT,Int.reduceEq,Int.reduceLT,Int.reduceLE,Int.reduceAdd,Int.reduceSub,Int.reduceMul,Int.reduceNeg,Int.reduceNe,reduceCtorEq,Int.reduceToNat,↓reduceIte]
                refine PCalls.use (dy) ?_; simp only [wk,if_true,if_false,forall_const,implies_true,ne_eq,eq_self,Nat.reduceEqDiff,Nat.reduceAdd,Nat.reduceMul,Nat.reduceSub,Nat.reduceLeDiff,Nat.reduceLT,Int.reduceEq,Int.reduceLT,Int.reduceLE,Int.reduceAdd,Int.reduceSub,Int.reduceMul,Int.reduceNeg,Int.reduceNe,reduceCtorEq,Int.reduceToNat,↓reduceIte]
                have hD : (1 + if a.deep < b.deep then b.deep else a.deep) = (Xp.op 2 a b).deep := by simp only [Xp.deep]; omega
                rw [hD]
                exact ⟨by rw [← hD]; split <;> exact inR_of (by omega) (by omega), by rw [decide_eq_true rfl]⟩
              · have hr : b.role = false := by
                  cases hb : b.role with
                  | false => rfl
                  | true => obtain ⟨v, h1, h2⟩ := hro.1 hb; simp only [List.cons.injEq, and_true] at h1; subst h1; exact absurd h2 u5
                have ek := e2 2 (by decide)
                rw [if_neg (fun h => by have h3 := h.1; revert h3; decide)] at ek
                have mk := m4 2
                have dk := d4 2
                rw [ek, Option.isSome_some] at mk
                rw [deepX_some ek] at dk
                simp only [wk,if_true,if_false,forall_const,implies_true,ne_eq,eq_self,Nat.reduceEqDiff,Nat.reduceAdd,Nat.reduceMul,Nat.reduceSub,Nat.reduceLeDiff,Nat.reduceLT,Int.reduceEq,Int.reduceLT,Int.reduceLE,Int.reduceAdd,Int.reduceSub,Int.reduceMul,Int.reduceNeg,Int.reduceNe,reduceCtorEq,Int.reduceToNat,↓reduceIte, h11, h01, hdr, eqFalse u5]
                refine PCalls.use (mk) ?_; simp only [wk,if_true,if_false,forall_const,implies_true,ne_eq,eq_self,Nat.reduceEqDiff,Nat.reduceAdd,Nat.reduceMul,Nat.reduceSub,Nat.reduceLeDiff,Nat.reduceLT,Int.reduceEq,Int.reduceLT,Int.reduceLE,Int.reduceAdd,Int.reduceSub,Int.reduceMul,Int.reduceNeg,Int.reduceNe,reduceCtorEq,Int.reduceToNat,↓reduceIte]
                refine PCalls.use (dk) ?_; simp only [wk,if_true,if_false,forall_const,implies_true,ne_eq,eq_self,Nat.reduceEqDiff,Nat.reduceAdd,Nat.reduceMul,Nat.reduceSub,Nat.reduceLeDiff,Nat.reduceLT,Int.reduceEq,Int.reduceLT,Int.reduceLE,Int.reduceAdd,Int.reduceSub,Int.reduceMul,Int.reduceNeg,Int.reduceNe,reduceCtorEq,Int.reduceToNat,↓reduceIte]
                refine PCalls.use (dx) ?_; simp only [wk,if_true,if_false,forall_const,implies_true,ne_eq,eq_self,Nat.reduceEqDiff,Nat.reduceAdd,Nat.reduceMul,Nat.reduceSub,Nat.reduceLeDiff,Nat.reduceLT,Int.reduceEq,Int.reduceLT,Int.reduceLE,Int.reduceAdd,Int.reduceSub,Int.reduceMul,Int.reduceNeg,Int.reduceNe,reduceCtorEq,Int.reduceToNat,↓reduceIte]
                refine PCalls.use (dy) ?_; simp only [wk,if_true,if_false,forall_const,implies_true,ne_eq,eq_self,Nat.reduceEqDiff,Nat.reduceAdd,Nat.reduceMul,Nat.reduceSub,Nat.reduceLeDiff,Nat.reduceLT,Int.reduceEq,Int.reduceLT,Int.reduceLE,Int.reduceAdd,Int.reduceSub,Int.reduceMul,Int.reduceNeg,Int.reduceNe,reduceCtorEq,Int.reduceToNat,↓reduceIte]
                have hD : (1 + if a.deep < b.deep then b.deep else a.deep) = (Xp.op 2 a b).deep := by simp only [Xp.deep]; omega
                rw [hD]
                exact ⟨by rw [← hD]; split <;> exact inR_of (by omega) (by omega), by rw [decide_eq_true rfl]⟩
            · have hr : b.role = false := by
                cases hb : b.role with
                | false => rfl
                | true => obtain ⟨v, h1, h2⟩ := hro.1 hb; rw [h1] at hone; exact absurd rfl hone
              have h11 : ((y.length : Int) = 1) = False := eqFalse (by omega)
              have ek := e2 2 (by decide)
              rw [if_neg (fun h => by have h3 := h.1; revert h3; decide)] at ek
              have mk := m4 2
              have dk := d4 2
              rw [ek, Option.isSome_some] at mk
              rw [deepX_some ek] at dk
              simp only [wk,if_true,if_false,forall_const,implies_true,ne_eq,eq_self,Nat.reduceEqDiff,Nat.reduceAdd,Nat.reduceMul,Nat.reduceSub,Nat.reduceLeDiff,Nat.reduceLT,Int.reduceEq,Int.reduceLT,Int.reduceLE,Int.reduceAdd,Int.reduceSub,Int.reduceMul,Int.reduceNeg,Int.reduceNe,reduceCtorEq,Int.reduceToNat,↓reduceIte, h11]
              refine PCalls.use (mk) ?_; simp only [wk,if_true,if_false,forall_const,implies_true,ne_eq,eq_self,Nat.reduceEqDiff,Nat.reduceAdd,Nat.reduceMul,Nat.reduceSub,Nat.reduceLeDiff,Nat.reduceLT,Int.reduceEq,Int.reduceLT,Int.reduceLE,Int.reduceAdd,Int.reduceSub,Int.reduceMul,Int.reduceNeg,Int.reduceNe,reduceCtorEq,Int.reduceToNat,↓reduceIte]
              refine PCalls.use (dk) ?_; simp only [wk,if_true,if_false,forall_const,implies_true,ne_eq,eq_self,Nat.reduceEqDiff,Nat.reduceAdd,Nat.reduceMul,Nat.reduceSub,Nat.reduceLeDiff,Nat.reduceLT,Int.reduceEq,Int.reduceLT,Int.reduceLE,Int.reduceAdd,Int.reduceSub,Int.reduceMul,Int.reduceNeg,Int.reduceNe,reduceCtorEq,Int.reduceToNat,↓reduceIte]
              refine PCalls.use (dx) ?_; simp only [wk,if_true,if_false,forall_const,implies_true,ne_eq,eq_self,Nat.reduceEqDiff,Nat.reduceAdd,Nat.reduceMul,Nat.reduceSub,Nat.reduceLeDiff,Nat.reduceLT,Int.reduceEq,Int.reduceLT,Int.reduceLE,Int.reduceAdd,Int.reduceSub,Int.reduceMul,Int.reduceNeg,Int.reduceNe,reduceCtorEq,Int.reduceToNat,↓reduceIte]
              refine PCalls.use (dy) ?_; simp only [wk,if_true,if_false,forall_const,implies_true,ne_eq,eq_self,Nat.reduceEqDiff,Nat.reduceAdd,Nat.reduceMul,Nat.reduceSub,Nat.reduceLeDiff,Nat.reduceLT,Int.reduceEq,Int.reduceLT,Int.reduceLE,Int.reduceAdd,Int.reduceSub,Int.reduceMul,Int.reduceNeg,Int.reduceNe,reduceCtorEq,Int.reduceToNat,↓reduceIte]
              have hD : (1 + if a.deep < b.deep then b.deep else a.deep) = (Xp.op 2 a b).deep := by simp only [Xp.deep]; omega
              rw [hD]
              exact ⟨by rw [← hD]; split <;> exact inR_of (by omega) (by omega), by rw [decide_eq_true rfl]⟩
          · by_cases hone : y.length = 1
            · obtain ⟨u, rfl⟩ := List.length_eq_one_iff.1 hone
              have hdr : (trsC [u]).drop 1 = [.int .i64 u.of, .str u.name] := rfl
              have h11 : (((1 : Nat) : Int) = 1) = True := eqTrue rfl
              have h01 : ((0 : Int) < ((1 : Nat) : Int)) = True := eqTrue (by decide)
              simp only [List.length_cons, List.length_nil, Nat.zero_add] at m4 d4 dy
              by_cases u5 : u.of = 5
              · have hr : b.role = true := hro.2 ⟨u, rfl, u5⟩
                have ek := e2 3 (by decide)
                rw [if_neg (by rintro ⟨_, h⟩; rw [hr] at h; cases h)] at ek
                have mk := m4 3
                have dk := d4 3
                rw [ek, Option.isSome_some] at mk
                rw [deepX_some ek] at dk
                simp only [wk,if_true,if_false,forall_const,implies_true,ne_eq,eq_self,Nat.reduceEqDiff,Nat.reduceAdd,Nat.reduceMul,Nat.reduceSub,Nat.reduceLeDiff,Nat.reduceLT,Int.reduceEq,Int.reduceLT,Int.reduceLE,Int.reduceAdd,Int.reduceSub,Int.reduceMul,Int.reduceNeg,Int.reduceNe,reduceCtorEq,Int.reduceToNat,↓reduceIte, h11, h01, hdr, eqTrue u5]
                refine PCalls.use (mk) ?_; simp only [wk,if_true,if_false,forall_const,implies_true,ne_eq,eq_self,Nat.reduceEqDiff,Nat.reduceAdd,Nat.reduceMul,Nat.reduceSub,Nat.reduceLeDiff,Nat.reduceLT,Int.reduceEq,Int.reduceLT,Int.reduceLE,Int.reduceAdd,Int.reduceSub,Int.reduceMul,Int.reduceNeg,Int.reduceNe,reduceCtorEq,Int.reduceToNat,↓reduceIte]
                refine PCalls.use (dk) ?_; simp only [wk,if_true,if_false,forall_const,implies_true,ne_eq,eq_self,Nat.reduceEqDiff,Nat.reduceAdd,Nat.reduceMul,Nat.reduceSub,Nat.reduceLeDiff,Nat.reduceLT,Int.reduceEq,Int.reduceLT,Int.reduceLE,Int.reduceAdd,Int.reduceSub,Int.reduceMul,Int.reduceNeg,Int.reduceNe,reduceCtorEq,Int.reduceToNat,↓reduceIte]
                refine PCalls.use (dx) ?_; simp only [wk,if_true,if_false,forall_const,implies_true,ne_eq,eq_self,Nat.reduceEqDiff,Nat.reduceAdd,Nat.reduceMul,Nat.reduceSub,Nat.reduceLeDiff,Nat.reduceLT,Int.reduceEq,Int.reduceLT,Int.reduceLE,Int.reduceAdd,Int.reduceSub,Int.reduceMul,Int.reduceNeg,Int.reduceNe,reduceCtorEq,Int.reduceToNat,↓reduceIte]
                refine PCalls.use (dy) ?_; simp only [wk,if_true,if_false,forall_const,implies_true,ne_eq,eq_self,Nat.reduceEqDiff,Nat.reduceAdd,Nat.reduceMul,Nat.reduceSub,Nat.reduceLeDiff,Nat.reduceLT,Int.reduceEq,Int.reduceLT,Int.reduceLE,Int.reduceAdd,Int.reduceSub,Int.reduceMul,Int.reduceNeg,Int.reduceNe,reduceCtorEq,Int.reduceToNat,↓reduceIte]
                have hD : (1 + if a.deep < b.deep then b.deep else a.deep) = (Xp.op 3 a b).deep := by simp only [Xp.deep]; omega
                rw [hD]
                exact ⟨by rw [← hD]; split <;> exact inR_of (by omega) (by omega), by rw [decide_eq_true rfl]⟩
              · have hr : b.role = false := by
                  cases hb : b.role with
                  | false => rfl
                  | true => obtain ⟨v, h1, h2⟩ := hro.1 hb; simp only [List.cons.injEq, and_true] at h1; subst h1; exact absurd h2 u5
                have ek := e2 3 (by decide)
                rw [if_neg (fun h => by have h3 := h.1; revert h3; decide)] at ek
                have mk := m4 3
                have dk := d4 3
                rw [ek, Option.isSome_some] at mk
                rw [deepX_some ek] at dk
                simp only [wk,if_true,if_false,forall_const,implies_true,ne_eq,eq_self,Nat.reduceEqDiff,Nat.reduceAdd,Nat.reduceMul,Nat.reduceSub,Nat.reduceLeDiff,Nat.reduceLT,Int.reduceEq,Int.reduceLT,Int.reduceLE,Int.reduceAdd,Int.reduceSub,Int.reduceMul,Int.reduceNeg,Int.reduceNe,reduceCtorEq,Int.reduceToNat,↓reduceIte, h11, h01, hdr, eqFalse u5]
                refine PCalls.use (mk) ?_; simp only [wk,if_true,if_false,forall_const,implies_true,ne_eq,eq_self,Nat.reduceEqDiff,Nat.reduceAdd,Nat.reduceMul,Nat.reduceSub,Nat.reduceLeDiff,Nat.reduceLT,Int.reduceEq,Int.reduceLT,Int.reduceLE,Int.reduceAdd,Int.reduceSub,Int.reduceMul,Int.reduceNeg,Int.reduceNe,reduceCtorEq,Int.reduceToNat,↓reduceIte]
                refine PCalls.use (dk) ?_; simp only [wk,if_true,if_false,forall_const,implies_true,ne_eq,eq_self,Nat.reduceEqDiff,Nat.reduceAdd,Nat.reduceMul,Nat.reduceSub,Nat.reduceLeDiff,Nat.reduceLT,Int.reduceEq,Int.reduceLT,Int.reduceLE,Int.reduceAdd,Int.reduceSub,Int.reduceMul,Int.reduceNeg,Int.reduceNe,reduceCtorEq,Int.reduceToNat,↓reduceIte]
                refine PCalls.use (dx) ?_; simp only [wk,if_true,if_false,forall_const,implies_true,ne_eq,eq_self,Nat.reduceEqDiff,Nat.reduceAdd,Nat.reduceMul,Nat.reduceSub,Nat.reduceLeDiff,Nat.reduceLT,Int.reduceEq,Int.reduceLT,Int.reduceLE,Int.reduceAdd,Int.reduceSub,Int.reduceMul,Int.reduceNeg,Int.reduceNe,reduceCtorEq,Int.reduceToNat,↓reduceIte]
                refine PCalls.use (dy) ?_; simp only [wk,if_true,if_false,forall_const,implies_true,ne_eq,eq_self,Nat.reduceEqDiff,Nat.reduceAdd,Nat.reduceMul,Nat.reduceSub,Nat.reduceLeDiff,Nat.reduceLT,Int.reduceEq,Int.reduceLT,Int.reduceLE,Int.reduceAdd,Int.reduceSub,Int.reduceMul,Int.reduceNeg,Int.reduceNe,reduceCtorEq,Int.reduceToNat,↓reduceIte]
                have hD : (1 + if a.deep < b.deep then b.deep else a.deep) = (Xp.op 3 a b).deep := by simp only [Xp.deep]; omega
                rw [hD]
                exact ⟨by rw [← hD]; split <;> exact inR_of (by omega) (by omega), by rw [decide_eq_true rfl]⟩
            · have hr : b.role = false := by
                cases hb : b.role with
                | false => rfl
                | true => obtain ⟨v, h1, h2⟩ := hro.1 hb; rw [h1] at hone; exact absurd rfl hone
              have h11 : ((y.length : Int) = 1) = False := eqFalse (by omega)
              have ek := e2 3 (by decide)
              rw [if_neg (fun h => by have h3 := h.1; revert h3; decide)] at ek
              have mk := m4 3
              have dk := d4 3
              rw [ek, Option.isSome_some] at mk
              rw [deepX_some ek] at dk
              simp only [wk,if_true,if_false,forall_const,implies_true,ne_eq,eq_self,Nat.reduceEqDiff,Nat.reduceAdd,Nat.reduceMul,Nat.reduceSub,Nat.reduceLeDiff,Nat.reduceLT,Int.reduceEq,Int.reduceLT,Int.reduceLE,Int.reduceAdd,Int.reduceSub,Int.reduceMul,Int.reduceNeg,Int.reduceNe,reduceCtorEq,Int.reduceToNat,↓reduceIte, h11]
              refine PCalls.use (mk) ?_; simp only [wk,if_true,if_false,forall_const,implies_true,ne_eq,eq_self,Nat.reduceEqDiff,Nat.reduceAdd,Nat.reduceMul,Nat.reduceSub,Nat.reduceLeDiff,Nat.reduceLT,Int.reduceEq,Int.reduceLT,Int.reduceLE,Int.reduceAdd,Int.reduceSub,Int.reduceMul,Int.reduceNeg,Int.reduceNe,reduceCtorEq,Int.reduceToNat,↓reduceIte]
              refine PCalls.use (dk) ?_; simp only [wk,if_true,if_false,forall_const,implies_true,ne_eq,eq_self,Nat.reduceEqDiff,Nat.reduceAdd,Nat.reduceMul,Nat.reduceSub,Nat.reduceLeDiff,Nat.reduceLT,Int.reduceEq,Int.reduceLT,Int.reduceLE,Int.reduceAdd,Int.reduceSub,Int.reduceMul,Int.reduceNeg,Int.reduceNe,reduceCtorEq,Int.reduceToNat,↓reduceIte]
              refine PCalls.use (dx) ?_; simp only [wk,if_true,if_false,forall_const,implies_true,ne_eq,eq_self,Nat.reduceEqDiff,Nat.reduceAdd,Nat.reduceMul,Nat.reduceSub,Nat.reduceLeDiff,Nat.reduceLT,Int.reduceEq,Int.reduceLT,Int.reduceLE,Int.reduceAdd,Int.reduceSub,Int.reduceMul,Int.reduceNeg,Int.reduceNe,reduceCtorEq,Int.reduceToNat,↓reduceIte]
              refine PCalls.use (dy) ?_; simp only [wk,if_true,if_false,forall_const,implies_true,ne_eq,eq_self,Nat.reduceEqDiff,Nat.reduceAdd,Nat.reduceMul,Nat.reduceSub,Nat.reduceLeDiff,Nat.reduceLT,Int.reduceEq,Int.reduceLT,Int.reduceLE,Int.reduceAdd,Int.reduceSub,Int.reduceMul,Int.reduceNeg,Int.reduceNe,reduceCtorEq,Int.reduceToNat,↓reduceIte]
              have hD : (1 + if a.deep < b.deep then b.deep else a.deep) = (Xp.op 3 a b).deep := by simp only [Xp.deep]; omega
              rw [hD]
              exact ⟨by rw [← hD]; split <;> exact inR_of (by omega) (by omega), by rw [decide_eq_true rfl]⟩
          · by_cases hone : y.length = 1
            · obtain ⟨u, rfl⟩ := List.length_eq_one_iff.1 hone
              have hdr : (trsC [u]).drop 1 = [.int .i64 u.of, .str u.name] := rfl
              have h11 : (((1 : Nat) : Int) = 1) = True := eqTrue rfl
              have h01 : ((0 : Int) < ((1 : Nat) : Int)) = True := eqTrue (by decide)
              simp only [List.length_cons, List.length_nil, Nat.zero_add] at m4 d4 dy
              by_cases u5 : u.of = 5
              · have hr : b.role = true := hro.2 ⟨u, rfl, u5⟩
                have ek := e2 4 (by decide)
                rw [if_neg (by rintro ⟨_, h⟩; rw [hr] at h; cases h)] at ek
                have mk := m4 4
                have dk := d4 4
                rw [ek, Option.isSome_some] at mk
                rw [deepX_some ek] at dk
                simp only [wk,if_true,if_false,forall_const,implies_true,ne_eq,eq_self,Nat.reduceEqDiff,Nat.reduceAdd,Nat.reduceMul,Nat.reduceSub,Nat.reduceLeDiff,Nat.reduceLT,Int.reduceEq,Int.reduceLT,Int.reduceLE,Int.reduceAdd,Int.reduceSub,Int.reduceMul,Int.reduceNeg,Int.reduceNe,reduceCtorEq,Int.reduceToNat,↓reduceIte, h11, h01, hdr, eqTrue u5]
                refine PCalls.use (mk) ?_; simp only [wk,if_true,if_false,forall_const,implies_true,ne_eq,eq_self,Nat.reduceEqDiff,Nat.reduceAdd,Nat.reduceMul,Nat.reduceSub,Nat.reduceLeDiff,Nat.reduceLT,Int.reduceEq,Int.reduceLT,Int.reduceLE,Int.reduceAdd,Int.reduceSub,Int.reduceMul,Int.reduceNeg,Int.reduceNe,reduceCtorEq,Int.reduceToNat,↓reduceIte]
                refine PCalls.use (dk) ?_; simp only [wk,if_true,if_false,forall_const,implies_true,ne_eq,eq_self,Nat.reduceEqDiff,Nat.reduceAdd,Nat.reduceMul,Nat.reduceSub,Nat.reduceLeDiff,Nat.reduceLT,Int.reduceEq,Int.reduceLT,Int.reduceLE,Int.reduceAdd,Int.reduceSub,Int.reduceMul,Int.reduceNeg,Int.reduceNe,reduceCtorEq,Int.reduceToNat,↓reduceIte]
                refine PCalls.use (dx) ?_; simp only [wk,if_true,if_false,forall_const,implies_true,ne_eq,eq_self,Nat.reduceEqDiff,Nat.reduceAdd,Nat.reduceMul,Nat.reduceSub,Nat.reduceLeDiff,Nat.reduceLT,Int.reduceEq,Int.reduceLT,Int.reduceLE,Int.reduceAdd,Int.reduceSub,Int.reduceMul,Int.reduceNeg,Int.reduceNe,reduceCtorEq,Int.reduceToNat,↓reduceIte]
                refine PCalls.use (dy) ?_; simp only [wk,if_true,if_false,forall_const,implies_true,ne_eq,eq_self,Nat.reduceEqDiff,Nat.reduceAdd,Nat.reduceMul,Nat.reduceSub,Nat.reduceLeDiff,Nat.reduceLT,Int.reduceEq,Int.reduceLT,Int.reduceLE,Int.reduceAdd,Int.reduceSub,Int.reduceMul,Int.reduceNeg,Int.reduceNe,reduceCtorEq,Int.reduceToNat,↓reduceIte]
                have hD : (1 + if a.deep < b.deep then b.deep else a.deep) = (Xp.op 4 a b).deep := by simp only [Xp.deep]; omega
                rw [hD]
                exact ⟨by rw [← hD]; split <;> exact inR_of (by omega) (by omega), by rw [decide_eq_true rfl]⟩
              · have hr : b.role = false := by
                  cases hb : b.role with
                  | false => rfl
                  | true => obtain ⟨v, h1, h2⟩ := hro.1 hb; simp only [List.cons.injEq, and_true] at h1; subst h1; exact absurd h2 u5
                have ek := e2 4 (by decide)
                rw [if_neg (fun h => by have h3 := h.1; revert h3; decide)] at ek
                have mk := m4 4
                have dk := d4 4
                rw [ek, Option.isSome_some] at mk
                rw [deepX_some ek] at dk
                simp only [wk,if_true,if_false,forall_const,implies_true,ne_eq,eq_self,Nat.reduceEqDiff,Nat.reduceAdd,Nat.reduceMul,Nat.reduceSub,Nat.reduceLeDiff,Nat.reduceLT,Int.reduceEq,Int.reduceLT,Int.reduceLE,Int.reduceAdd,Int.reduceSub,Int.reduceMul,Int.reduceNeg,Int.reduceNe,reduceCtorEq,Int.reduceToNat,↓reduceIte, h11, h01, hdr, eqFalse u5]
                refine PCalls.use (mk) ?_; simp only [wk,if_true,if_false,forall_const,implies_true,ne_eq,eq_self,Nat.reduceEqDiff,Nat.reduceAdd,Nat.reduceMul,Nat.reduceSub,Nat.reduceLeDiff,Nat.reduceLT,Int.reduceEq,Int.reduceLT,Int.reduceLE,Int.reduceAdd,Int.reduceSub,Int.reduceMul,Int.reduceNeg,Int.reduceNe,reduceCtorEq,Int.reduceToNat,↓reduceIte]
                refine PCalls.use (dk) ?_; simp only [wk,if_true,if_false,forall_const,implies_true,ne_eq,eq_self,Nat.reduceEqDiff,Nat.reduceAdd,Nat.reduceMul,Nat.reduceSub,Nat.reduceLeDiff,Nat.reduceLT,Int.reduceEq,Int.reduceLT,Int.reduceLE,Int.reduceAdd,Int.reduceSub,Int.reduceMul,Int.reduceNeg,Int.reduceNe,reduceCtorEq,Int.reduceToNat,↓reduceIte]
                refine PCalls.use (dx) ?_; simp only [wk,if_true,if_false,forall_const,implies_true,ne_eq,eq_self,Nat.reduceEqDiff,Nat.reduceAdd,Nat.reduceMul,Nat.reduceSub,Nat.reduceLeDiff,Nat.reduceLT,Int.reduceEq,Int.reduceLT,Int.reduceLE,Int.reduceAdd,Int.reduceSub,Int.reduceMul,Int.reduceNeg,Int.reduceNe,reduceCtorEq,Int.reduceToNat,↓reduceIte]
                refine PCalls.use (dy) ?_; simp only [wk,if_true,if_false,forall_const,implies_true,ne_eq,eq_self,Nat.reduceEqDiff,Nat.reduceAdd,Nat.reduceMul,Nat.reduceSub,Nat.reduceLeDiff,Nat.reduceLT,Int.reduceEq,Int.reduceLT,Int.reduceLE,Int.reduceAdd,Int.reduceSub,Int.reduceMul,Int.reduceNeg,Int.reduceNe,reduceCtorEq,Int.reduceToNat,↓reduceIte]
                have hD : (1 + if a.deep < b.deep then b.deep else a.deep) = (Xp.op 4 a b).deep := by simp only [Xp.deep]; omega
                rw [hD]
                exact ⟨by rw [← hD]; split <;> exact inR_of (by omega) (by omega), by rw [decide_eq_true rfl]⟩
            · have hr : b.role = false := by
                cases hb : b.role with
                | false => rfl
                | true => obtain ⟨v, h1, h2⟩ := hro.1 hb; rw [h1] at hone; exact absurd rfl hone
              have h11 : ((y.length : Int) = 1) = False := eqFalse (by omega)
              have ek := e2 4 (by decide)
              rw [if_neg (fun h => by have h3 := h.1; revert h3; decide)] at ek
              have mk := m4 4
              have dk := d4 4
              rw [ek, Option.isSome_some] at mk
              rw [deepX_some ek] at dk
              simp only [wk,if_true,if_false,forall_const,implies_true,ne_eq,eq_self,Nat.reduceEqDiff,Nat.reduceAdd,Nat.reduceMul,Nat.reduceSub,Nat.reduceLeDiff,Nat.reduceLT,Int.reduceEq,Int.reduceLT,Int.reduceLE,Int.reduceAdd,Int.reduceSub,Int.reduceMul,Int.reduceNeg,Int.reduceNe,reduceCtorEq,Int.reduceToNat,↓reduceIte, h11]
              refine PCalls.use (mk) ?_; simp only [wk,if_true,if_false,forall_const,implies_true,ne_eq,eq_self,Nat.reduceEqDiff,Nat.reduceAdd,Nat.reduceMul,Nat.reduceSub,Nat.reduceLeDiff,Nat.reduceLT,Int.reduceEq,Int.reduceLT,Int.reduceLE,Int.reduceAdd,Int.reduceSub,Int.reduceMul,Int.reduceNeg,Int.reduceNe,reduceCtorEq,Int.reduceToNat,↓reduceIte]
              refine PCalls.use (dk) ?_; simp only [wk,if_true,if_false,forall_const,implies_true,ne_eq,eq_self,Nat.reduceEqDiff,Nat.reduceAdd,Nat.reduceMul,Nat.reduceSub,Nat.reduceLeDiff,Nat.reduceLT,Int.reduceEq,Int.reduceLT,Int.reduceLE,Int.reduceAdd,Int.reduceSub,Int.reduceMul,Int.reduceNeg,Int.reduceNe,reduceCtorEq,Int.reduceToNat,↓reduceIte]
              refine PCalls.use (dx) ?_; simp only [wk,if_true,if_false,forall_const,implies_true,ne_eq,eq_self,Nat.reduceEqDiff,Nat.reduceAdd,Nat.reduceMul,Nat.reduceSub,Nat.reduceLeDiff,Nat.reduceLT,Int.reduceEq,Int.reduceLT,Int.reduceLE,Int.reduceAdd,Int.reduceSub,Int.reduceMul,Int.reduceNeg,Int.reduceNe,reduceCtorEq,Int.reduceToNat,↓reduceIte]
              refine PCalls.use (dy) ?_; simp only [wk,if_true,if_false,forall_const,implies_true,ne_eq,eq_self,Nat.reduceEqDiff,Nat.reduceAdd,Nat.reduceMul,Nat.reduceSub,Nat.reduceLeDiff,Nat.reduceLT,Int.reduceEq,Int.reduceLT,Int.reduceLE,Int.reduceAdd,Int.reduceSub,Int.reduceMul,Int.reduceNeg,Int.reduceNe,reduceCtorEq,Int.reduceToNat,↓reduceIte]
              have hD : (1 + if a.deep < b.deep then b.deep else a.deep) = (Xp.op 4 a b).deep := by simp only [Xp.deep]; omega
              rw [hD]
              exact ⟨by rw [← hD]; split <;> exact inR_of (by omega) (by omega), by rw [decide_eq_true rfl]⟩
          · by_cases hone : y.length = 1
            · obtain ⟨u, rfl⟩ := List.length_eq_one_iff.1 hone
              have hdr : (trsC [u]).drop 1 = [.int .i64 u.of, .str u.name] := rfl
              have h11 : (((1 : Nat) : Int) = 1) = True := eqTrue rfl
              have h01 : ((0 : Int) < ((1 : Nat) : Int)) = True := eqTrue (by decide)
              simp only [List.length_cons, List.length_nil, Nat.zero_add] at m4 d4 dy
              by_cases u5 : u.of = 5
              · have hr : b.role = true := hro.2 ⟨u, rfl, u5⟩
                have ek := e2 5 (by decide)
                rw [if_neg (by rintro ⟨_, h⟩; rw [hr] at h; cases h)] at ek
                have mk := m4 5
                have dk := d4 5
                rw [ek, Option.isSome_some] at mk
                rw [deepX_some ek] at dk
                simp only [wk,if_true,if_false,forall_const,implies_true,ne_eq,eq_self,Nat.reduceEqDiff,Nat.reduceAdd,Nat.reduceMul,Nat.reduceSub,Nat.reduceLeDiff,Nat.reduceLT,Int.reduceEq,Int.reduceLT,Int.reduceLE,Int.reduceAdd,Int.reduceSub,Int.reduceMul,Int.reduceNeg,Int.reduceNe,reduceCtorEq,Int.reduceToNat,↓reduceIte, h11, h01, hdr, eqTrue u5]
                refine PCalls.use (mk) ?_; simp only [wk,if_true,if_false,forall_const,implies_true,ne_eq,eq_self,Nat.reduceEqDiff,Nat.reduceAdd,Nat.reduceMul,Nat.reduceSub,Nat.reduceLeDiff,Nat.reduceLT,Int.reduceEq,Int.reduceLT,Int.reduceLE,Int.reduceAdd,Int.reduceSub,Int.reduceMul,Int.reduceNeg,Int.reduceNe,reduceCtorEq,Int.reduceToNat,↓reduceIte]
                refine PCalls.use (dk) ?_; simp only [wk,if_true,if_false,forall_const,implies_true,ne_eq,eq_self,Nat.reduceEqDiff,Nat.reduceAdd,Nat.reduceMul,Nat.reduceSub,Nat.reduceLeDiff,Nat.reduceLT,Int.reduceEq,Int.reduceLT,Int.reduceLE,Int.reduceAdd,Int.reduceSub,Int.reduceMul,Int.reduceNeg,Int.reduceNe,reduceCtorEq,Int.reduceToNat,↓reduceIte]
                refine PCalls.use (dx) ?_; simp only [wk,if_true,if_false,forall_const,implies_true,ne_eq,eq_self,Nat.reduceEqDiff,Nat.reduceAdd,Nat.reduceMul,Nat.reduceSub,Nat.reduceLeDiff,Nat.reduceLT,Int.reduceEq,Int.reduceLT,Int.reduceLE,Int.reduceAdd,Int.reduceSub,Int.reduceMul,Int.reduceNeg,Int.reduceNe,reduceCtorEq,Int.reduceToNat,↓reduceIte]
                refine PCalls.use (dy) ?_; simp only [wk,if_true,if_false,forall_const,implies_true,ne_eq,eq_self,Nat.reduceEqDiff,Nat.reduceAdd,Nat.reduceMul,Nat.reduceSub,Nat.reduceLeDiff,Nat.reduceLT,Int.reduceEq,Int.reduceLT,Int.reduceLE,Int.reduceAdd,Int.reduceSub,Int.reduceMul,Int.reduceNeg,Int.reduceNe,reduceCtorEq,Int.reduceToNat,↓reduceIte]
                have hD : (1 + if a.deep < b.deep then b.deep else a.deep) = (Xp.op 5 a b).deep := by simp only [Xp.deep]; omega
                rw [hD]
                exact ⟨by rw [← hD]; split <;> exact inR_of (by omega) (by omega), by rw [decide_eq_true rfl]⟩
              · have hr : b.role = false := by
                  cases hb : b.role with
                  | false => rfl
                  | true => obtain ⟨v, h1, h2⟩ := hro.1 hb; simp only [List.cons.injEq, and_true] at h1; subst h1; exact absurd h2 u5
                have ek := e2 5 (by decide)
                rw [if_pos ⟨rfl, hr⟩] at ek
                have mk := m4 5
                have dk := d4 5
                rw [ek, Option.isSome_none] at mk
                rw [deepX_none ek] at dk
                simp only [wk,if_true,if_false,forall_const,implies_true,ne_eq,eq_self,Nat.reduceEqDiff,Nat.reduceAdd,Nat.reduceMul,Nat.reduceSub,Nat.reduceLeDiff,Nat.reduceLT,Int.reduceEq,Int.reduceLT,Int.reduceLE,Int.reduceAdd,Int.reduceSub,Int.reduceMul,Int.reduceNeg,Int.reduceNe,reduceCtorEq,Int.reduceToNat,↓reduceIte, h11, h01, hdr, eqFalse u5]
                refine PCalls.use (mk) ?_; simp only [wk,if_true,if_false,forall_const,implies_true,ne_eq,eq_self,Nat.reduceEqDiff,Nat.reduceAdd,Nat.reduceMul,Nat.reduceSub,Nat.reduceLeDiff,Nat.reduceLT,Int.reduceEq,Int.reduceLT,Int.reduceLE,Int.reduceAdd,Int.reduceSub,Int.reduceMul,Int.reduceNeg,Int.reduceNe,reduceCtorEq,Int.reduceToNat,↓reduceIte]
                refine PCalls.use (dk) ?_; simp only [wk,if_true,if_false,forall_const,implies_true,ne_eq,eq_self,Nat.reduceEqDiff,Nat.reduceAdd,Nat.reduceMul,Nat.reduceSub,Nat.reduceLeDiff,Nat.reduceLT,Int.reduceEq,Int.reduceLT,Int.reduceLE,Int.reduceAdd,Int.reduceSub,Int.reduceMul,Int.reduceNeg,Int.reduceNe,reduceCtorEq,Int.reduceToNat,↓reduceIte]
            · have hr : b.role = false := by
                cases hb : b.role with
                | false => rfl
                | true => obtain ⟨v, h1, h2⟩ := hro.1 hb; rw [h1] at hone; exact absurd rfl hone
              have h11 : ((y.length : Int) = 1) = False := eqFalse (by omega)
              have ek := e2 5 (by decide)
              rw [if_pos ⟨rfl, hr⟩] at ek
              have mk := m4 5
              have dk := d4 5
              rw [ek, Option.isSome_none] at mk
              rw [deepX_none ek] at dk
              simp only [wk,if_true,if_false,forall_const,implies_true,ne_eq,eq_self,Nat.reduceEqDiff,Nat.reduceAdd,Nat.reduceMul,Nat.reduceSub,Nat.reduceLeDiff,Nat.reduceLT,Int.reduceEq,Int.reduceLT,Int.reduceLE,Int.reduceAdd,Int.reduceSub,Int.reduceMul,Int.reduceNeg,Int.reduceNe,reduceCtorEq,Int.reduceToNat,↓reduceIte, h11]
              refine PCalls.use (mk) ?_; simp only [wk,if_true,if_false,forall_const,implies_true,ne_eq,eq_self,Nat.reduceEqDiff,Nat.reduceAdd,Nat.reduceMul,Nat.reduceSub,Nat.reduceLeDiff,Nat.reduceLT,Int.reduceEq,Int.reduceLT,Int.reduceLE,Int.reduceAdd,Int.reduceSub,Int.reduceMul,Int.reduceNeg,Int.reduceNe,reduceCtorEq,Int.reduceToNat,↓reduceIte]
              refine PCalls.use (dk) ?_; simp only [wk,if_true,if_false,forall_const,implies_true,ne_eq,eq_self,Nat.reduceEqDiff,Nat.reduceAdd,Nat.reduceMul,Nat.reduceSub,Nat.reduceLeDiff,Nat.reduceLT,Int.reduceEq,Int.reduceLT,Int.reduceLE,Int.reduceAdd,Int.reduceSub,Int.reduceMul,Int.reduceNeg,Int.reduceNe,reduceCtorEq,Int.reduceToNat,↓reduceIte]
end Go.Proofs.Ytmbijfcjfhdnjaa
