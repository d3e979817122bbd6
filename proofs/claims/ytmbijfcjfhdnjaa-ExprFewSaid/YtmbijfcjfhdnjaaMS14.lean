/- Texts of one proof, laid together: Kl Km Kn Ko Kp Kr Ks Kt Ku Eh Ei Ej Ek El Em En Eo Kw Ky KB Eq Er Es Et Ev Ew Ex Ey. -/
import Derived.Test.YtmbijfcjfhdnjaaMS12
import Derived.Test.YtmbijfcjfhdnjaaMS13
import Derived.Test.YtmbijfcjfhdnjaaMS1
import Derived.Shelf.Strings.OnBuilder
import Derived.Test.YtmbijfcjfhdnjaaMS10

/- strings.Join: the kit's contract, as a call that leaves all objects alone. -/
namespace Go.Proofs.Ytmbijfcjfhdnjaa
set_option linter.unusedSimpArgs false
set_option linter.unusedVariables false
open Go.RowKit Go.Lib Go.Shelf

theorem xJoin : Builder.Extra Try.prog lJoin_ren where
  sizeBuilder := by kernel_rfl
  liesBuilder := by kernel_rfl
  t5 := Try.underlying5
  a5 := Try.isAgg5
  z5 := Try.sizeOf5
  v5 := Try.zeroValue5
  infoByte := by kernel_rfl
  cellsByte := by kernel_rfl
  sizeByte := by kernel_rfl
  neB5 := by decide
def joinB (l : List ByteArray) : ByteArray := ba (Lib.join (l.map (·.data.toList)) [32])
theorem rep_cap {g : Gh} {x : Value} {z : AV} (h : Rep g x z) : ∀ a n c f m l, x = .slice a n c → z = .lst f m l → n ≤ c := by
  intro a n c f m l h1 h2
  cases h <;> first
    | (cases h2; done)
    | (cases h1; assumption)
    | (cases h1; omega)
theorem p_join (l : List ByteArray) (hl : l.length ≤ 1000000) (hs : (joinB l).size ≤ 140737488355328) : PCalls Try.prog 46 [.lst .ro l.length (l.map .str), .str ⟨#[32]⟩] (.str (joinB l)) := by
  refine pcalls_calls (by simp [free, free.frees, frees_str]) rfl rfl (by kernel_rfl) ?_
  intro g w vargs hsim hr
  obtain ⟨v, vs, rfl, hv, hvs⟩ : ∃ v vs, vargs = v :: vs ∧ Rep g v (.lst .ro l.length (l.map .str)) ∧ RepL g vs [.str ⟨#[32]⟩] := by
    cases hr with
    | cons h1 h2 => exact ⟨_, _, rfl, h1, h2⟩
  cases hvs with
  | cons h1 h2 =>
  cases h1
  cases h2
  obtain ⟨a, c, rfl, hrow⟩ := rep_strs hsim hv
  have hm : ∀ (e : Ending) (w' : World), e = .returned (.string ⟨(Lib.join (l.map (·.data.toList)) (⟨#[32]⟩ : ByteArray).data.toList).toArray⟩) ∧ Below w.heap.size w w' → ∃ x, e = .returned x ∧ Below w.heap.size w w' ∧ Rep (g.news w w') x (.str (joinB l)) := by
    rintro e w' ⟨rfl, hb⟩
    exact ⟨_, rfl, hb, .str _⟩
  have hcap : l.length ≤ c := rep_cap hv _ _ _ _ _ _ rfl rfl
  by_cases h0 : l = []
  · subst h0
    exact (Any.strings_Join_none (P := Try.prog) lJoin xJoin a c ⟨#[32]⟩ w).mono fun e w' h => hm e w' ⟨by rw [h.1]; rfl, h.2 ▸ Below.refl _ _⟩
  · rcases hrow with h1 | ⟨b, off, rfl, hcells⟩
    · exact absurd (by simpa using h1) h0
    · have hc2 : ∀ (j : Nat) x, l[j]? = some x → w.cell? ⟨b, off + j, none⟩ = some (.string x) := fun j x hj => hcells j (.string x) (by rw [List.getElem?_map, hj]; rfl)
      obtain ⟨y, r, hyr⟩ := List.exists_cons_of_ne_nil h0
      have hbk : b < w.heap.size := World.block_lt_of_cell? w ⟨b, off + 0, none⟩ (hc2 0 y (by rw [hyr]; rfl))
      exact (Any.strings_Join (P := Try.prog) lJoin xJoin b off c l ⟨#[32]⟩ w hc2 hbk (by omega) hcap (by unfold joinB at hs; rw [ba_len2] at hs; exact hs)).mono hm
end Go.Proofs.Ytmbijfcjfhdnjaa

/- Text: the program's and the reference's. -/
namespace Go.Proofs.Ytmbijfcjfhdnjaa
set_option linter.unusedSimpArgs false
set_option linter.unusedVariables false
open Go.RowKit Go.Lib

def wrd (t : Tok) : ByteArray := wordT t.kind t.name t.of
theorem atomW_size (o : Int) (w : ByteArray) : (atomW o w).size ≤ w.size + 6 := by
  have h3 : (⟨#[]⟩ : ByteArray).size = 0 := rfl
  unfold atomW
  repeat' split
  all_goals first
    | omega
    | (have := preW_size o; rw [ByteArray.size_append]; omega)
theorem wordT_size (k : Int) (w : ByteArray) (o : Int) : (wordT k w o).size ≤ w.size + 6 := by
  have h0 : (⟨#[]⟩ : ByteArray).size = 0 := rfl
  have h1 : (⟨#[97, 110, 100]⟩ : ByteArray).size = 3 := rfl
  have h2 : (⟨#[102, 111, 114]⟩ : ByteArray).size = 3 := rfl
  have h3 : (⟨#[97, 115]⟩ : ByteArray).size = 2 := rfl
  have h4 : (⟨#[124]⟩ : ByteArray).size = 1 := rfl
  have h5 : (⟨#[40]⟩ : ByteArray).size = 1 := rfl
  have h6 : (⟨#[41]⟩ : ByteArray).size = 1 := rfl
  have := atomW_size o w
  unfold wordT
  repeat' split
  all_goals omega
theorem join_size : ∀ (l : List ByteArray) (c : Nat), (∀ x ∈ l, x.size ≤ c) → (joinB l).size ≤ l.length * (c + 1) := by
  intro l c h
  unfold joinB
  rw [ba_len2]
  cases l with
  | nil => simp [Lib.join_nil]
  | cons x r =>
    rw [List.map_cons, Lib.join_length]
    have gen : ∀ l : List ByteArray, (∀ x ∈ l, x.size ≤ c) → Lib.lens (l.map (·.data.toList)) ≤ l.length * c := by
      intro l
      induction l with
      | nil => intro _; simp [Lib.lens]
      | cons y l ih =>
        intro h
        have h1 := h y (by simp)
        have h2 := ih (fun z hz => h z (by simp [hz]))
        have h3 := len_size y
        simp only [Lib.lens, List.map_cons, List.sum_cons, List.length_cons, Nat.add_mul] at h2 ⊢
        omega
    have this := gen (x :: r) h
    rw [List.map_cons] at this
    simp only [List.length_map, List.length_cons, List.length_nil, Nat.mul_add, Nat.mul_one] at this ⊢
    omega
end Go.Proofs.Ytmbijfcjfhdnjaa

/- The laws' own functions: same, large, awake. -/
namespace Go.Proofs.Ytmbijfcjfhdnjaa
set_option linter.unusedSimpArgs false
set_option linter.unusedVariables false
open Go.RowKit Go.Lib

section
variable {α : Type} (h : List α) (x y z : α)
end
end Go.Proofs.Ytmbijfcjfhdnjaa

/- large, awake; TokenReads. -/
namespace Go.Proofs.Ytmbijfcjfhdnjaa
set_option linter.unusedSimpArgs false
set_option linter.unusedVariables false
open Go.RowKit Go.Lib

def c1 : ByteArray := ⟨#[107, 101, 121, 58, 107, 49, 124, 97, 108, 105, 99, 101, 32, 97, 115, 32, 114, 111, 108, 101, 58, 114, 32, 35, 32, 120]⟩
def c2 : ByteArray := ⟨#[97, 32, 75]⟩
end Go.Proofs.Ytmbijfcjfhdnjaa

/- TokenReads and TokenWrites: the calls. -/
namespace Go.Proofs.Ytmbijfcjfhdnjaa
set_option linter.unusedSimpArgs false
set_option linter.unusedVariables false
open Go.RowKit Go.Lib

theorem scanF_len : ∀ (f : Nat) (l : List UInt8) (a : Nat) (acc : List Tok), acc.length ≤ 1000 → (scanF f l a acc).1.length ≤ 1000
  | 0, _, _, acc, h => h
  | f + 1, [], _, acc, h => h
  | f + 1, b :: r, a, acc, h => by
    simp only [scanF]
    split
    · exact scanF_len f r _ _ h
    · split
      · exact scanF_len f _ _ _ h
      · split
        · simp
        · split
          · simp
          · exact scanF_len f _ _ _ (by simp; omega)
theorem allT_len (s : ByteArray) : (allT s).1.length ≤ 1000 := by
  unfold allT
  split
  · simp
  · exact scanF_len _ _ _ _ (by simp)
end Go.Proofs.Ytmbijfcjfhdnjaa

/- A word that is written is read as its token: plain laws. -/
namespace Go.Proofs.Ytmbijfcjfhdnjaa
set_option linter.unusedSimpArgs false
set_option linter.unusedVariables false
open Go.RowKit Go.Lib

theorem stop_app {q : Int → Bool} {l r : List UInt8} (h : ∀ b ∈ l, q b.toNat = true) (h2 : ∀ b r', r = b :: r' → q b.toNat = false) : stopN q (l ++ r) = l.length := by
  unfold stopN
  refine tw_len (by simp) (fun b hb => ?_) (fun hlt => ?_)
  · rw [List.take_left] at hb; exact h b hb
  · rw [List.getElem_append_right (Nat.le_refl _)]
    simp only [Nat.sub_self]
    cases r with
    | nil => simp at hlt
    | cons c r' => exact h2 c r' rfl
theorem fine_inn {r : List UInt8} (h : fineL r = true) : ∀ b r', r = b :: r' → innI b.toNat = false := by
  rintro b r' rfl
  simp only [fineL, freI, Bool.and_eq_true, Bool.not_eq_true'] at h
  exact h.1.1
theorem fine_dig {r : List UInt8} (h : fineL r = true) : ∀ b r', r = b :: r' → digI b.toNat = false := by
  intro b r' e
  have := fine_inn h b r' e
  simp only [innI, Bool.or_eq_false_iff] at this
  exact this.1.1.2
theorem fine_colon {r : List UInt8} (h : fineL r = true) : colonL r = false := by
  cases r with
  | nil => rfl
  | cons b r =>
    simp only [fineL, freI, Bool.and_eq_true, decide_eq_true_eq] at h
    have := h.1.2
    simp only [colonL, beq_eq_false_iff_ne]
    omega
theorem may_all {n : ByteArray} (h : mayN n = true) : 1 ≤ n.size ∧ n.size ≤ 24 ∧ lttI (n.data.toList.headD 0).toNat = true ∧ ∀ b ∈ n.data.toList, innI b.toNat = true := by
  have hl := len_size n
  unfold mayN mayL at h
  simp only [Bool.and_eq_true, decide_eq_true_eq] at h
  obtain ⟨h1, h2, h3, h4⟩ := h
  exact ⟨by omega, by omega, h3, List.all_eq_true.1 h4⟩
theorem take_ba (n : ByteArray) (r : List UInt8) : ba ((n.data.toList ++ r).take n.size) = n := by
  rw [← len_size n, List.take_left, ba_eta]
theorem name_may {n : ByteArray} {r : List UInt8} (h : mayN n = true) (hf : fineL r = true) : nameL (n.data.toList ++ r) = some n.size ∧ stopN innI (n.data.toList ++ r) = n.size := by
  obtain ⟨h1, h2, h3, h4⟩ := may_all h
  have hl := len_size n
  have hs : stopN innI (n.data.toList ++ r) = n.size := by rw [stop_app h4 (fine_inn hf), hl]
  refine ⟨?_, hs⟩
  have hh : (n.data.toList ++ r).headD 0 = n.data.toList.headD 0 := by
    cases hn : n.data.toList with
    | nil => rw [hn] at hl; simp at hl; omega
    | cons c t => rfl
  rw [name_some, hs, hh, if_pos ⟨h3, h2, by rw [← hl, List.drop_left]; exact hf⟩]
theorem sign_name {n : ByteArray} {r : List UInt8} (h : mayN n = true) (hf : fineL r = true) : signL (n.data.toList ++ r) = if keyW n = 0 then some (1, n, 3, n.size) else some (keyW n, ba [], 0, n.size) := by
  obtain ⟨h1, h2, h3, h4⟩ := may_all h
  obtain ⟨g1, g2⟩ := name_may h hf
  have hl := len_size n
  have hk : kindL (n.data.toList ++ r) = 0 := by
    rw [kind_name, g2, if_neg]
    rintro ⟨-, hc⟩
    rw [← hl, List.drop_left, fine_colon hf] at hc
    cases hc
  obtain ⟨L, hL⟩ : ∃ L, L = n.data.toList ++ r := ⟨_, rfl⟩
  have ht := take_ba n r
  rw [← hL] at g1 g2 hk ht ⊢
  unfold signL
  rw [if_pos hk]
  cases L with
  | nil => cases g1
  | cons b t =>
    have hb : lttI b.toNat = true := by
      cases hn : n.data.toList with
      | nil => rw [hn] at hl; simp at hl; omega
      | cons c u =>
        rw [hn] at hL h3
        injection hL with e _
        rw [e]; exact h3
    simp only [plainL]
    rw [if_pos hb, g1]
    simp only [ht]
theorem beg_self (p : ByteArray) (r : List UInt8) : begL p (p.data.toList ++ r) = true := by
  unfold begL
  rw [← len_size p, List.take_left, decide_eq_true_eq]
theorem kind_pre {o : Int} (ho : o ∈ kinds) (r : List UInt8) : kindL ((preW o).data.toList ++ r) = o := by
  have h2 : o = 1 ∨ o = 2 ∨ o = 4 ∨ o = 5 := by simpa [kinds] using ho
  have b1 : begL (preW 1) ((preW 2).data.toList ++ r) = false ∧ begL (preW 1) ((preW 4).data.toList ++ r) = false ∧ begL (preW 1) ((preW 5).data.toList ++ r) = false := ⟨rfl, rfl, rfl⟩
  have b2 : begL (preW 2) ((preW 4).data.toList ++ r) = false ∧ begL (preW 2) ((preW 5).data.toList ++ r) = false := ⟨rfl, rfl⟩
  have b4 : begL (preW 4) ((preW 5).data.toList ++ r) = false := rfl
  obtain ⟨b12, b14, b15⟩ := b1
  obtain ⟨b24, b25⟩ := b2
  unfold kindL
  rcases h2 with rfl | rfl | rfl | rfl
  · rw [if_pos (beg_self _ _)]
  · rw [b12, if_neg (by simp), if_pos (beg_self _ _)]
  · rw [b14, b24, if_neg (by simp), if_neg (by simp), if_pos (beg_self _ _)]
  · rw [b15, b25, b4, if_neg (by simp), if_neg (by simp), if_neg (by simp), if_pos (beg_self _ _)]
theorem sign_atom {n : ByteArray} {o : Int} {r : List UInt8} (ho : o ∈ kinds) (h : mayN n = true) (hf : fineL r = true) : signL ((preW o ++ n).data.toList ++ r) = some (1, n, o, (preW o ++ n).size) := by
  have hp := len_size (preW o)
  have e : (preW o ++ n).data.toList ++ r = (preW o).data.toList ++ (n.data.toList ++ r) := by
    rw [ByteArray.data_append, Array.toList_append, List.append_assoc]
  rw [e]
  unfold signL
  rw [kind_pre ho, if_neg (kinds_nz ho), ← hp, List.drop_left]
  unfold atomL
  rw [(name_may h hf).1]
  simp only [take_ba, ByteArray.size_append, hp]
theorem sign_word {k : Int} {n : ByteArray} {o : Int} {r : List UInt8} (hw : wordT k n o ≠ ⟨#[]⟩) (hf : fineL r = true) : signL ((wordT k n o).data.toList ++ r) = some (k, n, o, (wordT k n o).size) := by
  have hl := len_size n
  by_cases h1 : k = 1
  · subst h1
    have e : wordT 1 n o = atomW o n := by unfold wordT; rw [if_pos rfl]
    rw [e] at hw ⊢
    by_cases h0 : o = 0
    · subst h0
      have e2 : atomW 0 n = if n = ⟨#[68]⟩ then n else ⟨#[]⟩ := by unfold atomW; rw [if_pos rfl]
      rw [e2] at hw ⊢
      by_cases hd : n = ⟨#[68]⟩
      · subst hd
        rw [if_pos rfl]
        show signL (68 :: r) = _
        rw [sig_d rfl, good_d, if_pos hf]; rfl
      · rw [if_neg hd] at hw; exact absurd rfl hw
    · by_cases hm : mayN n = true
      · by_cases hk : o = 1 ∨ o = 2 ∨ o = 4 ∨ o = 5
        · have ho : o ∈ kinds := by simpa [kinds] using hk
          have e2 : atomW o n = preW o ++ n := by unfold atomW; rw [if_neg h0, if_pos hm, if_pos hk]
          rw [e2]; exact sign_atom ho hm hf
        · by_cases h3 : o = 3 ∧ keyW n = 0
          · have e2 : atomW o n = n := by unfold atomW; rw [if_neg h0, if_pos hm, if_neg hk, if_pos h3]
            rw [e2, sign_name hm hf, if_pos h3.2, h3.1]
          · have e2 : atomW o n = ⟨#[]⟩ := by unfold atomW; rw [if_neg h0, if_pos hm, if_neg hk, if_neg h3]
            exact absurd e2 hw
      · have e2 : atomW o n = ⟨#[]⟩ := by unfold atomW; rw [if_neg h0, if_neg hm]
        exact absurd e2 hw
  · by_cases h0 : o = 0
    · subst h0
      by_cases h8 : k = 8
      · subst h8
        have e : wordT 8 n 0 = if numW n = true then n else ⟨#[]⟩ := by unfold wordT; rw [if_neg (by decide), if_neg (by decide), if_pos rfl]
        rw [e] at hw ⊢
        by_cases hn : numW n = true
        · rw [if_pos hn]
          have hn2 := hn
          unfold numW at hn2
          simp only [Bool.and_eq_true, decide_eq_true_eq] at hn2
          obtain ⟨n1, n2, n3, n4⟩ := hn2
          have hs : stopN digI (n.data.toList ++ r) = n.size := by rw [stop_app (fun b hb => List.all_eq_true.1 n3 b hb) (fine_dig hf), hl]
          obtain ⟨b, t, hbt⟩ : ∃ b t, n.data.toList = b :: t := by
            cases hc : n.data.toList with
            | nil => rw [hc] at hl; simp at hl; omega
            | cons b t => exact ⟨b, t, rfl⟩
          have hb : digI b.toNat = true := List.all_eq_true.1 n3 b (by rw [hbt]; simp)
          have ht := take_ba n r
          have hdr : (n.data.toList ++ r).drop n.size = r := by rw [← hl, List.drop_left]
          rw [hbt] at hs ht hdr ⊢
          rw [List.cons_append] at hs ht hdr ⊢
          rw [sig_dig hb, hs, ht]
          have hg : goodT (8, n, 0, n.size) (b :: (t ++ r)) = true := by
            unfold goodT
            simp only [hdr, hf, Bool.and_true, decide_eq_true_eq]
            have e3 : wordT 8 n 0 = n := by rw [e, if_pos hn]
            rw [e3]
            intro e4; rw [e4] at n1; exact absurd n1 (by decide)
          rw [if_pos hg]
        · rw [if_neg hn] at hw; exact absurd rfl hw
      · by_cases h9 : k = 9
        · subst h9
          have e : wordT 9 n 0 = if sigW n = true then n else ⟨#[]⟩ := by unfold wordT; rw [if_neg (by decide), if_neg (by decide), if_neg (by decide), if_pos rfl]
          rw [e] at hw ⊢
          by_cases hn : sigW n = true
          · rw [if_pos hn]
            unfold sigW at hn
            simp only [Bool.and_eq_true, decide_eq_true_eq] at hn
            obtain ⟨b, rfl⟩ := one_byte hn.1
            show signL (b :: r) = _
            rw [sig_sign hn.2]; rfl
          · rw [if_neg hn] at hw; exact absurd rfl hw
        · by_cases hn : n = ⟨#[]⟩
          · subst hn
            have key : ∀ (x : ByteArray) (kk : Int), mayN x = true → keyW x = kk → kk ≠ 0 → signL (x.data.toList ++ r) = some (kk, ⟨#[]⟩, 0, x.size) := fun x kk g1 g2 g3 => by
              rw [sign_name g1 hf, if_neg (by rw [g2]; exact g3), g2]; rfl
            by_cases h2 : k = 2
            · subst h2; exact key ⟨#[97, 110, 100]⟩ 2 (by decide) (by decide) (by decide)
            · by_cases h3 : k = 3
              · subst h3; exact key ⟨#[102, 111, 114]⟩ 3 (by decide) (by decide) (by decide)
              · by_cases h5 : k = 5
                · subst h5; exact key ⟨#[97, 115]⟩ 5 (by decide) (by decide) (by decide)
                · by_cases h4 : k = 4
                  · subst h4
                    show signL (124 :: r) = _
                    rw [sig_124 rfl]; rfl
                  · by_cases h6 : k = 6
                    · subst h6
                      show signL (40 :: r) = _
                      rw [sig_40 rfl]; rfl
                    · by_cases h7 : k = 7
                      · subst h7
                        show signL (41 :: r) = _
                        rw [sig_41 rfl]; rfl
                      · exact absurd (by unfold wordT; simp [h1, h2, h3, h4, h5, h6, h7, h8, h9]) hw
          · exact absurd (by unfold wordT; simp [h1, h8, h9, hn]) hw
    · exact absurd (by unfold wordT; simp [h1, h0]) hw
end Go.Proofs.Ytmbijfcjfhdnjaa

/- What is written is read as it was: plain laws of texts. -/
namespace Go.Proofs.Ytmbijfcjfhdnjaa
set_option linter.unusedSimpArgs false
set_option linter.unusedVariables false
open Go.RowKit Go.Lib

theorem sign_none {b : UInt8} {r : List UInt8} (h : b.toNat = 32 ∨ b.toNat = 9 ∨ b.toNat = 10 ∨ b.toNat = 35) : signL (b :: r) = none := by
  have hl : lttI b.toNat = false := by rcases h with h | h | h | h <;> rw [h] <;> rfl
  have hd : digI b.toNat = false := by rcases h with h | h | h | h <;> rw [h] <;> rfl
  have hs : sigB b.toNat = false := by rcases h with h | h | h | h <;> rw [h] <;> rfl
  rw [sign_nl hl]; simp only [plainL]
  rw [if_neg (by simp [hl]), if_neg (by omega), if_neg (by omega), if_neg (by omega), if_neg (by omega), if_neg (by simp [hd]), if_neg (by simp [hs])]
theorem sign_nil : signL [] = none := by rfl
theorem scan_tok {l : List UInt8} {k : Int} {w : ByteArray} {o : Int} {n : Nat} (h : signL l = some (k, w, o, n)) (a : Nat) (acc : List Tok) (ha : acc.length < 1000) : scan l a acc = scan (l.drop n) (a + n) (acc ++ [⟨k, w, o, a⟩]) := by
  cases l with
  | nil => rw [sign_nil] at h; cases h
  | cons b r =>
    rw [scan_cons]
    have h1 : ¬ blankB b = true := fun hb => by
      rw [sign_none (by simp [blankB] at hb; omega)] at h; cases h
    have h2 : ¬ b.toNat = 35 := fun hb => by rw [sign_none (by omega)] at h; cases h
    rw [if_neg h1, if_neg h2, h]
    simp only
    rw [if_neg (by omega)]
theorem scan_word {x : Tok} (hw : wrd x ≠ ⟨#[]⟩) {r : List UInt8} (hf : fineL r = true) (a : Nat) (acc : List Tok) (ha : acc.length < 1000) : scan ((wrd x).data.toList ++ r) a acc = scan r (a + (wrd x).size) (acc ++ [⟨x.kind, x.name, x.of, a⟩]) := by
  have h1 : signL ((wrd x).data.toList ++ r) = some (x.kind, x.name, x.of, (wrd x).size) := sign_word hw hf
  rw [scan_tok h1 a acc ha]
  rw [← len_size (wrd x), List.drop_left]
theorem scan_blank {b : UInt8} {r : List UInt8} (h : blankB b = true) (a : Nat) (acc : List Tok) : scan (b :: r) a acc = scan r (a + 1) acc := by rw [scan_cons, if_pos h]
/-- without its place -/
def core (t : Tok) : Int × ByteArray × Int := (t.kind, t.name, t.of)
abbrev wl (t : Tok) : List UInt8 := (wrd t).data.toList
theorem tail_cons (x : Tok) (l : List Tok) : Lib.joinTail [32] ((x :: l).map wl) = 32 :: (wl x ++ Lib.joinTail [32] (l.map wl)) := by
  simp [Lib.joinTail]
theorem tail_fine (l : List Tok) : fineL (Lib.joinTail [32] (l.map wl)) = true := by
  cases l with
  | nil => rfl
  | cons x l => rw [tail_cons]; rfl
theorem scan_tail : ∀ (l : List Tok) (a : Nat) (acc : List Tok), (∀ t ∈ l, wrd t ≠ ⟨#[]⟩) → acc.length + l.length ≤ 1000 → ∃ l' : List Tok, scan (Lib.joinTail [32] (l.map wl)) a acc = (acc ++ l', 0, 0) ∧ l.map core = l'.map core
  | [], a, acc, _, _ => ⟨[], by simp [Lib.joinTail, scan_nil], rfl⟩
  | x :: l, a, acc, h, hn => by
    simp only [List.length_cons] at hn
    obtain ⟨l', h1, h2⟩ := scan_tail l (a + 1 + (wrd x).size) (acc ++ [⟨x.kind, x.name, x.of, (a + 1 : Nat)⟩]) (fun t ht => h t (by simp [ht])) (by simp; omega)
    refine ⟨⟨x.kind, x.name, x.of, (a + 1 : Nat)⟩ :: l', ?_, by rw [List.map_cons, List.map_cons, h2]; rfl⟩
    rw [tail_cons, scan_blank rfl, scan_word (h x (by simp)) (tail_fine l) _ _ (by omega), h1, List.append_assoc]
    rfl
theorem scan_join (l : List Tok) (h : ∀ t ∈ l, wrd t ≠ ⟨#[]⟩) (hn : l.length ≤ 1000) : ∃ l' : List Tok, scan (Lib.join (l.map wl) [32]) 0 [] = (l', 0, 0) ∧ l.map core = l'.map core := by
  cases l with
  | nil => exact ⟨[], rfl, rfl⟩
  | cons x l =>
    simp only [List.length_cons] at hn
    obtain ⟨l', h1, h2⟩ := scan_tail l (0 + (wrd x).size) ([] ++ [⟨x.kind, x.name, x.of, (0 : Nat)⟩]) (fun t ht => h t (by simp [ht])) (by simp; omega)
    refine ⟨⟨x.kind, x.name, x.of, (0 : Nat)⟩ :: l', ?_, by rw [List.map_cons, List.map_cons, h2]; rfl⟩
    rw [List.map_cons, Lib.join_cons, scan_word (h x (by simp)) (tail_fine l) _ _ (by simp), h1]
    rfl
theorem joinB_wl (l : List Tok) : (joinB (l.map wrd)).data.toList = Lib.join (l.map wl) [32] := by
  unfold joinB
  rw [ba_list, List.map_map]
  rfl
end Go.Proofs.Ytmbijfcjfhdnjaa

/- A token's word is what stood there: plain laws. -/
namespace Go.Proofs.Ytmbijfcjfhdnjaa
set_option linter.unusedSimpArgs false
set_option linter.unusedVariables false
open Go.RowKit Go.Lib

theorem keyW_word {w : ByteArray} (h : keyW w ≠ 0) : wordT (keyW w) ⟨#[]⟩ 0 = w := by
  unfold keyW at h ⊢
  by_cases e1 : w = ⟨#[97, 110, 100]⟩
  · rw [if_pos e1, e1]; decide
  · rw [if_neg e1] at h ⊢
    by_cases e2 : w = ⟨#[102, 111, 114]⟩
    · rw [if_pos e2, e2]; decide
    · rw [if_neg e2] at h ⊢
      by_cases e3 : w = ⟨#[97, 115]⟩
      · rw [if_pos e3, e3]; decide
      · rw [if_neg e3] at h; exact absurd rfl h
theorem name_back {l : List UInt8} {n : Nat} (h : nameL l = some n) : n = stopN innI l ∧ mayN (ba (l.take n)) = true := by
  rw [name_some] at h
  by_cases hc : lttI (l.headD 0).toNat = true ∧ stopN innI l ≤ 24 ∧ fineL (l.drop (stopN innI l)) = true
  · rw [if_pos hc] at h
    injection h with h
    subst h
    exact ⟨rfl, (may_stop l).2 ⟨hc.1, hc.2.1⟩⟩
  · rw [if_neg hc] at h; cases h
theorem ba_append (a b : List UInt8) : ba (a ++ b) = ba a ++ ba b := by
  apply ByteArray.ext; apply Array.ext'; simp [ba]
theorem plain_back {l : List UInt8} {k : Int} {w : ByteArray} {o : Int} {n : Nat} (h : plainL l = some (k, w, o, n)) : wordT k w o = ba (l.take n) := by
  cases l with
  | nil => cases h
  | cons b r =>
    have hb1 : ∀ c : UInt8, b.toNat = c.toNat → b = c := fun c hc => UInt8.toNat_inj.1 hc
    simp only [plainL] at h
    by_cases c1 : lttI b.toNat = true
    · rw [if_pos c1] at h
      cases hn : nameL (b :: r) with
      | none => rw [hn] at h; cases h
      | some m =>
        rw [hn] at h
        simp only at h
        obtain ⟨_, hm⟩ := name_back hn
        by_cases hk : keyW (ba ((b :: r).take m)) = 0
        · rw [if_pos hk] at h
          simp only [Option.some.injEq, Prod.mk.injEq] at h
          obtain ⟨rfl, rfl, rfl, rfl⟩ := h
          unfold wordT atomW
          rw [if_pos rfl, if_neg (by decide), if_pos hm, if_neg (by decide), if_pos ⟨rfl, hk⟩]
        · rw [if_neg hk] at h
          simp only [Option.some.injEq, Prod.mk.injEq] at h
          obtain ⟨rfl, rfl, rfl, rfl⟩ := h
          exact keyW_word hk
    · rw [if_neg c1] at h
      by_cases c2 : b.toNat = 68
      · rw [if_pos c2] at h
        have := hb1 68 c2
        subst this
        by_cases hf : fineL r = true
        · rw [if_pos hf] at h
          simp only [Option.some.injEq, Prod.mk.injEq] at h
          obtain ⟨rfl, rfl, rfl, rfl⟩ := h
          rfl
        · rw [if_neg hf] at h; cases h
      · rw [if_neg c2] at h
        by_cases c3 : b.toNat = 124
        · rw [if_pos c3] at h
          have := hb1 124 c3
          subst this
          simp only [Option.some.injEq, Prod.mk.injEq] at h
          obtain ⟨rfl, rfl, rfl, rfl⟩ := h
          rfl
        · rw [if_neg c3] at h
          by_cases c4 : b.toNat = 40
          · rw [if_pos c4] at h
            have := hb1 40 c4
            subst this
            simp only [Option.some.injEq, Prod.mk.injEq] at h
            obtain ⟨rfl, rfl, rfl, rfl⟩ := h
            rfl
          · rw [if_neg c4] at h
            by_cases c5 : b.toNat = 41
            · rw [if_pos c5] at h
              have := hb1 41 c5
              subst this
              simp only [Option.some.injEq, Prod.mk.injEq] at h
              obtain ⟨rfl, rfl, rfl, rfl⟩ := h
              rfl
            · rw [if_neg c5] at h
              by_cases c6 : digI b.toNat = true
              · rw [if_pos c6] at h
                by_cases hn : numW (ba ((b :: r).take (stopN digI (b :: r)))) = true ∧ fineL ((b :: r).drop (stopN digI (b :: r))) = true
                · rw [if_pos hn] at h
                  simp only [Option.some.injEq, Prod.mk.injEq] at h
                  obtain ⟨rfl, rfl, rfl, rfl⟩ := h
                  unfold wordT
                  rw [if_neg (by decide), if_neg (by decide), if_pos rfl, if_pos hn.1]
                · rw [if_neg hn] at h; cases h
              · rw [if_neg c6] at h
                by_cases c7 : sigB b.toNat = true
                · rw [if_pos c7] at h
                  simp only [Option.some.injEq, Prod.mk.injEq] at h
                  obtain ⟨rfl, rfl, rfl, rfl⟩ := h
                  have hs : sigW (ba [b]) = true := by
                    rw [sigW_one rfl]; exact c7
                  unfold wordT
                  rw [if_neg (by decide), if_neg (by decide), if_neg (by decide), if_pos rfl, if_pos hs]
                  rfl
                · rw [if_neg c7] at h; cases h
theorem sign_back {l : List UInt8} {k : Int} {w : ByteArray} {o : Int} {n : Nat} (h : signL l = some (k, w, o, n)) : wordT k w o = ba (l.take n) := by
  unfold signL at h
  by_cases hk : kindL l = 0
  · rw [if_pos hk] at h; exact plain_back h
  · rw [if_neg hk] at h
    rcases kindL_cases l with h0 | ⟨hm, hbg⟩
    · exact absurd h0 hk
    · obtain ⟨K, hK⟩ : ∃ K, K = kindL l := ⟨_, rfl⟩
      rw [← hK] at h hm hbg hk
      unfold atomL at h
      cases hn : nameL (l.drop (preW K).size) with
      | none => rw [hn] at h; cases h
      | some m =>
        rw [hn] at h
        simp only [Option.some.injEq, Prod.mk.injEq] at h
        obtain ⟨rfl, rfl, rfl, rfl⟩ := h
        obtain ⟨_, hmay⟩ := name_back hn
        have ho : K = 1 ∨ K = 2 ∨ K = 4 ∨ K = 5 := by simpa [kinds] using hm
        unfold begL at hbg
        have hbt := of_decide_eq_true hbg
        have e : wordT 1 (ba ((l.drop (preW K).size).take m)) K = preW K ++ ba ((l.drop (preW K).size).take m) := by
          unfold wordT atomW
          rw [if_pos rfl, if_neg hk, if_pos hmay, if_pos ho]
        rw [e, List.take_add, ba_append, hbt, ba_eta]
def tot (l : List Tok) : Nat := (l.map fun t => (wrd t).size).sum
theorem tot_snoc (l : List Tok) (t : Tok) : tot (l ++ [t]) = tot l + (wrd t).size := by simp [tot]
theorem ba_ne {w : ByteArray} (h : 1 ≤ w.size) : w ≠ ⟨#[]⟩ := by
  intro e; rw [e] at h; exact absurd h (by decide)
theorem scanF_words : ∀ (f : Nat) (l : List UInt8) (a : Nat) (acc : List Tok), (∀ t ∈ acc, wrd t ≠ ⟨#[]⟩) → (∀ t ∈ (scanF f l a acc).1, wrd t ≠ ⟨#[]⟩) ∧ tot (scanF f l a acc).1 ≤ tot acc + l.length
  | 0, _, _, acc, h => ⟨h, by show tot acc ≤ _; omega⟩
  | f + 1, [], _, acc, h => ⟨h, by show tot acc ≤ _; omega⟩
  | f + 1, b :: r, a, acc, h => by
    have h0 : (∀ t ∈ ([] : List Tok), wrd t ≠ ⟨#[]⟩) ∧ tot [] ≤ tot acc + (b :: r).length := ⟨by simp, by simp [tot]⟩
    simp only [scanF]
    split
    · obtain ⟨h1, h2⟩ := scanF_words f r (a + 1) acc h
      exact ⟨h1, by simp only [List.length_cons]; omega⟩
    · split
      · obtain ⟨h1, h2⟩ := scanF_words f ((b :: r).drop (stopN notI (b :: r))) (a + stopN notI (b :: r)) acc h
        refine ⟨h1, ?_⟩
        rw [List.length_drop] at h2
        omega
      · split
        · exact h0
        · next k w o n hs =>
          split
          · exact h0
          · have hb := sign_back hs
            obtain ⟨a1, a2, _⟩ := signL_ascii hs
            have hsz : (wrd ⟨k, w, o, a⟩).size = n := by
              unfold wrd
              rw [hb, ba_len2, List.length_take]; omega
            obtain ⟨h1, h2⟩ := scanF_words f ((b :: r).drop n) (a + n) (acc ++ [⟨k, w, o, a⟩]) (fun t ht => by
              rcases List.mem_append.1 ht with ht | ht
              · exact h t ht
              · simp only [List.mem_singleton] at ht
                subst ht
                exact ba_ne (by omega))
            refine ⟨h1, ?_⟩
            rw [List.length_drop, tot_snoc, hsz] at h2
            omega
theorem allT_words (s : ByteArray) : (∀ t ∈ (allT s).1, wrd t ≠ ⟨#[]⟩) ∧ tot (allT s).1 ≤ s.size := by
  have hl := len_size s
  unfold allT
  split
  · exact ⟨by simp, by simp [tot]⟩
  · obtain ⟨h1, h2⟩ := scanF_words s.data.toList.length s.data.toList 0 [] (by simp)
    refine ⟨h1, ?_⟩
    have h3 : tot [] = 0 := rfl
    unfold scan
    omega
theorem tot_len : ∀ {l : List Tok}, (∀ t ∈ l, wrd t ≠ ⟨#[]⟩) → l.length ≤ tot l
  | [], _ => by simp
  | t :: l, h => by
    have h1 := tot_len (l := l) (fun x hx => h x (by simp [hx]))
    have h2 : 1 ≤ (wrd t).size := by
      rcases Nat.eq_zero_or_pos (wrd t).size with h0 | h0
      · exact absurd (by rw [← ba_eta (wrd t), List.eq_nil_of_length_eq_zero (show (wrd t).data.toList.length = 0 by rw [len_size]; exact h0)]; rfl) (h t (by simp))
      · exact h0
    have e : tot (t :: l) = (wrd t).size + tot l := by simp [tot]
    rw [e, List.length_cons]; omega
theorem joinB_tot (l : List Tok) : (joinB (l.map wrd)).size ≤ tot l + l.length := by
  unfold joinB
  rw [ba_len2]
  cases l with
  | nil => simp [Lib.join_nil]
  | cons x r =>
    rw [List.map_cons, List.map_cons, Lib.join_length]
    have : Lib.lens ((x :: r).map wl) = tot (x :: r) := by
      simp [Lib.lens, tot, wl]
      rfl
    simp only [List.map_map, List.length_map, List.length_cons, List.length_nil] at this ⊢
    have e : Lib.lens ((wrd x).data.toList :: r.map ((fun x => x.data.toList) ∘ wrd)) = tot (x :: r) := this
    rw [e]; omega
end Go.Proofs.Ytmbijfcjfhdnjaa

/- TokenBack: the call. -/
namespace Go.Proofs.Ytmbijfcjfhdnjaa
set_option linter.unusedSimpArgs false
set_option linter.unusedVariables false
open Go.RowKit Go.Lib

theorem sign_size {l : List UInt8} {k : Int} {w : ByteArray} {o : Int} {n : Nat} (h : signL l = some (k, w, o, n)) (hl : l.length ≤ 1000000) : w.size ≤ 1000000 := by
  have tk : ∀ (l : List UInt8) (n : Nat), l.length ≤ 1000000 → (ba (l.take n)).size ≤ 1000000 := fun l n h => by rw [ba_len2, List.length_take]; omega
  have z : (ba []).size ≤ 1000000 := by decide
  unfold signL at h
  split at h
  · cases l with
    | nil => cases h
    | cons b r =>
      simp only [plainL] at h
      repeat' split at h
      all_goals first
        | (cases h; done)
        | (simp only [Option.some.injEq, Prod.mk.injEq] at h; obtain ⟨_, rfl, _⟩ := h; first | exact tk _ _ hl | exact z | (rw [ba_len2]; simp))
  · unfold atomL at h
    split at h
    · cases h
    · simp only [Option.some.injEq, Prod.mk.injEq] at h
      obtain ⟨_, rfl, _⟩ := h
      exact tk _ _ (by simp; omega)
theorem allT_name {s : ByteArray} (hs : s.size ≤ 1000000) : ∀ t ∈ (allT s).1, t.name.size ≤ 1000000 := by
  have hl := len_size s
  have gen : ∀ (f : Nat) (l : List UInt8) (a : Nat) (acc : List Tok), l.length ≤ 1000000 → (∀ t ∈ acc, t.name.size ≤ 1000000) → ∀ t ∈ (scanF f l a acc).1, t.name.size ≤ 1000000 := by
    intro f
    induction f with
    | zero => intro l a acc _ h; exact h
    | succ f ih =>
      intro l a acc hlen h
      cases l with
      | nil => exact h
      | cons b r =>
        simp only [scanF]
        simp only [List.length_cons] at hlen
        split
        · exact ih _ _ _ (by omega) h
        · split
          · exact ih _ _ _ (by simp; omega) h
          · split
            · simp
            · next k w o n hsg =>
              split
              · simp
              · refine ih _ _ _ (by simp; omega) fun t ht => ?_
                rcases List.mem_append.1 ht with ht | ht
                · exact h t ht
                · simp only [List.mem_singleton] at ht
                  subst ht
                  exact sign_size hsg (by simp; omega)
  unfold allT
  split
  · simp
  · exact gen _ _ _ _ (by omega) (by simp)
end Go.Proofs.Ytmbijfcjfhdnjaa

/- Expressions: Parse, and the document's. -/
-- fast
-- rows
namespace Go.Proofs.Ytmbijfcjfhdnjaa
set_option linter.unusedSimpArgs false
set_option linter.unusedVariables false
open Go.RowKit Go.Lib

def resI (r : List Trm × Int × Int) : AV := .tup [vTrs r.1, .int .i64 r.2.1, .int .i64 r.2.2]
theorem free_resI (r : List Trm × Int × Int) : free (resI r) = true := by simp [resI, vTrs, free, free.frees, frees_trs]
/-- WHAT A TEXT IS READ AS -/
def parseR (s : ByteArray) : List Trm × Int × Int :=
  if (allT s).2.2 ≠ 0 then ([], ((allT s).2.1 : Nat), (allT s).2.2)
  else if (readR wdB (allT s).1).2.2 = 0 then ((readR wdB (allT s).1).1, 0, 0)
  else match (allT s).1[(readR wdB (allT s).1).2.1]? with
    | some t => ([], t.at_, (readR wdB (allT s).1).2.2)
    | none => if (readR wdB (allT s).1).2.2 = 3 then ([], 0, 3) else ([], (s.size : Nat), (readR wdB (allT s).1).2.2)
theorem trsC_nil : trsC [] = [] := rfl
set_option maxRecDepth 100000 in
set_option maxHeartbeats 8000000 in
theorem p_parse (s : ByteArray) (hs : s.size ≤ 1000000) : PCalls Try.prog 16 [.str s] (resI (parseR s)) := by
  have q1 := p_pall s hs
  have a2 := allT_len s
  have a3 := allT_name (s := s) hs
  have q2 := p_read (allT s).1 (by omega) a3
  obtain ⟨R, hR⟩ : ∃ R, R = readR wdB (allT s).1 := ⟨_, rfl⟩
  obtain ⟨A, hA⟩ : ∃ A, A = allT s := ⟨_, rfl⟩
  unfold parseR
  rw [← hR] at q2 ⊢
  rw [← hA] at q1 a2 a3 q2 ⊢
  simp only [resV, vToks, resX, vTrs] at q1 q2
  refine pcalls_of rfl (free_resI _) (ACalls.deep (acalls_of mixed J_expr_Parse_ok (Nat.le_of_ble_eq_true rfl) ?_)); simp only [J_expr_Parse, wkr,wk,if_true,if_false,forall_const,implies_true,ne_eq,eq_self,Nat.reduceEqDiff,Nat.reduceAdd,Nat.reduceMul,Nat.reduceSub,Nat.reduceLeDiff,Nat.reduceLT,Int.reduceEq,Int.reduceLT,Int.reduceLE,Int.reduceAdd,Int.reduceSub,Int.reduceMul,Int.reduceNeg,Int.reduceNe,reduceCtorEq,Int.reduceToNat,↓reduceIte]
  refine PCalls.use (q1) ?_; simp only [wkr,wk,if_true,if_false,forall_const,implies_true,ne_eq,eq_self,Nat.reduceEqDiff,Nat.reduceAdd,Nat.reduceMul,Nat.reduceSub,Nat.reduceLeDiff,Nat.reduceLT,Int.reduceEq,Int.reduceLT,Int.reduceLE,Int.reduceAdd,Int.reduceSub,Int.reduceMul,Int.reduceNeg,Int.reduceNe,reduceCtorEq,Int.reduceToNat,↓reduceIte]
  refine ⟨fun h0 => ?_, fun h0 => ?_⟩
  · rw [if_pos h0]
    simp only [rdpw, resI, vTrs]
    rfl
  · rw [if_neg (fun h => h h0)]
    refine PCalls.use (q2) ?_; simp only [wkr,wk,if_true,if_false,forall_const,implies_true,ne_eq,eq_self,Nat.reduceEqDiff,Nat.reduceAdd,Nat.reduceMul,Nat.reduceSub,Nat.reduceLeDiff,Nat.reduceLT,Int.reduceEq,Int.reduceLT,Int.reduceLE,Int.reduceAdd,Int.reduceSub,Int.reduceMul,Int.reduceNeg,Int.reduceNe,reduceCtorEq,Int.reduceToNat,↓reduceIte]
    refine ⟨fun h1 => ?_, fun h1 => ?_⟩
    · rw [if_pos h1]
      simp only [rdpw, resI, vTrs, rdps_trs, h1]
    · rw [if_neg h1]
      rcases Nat.lt_or_ge R.2.1 A.1.length with hil | hil
      · have hd : (toksC A.1).drop (((R.2.1 : Nat) : Int).toNat * 4) = _ := toksC_drop hil
        rw [List.getElem?_eq_getElem hil]
        refine ⟨fun _ => ⟨⟨by omega, by omega⟩, ?_⟩, fun h => absurd (by omega) h⟩
        simp only [wkr,wk,if_true,if_false,forall_const,implies_true,ne_eq,eq_self,Nat.reduceEqDiff,Nat.reduceAdd,Nat.reduceMul,Nat.reduceSub,Nat.reduceLeDiff,Nat.reduceLT,Int.reduceEq,Int.reduceLT,Int.reduceLE,Int.reduceAdd,Int.reduceSub,Int.reduceMul,Int.reduceNeg,Int.reduceNe,reduceCtorEq,Int.reduceToNat,↓reduceIte, hd]
        simp only [rdpw, resI, vTrs]
        rfl
      · rw [List.getElem?_eq_none hil]
        refine ⟨fun h => absurd h (by omega), fun _ => ⟨fun h3 => ?_, fun h3 => ?_⟩⟩
        · simp only [if_pos h3, rdpw, resI, vTrs, h3]
          rfl
        · simp only [if_neg h3, rdpw, resI, vTrs]
          rfl
end Go.Proofs.Ytmbijfcjfhdnjaa

/- Expressions: the parts of terms. -/
-- fast
-- rows
namespace Go.Proofs.Ytmbijfcjfhdnjaa
set_option linter.unusedSimpArgs false
set_option linter.unusedVariables false
open Go.RowKit Go.Lib

/-- may a term be written? -/
def wrT (t : Trm) : Bool := !decide (wordT t.op t.name t.of = ⟨#[]⟩)
set_option maxRecDepth 100000 in
theorem p_written (t : Trm) (hn : t.name.size ≤ 1000000) : PCalls Try.prog 45 [.agg (trC t)] (.str (wordT t.op t.name t.of)) := by
  have q := p_word t.op t.name t.of 0 hn
  simp only [trC]
  refine pcalls_of (by first | rfl | simp [free, free.frees, frees_str, frees_u8, frees_u16]) (by first | rfl | simp [free, free.frees, frees_str, frees_u8, frees_u16]) (acalls_of mixed J_expr_written_ok (Nat.le_of_ble_eq_true rfl) ?_); simp only [J_expr_written, wkr,wk,if_true,if_false,forall_const,implies_true,ne_eq,eq_self,Nat.reduceEqDiff,Nat.reduceAdd,Nat.reduceMul,Nat.reduceSub,Nat.reduceLeDiff,Nat.reduceLT,Int.reduceEq,Int.reduceLT,Int.reduceLE,Int.reduceAdd,Int.reduceSub,Int.reduceMul,Int.reduceNeg,Int.reduceNe,reduceCtorEq,Int.reduceToNat,↓reduceIte]
  refine PCalls.use (q) ?_; simp only [wkr,wk,if_true,if_false,forall_const,implies_true,ne_eq,eq_self,Nat.reduceEqDiff,Nat.reduceAdd,Nat.reduceMul,Nat.reduceSub,Nat.reduceLeDiff,Nat.reduceLT,Int.reduceEq,Int.reduceLT,Int.reduceLE,Int.reduceAdd,Int.reduceSub,Int.reduceMul,Int.reduceNeg,Int.reduceNe,reduceCtorEq,Int.reduceToNat,↓reduceIte]
/-- parts as cells -/
def prC (l : List Prt) : List AV := l.flatMap fun p => [.int .i64 p.1, .int .i64 p.2.1, .int .i64 p.2.2]
theorem prC_len (l : List Prt) : (prC l).length = l.length * 3 := by
  induction l with
  | nil => rfl
  | cons x l ih => simp only [prC, List.flatMap_cons, List.length_append, List.length_cons, List.length_nil] at ih ⊢; omega
theorem prC_zero (n : Nat) : ((List.range (n * 3)).map fun i => ([.int .i64 0, .int .i64 0, .int .i64 0] : List AV).getD (i % 3) .nilp) = prC (List.replicate n (0, 0, 0)) := by
  have h1 : ((List.range (n * 3)).map fun i => ([.int .i64 0, .int .i64 0, .int .i64 0] : List AV).getD (i % 3) .nilp) = List.replicate (n * 3) (.int .i64 0) := by
    rw [List.eq_replicate_iff]
    refine ⟨by simp, fun b hb => ?_⟩
    obtain ⟨i, _, rfl⟩ := List.mem_map.1 hb
    rcases (show i % 3 = 0 ∨ i % 3 = 1 ∨ i % 3 = 2 by omega) with h | h | h <;> rw [h] <;> rfl
  rw [h1]
  induction n with
  | zero => rfl
  | succ n ih =>
    rw [List.replicate_succ, show (n + 1) * 3 = n * 3 + 1 + 1 + 1 by omega, List.replicate_succ, List.replicate_succ, List.replicate_succ, ih (by
      rw [List.eq_replicate_iff]
      refine ⟨by simp, fun b hb => ?_⟩
      obtain ⟨i, _, rfl⟩ := List.mem_map.1 hb
      rcases (show i % 3 = 0 ∨ i % 3 = 1 ∨ i % 3 = 2 by omega) with h | h | h <;> rw [h] <;> rfl)]
    rfl
theorem prC_drop : ∀ {l : List Prt} {i : Nat} (h : i < l.length), (prC l).drop (i * 3) = .int .i64 l[i].1 :: .int .i64 l[i].2.1 :: .int .i64 l[i].2.2 :: (prC l).drop ((i + 1) * 3)
  | [], _, h => by simp at h
  | w :: l, 0, h => by simp [prC]
  | w :: l, i + 1, h => by
    have := prC_drop (l := l) (i := i) (by simpa using h)
    simp only [prC, List.flatMap_cons, List.cons_append, List.nil_append] at this ⊢
    rw [show (i + 1) * 3 = i * 3 + 1 + 1 + 1 by omega, show (i + 1 + 1) * 3 = (i + 1) * 3 + 1 + 1 + 1 by omega]
    simp only [List.drop_succ_cons, List.getElem_cons_succ]
    exact this
theorem trsC_drop : ∀ {l : List Trm} {i : Nat} (h : i < l.length), (trsC l).drop (i * 3) = .int .i64 l[i].op :: .int .i64 l[i].of :: .str l[i].name :: (trsC l).drop ((i + 1) * 3)
  | [], _, h => by simp at h
  | w :: l, 0, h => by simp [trsC, trC]
  | w :: l, i + 1, h => by
    have := trsC_drop (l := l) (i := i) (by simpa using h)
    simp only [trsC, List.flatMap_cons, trC, List.cons_append, List.nil_append] at this ⊢
    rw [show (i + 1) * 3 = i * 3 + 1 + 1 + 1 by omega, show (i + 1 + 1) * 3 = (i + 1) * 3 + 1 + 1 + 1 by omega]
    simp only [List.drop_succ_cons, List.getElem_cons_succ]
    exact this
theorem prC_set : ∀ {l : List Prt} {i : Nat} (h : i < l.length) (a b c : Int), (((prC l).set (i * 3) (.int .i64 a)).set (i * 3 + 1) (.int .i64 b)).set (i * 3 + 1 + 1) (.int .i64 c) = prC (l.set i (a, b, c))
  | [], _, h, _, _, _ => by simp at h
  | w :: l, 0, h, a, b, c => by simp [prC]
  | w :: l, i + 1, h, a, b, c => by
    have := prC_set (l := l) (i := i) (by simpa using h) a b c
    simp only [prC, List.flatMap_cons, List.cons_append, List.nil_append, List.set_cons_succ] at this ⊢
    rw [show (i + 1) * 3 = i * 3 + 1 + 1 + 1 by omega]
    simp only [List.set_cons_succ]
    rw [this]
theorem prC_set1 : ∀ {l : List Prt} {i : Nat} (h : i < l.length) (c : Int), (prC l).set (i * 3 + 2) (.int .i64 c) = prC (l.set i (l[i].1, l[i].2.1, c))
  | [], _, h, _ => by simp at h
  | w :: l, 0, h, c => by simp [prC]
  | w :: l, i + 1, h, c => by
    have := prC_set1 (l := l) (i := i) (by simpa using h) c
    simp only [prC, List.flatMap_cons, List.cons_append, List.nil_append, List.set_cons_succ, List.getElem_cons_succ] at this ⊢
    rw [show (i + 1) * 3 = i * 3 + 2 + 1 by omega]
    simp only [List.set_cons_succ]
    rw [this]
/-- the expression that terms are; none: they are none -/
def treeT (x : List Trm) : Option Xp := if x.length ≤ 200 then treeX wrT x else none
def PostP (x : List Trm) (h : Hp) (a : AV) (h' : Hp) : Prop := match treeT x with
  | some e => ∃ l : List Prt, a = .tup [.hs h.length x.length, .bool true] ∧ h' = h ++ [some (false, prC l)] ∧ l.length = x.length ∧ Reps x l (x.length - 1) e
  | none => (a = .tup [.lst .clip 0 [], .bool false] ∧ h' = h) ∨ ∃ (n : Nat) (l : List Prt), a = .tup [.hs h.length n, .bool false] ∧ h' = h ++ [some (false, prC l)]
/-- numbers of terms that wait (the last one ahead) stand for expressions -/
def standX (x : List Trm) (l : List Prt) (k : Nat) : List Int → List Xp → Prop
  | [], [] => True
  | i :: s, e :: st => (∃ n : Nat, i = n ∧ n < k ∧ Reps x l n e) ∧ standX x l k s st
  | _, _ => False
theorem standX_len {x : List Trm} {l : List Prt} {k : Nat} : ∀ {s : List Int} {st : List Xp}, standX x l k s st → s.length = st.length
  | [], [], _ => rfl
  | _ :: _, [], h => h.elim
  | [], _ :: _, h => h.elim
  | i :: s, e :: st, h => by simp [standX_len h.2]
theorem standX_set {x : List Trm} {l : List Prt} {k : Nat} {p : Prt} : ∀ {s : List Int} {st : List Xp}, standX x l k s st → standX x (l.set k p) (k + 1) s st
  | [], [], _ => trivial
  | _ :: _, [], h => h.elim
  | [], _ :: _, h => h.elim
  | i :: s, e :: st, ⟨⟨n, h1, h2, h3⟩, h4⟩ => ⟨⟨n, h1, by omega, h3.set h2⟩, standX_set h4⟩
theorem runX_none {wr : Trm → Bool} : ∀ {l : List Trm} {st : List Xp} (r : List Trm), runX wr l st = none → runX wr (l ++ r) st = none
  | [], _, _, h => by simp [runX] at h
  | t :: l, st, r, h => by
    simp only [List.cons_append, runX] at h ⊢
    cases hs : stepX wr t st with
    | none => rfl
    | some s => rw [hs] at h; exact runX_none r h
theorem trimP0 {x : List Trm} {h ex : Hp} (hx : treeT x = none) : ∃ h2 ex', h ++ ex = h2 ++ ex' ∧ h.length ≤ h2.length ∧ low h2.length (.tup [.lst .clip 0 [], .bool false]) = true ∧ (∀ (j : Nat) s l, h2[j]? = some (some (s, l)) → (∃ s', h[j]? = some (some (s', l))) ∨ low.lows h2.length l = true) ∧ PostP x h (.tup [.lst .clip 0 [], .bool false]) h2 :=
  ⟨h, ex, rfl, Nat.le_refl _, rfl, fun _ s _ hl => .inl ⟨s, hl⟩, by unfold PostP; rw [hx]; exact .inl ⟨rfl, rfl⟩⟩
theorem frees_prs (l : List Prt) : free.frees (prC l) = true := by
  induction l with
  | nil => rfl
  | cons x l ih => simp only [prC, List.flatMap_cons, List.cons_append, List.nil_append, free.frees, free, Bool.true_and] at ih ⊢; exact ih
theorem trimP1 {x : List Trm} {h ex : Hp} {l : List Prt} {n : Nat} {b : Bool} (hp : PostP x h (.tup [.hs h.length n, .bool b]) (h ++ [some (false, prC l)])) : ∃ h2 ex', (h ++ [some (false, prC l)]) ++ ex = h2 ++ ex' ∧ h.length ≤ h2.length ∧ low h2.length (.tup [.hs h.length n, .bool b]) = true ∧ (∀ (j : Nat) s l, h2[j]? = some (some (s, l)) → (∃ s', h[j]? = some (some (s', l))) ∨ low.lows h2.length l = true) ∧ PostP x h (.tup [.hs h.length n, .bool b]) h2 := by
  refine ⟨_, ex, rfl, by simp, by simp [low, low.lows], fun j s l' hj => ?_, hp⟩
  rcases Nat.lt_or_ge j h.length with h1 | h1
  · rw [List.getElem?_append_left h1] at hj
    exact .inl ⟨s, hj⟩
  · rw [List.getElem?_append_right h1] at hj
    cases hd : j - h.length with
    | zero =>
      rw [hd] at hj
      simp only [List.getElem?_cons_zero, Option.some.injEq, Prod.mk.injEq] at hj
      obtain ⟨_, rfl⟩ := hj
      exact .inr (lows_free (frees_prs l))
    | succ n => rw [hd] at hj; simp at hj
theorem Reps.drop {x : List Trm} {l : List Prt} {n : Nat} {e : Xp} (h : Reps x l n e) : (prC l).drop (n * 3 + 2) = .int .i64 e.deep :: (prC l).drop ((n + 1) * 3) := by
  obtain ⟨p, h1, h2⟩ := h.deep
  obtain ⟨h3, h4⟩ := List.getElem?_eq_some_iff.1 h1
  rw [← List.drop_drop, prC_drop h3, h4, ← h2]; rfl
theorem Reps.role {x : List Trm} {l : List Prt} {n : Nat} {e : Xp} (h : Reps x l n e) (hn : n < x.length) (ho : e.okE wrT) : e.role = true ↔ x[n].op = 1 ∧ x[n].of = 5 := by
  cases h with
  | atm _ t p h1 h2 h3 =>
    obtain ⟨_, h4⟩ := List.getElem?_eq_some_iff.1 h1
    rw [h4]
    simp only [Xp.role, decide_eq_true_eq]
    exact ⟨fun h => ⟨ho.1, h⟩, fun h => h.2⟩
  | op _ j m k a b h1 h2 h3 h4 h5 h6 =>
    obtain ⟨_, h4⟩ := List.getElem?_eq_some_iff.1 h1
    rw [h4]
    simp only [Xp.role, sgn]
    refine ⟨fun h => (nomatch h), fun h => ?_⟩
    have := ho.1
    rw [h.1, bind1] at this; omega
set_option maxRecDepth 100000 in
set_option maxHeartbeats 8000000 in
theorem a_parts {h : Hp} (x : List Trm) (hl : x.length ≤ 9223372036854775807) (hn : ∀ t ∈ x, t.name.size ≤ 1000000) : ACalls Try.prog 42 [vTrs x] h (PostP x h) := by
  refine ACalls.trim (acalls_of mixed J_expr_parts_ok (Nat.le_of_ble_eq_true rfl) ?_); simp only [J_expr_parts, vTrs, wkr,wk,if_true,if_false,forall_const,implies_true,ne_eq,eq_self,Nat.reduceEqDiff,Nat.reduceAdd,Nat.reduceMul,Nat.reduceSub,Nat.reduceLeDiff,Nat.reduceLT,Int.reduceEq,Int.reduceLT,Int.reduceLE,Int.reduceAdd,Int.reduceSub,Int.reduceMul,Int.reduceNeg,Int.reduceNe,reduceCtorEq,Int.reduceToNat,↓reduceIte]
  refine ⟨fun h1 => ⟨fun h2 => ?_, fun h2 => ?_⟩, fun h1 => ?_⟩
  · have := trimP0 (x := x) (h := h) (ex := []) (by unfold treeT; rw [if_neg (by omega)])
    rw [List.append_nil] at this
    exact this
  · have hl2 : x.length ≤ 200 := by omega
    have hT : treeT x = treeX wrT x := by unfold treeT; rw [if_pos hl2]
    rw [Int.toNat_natCast, prC_zero]
    refine ⟨⟨by omega, by omega, by omega⟩, ?_⟩
    refine W_loop (fun m fr h'' => ∃ (k : Nat) (l : List Prt) (s : List Int) (st : List Xp) (ex : Hp), k ≤ x.length ∧ m = x.length - k ∧ l.length = x.length ∧ runX wrT (x.take k) [] = some st ∧ standX x l k s st ∧ (0 < k → ∃ r, s = ((k - 1 : Nat) : Int) :: r) ∧ s.length ≤ k ∧ h'' = (h ++ [some (false, prC l)]) ++ ex ∧ fr = [(0, .lst .ro x.length (trsC x)), (4, .hs h.length x.length), (5, .stk 3 none s.reverse), (22, .lst .ro x.length (trsC x)), (23, .int .i64 x.length), (24, .int .i64 k)]) x.length ⟨0, List.replicate x.length (0, 0, 0), [], [], [], by omega, by omega, by simp, rfl, trivial, fun h => by omega, by simp, by simp, rfl⟩ ?_
    rintro m fr h'' ⟨k, l, s, st, ex, hk, rfl, hll, hrun, hst, htop, hsk, rfl, rfl⟩
    have hslen := standX_len hst
    have hrl : s.reverse.length = s.length := List.length_reverse
    simp only [J_expr_parts_j3, wkr,wk,if_true,if_false,forall_const,implies_true,ne_eq,eq_self,Nat.reduceEqDiff,Nat.reduceAdd,Nat.reduceMul,Nat.reduceSub,Nat.reduceLeDiff,Nat.reduceLT,Int.reduceEq,Int.reduceLT,Int.reduceLE,Int.reduceAdd,Int.reduceSub,Int.reduceMul,Int.reduceNeg,Int.reduceNe,reduceCtorEq,Int.reduceToNat,↓reduceIte]
    refine ⟨fun hlt => ?_, fun hge => ?_⟩
    · have hkl : k < x.length := by omega
      have hd : (trsC x).drop ((k : Int).toNat * 3) = _ := trsC_drop hkl
      refine ⟨⟨by omega, by omega⟩, ?_⟩
      have hsnoc : runX wrT (x.take (k + 1)) [] = stepX wrT x[k] st := by
        rw [List.take_succ_eq_append_getElem hkl, runX_snoc, hrun]
      have hstop : stepX wrT x[k] st = none → treeT x = none := fun h0 => by
        rw [hT]; unfold treeX
        have : runX wrT x [] = none := by
          rw [← List.take_append_drop (k + 1) x]; exact runX_none _ (by rw [hsnoc, h0])
        rw [this]
      have hnm := hn _ (List.getElem_mem hkl)
      obtain ⟨bx, hbx⟩ : ∃ bx : Option (Bool × List AV), bx = some (true, [.int .i64 x[k].op, .int .i64 x[k].of, .str x[k].name]) := ⟨_, rfl⟩
      have hg : ∀ y : Option (Bool × List AV), ((h ++ [y]) ++ ex ++ [bx])[h.length]? = some y := fun y => by simp
      have hst1 : ∀ y z : Option (Bool × List AV), ((h ++ [y]) ++ ex ++ [bx]).set h.length z = (h ++ [z]) ++ ex ++ [bx] := fun y z => by simp
      have hgb : ∀ y : Option (Bool × List AV), ((h ++ [y]) ++ ex ++ [bx])[((h ++ [y]) ++ ex).length]? = some bx := fun y => by simp
      have stop : stepX wrT x[k] st = none → ∃ h2 ex', ((h ++ [some (false, prC l)]) ++ ex ++ [bx]) = h2 ++ ex' ∧ h.length ≤ h2.length ∧ low h2.length (.tup [.lst .clip 0 [], .bool false]) = true ∧ (∀ (j : Nat) s l, h2[j]? = some (some (s, l)) → (∃ s', h[j]? = some (some (s', l))) ∨ low.lows h2.length l = true) ∧ PostP x h (.tup [.lst .clip 0 [], .bool false]) h2 := fun h0 => by
        have := trimP0 (x := x) (h := h) (ex := [some (false, prC l)] ++ ex ++ [bx]) (hstop h0)
        simpa only [List.append_assoc] using this
      have nxt : ∀ (l' : List Prt) (r : List Int) (st' : List Xp), l'.length = x.length → stepX wrT x[k] st = some st' → standX x l' (k + 1) ((k : Int) :: r) st' → r.length ≤ k → inR ((k : Int) + 1) ∧ ∃ m, m < x.length - k ∧ ∃ (k' : Nat) (l2 : List Prt) (s : List Int) (st : List Xp) (ex' : Hp), k' ≤ x.length ∧ m = x.length - k' ∧ l2.length = x.length ∧ runX wrT (x.take k') [] = some st ∧ standX x l2 k' s st ∧ (0 < k' → ∃ r, s = ((k' - 1 : Nat) : Int) :: r) ∧ s.length ≤ k' ∧ ((h ++ [some (false, prC l')]) ++ ex ++ [bx]) = (h ++ [some (false, prC l2)]) ++ ex' ∧ [(0, AV.lst .ro x.length (trsC x)), (4, .hs h.length x.length), (5, .stk 3 none (r.reverse ++ [(k : Int)])), (22, .lst .ro x.length (trsC x)), (23, .int .i64 x.length), (24, .int .i64 ((k : Int) + 1))] = [(0, .lst .ro x.length (trsC x)), (4, .hs h.length x.length), (5, .stk 3 none s.reverse), (22, .lst .ro x.length (trsC x)), (23, .int .i64 x.length), (24, .int .i64 k')] := fun l' r st' q1 q2 q3 q4 =>
        ⟨inR_of (by omega) (by omega), x.length - (k + 1), by omega, k + 1, l', (k : Int) :: r, st', ex ++ [bx], by omega, rfl, q1, by rw [hsnoc, q2], q3, fun _ => ⟨r, rfl⟩, by simp; omega, by simp only [List.append_assoc], by rw [List.reverse_cons]; rfl⟩
      simp only [wkr,wk,if_true,if_false,forall_const,implies_true,ne_eq,eq_self,Nat.reduceEqDiff,Nat.reduceAdd,Nat.reduceMul,Nat.reduceSub,Nat.reduceLeDiff,Nat.reduceLT,Int.reduceEq,Int.reduceLT,Int.reduceLE,Int.reduceAdd,Int.reduceSub,Int.reduceMul,Int.reduceNeg,Int.reduceNe,reduceCtorEq,Int.reduceToNat,↓reduceIte, hd]
      rw [← hbx]
      by_cases k1 : x[k].op = 1
      · have qw := p_written x[k] hnm
        simp only [trC] at qw
        simp only [wkr,wk,if_true,if_false,forall_const,implies_true,ne_eq,eq_self,Nat.reduceEqDiff,Nat.reduceAdd,Nat.reduceMul,Nat.reduceSub,Nat.reduceLeDiff,Nat.reduceLT,Int.reduceEq,Int.reduceLT,Int.reduceLE,Int.reduceAdd,Int.reduceSub,Int.reduceMul,Int.reduceNeg,Int.reduceNe,reduceCtorEq,Int.reduceToNat,↓reduceIte, eqTrue k1]
        refine PCalls.use (qw) ?_; simp only [wkr,wk,if_true,if_false,forall_const,implies_true,ne_eq,eq_self,Nat.reduceEqDiff,Nat.reduceAdd,Nat.reduceMul,Nat.reduceSub,Nat.reduceLeDiff,Nat.reduceLT,Int.reduceEq,Int.reduceLT,Int.reduceLE,Int.reduceAdd,Int.reduceSub,Int.reduceMul,Int.reduceNeg,Int.reduceNe,reduceCtorEq,Int.reduceToNat,↓reduceIte]
        refine ⟨fun h0 => stop ?_, fun h0 => ?_⟩
        · unfold stepX; rw [if_pos k1, if_neg (by simp [wrT, h0])]
        · simp only [wkr,wk,if_true,if_false,forall_const,implies_true,ne_eq,eq_self,Nat.reduceEqDiff,Nat.reduceAdd,Nat.reduceMul,Nat.reduceSub,Nat.reduceLeDiff,Nat.reduceLT,Int.reduceEq,Int.reduceLT,Int.reduceLE,Int.reduceAdd,Int.reduceSub,Int.reduceMul,Int.reduceNeg,Int.reduceNe,reduceCtorEq,Int.reduceToNat,↓reduceIte, hg, hst1]
          have hx := nxt (l.set k (l[k].1, l[k].2.1, 1)) s (.atm x[k] :: st) (by simp [hll]) (by unfold stepX; rw [if_pos k1, if_pos (by simp [wrT, h0])]) ⟨⟨k, rfl, by omega, .atm k x[k] (l[k].1, l[k].2.1, 1) (List.getElem?_eq_getElem hkl) (List.getElem?_set_self (by omega)) rfl⟩, standX_set hst⟩ hsk
          rw [Int.toNat_natCast, prC_set1]
          refine ⟨⟨by omega, by omega⟩, by rw [prC_len]; omega, ⟨by omega, by omega⟩, ?_⟩
          simp only [J_expr_parts_j2, wkr,wk,if_true,if_false,forall_const,implies_true,ne_eq,eq_self,Nat.reduceEqDiff,Nat.reduceAdd,Nat.reduceMul,Nat.reduceSub,Nat.reduceLeDiff,Nat.reduceLT,Int.reduceEq,Int.reduceLT,Int.reduceLE,Int.reduceAdd,Int.reduceSub,Int.reduceMul,Int.reduceNeg,Int.reduceNe,reduceCtorEq,Int.reduceToNat,↓reduceIte]
          exact hx
      · have qb := p_bind x[k].op
        rw [bindP_ne k1] at qb
        simp only [wkr,wk,if_true,if_false,forall_const,implies_true,ne_eq,eq_self,Nat.reduceEqDiff,Nat.reduceAdd,Nat.reduceMul,Nat.reduceSub,Nat.reduceLeDiff,Nat.reduceLT,Int.reduceEq,Int.reduceLT,Int.reduceLE,Int.reduceAdd,Int.reduceSub,Int.reduceMul,Int.reduceNeg,Int.reduceNe,reduceCtorEq,Int.reduceToNat,↓reduceIte, eqFalse k1]
        intro v
        subst hbx
        have hpos : 0 < bindK x[k].op ↔ ¬ bindK x[k].op = 0 := by have := bind_ge x[k].op; omega
        have bad : ¬ (0 < bindK x[k].op ∧ x[k].of = 0 ∧ x[k].name = ⟨#[]⟩) → stepX wrT x[k] st = none := fun h0 => by
          unfold stepX; rw [if_neg k1, if_neg h0]
        by_cases kb : bindK x[k].op = 0
        · refine PCalls.use (qb) ?_; simp only [wkr,wk,if_true,if_false,forall_const,implies_true,ne_eq,eq_self,Nat.reduceEqDiff,Nat.reduceAdd,Nat.reduceMul,Nat.reduceSub,Nat.reduceLeDiff,Nat.reduceLT,Int.reduceEq,Int.reduceLT,Int.reduceLE,Int.reduceAdd,Int.reduceSub,Int.reduceMul,Int.reduceNeg,Int.reduceNe,reduceCtorEq,Int.reduceToNat,↓reduceIte]
          simp only [wkr,wk,if_true,if_false,forall_const,implies_true,ne_eq,eq_self,Nat.reduceEqDiff,Nat.reduceAdd,Nat.reduceMul,Nat.reduceSub,Nat.reduceLeDiff,Nat.reduceLT,Int.reduceEq,Int.reduceLT,Int.reduceLE,Int.reduceAdd,Int.reduceSub,Int.reduceMul,Int.reduceNeg,Int.reduceNe,reduceCtorEq,Int.reduceToNat,↓reduceIte, eqTrue kb]
          exact stop (bad (fun h => hpos.1 h.1 kb))
        · by_cases ko : x[k].of = 0
          · by_cases kn : x[k].name = ⟨#[]⟩
            · have good : 0 < bindK x[k].op ∧ x[k].of = 0 ∧ x[k].name = ⟨#[]⟩ := ⟨hpos.2 kb, ko, kn⟩
              cases st with
              | nil =>
                refine PCalls.use (qb) ?_; simp only [wkr,wk,if_true,if_false,forall_const,implies_true,ne_eq,eq_self,Nat.reduceEqDiff,Nat.reduceAdd,Nat.reduceMul,Nat.reduceSub,Nat.reduceLeDiff,Nat.reduceLT,Int.reduceEq,Int.reduceLT,Int.reduceLE,Int.reduceAdd,Int.reduceSub,Int.reduceMul,Int.reduceNeg,Int.reduceNe,reduceCtorEq,Int.reduceToNat,↓reduceIte]
                simp only [wkr,wk,if_true,if_false,forall_const,implies_true,ne_eq,eq_self,Nat.reduceEqDiff,Nat.reduceAdd,Nat.reduceMul,Nat.reduceSub,Nat.reduceLeDiff,Nat.reduceLT,Int.reduceEq,Int.reduceLT,Int.reduceLE,Int.reduceAdd,Int.reduceSub,Int.reduceMul,Int.reduceNeg,Int.reduceNe,reduceCtorEq,Int.reduceToNat,↓reduceIte, eqFalse kb, eqTrue ko, eqTrue kn, (show ((s.reverse.length : Int) < 2) = True from eqTrue (by have h := hslen; simp only [List.length_nil, List.length_cons] at h; omega))]
                exact stop (by unfold stepX; rw [if_neg k1, if_pos good])
              | cons e1 st =>
                cases st with
                | nil =>
                  refine PCalls.use (qb) ?_; simp only [wkr,wk,if_true,if_false,forall_const,implies_true,ne_eq,eq_self,Nat.reduceEqDiff,Nat.reduceAdd,Nat.reduceMul,Nat.reduceSub,Nat.reduceLeDiff,Nat.reduceLT,Int.reduceEq,Int.reduceLT,Int.reduceLE,Int.reduceAdd,Int.reduceSub,Int.reduceMul,Int.reduceNeg,Int.reduceNe,reduceCtorEq,Int.reduceToNat,↓reduceIte]
                  simp only [wkr,wk,if_true,if_false,forall_const,implies_true,ne_eq,eq_self,Nat.reduceEqDiff,Nat.reduceAdd,Nat.reduceMul,Nat.reduceSub,Nat.reduceLeDiff,Nat.reduceLT,Int.reduceEq,Int.reduceLT,Int.reduceLE,Int.reduceAdd,Int.reduceSub,Int.reduceMul,Int.reduceNeg,Int.reduceNe,reduceCtorEq,Int.reduceToNat,↓reduceIte, eqFalse kb, eqTrue ko, eqTrue kn, (show ((s.reverse.length : Int) < 2) = True from eqTrue (by have h := hslen; simp only [List.length_nil, List.length_cons] at h; omega))]
                  exact stop (by unfold stepX; rw [if_neg k1, if_pos good])
                | cons e2 st =>
                  cases s with
                  | nil => exact hst.elim
                  | cons i1 s =>
                    cases s with
                    | nil => exact hst.2.elim
                    | cons i2 s =>
                      obtain ⟨⟨n1, rfl, hn1, r1⟩, ⟨n2, rfl, hn2, r2⟩, hst3⟩ := hst
                      have hlen2 : ((n1 : Int) :: (n2 : Int) :: s).reverse.length = s.length + 2 := by simp
                      have hf2 : (((s.length + 2 : Nat) : Int) < 2) = False := eqFalse (by omega)
                      have q1 : ((n1 : Int) :: (n2 : Int) :: s).reverse.getD (s.length + 1) 0 = n1 := by simp
                      have q2 : ((n1 : Int) :: (n2 : Int) :: s).reverse.getD s.length 0 = n2 := by simp
                      have q3 : ((n1 : Int) :: (n2 : Int) :: s).reverse.take s.length = s.reverse := by simp
                      refine PCalls.use (qb) ?_; simp only [wkr,wk,if_true,if_false,forall_const,implies_true,ne_eq,eq_self,Nat.reduceEqDiff,Nat.reduceAdd,Nat.reduceMul,Nat.reduceSub,Nat.reduceLeDiff,Nat.reduceLT,Int.reduceEq,Int.reduceLT,Int.reduceLE,Int.reduceAdd,Int.reduceSub,Int.reduceMul,Int.reduceNeg,Int.reduceNe,reduceCtorEq,Int.reduceToNat,↓reduceIte]
                      have h21 : ((s.length + 2 : Nat) : Int) - 2 = (s.length : Nat) := by omega
                      have h22 : ((s.length + 2 : Nat) : Int) - 1 = ((s.length + 1 : Nat) : Int) := by omega
                      simp only [wkr,wk,if_true,if_false,forall_const,implies_true,ne_eq,eq_self,Nat.reduceEqDiff,Nat.reduceAdd,Nat.reduceMul,Nat.reduceSub,Nat.reduceLeDiff,Nat.reduceLT,Int.reduceEq,Int.reduceLT,Int.reduceLE,Int.reduceAdd,Int.reduceSub,Int.reduceMul,Int.reduceNeg,Int.reduceNe,reduceCtorEq,Int.reduceToNat,↓reduceIte, eqFalse kb, eqTrue ko, eqTrue kn, hf2, hlen2, h21, h22, Int.toNat_natCast, q1, q2, q3]
                      simp only [List.length_cons] at hsk hslen
                      refine ⟨inR_of (by omega) (by omega), ⟨by omega, by omega⟩, by omega, inR_of (by omega) (by omega), ⟨by omega, by omega⟩, by omega, ?_⟩
                      have hok := (runX_ok _ _ _ hrun (by simp)).1
                      have ok1 : e1.okE wrT := hok _ (by simp)
                      have ok2 : e2.okE wrT := hok _ (by simp)
                      have hn1x : n1 < x.length := by omega
                      have hd1 : (trsC x).drop (n1 * 3) = _ := trsC_drop hn1x
                      have hp1 := r1.drop
                      have hp2 := r2.drop
                      have hro := r1.role hn1x ok1
                      have hstp := (runX_ok _ _ _ hrun (by simp)).2
                      have hpl : e1.post.length + e2.post.length ≤ k := by
                        have := congrArg List.length hstp
                        rw [stp_cons, stp_cons] at this
                        simp only [List.length_append, List.length_take] at this
                        have h0 : (stp ([] : List Xp)).length = 0 := rfl
                        omega
                      have hde1 := deep_le e1
                      have hde2 := deep_le e2
                      have hdp1 := deep_pos e1
                      have hdp2 := deep_pos e2
                      have hD : (1 + if e2.deep < e1.deep then e1.deep else e2.deep) = (Xp.op x[k].op e2 e1).deep := by simp only [Xp.deep]; omega
                      have nor : ¬ e1.role = true → x[k].op = 5 → stepX wrT x[k] (e1 :: e2 :: st) = none := fun h k5 => by
                        unfold stepX; rw [if_neg k1, if_pos good]; simp only; rw [if_pos ⟨k5, by simpa using h⟩]
                      have fin : ¬ (x[k].op = 5 ∧ e1.role = false) → _ := fun hro2 => nxt (l.set k ((n2 : Int), (n1 : Int), (Xp.op x[k].op e2 e1).deep)) s (.op x[k].op e2 e1 :: st) (by simp [hll]) (by unfold stepX; rw [if_neg k1, if_pos good]; simp only; rw [if_neg hro2]) ⟨⟨k, rfl, by omega, .op k n2 n1 x[k].op e2 e1 (by rw [List.getElem?_eq_getElem hkl, sgn_eta ko kn]) (List.getElem?_set_self (by omega)) hn2 hn1 (r2.set hn2) (r1.set hn1)⟩, standX_set hst3⟩ (by omega)
                      by_cases k5 : x[k].op = 5
                      · by_cases m1 : x[n1].op = 1
                        · by_cases m5 : x[n1].of = 5
                          · have hx := fin (fun h => by rw [hro.2 ⟨m1, m5⟩] at h; cases h.2)
                            simp only [wkr,wk,if_true,if_false,forall_const,implies_true,ne_eq,eq_self,Nat.reduceEqDiff,Nat.reduceAdd,Nat.reduceMul,Nat.reduceSub,Nat.reduceLeDiff,Nat.reduceLT,Int.reduceEq,Int.reduceLT,Int.reduceLE,Int.reduceAdd,Int.reduceSub,Int.reduceMul,Int.reduceNeg,Int.reduceNe,reduceCtorEq,Int.reduceToNat,↓reduceIte, eqTrue k5, Int.toNat_natCast, hd1, eqTrue m1, eqTrue m5, hp1, hp2, hg]
                            refine ⟨⟨by omega, by omega⟩, ⟨by omega, by omega⟩, ⟨by omega, by omega⟩, ?_⟩
                            simp only [wkr,wk,if_true,if_false,forall_const,implies_true,ne_eq,eq_self,Nat.reduceEqDiff,Nat.reduceAdd,Nat.reduceMul,Nat.reduceSub,Nat.reduceLeDiff,Nat.reduceLT,Int.reduceEq,Int.reduceLT,Int.reduceLE,Int.reduceAdd,Int.reduceSub,Int.reduceMul,Int.reduceNeg,Int.reduceNe,reduceCtorEq,Int.reduceToNat,↓reduceIte, h21, Int.toNat_natCast, q3]
                            rw [hst1, prC_set (by omega), hD]
                            have q4 : s.reverse.length = s.length := List.length_reverse
                            refine ⟨⟨by omega, by omega⟩, by rw [← hD]; split <;> exact inR_of (by omega) (by omega), ⟨by omega, by omega⟩, by rw [prC_len]; omega, inR_of (by omega) (by omega), ⟨by omega, by omega⟩, ⟨by omega, by omega⟩, ?_⟩
                            simp only [J_expr_parts_j2, wkr,wk,if_true,if_false,forall_const,implies_true,ne_eq,eq_self,Nat.reduceEqDiff,Nat.reduceAdd,Nat.reduceMul,Nat.reduceSub,Nat.reduceLeDiff,Nat.reduceLT,Int.reduceEq,Int.reduceLT,Int.reduceLE,Int.reduceAdd,Int.reduceSub,Int.reduceMul,Int.reduceNeg,Int.reduceNe,reduceCtorEq,Int.reduceToNat,↓reduceIte]
                            exact hx
                          · simp only [wkr,wk,if_true,if_false,forall_const,implies_true,ne_eq,eq_self,Nat.reduceEqDiff,Nat.reduceAdd,Nat.reduceMul,Nat.reduceSub,Nat.reduceLeDiff,Nat.reduceLT,Int.reduceEq,Int.reduceLT,Int.reduceLE,Int.reduceAdd,Int.reduceSub,Int.reduceMul,Int.reduceNeg,Int.reduceNe,reduceCtorEq,Int.reduceToNat,↓reduceIte, eqTrue k5, Int.toNat_natCast, hd1, eqTrue m1, eqFalse m5]
                            refine ⟨⟨by omega, by omega⟩, ⟨by omega, by omega⟩, stop (nor (fun h => m5 (hro.1 h).2) k5)⟩
                        · simp only [wkr,wk,if_true,if_false,forall_const,implies_true,ne_eq,eq_self,Nat.reduceEqDiff,Nat.reduceAdd,Nat.reduceMul,Nat.reduceSub,Nat.reduceLeDiff,Nat.reduceLT,Int.reduceEq,Int.reduceLT,Int.reduceLE,Int.reduceAdd,Int.reduceSub,Int.reduceMul,Int.reduceNeg,Int.reduceNe,reduceCtorEq,Int.reduceToNat,↓reduceIte, eqTrue k5, Int.toNat_natCast, hd1, eqFalse m1]
                          refine ⟨⟨by omega, by omega⟩, stop (nor (fun h => m1 (hro.1 h).1) k5)⟩
                      · have hx := fin (fun h => k5 h.1)
                        simp only [wkr,wk,if_true,if_false,forall_const,implies_true,ne_eq,eq_self,Nat.reduceEqDiff,Nat.reduceAdd,Nat.reduceMul,Nat.reduceSub,Nat.reduceLeDiff,Nat.reduceLT,Int.reduceEq,Int.reduceLT,Int.reduceLE,Int.reduceAdd,Int.reduceSub,Int.reduceMul,Int.reduceNeg,Int.reduceNe,reduceCtorEq,Int.reduceToNat,↓reduceIte, eqFalse k5, Int.toNat_natCast, hp1, hp2, hg]
                        refine ⟨⟨by omega, by omega⟩, ?_⟩
                        simp only [wkr,wk,if_true,if_false,forall_const,implies_true,ne_eq,eq_self,Nat.reduceEqDiff,Nat.reduceAdd,Nat.reduceMul,Nat.reduceSub,Nat.reduceLeDiff,Nat.reduceLT,Int.reduceEq,Int.reduceLT,Int.reduceLE,Int.reduceAdd,Int.reduceSub,Int.reduceMul,Int.reduceNeg,Int.reduceNe,reduceCtorEq,Int.reduceToNat,↓reduceIte, h21, Int.toNat_natCast, q3]
                        rw [hst1, prC_set (by omega), hD]
                        have q4 : s.reverse.length = s.length := List.length_reverse
                        refine ⟨⟨by omega, by omega⟩, by rw [← hD]; split <;> exact inR_of (by omega) (by omega), ⟨by omega, by omega⟩, by rw [prC_len]; omega, inR_of (by omega) (by omega), ⟨by omega, by omega⟩, ⟨by omega, by omega⟩, ?_⟩
                        simp only [J_expr_parts_j2, wkr,wk,if_true,if_false,forall_const,implies_true,ne_eq,eq_self,Nat.reduceEqDiff,Nat.reduceAdd,Nat.reduceMul,Nat.reduceSub,Nat.reduceLeDiff,Nat.reduceLT,Int.reduceEq,Int.reduceLT,Int.reduceLE,Int.reduceAdd,Int.reduceSub,Int.reduceMul,Int.reduceNeg,Int.reduceNe,reduceCtorEq,Int.reduceToNat,↓reduceIte]
                        exact hx
            · refine PCalls.use (qb) ?_; simp only [wkr,wk,if_true,if_false,forall_const,implies_true,ne_eq,eq_self,Nat.reduceEqDiff,Nat.reduceAdd,Nat.reduceMul,Nat.reduceSub,Nat.reduceLeDiff,Nat.reduceLT,Int.reduceEq,Int.reduceLT,Int.reduceLE,Int.reduceAdd,Int.reduceSub,Int.reduceMul,Int.reduceNeg,Int.reduceNe,reduceCtorEq,Int.reduceToNat,↓reduceIte]
              simp only [wkr,wk,if_true,if_false,forall_const,implies_true,ne_eq,eq_self,Nat.reduceEqDiff,Nat.reduceAdd,Nat.reduceMul,Nat.reduceSub,Nat.reduceLeDiff,Nat.reduceLT,Int.reduceEq,Int.reduceLT,Int.reduceLE,Int.reduceAdd,Int.reduceSub,Int.reduceMul,Int.reduceNeg,Int.reduceNe,reduceCtorEq,Int.reduceToNat,↓reduceIte, eqFalse kb, eqTrue ko, eqFalse kn]
              exact stop (bad (fun h => kn h.2.2))
          · refine PCalls.use (qb) ?_; simp only [wkr,wk,if_true,if_false,forall_const,implies_true,ne_eq,eq_self,Nat.reduceEqDiff,Nat.reduceAdd,Nat.reduceMul,Nat.reduceSub,Nat.reduceLeDiff,Nat.reduceLT,Int.reduceEq,Int.reduceLT,Int.reduceLE,Int.reduceAdd,Int.reduceSub,Int.reduceMul,Int.reduceNeg,Int.reduceNe,reduceCtorEq,Int.reduceToNat,↓reduceIte]
            simp only [wkr,wk,if_true,if_false,forall_const,implies_true,ne_eq,eq_self,Nat.reduceEqDiff,Nat.reduceAdd,Nat.reduceMul,Nat.reduceSub,Nat.reduceLeDiff,Nat.reduceLT,Int.reduceEq,Int.reduceLT,Int.reduceLE,Int.reduceAdd,Int.reduceSub,Int.reduceMul,Int.reduceNeg,Int.reduceNe,reduceCtorEq,Int.reduceToNat,↓reduceIte, eqFalse kb, eqFalse ko]
            exact stop (bad (fun h => ko h.2.1))
    · obtain rfl : k = x.length := by omega
      rw [List.take_length] at hrun
      have none1 : st.length ≠ 1 → treeT x = none := fun hne => by
        rw [hT]; unfold treeX
        rw [hrun]
        cases st with
        | nil => rfl
        | cons e st => cases st with
          | nil => exact absurd rfl hne
          | cons e2 st => rfl
      simp only [J_expr_parts_j1, wkr,wk,if_true,if_false,forall_const,implies_true,ne_eq,eq_self,Nat.reduceEqDiff,Nat.reduceAdd,Nat.reduceMul,Nat.reduceSub,Nat.reduceLeDiff,Nat.reduceLT,Int.reduceEq,Int.reduceLT,Int.reduceLE,Int.reduceAdd,Int.reduceSub,Int.reduceMul,Int.reduceNeg,Int.reduceNe,reduceCtorEq,Int.reduceToNat,↓reduceIte]
      refine trimP1 ?_
      unfold PostP
      by_cases hone : st.length = 1
      · obtain ⟨e, rfl⟩ := List.length_eq_one_iff.1 hone
        obtain ⟨r, hr⟩ := htop (by omega)
        subst hr
        have hr0 : r = [] := List.eq_nil_of_length_eq_zero (by simp only [List.length_cons, List.length_nil] at hslen; omega)
        subst hr0
        obtain ⟨⟨n, hn1, hn2, hr⟩, _⟩ := hst
        have hnn : n = x.length - 1 := by omega
        subst hnn
        have hte : treeT x = some e := by rw [hT]; unfold treeX; rw [hrun]
        rw [hte]
        exact ⟨l, rfl, rfl, hll, hr⟩
      · rw [none1 hone]
        refine .inr ⟨x.length, l, ?_, rfl⟩
        rw [decide_eq_false (by omega)]
  · have := trimP0 (x := x) (h := h) (ex := []) (by
      have : x = [] := List.eq_nil_of_length_eq_zero (by omega)
      subst this; rfl)
    rw [List.append_nil] at this
    exact this
end Go.Proofs.Ytmbijfcjfhdnjaa

/- Expressions: Text's closure; Text, May, Deep. -/
-- fast
-- rows
namespace Go.Proofs.Ytmbijfcjfhdnjaa
set_option linter.unusedSimpArgs false
set_option linter.unusedVariables false
open Go.RowKit Go.Lib

theorem sealE {h : Hp} {id : Nat} {l l' : List AV} (ho : h[id]? = some (some (false, l))) : SealEq h (h.set id (some (false, l'))) := by
  intro j c
  rw [List.getElem?_set]
  split
  · next e =>
    subst e
    rw [ho]
    split <;> simp
  · rfl
/-- words that were written -/
abbrev wob (ws : List ByteArray) : Option (Bool × List AV) := some (false, [.lst (.own 9) ws.length (ws.map .str)])
theorem wob_sn (ws : List ByteArray) (w : ByteArray) : (some (false, [.lst (.own 9) (ws.length + 1) (ws.map AV.str ++ [.str w])]) : Option (Bool × List AV)) = wob (ws ++ [w]) := by simp [wob]
/-- what Text's closure sees: the terms, the words, itself, the parts -/
structure Clos (x : List Trm) (l : List Prt) (h : Hp) (ix io iw il id : Nat) : Prop where
  hx : h[ix]? = some (some (false, [.lst .ro x.length (trsC x)]))
  hw : h[iw]? = some (some (false, [.fn 43 [.ptr ix 0, .ptr io 0, .ptr iw 0, .ptr il 0]]))
  hl : h[il]? = some (some (false, [.hs id x.length]))
  hd : h[id]? = some (some (false, prC l))
  nx : io ≠ ix
  nw : io ≠ iw
  nl : io ≠ il
  nd : io ≠ id
theorem Clos.set {x : List Trm} {l : List Prt} {h : Hp} {ix io iw il id : Nat} (hc : Clos x l h ix io iw il id) (y : Option (Bool × List AV)) : Clos x l (h.set io y) ix io iw il id :=
  ⟨by rw [List.getElem?_set_ne hc.nx]; exact hc.hx, by rw [List.getElem?_set_ne hc.nw]; exact hc.hw, by rw [List.getElem?_set_ne hc.nl]; exact hc.hl, by rw [List.getElem?_set_ne hc.nd]; exact hc.hd, hc.nx, hc.nw, hc.nl, hc.nd⟩
set_option maxRecDepth 100000 in
set_option maxHeartbeats 8000000 in
theorem a_write {x : List Trm} {l : List Prt} {ix io iw il id : Nat} (hxl : x.length ≤ 200) (hll : l.length = x.length) (hn : ∀ t ∈ x, t.name.size ≤ 1000000) : ∀ (e : Xp) (i : Nat) (m : Int) (h : Hp) (ws : List ByteArray), Reps x l i e → e.okE wrT → m ≤ 5 → ws.length + (e.toks m).length ≤ 100000 → Clos x l h ix io iw il id → h[io]? = some (wob ws) →
    ACalls Try.prog 43 [.int .i64 i, .int .i64 m, .ptr ix 0, .ptr io 0, .ptr iw 0, .ptr il 0] h (fun a h' => a = .tup [] ∧ h' = h.set io (wob (ws ++ (e.toks m).map wrd)))
  | .atm t, i, m, h, ws, hr, hok, hm, hsz, hc, ho => by
    obtain ⟨hx, hw, hl, hd, nx, nw, nl, nd⟩ := hc
    cases hr with
    | atm _ _ p h1 h2 h3 =>
    obtain ⟨hi, h4⟩ := List.getElem?_eq_some_iff.1 h1
    have hdx : (trsC x).drop ((i : Int).toNat * 3) = _ := trsC_drop hi
    rw [h4] at hdx
    have hop : t.op = 1 := hok.1
    have hbp : bindP t.op = 5 := by rw [hop]; rfl
    have qb := p_bind t.op
    rw [hbp] at qb
    have qw := p_written t (by rw [← h4]; exact hn _ (List.getElem_mem hi))
    simp only [trC] at qw
    simp only [wob] at ho
    have n1 : (io = ix) = False := eqFalse nx
    have n2 : (ix = io) = False := eqFalse (fun h => nx h.symm)
    have hs : ∀ y, (h.set io y)[io]? = some y := fun y => hset1 ho y
    have hsx : ∀ y, (h.set io y)[ix]? = _ := fun y => (List.getElem?_set_ne nx).trans hx
    refine acalls_of mixed J_expr_Text_1_ok (Nat.le_of_ble_eq_true rfl) ?_; simp only [J_expr_Text_1, wkr,wk,if_true,if_false,forall_const,implies_true,ne_eq,eq_self,Nat.reduceEqDiff,Nat.reduceAdd,Nat.reduceMul,Nat.reduceSub,Nat.reduceLeDiff,Nat.reduceLT,Int.reduceEq,Int.reduceLT,Int.reduceLE,Int.reduceAdd,Int.reduceSub,Int.reduceMul,Int.reduceNeg,Int.reduceNe,reduceCtorEq,Int.reduceToNat,↓reduceIte]
    simp only [wkr,wk,if_true,if_false,forall_const,implies_true,ne_eq,eq_self,Nat.reduceEqDiff,Nat.reduceAdd,Nat.reduceMul,Nat.reduceSub,Nat.reduceLeDiff,Nat.reduceLT,Int.reduceEq,Int.reduceLT,Int.reduceLE,Int.reduceAdd,Int.reduceSub,Int.reduceMul,Int.reduceNeg,Int.reduceNe,reduceCtorEq,Int.reduceToNat,↓reduceIte, hx, hdx]
    refine ⟨⟨by omega, by omega⟩, ?_⟩
    refine PCalls.use (qb) ?_; simp only [wkr,wk,if_true,if_false,forall_const,implies_true,ne_eq,eq_self,Nat.reduceEqDiff,Nat.reduceAdd,Nat.reduceMul,Nat.reduceSub,Nat.reduceLeDiff,Nat.reduceLT,Int.reduceEq,Int.reduceLT,Int.reduceLE,Int.reduceAdd,Int.reduceSub,Int.reduceMul,Int.reduceNeg,Int.reduceNe,reduceCtorEq,Int.reduceToNat,↓reduceIte]
    simp only [wkr,wk,if_true,if_false,forall_const,implies_true,ne_eq,eq_self,Nat.reduceEqDiff,Nat.reduceAdd,Nat.reduceMul,Nat.reduceSub,Nat.reduceLeDiff,Nat.reduceLT,Int.reduceEq,Int.reduceLT,Int.reduceLE,Int.reduceAdd,Int.reduceSub,Int.reduceMul,Int.reduceNeg,Int.reduceNe,reduceCtorEq,Int.reduceToNat,↓reduceIte, J_expr_Text_1_j2, J_expr_Text_1_j1, hx, hdx, ho, hs, hsx, n1, n2, (show ((5 : Int) < m) = False from eqFalse (by omega)), (show (t.op = 1) = True from eqTrue hop)]
    refine ⟨⟨by omega, by omega⟩, ⟨by omega, by omega⟩, _, qw, ?_⟩
    have hz : ws.length + 1 ≤ 100000 := hsz
    simp only [wkr,wk,if_true,if_false,forall_const,implies_true,ne_eq,eq_self,Nat.reduceEqDiff,Nat.reduceAdd,Nat.reduceMul,Nat.reduceSub,Nat.reduceLeDiff,Nat.reduceLT,Int.reduceEq,Int.reduceLT,Int.reduceLE,Int.reduceAdd,Int.reduceSub,Int.reduceMul,Int.reduceNeg,Int.reduceNe,reduceCtorEq,Int.reduceToNat,↓reduceIte, splice]
    refine ⟨⟨by omega, by omega⟩, ?_⟩
    rw [wob_sn]
    show h.set io (wob (ws ++ [wordT t.op t.name t.of])) = h.set io (wob (ws ++ [wordT 1 t.name t.of]))
    rw [hop]
  | .op k a b, i, m, h, ws, hr, hok, hm, hsz, hc, ho => by
    have hc0 := hc
    obtain ⟨hx, hw, hl, hd, nx, nw, nl, nd⟩ := hc
    cases hr with
    | op _ j q _ _ _ h1 h2 h3 h4 h5 h6 =>
    obtain ⟨hk, hk5, hoa, hob⟩ := hok
    obtain ⟨hi, h7⟩ := List.getElem?_eq_some_iff.1 h1
    obtain ⟨hil, h8⟩ := List.getElem?_eq_some_iff.1 h2
    have hdx : (trsC x).drop (i * 3) = _ := trsC_drop hi
    rw [h7] at hdx
    have hk4 := bind_le k
    have hk1 := (bind_ne hk).1
    have qb := p_bind k
    rw [bindP_ne hk1] at qb
    have qw := p_written (sgn k) (by show (⟨#[]⟩ : ByteArray).size ≤ _; decide)
    simp only [trC, sgn] at qw hdx
    have hdl : (prC l).drop (i * 3) = _ := prC_drop hil
    rw [h8] at hdl
    have hdl1 : (prC l).drop (i * 3 + 1) = .int .i64 (q : Int) :: .int .i64 (Xp.op k a b).deep :: (prC l).drop ((i + 1) * 3) := by rw [← List.drop_drop, hdl]; rfl
    have n1 : (io = ix) = False := eqFalse nx
    have n2 : (ix = io) = False := eqFalse (fun h => nx h.symm)
    have fx : ∀ y, (h.set io y)[ix]? = _ := fun y => (List.getElem?_set_ne nx).trans hx
    have fw : ∀ y, (h.set io y)[iw]? = _ := fun y => (List.getElem?_set_ne nw).trans hw
    have fl : ∀ y, (h.set io y)[il]? = _ := fun y => (List.getElem?_set_ne nl).trans hl
    have fd : ∀ y, (h.set io y)[id]? = _ := fun y => (List.getElem?_set_ne nd).trans hd
    have fo : ∀ y, (h.set io y)[io]? = some y := fun y => hset1 ho y
    have iha := fun ws' hz => a_write hxl hll hn a j (bindK k) (h.set io (wob ws')) ws' h5 hoa (by omega) hz (hc0.set _) (fo _)
    have ihb := fun ws' hz => a_write hxl hll hn b q (bindK k + 1) (h.set io (wob ws')) ws' h6 hob (by omega) hz (hc0.set _) (fo _)
    simp only [wob] at ho
    have hop1 : (k = 1) = False := eqFalse hk1
    refine acalls_of mixed J_expr_Text_1_ok (Nat.le_of_ble_eq_true rfl) ?_; simp only [J_expr_Text_1, wkr,wk,if_true,if_false,forall_const,implies_true,ne_eq,eq_self,Nat.reduceEqDiff,Nat.reduceAdd,Nat.reduceMul,Nat.reduceSub,Nat.reduceLeDiff,Nat.reduceLT,Int.reduceEq,Int.reduceLT,Int.reduceLE,Int.reduceAdd,Int.reduceSub,Int.reduceMul,Int.reduceNeg,Int.reduceNe,reduceCtorEq,Int.reduceToNat,↓reduceIte]
    simp only [wkr,wk,if_true,if_false,forall_const,implies_true,ne_eq,eq_self,Nat.reduceEqDiff,Nat.reduceAdd,Nat.reduceMul,Nat.reduceSub,Nat.reduceLeDiff,Nat.reduceLT,Int.reduceEq,Int.reduceLT,Int.reduceLE,Int.reduceAdd,Int.reduceSub,Int.reduceMul,Int.reduceNeg,Int.reduceNe,reduceCtorEq,Int.reduceToNat,↓reduceIte, hx, hdx, Int.toNat_natCast]
    refine ⟨⟨by omega, by omega⟩, ?_⟩
    refine PCalls.use (qb) ?_; simp only [wkr,wk,if_true,if_false,forall_const,implies_true,ne_eq,eq_self,Nat.reduceEqDiff,Nat.reduceAdd,Nat.reduceMul,Nat.reduceSub,Nat.reduceLeDiff,Nat.reduceLT,Int.reduceEq,Int.reduceLT,Int.reduceLE,Int.reduceAdd,Int.reduceSub,Int.reduceMul,Int.reduceNeg,Int.reduceNe,reduceCtorEq,Int.reduceToNat,↓reduceIte]
    by_cases hb : bindK k < m
    · have hz : ws.length + ((a.toks (bindK k)).length + (b.toks (bindK k + 1)).length) + 3 ≤ 100000 := by
        simp only [Xp.toks] at hsz
        rw [if_pos hb] at hsz
        simp only [List.length_append, List.length_cons, List.length_nil] at hsz; omega
      simp only [wkr,wk,if_true,if_false,forall_const,implies_true,ne_eq,eq_self,Nat.reduceEqDiff,Nat.reduceAdd,Nat.reduceMul,Nat.reduceSub,Nat.reduceLeDiff,Nat.reduceLT,Int.reduceEq,Int.reduceLT,Int.reduceLE,Int.reduceAdd,Int.reduceSub,Int.reduceMul,Int.reduceNeg,Int.reduceNe,reduceCtorEq,Int.reduceToNat,↓reduceIte, J_expr_Text_1_j2, hx, hdx, hw, hl, hd, ho, fx, fw, fl, fd, fo, n1, n2, eqTrue hb, hop1, hdl, Int.toNat_natCast]
      refine ⟨⟨by omega, by omega⟩, ⟨by omega, by omega⟩, ⟨by omega, by omega⟩, ?_⟩
      rw [wob_sn]
      refine ⟨_, _, iha _ (by simp; omega), sealE (fo _), ?_⟩
      simp only [wkr,wk,if_true,if_false,forall_const,implies_true,ne_eq,eq_self,Nat.reduceEqDiff,Nat.reduceAdd,Nat.reduceMul,Nat.reduceSub,Nat.reduceLeDiff,Nat.reduceLT,Int.reduceEq,Int.reduceLT,Int.reduceLE,Int.reduceAdd,Int.reduceSub,Int.reduceMul,Int.reduceNeg,Int.reduceNe,reduceCtorEq,Int.reduceToNat,↓reduceIte, J_expr_Text_1_j1, wob, hx, hdx, hw, hl, hd, fx, fw, fl, fd, fo, n1, n2, hdl, Int.toNat_natCast]
      have hl1 : (ws ++ [(⟨#[40]⟩ : ByteArray)] ++ (a.toks (bindK k)).map wrd).length = ws.length + 1 + (a.toks (bindK k)).length := by simp; omega
      refine ⟨⟨by omega, by omega⟩, _, qw, ?_⟩
      simp only [wkr,wk,if_true,if_false,forall_const,implies_true,ne_eq,eq_self,Nat.reduceEqDiff,Nat.reduceAdd,Nat.reduceMul,Nat.reduceSub,Nat.reduceLeDiff,Nat.reduceLT,Int.reduceEq,Int.reduceLT,Int.reduceLE,Int.reduceAdd,Int.reduceSub,Int.reduceMul,Int.reduceNeg,Int.reduceNe,reduceCtorEq,Int.reduceToNat,↓reduceIte, splice, hdl1]
      refine ⟨⟨by omega, by omega⟩, ⟨by omega, by omega⟩, inR_of (by omega) (by omega), ?_⟩
      rw [wob_sn]
      refine ⟨_, _, ihb _ (by rw [List.length_append, hl1]; simp; omega), sealE (fo _), ?_⟩
      simp only [wkr,wk,if_true,if_false,forall_const,implies_true,ne_eq,eq_self,Nat.reduceEqDiff,Nat.reduceAdd,Nat.reduceMul,Nat.reduceSub,Nat.reduceLeDiff,Nat.reduceLT,Int.reduceEq,Int.reduceLT,Int.reduceLE,Int.reduceAdd,Int.reduceSub,Int.reduceMul,Int.reduceNeg,Int.reduceNe,reduceCtorEq,Int.reduceToNat,↓reduceIte, wob, fo, eqTrue hb]
      have hl2 : (ws ++ [(⟨#[40]⟩ : ByteArray)] ++ (a.toks (bindK k)).map wrd ++ [wordT k ⟨#[]⟩ 0] ++ (b.toks (bindK k + 1)).map wrd).length = ws.length + 1 + (a.toks (bindK k)).length + 1 + (b.toks (bindK k + 1)).length := by simp; omega
      refine ⟨⟨by omega, by omega⟩, ?_⟩
      rw [wob_sn]
      have he : ws ++ [(⟨#[40]⟩ : ByteArray)] ++ (a.toks (bindK k)).map wrd ++ [wordT k ⟨#[]⟩ 0] ++ (b.toks (bindK k + 1)).map wrd ++ [⟨#[41]⟩] = ws ++ ((Xp.op k a b).toks m).map wrd := by
        simp only [Xp.toks]
        rw [if_pos hb]
        simp only [List.map_cons, List.map_append, List.map_nil, List.append_assoc, List.cons_append, List.nil_append]
        rfl
      rw [he]
    · have hz : ws.length + ((a.toks (bindK k)).length + (b.toks (bindK k + 1)).length) + 1 ≤ 100000 := by
        simp only [Xp.toks] at hsz
        rw [if_neg hb] at hsz
        simp only [List.length_append, List.length_cons, List.length_nil] at hsz; omega
      simp only [wkr,wk,if_true,if_false,forall_const,implies_true,ne_eq,eq_self,Nat.reduceEqDiff,Nat.reduceAdd,Nat.reduceMul,Nat.reduceSub,Nat.reduceLeDiff,Nat.reduceLT,Int.reduceEq,Int.reduceLT,Int.reduceLE,Int.reduceAdd,Int.reduceSub,Int.reduceMul,Int.reduceNeg,Int.reduceNe,reduceCtorEq,Int.reduceToNat,↓reduceIte, J_expr_Text_1_j2, hx, hdx, hw, hl, hd, ho, fx, fw, fl, fd, fo, n1, n2, eqFalse hb, hop1, hdl, Int.toNat_natCast]
      have hself : h.set io (wob ws) = h := hself1 ho
      have iha0 := iha ws (by omega)
      rw [hself] at iha0
      refine ⟨⟨by omega, by omega⟩, ⟨by omega, by omega⟩, _, _, iha0, sealE ho, ?_⟩
      simp only [wkr,wk,if_true,if_false,forall_const,implies_true,ne_eq,eq_self,Nat.reduceEqDiff,Nat.reduceAdd,Nat.reduceMul,Nat.reduceSub,Nat.reduceLeDiff,Nat.reduceLT,Int.reduceEq,Int.reduceLT,Int.reduceLE,Int.reduceAdd,Int.reduceSub,Int.reduceMul,Int.reduceNeg,Int.reduceNe,reduceCtorEq,Int.reduceToNat,↓reduceIte, J_expr_Text_1_j1, wob, hx, hdx, hw, hl, hd, fx, fw, fl, fd, fo, n1, n2, hdl, Int.toNat_natCast]
      have hl1 : (ws ++ (a.toks (bindK k)).map wrd).length = ws.length + (a.toks (bindK k)).length := by simp
      refine ⟨⟨by omega, by omega⟩, _, qw, ?_⟩
      simp only [wkr,wk,if_true,if_false,forall_const,implies_true,ne_eq,eq_self,Nat.reduceEqDiff,Nat.reduceAdd,Nat.reduceMul,Nat.reduceSub,Nat.reduceLeDiff,Nat.reduceLT,Int.reduceEq,Int.reduceLT,Int.reduceLE,Int.reduceAdd,Int.reduceSub,Int.reduceMul,Int.reduceNeg,Int.reduceNe,reduceCtorEq,Int.reduceToNat,↓reduceIte, splice, hdl1]
      refine ⟨⟨by omega, by omega⟩, ⟨by omega, by omega⟩, inR_of (by omega) (by omega), ?_⟩
      rw [wob_sn]
      refine ⟨_, _, ihb _ (by rw [List.length_append, hl1]; simp; omega), sealE (fo _), ?_⟩
      simp only [wkr,wk,if_true,if_false,forall_const,implies_true,ne_eq,eq_self,Nat.reduceEqDiff,Nat.reduceAdd,Nat.reduceMul,Nat.reduceSub,Nat.reduceLeDiff,Nat.reduceLT,Int.reduceEq,Int.reduceLT,Int.reduceLE,Int.reduceAdd,Int.reduceSub,Int.reduceMul,Int.reduceNeg,Int.reduceNe,reduceCtorEq,Int.reduceToNat,↓reduceIte, fo, eqFalse hb]
      have he : ws ++ (a.toks (bindK k)).map wrd ++ [wordT k ⟨#[]⟩ 0] ++ (b.toks (bindK k + 1)).map wrd = ws ++ ((Xp.op k a b).toks m).map wrd := by
        simp only [Xp.toks]
        rw [if_neg hb]
        simp only [List.map_cons, List.map_append, List.map_nil, List.append_assoc, List.cons_append, List.nil_append]
        rfl
      rw [he]
end Go.Proofs.Ytmbijfcjfhdnjaa

/- Expressions: Text, May, Deep. -/
-- fast
-- rows
namespace Go.Proofs.Ytmbijfcjfhdnjaa
set_option linter.unusedSimpArgs false
set_option linter.unusedVariables false
open Go.RowKit Go.Lib

def textX (x : List Trm) : ByteArray × Int := match treeT x with
  | some e => (joinB ((e.toks 0).map wrd), 0)
  | none => (⟨#[]⟩, 2)
def deepX (x : List Trm) : Int := match treeT x with
  | some e => e.deep
  | none => 0
theorem toks_len : ∀ (m : Int) (e : Xp), (e.toks m).length + 2 ≤ 4 * e.post.length
  | _, .atm t => by simp [Xp.toks, Xp.post]
  | m, .op k a b => by
    have h1 := toks_len (bindK k) a
    have h2 := toks_len (bindK k + 1) b
    simp only [Xp.toks, Xp.post]
    split <;> simp only [List.length_cons, List.length_append, List.length_nil] <;> omega
theorem toks_name : ∀ (m : Int) (e : Xp), (∀ t ∈ e.post, t.name.size ≤ 1000000) → ∀ t ∈ e.toks m, t.name.size ≤ 1000000
  | _, .atm t, h, u, hu => by
    simp only [Xp.toks, List.mem_singleton] at hu
    subst hu
    exact h t (by simp [Xp.post])
  | m, .op k a b, h, u, hu => by
    have h1 := toks_name (bindK k) a (fun t ht => h t (by simp [Xp.post, ht]))
    have h2 := toks_name (bindK k + 1) b (fun t ht => h t (by simp [Xp.post, ht]))
    have h0 : ∀ k, (tokS k).name.size ≤ 1000000 := fun k => by show (⟨#[]⟩ : ByteArray).size ≤ _; decide
    simp only [Xp.toks] at hu
    split at hu
    · rcases List.mem_cons.1 hu with rfl | hu
      · exact h0 6
      · rcases List.mem_append.1 hu with hu | hu
        · rcases List.mem_append.1 hu with hu | hu
          · exact h1 u hu
          · rcases List.mem_cons.1 hu with rfl | hu
            · exact h0 k
            · exact h2 u hu
        · simp only [List.mem_singleton] at hu; subst hu; exact h0 7
    · rcases List.mem_append.1 hu with hu | hu
      · exact h1 u hu
      · rcases List.mem_cons.1 hu with rfl | hu
        · exact h0 k
        · exact h2 u hu
theorem tree_post {x : List Trm} {e : Xp} (h : treeT x = some e) : x.length ≤ 200 ∧ e.okE wrT ∧ x = e.post := by
  unfold treeT at h
  split at h
  · exact ⟨by assumption, treeX_iff.1 h⟩
  · cases h
theorem text_size {x : List Trm} {e : Xp} (h : treeT x = some e) (hn : ∀ t ∈ x, t.name.size ≤ 1000000) (m : Int) : (e.toks m).length ≤ 800 ∧ (joinB ((e.toks m).map wrd)).size ≤ 140737488355328 := by
  obtain ⟨h1, h2, h3⟩ := tree_post h
  have h4 := toks_len m e
  rw [h3] at h1 hn
  have h5 := toks_name m e hn
  have h6 := join_size ((e.toks m).map wrd) 1000006 (fun w hw => by
    obtain ⟨t, ht, rfl⟩ := List.mem_map.1 hw
    have := wordT_size t.kind t.name t.of
    have := h5 t ht
    show (wordT t.kind t.name t.of).size ≤ _; omega)
  rw [List.length_map] at h6
  refine ⟨by omega, ?_⟩
  have : (e.toks m).length * (1000006 + 1) ≤ 800 * 1000007 := Nat.mul_le_mul (by omega) (by omega)
  omega
theorem frees_vtrs (x : List Trm) : free.frees [vTrs x] = true := by simp [vTrs, free, free.frees, frees_trs]
set_option maxRecDepth 100000 in
set_option maxHeartbeats 8000000 in
theorem p_may (x : List Trm) (hl : x.length ≤ 9223372036854775807) (hn : ∀ t ∈ x, t.name.size ≤ 1000000) : PCalls Try.prog 24 [vTrs x] (.bool (treeT x).isSome) := by
  have q := a_parts (h := []) x hl hn
  simp only [vTrs] at q
  refine pcalls_of (frees_vtrs x) rfl (acalls_of mixed J_expr_May_ok (Nat.le_of_ble_eq_true rfl) ?_); simp only [J_expr_May, vTrs, wkr,wk,if_true,if_false,forall_const,implies_true,ne_eq,eq_self,Nat.reduceEqDiff,Nat.reduceAdd,Nat.reduceMul,Nat.reduceSub,Nat.reduceLeDiff,Nat.reduceLT,Int.reduceEq,Int.reduceLT,Int.reduceLE,Int.reduceAdd,Int.reduceSub,Int.reduceMul,Int.reduceNeg,Int.reduceNe,reduceCtorEq,Int.reduceToNat,↓reduceIte]
  refine ACalls.use q ?_
  intro a h' hp
  unfold PostP at hp
  cases ht : treeT x with
  | some e =>
    rw [ht] at hp
    obtain ⟨l, rfl, rfl, _, _⟩ := hp
    simp only [wkr,wk,if_true,if_false,forall_const,implies_true,ne_eq,eq_self,Nat.reduceEqDiff,Nat.reduceAdd,Nat.reduceMul,Nat.reduceSub,Nat.reduceLeDiff,Nat.reduceLT,Int.reduceEq,Int.reduceLT,Int.reduceLE,Int.reduceAdd,Int.reduceSub,Int.reduceMul,Int.reduceNeg,Int.reduceNe,reduceCtorEq,Int.reduceToNat,↓reduceIte]
    rfl
  | none =>
    rw [ht] at hp
    rcases hp with ⟨rfl, rfl⟩ | ⟨n, l, rfl, rfl⟩
    · simp only [wkr,wk,if_true,if_false,forall_const,implies_true,ne_eq,eq_self,Nat.reduceEqDiff,Nat.reduceAdd,Nat.reduceMul,Nat.reduceSub,Nat.reduceLeDiff,Nat.reduceLT,Int.reduceEq,Int.reduceLT,Int.reduceLE,Int.reduceAdd,Int.reduceSub,Int.reduceMul,Int.reduceNeg,Int.reduceNe,reduceCtorEq,Int.reduceToNat,↓reduceIte]
      rfl
    · simp only [wkr,wk,if_true,if_false,forall_const,implies_true,ne_eq,eq_self,Nat.reduceEqDiff,Nat.reduceAdd,Nat.reduceMul,Nat.reduceSub,Nat.reduceLeDiff,Nat.reduceLT,Int.reduceEq,Int.reduceLT,Int.reduceLE,Int.reduceAdd,Int.reduceSub,Int.reduceMul,Int.reduceNeg,Int.reduceNe,reduceCtorEq,Int.reduceToNat,↓reduceIte]
      rfl
set_option maxRecDepth 100000 in
set_option maxHeartbeats 8000000 in
theorem p_deep (x : List Trm) (hl : x.length ≤ 9223372036854775807) (hn : ∀ t ∈ x, t.name.size ≤ 1000000) : PCalls Try.prog 26 [vTrs x] (.int .i64 (deepX x)) := by
  have q := a_parts (h := []) x hl hn
  simp only [vTrs] at q
  refine pcalls_of (frees_vtrs x) rfl (acalls_of mixed J_expr_Deep_ok (Nat.le_of_ble_eq_true rfl) ?_); simp only [J_expr_Deep, vTrs, wkr,wk,if_true,if_false,forall_const,implies_true,ne_eq,eq_self,Nat.reduceEqDiff,Nat.reduceAdd,Nat.reduceMul,Nat.reduceSub,Nat.reduceLeDiff,Nat.reduceLT,Int.reduceEq,Int.reduceLT,Int.reduceLE,Int.reduceAdd,Int.reduceSub,Int.reduceMul,Int.reduceNeg,Int.reduceNe,reduceCtorEq,Int.reduceToNat,↓reduceIte]
  refine ACalls.use q ?_
  intro a h' hp
  unfold PostP at hp
  unfold deepX
  cases ht : treeT x with
  | some e =>
    rw [ht] at hp
    obtain ⟨l, rfl, rfl, hll, hr⟩ := hp
    obtain ⟨h2, _, h3⟩ := tree_post ht
    have hpos : 1 ≤ x.length := by have := toks_len 0 e; rw [h3]; omega
    have hd := hr.drop
    simp only [wkr,wk,if_true,if_false,forall_const,implies_true,ne_eq,eq_self,Nat.reduceEqDiff,Nat.reduceAdd,Nat.reduceMul,Nat.reduceSub,Nat.reduceLeDiff,Nat.reduceLT,Int.reduceEq,Int.reduceLT,Int.reduceLE,Int.reduceAdd,Int.reduceSub,Int.reduceMul,Int.reduceNeg,Int.reduceNe,reduceCtorEq,Int.reduceToNat,↓reduceIte]
    refine ⟨inR_of (by omega) (by omega), ⟨by omega, by omega⟩, ?_⟩
    rw [show ((x.length : Int) - 1).toNat = x.length - 1 by omega, hd]
    simp only [wkr,wk,if_true,if_false,forall_const,implies_true,ne_eq,eq_self,Nat.reduceEqDiff,Nat.reduceAdd,Nat.reduceMul,Nat.reduceSub,Nat.reduceLeDiff,Nat.reduceLT,Int.reduceEq,Int.reduceLT,Int.reduceLE,Int.reduceAdd,Int.reduceSub,Int.reduceMul,Int.reduceNeg,Int.reduceNe,reduceCtorEq,Int.reduceToNat,↓reduceIte]
  | none =>
    rw [ht] at hp
    rcases hp with ⟨rfl, rfl⟩ | ⟨n, l, rfl, rfl⟩
    · simp only [wkr,wk,if_true,if_false,forall_const,implies_true,ne_eq,eq_self,Nat.reduceEqDiff,Nat.reduceAdd,Nat.reduceMul,Nat.reduceSub,Nat.reduceLeDiff,Nat.reduceLT,Int.reduceEq,Int.reduceLT,Int.reduceLE,Int.reduceAdd,Int.reduceSub,Int.reduceMul,Int.reduceNeg,Int.reduceNe,reduceCtorEq,Int.reduceToNat,↓reduceIte]
    · simp only [wkr,wk,if_true,if_false,forall_const,implies_true,ne_eq,eq_self,Nat.reduceEqDiff,Nat.reduceAdd,Nat.reduceMul,Nat.reduceSub,Nat.reduceLeDiff,Nat.reduceLT,Int.reduceEq,Int.reduceLT,Int.reduceLE,Int.reduceAdd,Int.reduceSub,Int.reduceMul,Int.reduceNeg,Int.reduceNe,reduceCtorEq,Int.reduceToNat,↓reduceIte]
set_option maxRecDepth 100000 in
set_option maxHeartbeats 8000000 in
theorem p_text (x : List Trm) (hl : x.length ≤ 9223372036854775807) (hn : ∀ t ∈ x, t.name.size ≤ 1000000) : PCalls Try.prog 22 [vTrs x] (.tup [.str (textX x).1, .int .i64 (textX x).2]) := by
  have q := a_parts (h := [some (false, [vTrs x])]) x hl hn
  simp only [vTrs] at q
  refine pcalls_of (frees_vtrs x) rfl (acalls_of mixed J_expr_Text_ok (Nat.le_of_ble_eq_true rfl) ?_); simp only [J_expr_Text, vTrs, wkr,wk,if_true,if_false,forall_const,implies_true,ne_eq,eq_self,Nat.reduceEqDiff,Nat.reduceAdd,Nat.reduceMul,Nat.reduceSub,Nat.reduceLeDiff,Nat.reduceLT,Int.reduceEq,Int.reduceLT,Int.reduceLE,Int.reduceAdd,Int.reduceSub,Int.reduceMul,Int.reduceNeg,Int.reduceNe,reduceCtorEq,Int.reduceToNat,↓reduceIte]
  refine ACalls.use q ?_
  intro a h' hp
  unfold PostP at hp
  unfold textX
  cases ht : treeT x with
  | some e =>
    rw [ht] at hp
    obtain ⟨l, rfl, rfl, hll, hr⟩ := hp
    obtain ⟨h2, ho, h3⟩ := tree_post ht
    have hpos : 1 ≤ x.length := by have := toks_len 0 e; rw [h3]; omega
    obtain ⟨z1, z2⟩ := text_size ht hn 0
    have hw := a_write (ix := 0) (io := 3) (iw := 4) (il := 2) (id := 1) h2 hll hn e (x.length - 1) 0 [some (false, [.lst .ro x.length (trsC x)]), some (false, prC l), some (false, [.hs 1 x.length]), some (false, [.lst (.own 9) 0 []]), some (false, [.fn 43 [.ptr 0 0, .ptr 3 0, .ptr 4 0, .ptr 2 0]])] [] hr ho (by decide) (by rw [List.length_nil]; omega) ⟨rfl, rfl, rfl, rfl, by decide, by decide, by decide, by decide⟩ rfl
    have qj := p_join ((e.toks 0).map wrd) (by rw [List.length_map]; omega) z2
    simp only [wob, List.nil_append] at hw
    rw [show ((x.length - 1 : Nat) : Int) = (x.length : Int) - 1 by omega] at hw
    simp only [wkr,wk,if_true,if_false,forall_const,implies_true,ne_eq,eq_self,Nat.reduceEqDiff,Nat.reduceAdd,Nat.reduceMul,Nat.reduceSub,Nat.reduceLeDiff,Nat.reduceLT,Int.reduceEq,Int.reduceLT,Int.reduceLE,Int.reduceAdd,Int.reduceSub,Int.reduceMul,Int.reduceNeg,Int.reduceNe,reduceCtorEq,Int.reduceToNat,↓reduceIte]
    refine ⟨inR_of (by omega) (by omega), ?_⟩
    refine ACalls.use (hw) ?_; rintro _ _ ⟨rfl, rfl⟩; simp only [wkr,wk,if_true,if_false,forall_const,implies_true,ne_eq,eq_self,Nat.reduceEqDiff,Nat.reduceAdd,Nat.reduceMul,Nat.reduceSub,Nat.reduceLeDiff,Nat.reduceLT,Int.reduceEq,Int.reduceLT,Int.reduceLE,Int.reduceAdd,Int.reduceSub,Int.reduceMul,Int.reduceNeg,Int.reduceNe,reduceCtorEq,Int.reduceToNat,↓reduceIte]
    refine PCalls.use (qj) ?_; simp only [wkr,wk,if_true,if_false,forall_const,implies_true,ne_eq,eq_self,Nat.reduceEqDiff,Nat.reduceAdd,Nat.reduceMul,Nat.reduceSub,Nat.reduceLeDiff,Nat.reduceLT,Int.reduceEq,Int.reduceLT,Int.reduceLE,Int.reduceAdd,Int.reduceSub,Int.reduceMul,Int.reduceNeg,Int.reduceNe,reduceCtorEq,Int.reduceToNat,↓reduceIte]
  | none =>
    rw [ht] at hp
    rcases hp with ⟨rfl, rfl⟩ | ⟨n, l, rfl, rfl⟩
    · simp only [wkr,wk,if_true,if_false,forall_const,implies_true,ne_eq,eq_self,Nat.reduceEqDiff,Nat.reduceAdd,Nat.reduceMul,Nat.reduceSub,Nat.reduceLeDiff,Nat.reduceLT,Int.reduceEq,Int.reduceLT,Int.reduceLE,Int.reduceAdd,Int.reduceSub,Int.reduceMul,Int.reduceNeg,Int.reduceNe,reduceCtorEq,Int.reduceToNat,↓reduceIte]
    · simp only [wkr,wk,if_true,if_false,forall_const,implies_true,ne_eq,eq_self,Nat.reduceEqDiff,Nat.reduceAdd,Nat.reduceMul,Nat.reduceSub,Nat.reduceLeDiff,Nat.reduceLT,Int.reduceEq,Int.reduceLT,Int.reduceLE,Int.reduceAdd,Int.reduceSub,Int.reduceMul,Int.reduceNeg,Int.reduceNe,reduceCtorEq,Int.reduceToNat,↓reduceIte]
end Go.Proofs.Ytmbijfcjfhdnjaa

/- Expressions: the document's Last. -/
-- fast
-- rows
namespace Go.Proofs.Ytmbijfcjfhdnjaa
set_option linter.unusedSimpArgs false
set_option linter.unusedVariables false
open Go.RowKit Go.Lib

/-- a sign's word -/
theorem sign_word_ne {t : Trm} (h : 0 < bindK t.op) : wordT t.op t.name t.of = ⟨#[]⟩ ↔ ¬ (t.of = 0 ∧ t.name = ⟨#[]⟩) := by
  obtain ⟨op, of, nm⟩ := t
  have hk := bind_pos h
  simp only at hk ⊢
  unfold wordT
  by_cases ho : of = 0
  · by_cases hn : nm = ⟨#[]⟩
    · subst hn; subst ho
      rcases hk with rfl | rfl | rfl | rfl <;> simp
    · rcases hk with rfl | rfl | rfl | rfl <;> simp [ho, hn]
  · rcases hk with rfl | rfl | rfl | rfl <;> simp [ho]
end Go.Proofs.Ytmbijfcjfhdnjaa

/- Expressions: the document's Text, May, Deep. -/
-- fast
-- rows
namespace Go.Proofs.Ytmbijfcjfhdnjaa
set_option linter.unusedSimpArgs false
set_option linter.unusedVariables false
open Go.RowKit Go.Lib

theorem join_joinS : ∀ l : List (List UInt8), Lib.join l [32] = joinS l
  | [] => rfl
  | [x] => by simp [Lib.join, Lib.joinTail, joinS]
  | x :: y :: r => by
    have := join_joinS (y :: r)
    rw [joinS_cons (by simp), ← this]
    simp [Lib.join, Lib.joinTail]
end Go.Proofs.Ytmbijfcjfhdnjaa

/- Expressions: the laws' own functions: same, large, awake. -/
-- fast
namespace Go.Proofs.Ytmbijfcjfhdnjaa
set_option linter.unusedSimpArgs false
set_option linter.unusedVariables false
open Go.RowKit Go.Lib

instance : DecidableEq Trm := fun a b => if h : a.op = b.op ∧ a.of = b.of ∧ a.name = b.name then isTrue (by cases a; cases b; simp_all) else isFalse (by rintro rfl; exact h ⟨rfl, rfl, rfl⟩)
theorem eq_trm (k k' : Int) (o o' : Int) (w w' : ByteArray) : eqCells [0, 0, 1] [.int .i64 k, .int .i64 o, .str w] [.int .i64 k', .int .i64 o', .str w'] = some (decide (k = k') && (decide (o = o') && decide (w = w'))) := by
  simp only [eqCells, eqCell, if_true, Bool.and_true]
theorem trm_ext {a b : Trm} (h1 : a.op = b.op) (h2 : a.of = b.of) (h3 : a.name = b.name) : a = b := by cases a; cases b; simp_all
set_option maxRecDepth 100000 in
set_option maxHeartbeats 4000000 in
theorem p_samex (a b : List Trm) (hla : a.length ≤ 1000000) (hlb : b.length ≤ 1000000) : PCalls Try.prog 18 [vTrs a, vTrs b] (.bool (decide (a = b))) := by
  refine pcalls_of (by simp [vTrs, free, free.frees, frees_trs]) rfl (ACalls.weak (acalls_of mixed J_law05_same_ok (Nat.le_of_ble_eq_true rfl) ?_)); simp only [J_law05_same, vTrs, wk,if_true,if_false,forall_const,implies_true,ne_eq,eq_self,Nat.reduceEqDiff,Nat.reduceAdd,Nat.reduceMul,Nat.reduceSub,Nat.reduceLeDiff,Nat.reduceLT,Int.reduceEq,Int.reduceLT,Int.reduceLE,Int.reduceAdd,Int.reduceSub,Int.reduceMul,Int.reduceNeg,Int.reduceNe,reduceCtorEq,Int.reduceToNat,↓reduceIte]
  refine ⟨fun hne => ?_, fun heq => ?_⟩
  · rw [decide_eq_false (by rintro rfl; exact hne rfl)]
    rfl
  have hl : a.length = b.length := by omega
  refine W_loop (fun n fr h' => ∃ i : Nat, i ≤ a.length ∧ n = a.length - i ∧ fr = [(0, .lst .ro a.length (trsC a)), (1, .lst .ro b.length (trsC b)), (12, .int .i64 a.length), (13, .int .i64 i)] ∧ ∀ j (ha : j < a.length) (hb : j < b.length), j < i → a[j] = b[j]) a.length ⟨0, by omega, by omega, rfl, fun j ha hb h => by omega⟩ ?_
  rintro n fr h' ⟨i, hi, rfl, rfl, hall⟩
  simp only [J_law05_same_j2, wk,if_true,if_false,forall_const,implies_true,ne_eq,eq_self,Nat.reduceEqDiff,Nat.reduceAdd,Nat.reduceMul,Nat.reduceSub,Nat.reduceLeDiff,Nat.reduceLT,Int.reduceEq,Int.reduceLT,Int.reduceLE,Int.reduceAdd,Int.reduceSub,Int.reduceMul,Int.reduceNeg,Int.reduceNe,reduceCtorEq,Int.reduceToNat,↓reduceIte]
  refine ⟨fun hlt => ?_, fun hge => ?_⟩
  · have hil : i < a.length := by omega
    have hib : i < b.length := by omega
    have hd : (trsC a).drop ((i : Int).toNat * 3) = _ := trsC_drop hil
    have hd2 : (trsC b).drop ((i : Int).toNat * 3) = _ := trsC_drop hib
    simp only [hd, hd2, wk,if_true,if_false,forall_const,implies_true,ne_eq,eq_self,Nat.reduceEqDiff,Nat.reduceAdd,Nat.reduceMul,Nat.reduceSub,Nat.reduceLeDiff,Nat.reduceLT,Int.reduceEq,Int.reduceLT,Int.reduceLE,Int.reduceAdd,Int.reduceSub,Int.reduceMul,Int.reduceNeg,Int.reduceNe,reduceCtorEq,Int.reduceToNat,↓reduceIte]
    refine ⟨⟨by omega, by omega⟩, ⟨by omega, by omega⟩, ?_⟩
    rw [eq_trm]
    simp only [Option.map_some, wk,if_true,if_false,forall_const,implies_true,ne_eq,eq_self,Nat.reduceEqDiff,Nat.reduceAdd,Nat.reduceMul,Nat.reduceSub,Nat.reduceLeDiff,Nat.reduceLT,Int.reduceEq,Int.reduceLT,Int.reduceLE,Int.reduceAdd,Int.reduceSub,Int.reduceMul,Int.reduceNeg,Int.reduceNe,reduceCtorEq,Int.reduceToNat,↓reduceIte]
    refine ⟨fun h => ?_, fun h => ⟨inR_of (by omega) (by omega), a.length - (i + 1), by omega, i + 1, by omega, rfl, rfl, ?_⟩⟩
    · rw [decide_eq_false (by rintro rfl; simp at h)]
      rfl
    · intro j ha hb hj
      by_cases hji : j = i
      · subst hji
        simp only [Bool.and_eq_true, decide_eq_true_eq] at h
        exact trm_ext h.1 h.2.1 h.2.2
      · exact hall j ha hb (by omega)
  · simp only [J_law05_same_j1, wk,if_true,if_false,forall_const,implies_true,ne_eq,eq_self,Nat.reduceEqDiff,Nat.reduceAdd,Nat.reduceMul,Nat.reduceSub,Nat.reduceLeDiff,Nat.reduceLT,Int.reduceEq,Int.reduceLT,Int.reduceLE,Int.reduceAdd,Int.reduceSub,Int.reduceMul,Int.reduceNeg,Int.reduceNe,reduceCtorEq,Int.reduceToNat,↓reduceIte]
    rw [decide_eq_true (List.ext_getElem hl fun j ha hb => hall j ha hb (by omega))]
    rfl
def largeX (l : List Trm) : Bool := decide (300 < l.length) || l.any fun t => decide (100 < t.name.size)
set_option maxRecDepth 100000 in
set_option maxHeartbeats 4000000 in
theorem p_largex (l : List Trm) (hl : l.length ≤ 9223372036854775807) : PCalls Try.prog 21 [vTrs l] (.bool (largeX l)) := by
  refine pcalls_of (frees_vtrs l) rfl (acalls_of mixed J_law05_large_ok (Nat.le_of_ble_eq_true rfl) ?_); simp only [J_law05_large, vTrs, wk,if_true,if_false,forall_const,implies_true,ne_eq,eq_self,Nat.reduceEqDiff,Nat.reduceAdd,Nat.reduceMul,Nat.reduceSub,Nat.reduceLeDiff,Nat.reduceLT,Int.reduceEq,Int.reduceLT,Int.reduceLE,Int.reduceAdd,Int.reduceSub,Int.reduceMul,Int.reduceNeg,Int.reduceNe,reduceCtorEq,Int.reduceToNat,↓reduceIte]
  refine ⟨fun hbig => ?_, fun hbig => ?_⟩
  · unfold largeX
    rw [decide_eq_true (show 300 < l.length by omega), Bool.true_or]
  refine W_loop (fun n fr h' => ∃ i : Nat, i ≤ l.length ∧ n = l.length - i ∧ fr = [(0, .lst .ro l.length (trsC l)), (8, .int .i64 l.length), (9, .int .i64 i)] ∧ ∀ t ∈ l.take i, ¬ 100 < t.name.size) l.length ⟨0, by omega, by omega, rfl, by simp⟩ ?_
  rintro n fr h' ⟨i, hi, rfl, rfl, hall⟩
  simp only [J_law05_large_j2, wk,if_true,if_false,forall_const,implies_true,ne_eq,eq_self,Nat.reduceEqDiff,Nat.reduceAdd,Nat.reduceMul,Nat.reduceSub,Nat.reduceLeDiff,Nat.reduceLT,Int.reduceEq,Int.reduceLT,Int.reduceLE,Int.reduceAdd,Int.reduceSub,Int.reduceMul,Int.reduceNeg,Int.reduceNe,reduceCtorEq,Int.reduceToNat,↓reduceIte]
  refine ⟨fun hlt => ?_, fun hge => ?_⟩
  · have hil : i < l.length := by omega
    have hd : (trsC l).drop ((i : Int).toNat * 3) = _ := trsC_drop hil
    refine ⟨⟨by omega, by omega⟩, ?_⟩
    simp only [hd, wk,if_true,if_false,forall_const,implies_true,ne_eq,eq_self,Nat.reduceEqDiff,Nat.reduceAdd,Nat.reduceMul,Nat.reduceSub,Nat.reduceLeDiff,Nat.reduceLT,Int.reduceEq,Int.reduceLT,Int.reduceLE,Int.reduceAdd,Int.reduceSub,Int.reduceMul,Int.reduceNeg,Int.reduceNe,reduceCtorEq,Int.reduceToNat,↓reduceIte]
    refine ⟨fun h => ?_, fun h => ⟨inR_of (by omega) (by omega), l.length - (i + 1), by omega, i + 1, by omega, rfl, rfl, ?_⟩⟩
    · have : l.any (fun t => decide (100 < t.name.size)) = true := List.any_eq_true.2 ⟨_, List.getElem_mem hil, decide_eq_true (by omega)⟩
      unfold largeX
      rw [this, Bool.or_true]
    · intro t ht
      rw [List.take_succ_eq_append_getElem hil] at ht
      rcases List.mem_append.1 ht with ht | ht
      · exact hall t ht
      · simp at ht; subst ht; omega
  · rw [List.take_of_length_le (by omega)] at hall
    simp only [J_law05_large_j1, wk,if_true,if_false,forall_const,implies_true,ne_eq,eq_self,Nat.reduceEqDiff,Nat.reduceAdd,Nat.reduceMul,Nat.reduceSub,Nat.reduceLeDiff,Nat.reduceLT,Int.reduceEq,Int.reduceLT,Int.reduceLE,Int.reduceAdd,Int.reduceSub,Int.reduceMul,Int.reduceNeg,Int.reduceNe,reduceCtorEq,Int.reduceToNat,↓reduceIte]
    unfold largeX
    rw [decide_eq_false (show ¬ 300 < l.length by omega), Bool.false_or]
    congr 1
    symm
    rw [List.any_eq_false]
    intro t ht
    simpa using hall t ht
theorem largeX_no {l : List Trm} (h : largeX l = false) : l.length ≤ 300 ∧ ∀ t ∈ l, t.name.size ≤ 100 := by
  unfold largeX at h
  rw [Bool.or_eq_false_iff] at h
  refine ⟨by have := of_decide_eq_false h.1; omega, fun t ht => ?_⟩
  have := List.any_eq_false.1 h.2 t ht
  simpa using this
/-- a and b|c as role:r -/
def s1 : ByteArray := ⟨#[97, 32, 97, 110, 100, 32, 98, 124, 99, 32, 97, 115, 32, 114, 111, 108, 101, 58, 114]⟩
def s2 : ByteArray := ⟨#[97, 32, 97, 110, 100, 32, 97, 110, 100]⟩
def s3 : ByteArray := ⟨#[97, 32, 102, 111, 114, 32, 40, 98, 32, 102, 111, 114, 32, 99, 41]⟩
def X1 : List Trm := [⟨1, 3, ⟨#[97]⟩⟩, ⟨1, 3, ⟨#[98]⟩⟩, ⟨1, 3, ⟨#[99]⟩⟩, ⟨1, 5, ⟨#[114]⟩⟩, ⟨5, 0, ⟨#[]⟩⟩, ⟨4, 0, ⟨#[]⟩⟩, ⟨2, 0, ⟨#[]⟩⟩]
def X3 : List Trm := [⟨1, 3, ⟨#[97]⟩⟩, ⟨1, 3, ⟨#[98]⟩⟩, ⟨1, 3, ⟨#[99]⟩⟩, ⟨3, 0, ⟨#[]⟩⟩, ⟨3, 0, ⟨#[]⟩⟩]
theorem parse_s1 : parseR s1 = (X1, 0, 0) := by kernel_rfl
theorem parse_s2 : parseR s2 = ([], 6, 2) := by kernel_rfl
theorem parse_s3 : parseR s3 = (X3, 0, 0) := by kernel_rfl
theorem text_X1 : textX X1 = (⟨#[97, 32, 97, 110, 100, 32, 98, 32, 124, 32, 99, 32, 97, 115, 32, 114, 111, 108, 101, 58, 114]⟩, 0) := by kernel_rfl
theorem text_X3 : textX X3 = (⟨#[97, 32, 102, 111, 114, 32, 40, 32, 98, 32, 102, 111, 114, 32, 99, 32, 41]⟩, 0) := by kernel_rfl
theorem may_X1 : (treeT X1).isSome = true := by kernel_rfl
theorem may_nil : (treeT []).isSome = false := by kernel_rfl
theorem deep_X1 : deepX X1 = 4 := by kernel_rfl
set_option maxRecDepth 100000 in
set_option maxHeartbeats 4000000 in
theorem p_awake05 : PCalls Try.prog 15 [] (.bool true) := by
  have q1 := p_parse s1 (by decide)
  have q2 := p_parse s2 (by decide)
  have q3 := p_parse s3 (by decide)
  have q4 := p_text X1 (by decide) (by decide)
  have q5 := p_text X3 (by decide) (by decide)
  have q6 := p_may X1 (by decide) (by decide)
  have q7 := PCalls.argd (args := [.lst .clip 0 []]) (v := .bool false) (by have := p_may [] (by decide) (by simp); rw [may_nil] at this; simpa only [rdpw, vTrs, trsC_nil, List.length_nil] using this)
  have q8 := p_deep X1 (by decide) (by decide)
  rw [parse_s1] at q1
  rw [parse_s2] at q2
  rw [parse_s3] at q3
  rw [text_X1] at q4
  rw [text_X3] at q5
  rw [may_X1] at q6
  rw [deep_X1] at q8
  simp only [resI, vTrs, trsC, X1, X3, List.flatMap_cons, List.flatMap_nil, trC, List.cons_append, List.nil_append, List.length_cons, List.length_nil] at q1 q2 q3 q4 q5 q6 q8
  refine pcalls_of (by first | rfl | simp [free, free.frees, frees_str, frees_u8, frees_u16]) (by first | rfl | simp [free, free.frees, frees_str, frees_u8, frees_u16]) (acalls_of mixed J_law05_awake_ok (Nat.le_of_ble_eq_true rfl) ?_); simp only [J_law05_awake, wk,if_true,if_false,forall_const,implies_true,ne_eq,eq_self,Nat.reduceEqDiff,Nat.reduceAdd,Nat.reduceMul,Nat.reduceSub,Nat.reduceLeDiff,Nat.reduceLT,Int.reduceEq,Int.reduceLT,Int.reduceLE,Int.reduceAdd,Int.reduceSub,Int.reduceMul,Int.reduceNeg,Int.reduceNe,reduceCtorEq,Int.reduceToNat,↓reduceIte]
  refine PCalls.use (q1) ?_; simp only [wk,if_true,if_false,forall_const,implies_true,ne_eq,eq_self,Nat.reduceEqDiff,Nat.reduceAdd,Nat.reduceMul,Nat.reduceSub,Nat.reduceLeDiff,Nat.reduceLT,Int.reduceEq,Int.reduceLT,Int.reduceLE,Int.reduceAdd,Int.reduceSub,Int.reduceMul,Int.reduceNeg,Int.reduceNe,reduceCtorEq,Int.reduceToNat,↓reduceIte]
  refine PCalls.use (q4) ?_; simp only [wk,if_true,if_false,forall_const,implies_true,ne_eq,eq_self,Nat.reduceEqDiff,Nat.reduceAdd,Nat.reduceMul,Nat.reduceSub,Nat.reduceLeDiff,Nat.reduceLT,Int.reduceEq,Int.reduceLT,Int.reduceLE,Int.reduceAdd,Int.reduceSub,Int.reduceMul,Int.reduceNeg,Int.reduceNe,reduceCtorEq,Int.reduceToNat,↓reduceIte]
  refine PCalls.use (q2) ?_; simp only [wk,if_true,if_false,forall_const,implies_true,ne_eq,eq_self,Nat.reduceEqDiff,Nat.reduceAdd,Nat.reduceMul,Nat.reduceSub,Nat.reduceLeDiff,Nat.reduceLT,Int.reduceEq,Int.reduceLT,Int.reduceLE,Int.reduceAdd,Int.reduceSub,Int.reduceMul,Int.reduceNeg,Int.reduceNe,reduceCtorEq,Int.reduceToNat,↓reduceIte]
  refine PCalls.use (q3) ?_; simp only [wk,if_true,if_false,forall_const,implies_true,ne_eq,eq_self,Nat.reduceEqDiff,Nat.reduceAdd,Nat.reduceMul,Nat.reduceSub,Nat.reduceLeDiff,Nat.reduceLT,Int.reduceEq,Int.reduceLT,Int.reduceLE,Int.reduceAdd,Int.reduceSub,Int.reduceMul,Int.reduceNeg,Int.reduceNe,reduceCtorEq,Int.reduceToNat,↓reduceIte]
  refine PCalls.use (q5) ?_; simp only [wk,if_true,if_false,forall_const,implies_true,ne_eq,eq_self,Nat.reduceEqDiff,Nat.reduceAdd,Nat.reduceMul,Nat.reduceSub,Nat.reduceLeDiff,Nat.reduceLT,Int.reduceEq,Int.reduceLT,Int.reduceLE,Int.reduceAdd,Int.reduceSub,Int.reduceMul,Int.reduceNeg,Int.reduceNe,reduceCtorEq,Int.reduceToNat,↓reduceIte]
  repeat' (first | (refine PCalls.use q6 ?_; simp only [wk,if_true,if_false,forall_const,implies_true,ne_eq,eq_self,Nat.reduceEqDiff,Nat.reduceAdd,Nat.reduceMul,Nat.reduceSub,Nat.reduceLeDiff,Nat.reduceLT,Int.reduceEq,Int.reduceLT,Int.reduceLE,Int.reduceAdd,Int.reduceSub,Int.reduceMul,Int.reduceNeg,Int.reduceNe,reduceCtorEq,Int.reduceToNat,↓reduceIte]) | (refine PCalls.use q7 ?_; simp only [wk,if_true,if_false,forall_const,implies_true,ne_eq,eq_self,Nat.reduceEqDiff,Nat.reduceAdd,Nat.reduceMul,Nat.reduceSub,Nat.reduceLeDiff,Nat.reduceLT,Int.reduceEq,Int.reduceLT,Int.reduceLE,Int.reduceAdd,Int.reduceSub,Int.reduceMul,Int.reduceNeg,Int.reduceNe,reduceCtorEq,Int.reduceToNat,↓reduceIte]) | (refine PCalls.use q8 ?_; simp only [wk,if_true,if_false,forall_const,implies_true,ne_eq,eq_self,Nat.reduceEqDiff,Nat.reduceAdd,Nat.reduceMul,Nat.reduceSub,Nat.reduceLeDiff,Nat.reduceLT,Int.reduceEq,Int.reduceLT,Int.reduceLE,Int.reduceAdd,Int.reduceSub,Int.reduceMul,Int.reduceNeg,Int.reduceNe,reduceCtorEq,Int.reduceToNat,↓reduceIte]) | (with_reducible refine And.intro ?_ ?_) | intro _)
  all_goals first
    | decide
    | rfl
    | exact absurd rfl (by assumption)
end Go.Proofs.Ytmbijfcjfhdnjaa

/- ExprParses, ExprReads, ExprWrites. -/
-- fast
namespace Go.Proofs.Ytmbijfcjfhdnjaa
set_option linter.unusedSimpArgs false
set_option linter.unusedVariables false
open Go.RowKit Go.Lib

theorem readR_len {wd : Tok → Bool} (l : List Tok) : (readR wd l).1.length ≤ l.length := by
  unfold readR
  have := readD_size l
  repeat' split
  all_goals first | (simp; done) | omega
theorem parseR_len (s : ByteArray) : (parseR s).1.length ≤ 1000 := by
  have h1 := readR_len (wd := wdB) (allT s).1
  have h2 := allT_len s
  unfold parseR
  repeat' split
  all_goals first | (simp; done) | (simp only; omega)
end Go.Proofs.Ytmbijfcjfhdnjaa

/- Blanks, and what is passed over: plain laws. -/
namespace Go.Proofs.Ytmbijfcjfhdnjaa
set_option linter.unusedSimpArgs false
set_option linter.unusedVariables false
open Go.RowKit Go.Lib

/-- a text that is passed over -/
def passed (p : List UInt8) : Prop := ∀ (rest : List UInt8) (a : Nat) (acc : List Tok), scan (p ++ rest) a acc = scan rest (a + p.length) acc
/-- a text that stands for the first tokens -/
def stands (l : List Tok) (t : List UInt8) : Prop := ∀ (rest : List UInt8) (a : Nat) (acc : List Tok), acc.length + l.length ≤ 1000 → ∃ l' : List Tok, scan (t ++ rest) a acc = scan rest (a + t.length) (acc ++ l') ∧ l.map core = l'.map core
end Go.Proofs.Ytmbijfcjfhdnjaa

/- Tokens stand where they say: plain laws. -/
namespace Go.Proofs.Ytmbijfcjfhdnjaa
set_option linter.unusedSimpArgs false
set_option linter.unusedVariables false
open Go.RowKit Go.Lib

/-- bytes between tokens, with the note's mark; none: something else stands there -/
def gapF : Bool → List UInt8 → Option Bool
  | nt, [] => some nt
  | nt, b :: r => if (!(b.toNat == 10) && (b.toNat == 35 || nt)) = true then gapF true r else if blankB b = true then gapF false r else none
/-- tokens stand in bytes, the first of which is at a place -/
def places : List UInt8 → Nat → List Tok → Prop
  | l, _, [] => ∃ nt, gapF false l = some nt
  | l, a, t :: ts => ∃ g n : Nat, t.at_ = (a + g : Nat) ∧ g + n ≤ l.length ∧ 1 ≤ n ∧ gapF false (l.take g) = some false ∧ ((l.drop g).headD 0).toNat ≠ 10 ∧ wrd t = ba ((l.drop g).take n) ∧ places (l.drop (g + n)) (a + g + n) ts
end Go.Proofs.Ytmbijfcjfhdnjaa

/- The first wrong thing from the left is told: plain laws. -/
namespace Go.Proofs.Ytmbijfcjfhdnjaa
set_option linter.unusedSimpArgs false
set_option linter.unusedVariables false
open Go.RowKit Go.Lib

end Go.Proofs.Ytmbijfcjfhdnjaa

/- Expressions: what stands around a text; places don't matter (plain). -/
namespace Go.Proofs.Ytmbijfcjfhdnjaa
set_option linter.unusedSimpArgs false
set_option linter.unusedVariables false
open Go.RowKit Go.Lib

/-- a token without its place -/
def norm (t : Tok) : Tok := ⟨t.kind, t.name, t.of, 0⟩
theorem ctlE_norm {M : Nat} : ∀ (l : List Tok) (i : Nat) (b : Bool) (n : Nat) (az : Bool), ctlE M i b n az (l.map norm) = ctlE M i b n az l
  | [], _, _, _, _ => rfl
  | t :: l, i, b, n, az => by
    simp only [List.map_cons, ctlE]
    have h1 : cstep M b n az (norm t) = cstep M b n az t := rfl
    rw [h1]
    cases cstep M b n az t with
    | none => rfl
    | some x => simp only; exact ctlE_norm l (i + 1) x.1 x.2 _
theorem srun_norm : ∀ (l : List Tok) (s : List Trm × List Int), srun (l.map norm) s = srun l s
  | [], _ => rfl
  | t :: l, s => by
    show srun (l.map norm) (sstep s (norm t)) = srun l (sstep s t)
    have : sstep s (norm t) = sstep s t := rfl
    rw [this]; exact srun_norm l _
theorem readD_norm (l : List Tok) : readD (l.map norm) = readD l := by unfold readD; rw [srun_norm]
theorem readR_norm (l : List Tok) : readR wdB (l.map norm) = readR wdB l := by
  unfold readR
  have h1 : (l.map norm).findIdx? (fun t => !wdB t) = l.findIdx? (fun t => !wdB t) := by
    rw [List.findIdx?_map]; rfl
  rw [h1, ctlE_norm, readD_norm, List.length_map]
theorem norm_core {l m : List Tok} (h : l.map core = m.map core) : l.map norm = m.map norm := by
  have hn : ∀ l : List Tok, l.map norm = (l.map core).map fun c => ⟨c.1, c.2.1, c.2.2, 0⟩ := fun l => by rw [List.map_map]; rfl
  rw [hn, hn, h]
theorem readR_core {l m : List Tok} (h : l.map core = m.map core) : readR wdB l = readR wdB m := by
  rw [← readR_norm l, ← readR_norm m, norm_core h]
end Go.Proofs.Ytmbijfcjfhdnjaa

/- ExprOpen. -/
-- fast
namespace Go.Proofs.Ytmbijfcjfhdnjaa
set_option linter.unusedSimpArgs false
set_option linter.unusedVariables false
open Go.RowKit Go.Lib

theorem parse_ok {s : ByteArray} (h : (parseR s).2.2 = 0) : (allT s).2.2 = 0 ∧ (readR wdB (allT s).1).2.2 = 0 ∧ parseR s = ((readR wdB (allT s).1).1, 0, 0) := by
  unfold parseR at h ⊢
  by_cases h1 : (allT s).2.2 = 0
  · rw [if_neg (fun h => h h1)] at h ⊢
    by_cases h2 : (readR wdB (allT s).1).2.2 = 0
    · rw [if_pos h2] at h ⊢
      exact ⟨h1, h2, rfl⟩
    · rw [if_neg h2] at h
      exfalso
      split at h
      · exact h2 h
      · split at h
        · cases h
        · exact h2 h
  · rw [if_pos h1] at h
    exact absurd h h1
theorem len_core {l m : List Tok} (h : l.map core = m.map core) : l.length = m.length := by simpa using congrArg List.length h
end Go.Proofs.Ytmbijfcjfhdnjaa

/- ExprJoins. -/
-- fast
namespace Go.Proofs.Ytmbijfcjfhdnjaa
set_option linter.unusedSimpArgs false
set_option linter.unusedVariables false
open Go.RowKit Go.Lib

end Go.Proofs.Ytmbijfcjfhdnjaa

/- Expressions: what is read, written again (plain). -/
-- fast
namespace Go.Proofs.Ytmbijfcjfhdnjaa
set_option linter.unusedSimpArgs false
set_option linter.unusedVariables false
open Go.RowKit Go.Lib

theorem toks_wrd {wr : Trm → Bool} (hwr : ∀ t, t.op = 1 → wr t = true → wordT 1 t.name t.of ≠ ⟨#[]⟩) : ∀ (m : Int) (e : Xp), e.okE wr → ∀ t ∈ e.toks m, wrd t ≠ ⟨#[]⟩
  | _, .atm t, h, u, hu => by
    simp only [Xp.toks, List.mem_singleton] at hu
    subst hu
    exact hwr t h.1 h.2
  | m, .op k a b, ⟨hk, _, ha, hb⟩, u, hu => by
    have h1 := toks_wrd hwr (bindK k) a ha
    have h2 := toks_wrd hwr (bindK k + 1) b hb
    have h6 : wrd (tokS 6) ≠ ⟨#[]⟩ := by decide
    have h7 : wrd (tokS 7) ≠ ⟨#[]⟩ := by decide
    have hs : wrd (tokS k) ≠ ⟨#[]⟩ := by rcases bind_pos hk with rfl | rfl | rfl | rfl <;> decide
    simp only [Xp.toks] at hu
    split at hu
    · rcases List.mem_cons.1 hu with rfl | hu
      · exact h6
      · rcases List.mem_append.1 hu with hu | hu
        · rcases List.mem_append.1 hu with hu | hu
          · exact h1 u hu
          · rcases List.mem_cons.1 hu with rfl | hu
            · exact hs
            · exact h2 u hu
        · simp only [List.mem_singleton] at hu; subst hu; exact h7
    · rcases List.mem_append.1 hu with hu | hu
      · exact h1 u hu
      · rcases List.mem_cons.1 hu with rfl | hu
        · exact hs
        · exact h2 u hu
theorem wrT_word (t : Trm) (h1 : t.op = 1) (h : wrT t = true) : wordT 1 t.name t.of ≠ ⟨#[]⟩ := by
  unfold wrT at h
  rw [h1] at h
  simpa using h
theorem toks_ok {m : Int} {e : Xp} (ho : e.okE wrT) : ∀ t ∈ e.toks m, wrd t ≠ ⟨#[]⟩ := toks_wrd wrT_word m e ho
theorem text_read {l : List Tok} (hw : ∀ t ∈ l, wrd t ≠ ⟨#[]⟩) (hl : l.length ≤ 1000) (hs : (joinB (l.map wrd)).size ≤ 4000) : ∃ l' : List Tok, allT (joinB (l.map wrd)) = (l', 0, 0) ∧ l.map core = l'.map core := by
  obtain ⟨l', h1, h2⟩ := scan_join l hw hl
  refine ⟨l', ?_, h2⟩
  unfold allT
  rw [if_neg (by omega), joinB_wl]
  exact h1
theorem lows0 : ∀ (l : List Tok) (n : Nat), lowsOk 0 n l
  | [], _ => trivial
  | t :: l, n => by
    simp only [lowsOk]
    split
    · exact lows0 l _
    · split
      · exact lows0 l _
      · exact ⟨fun _ _ => bind_ge t.kind, lows0 l _⟩
/-- what a text is read as, as a tree -/
theorem parse_tree {s : ByteArray} (h : (parseR s).2.2 = 0) : ∃ e : Xp, treeT (parseR s).1 = some e ∧ e.okE wrT ∧ accT 100 (allT s).1 ∧ opens (e.toks 0) ≤ opens (allT s).1 ∧ others (e.toks 0) = others (allT s).1 := by
  obtain ⟨h1, h2, h3⟩ := parse_ok h
  obtain ⟨w1, w2, w3, w4⟩ := readR_ok h2
  have hw1 : ∀ t ∈ (allT s).1, t.kind = 1 → wrT (leaf t) = true := fun t ht hk => by
    have := w1 t ht
    unfold wdB at this
    rw [hk] at this
    exact this
  have hw2 : ∀ t ∈ (allT s).1, 0 < bindK t.kind → t.name = ⟨#[]⟩ ∧ t.of = 0 := fun t ht hk => by
    have := w1 t ht
    unfold wdB at this
    have h5 := sign_word_ne (t := ⟨t.kind, t.of, t.name⟩) hk
    simp only [Bool.not_eq_true', decide_eq_false_iff_not] at this
    by_cases hg : t.of = 0 ∧ t.name = ⟨#[]⟩
    · exact ⟨hg.2, hg.1⟩
    · exact absurd (h5.2 hg) this
  obtain ⟨e, e1, e2, e3, e4⟩ := read_tree (M := 100) (wr := wrT) (allT s).1.length (allT s).1 (Nat.le_refl _) w2 hw1 hw2
  refine ⟨e, ?_, e1, w2, e3 0 (lows0 _ _), e4 0⟩
  rw [h3, w4]
  unfold treeT
  rw [if_pos w3]
  exact treeX_iff.2 ⟨e1, e2⟩
theorem others_len : ∀ (m : Int) (e : Xp), e.okE wrT → (others (e.toks m)).length = e.post.length
  | m, .atm t, _ => by simp [Xp.toks, Xp.post, others, isPar, tokA]
  | m, .op k a b, ⟨hk, _, ha, hb⟩ => by
    have h1 := others_len (bindK k) a ha
    have h2 := others_len (bindK k + 1) b hb
    have hs : isPar (tokS k) = false := by rcases bind_pos hk with rfl | rfl | rfl | rfl <;> rfl
    have h6 : isPar (tokS 6) = true := rfl
    have h7 : isPar (tokS 7) = true := rfl
    simp only [Xp.toks, Xp.post]
    have hn : others [] = [] := rfl
    split <;> simp only [others_app, others_cons, hs, h6, h7, hn, if_true, List.length_append, List.length_cons, List.length_nil, if_false, Bool.false_eq_true, h1, h2] <;> omega
/-- the words of what is no parenthesis -/
def nwds (l : List Tok) : List ByteArray := (l.filter fun t => !isPar t).map wrd
theorem nwds_others (l : List Tok) : nwds l = (others l).map fun c => wordT c.1 c.2.1 c.2.2 := by
  unfold nwds others
  rw [List.map_map]
  rfl
theorem nwds_len (l : List Tok) : (nwds l).length = (others l).length := by rw [nwds_others, List.length_map]
theorem others_core {l m : List Tok} (h : l.map core = m.map core) : others l = others m := by
  have hn : ∀ l : List Tok, others l = (l.map core).filter fun c => !(decide (c.1 = 6) || decide (c.1 = 7)) := fun l => by
    unfold others
    rw [List.filter_map]
    rfl
  rw [hn, hn, h]
theorem opens_core {l m : List Tok} (h : l.map core = m.map core) : opens l = opens m := by
  have hn : ∀ l : List Tok, opens l = (l.map core).countP fun c => decide (c.1 = 6) := fun l => by
    unfold opens
    rw [List.countP_map]
    rfl
  rw [hn, hn, h]
theorem srun_names {P : Trm → Prop} (hs : ∀ k, P (sgn k)) : ∀ (l : List Tok) (s : List Trm × List Int), (∀ t ∈ l, P (leaf t)) → (∀ t ∈ s.1, P t) → ∀ t ∈ (srun l s).1, P t
  | [], s, _, h, t, ht => h t ht
  | u :: l, s, hl, h, t, ht => by
    refine srun_names hs l (sstep s u) (fun t ht => hl t (by simp [ht])) ?_ t ht
    intro v hv
    have hmap : ∀ (w : List Int), ∀ v ∈ s.1 ++ w.map sgn, P v := fun w v hv => by
      rcases List.mem_append.1 hv with hv | hv
      · exact h v hv
      · obtain ⟨k, _, rfl⟩ := List.mem_map.1 hv; exact hs k
    unfold sstep at hv
    split at hv
    · rcases List.mem_append.1 hv with hv | hv
      · exact h v hv
      · simp only [List.mem_singleton] at hv; subst hv; exact hl u (by simp)
    · split at hv
      · exact h v hv
      · split at hv
        · exact hmap _ v hv
        · exact hmap _ v hv
theorem readD_names {l : List Tok} (h : ∀ t ∈ l, t.name.size ≤ 1000000) : ∀ t ∈ readD l, t.name.size ≤ 1000000 := by
  have h0 : ∀ k, (sgn k).name.size ≤ 1000000 := fun k => by show (⟨#[]⟩ : ByteArray).size ≤ _; decide
  intro t ht
  unfold readD at ht
  rcases List.mem_append.1 ht with ht | ht
  · exact srun_names (P := fun t => t.name.size ≤ 1000000) h0 l ([], []) (fun t ht => h t ht) (by simp) t ht
  · obtain ⟨k, _, rfl⟩ := List.mem_map.1 ht; exact h0 k
end Go.Proofs.Ytmbijfcjfhdnjaa

/- ExprFew. -/
-- fast
namespace Go.Proofs.Ytmbijfcjfhdnjaa
set_option linter.unusedSimpArgs false
set_option linter.unusedVariables false
open Go.RowKit Go.Lib

theorem nwds_snoc {l : List Tok} {i : Nat} (h : i < l.length) : nwds (l.take (i + 1)) = if isPar l[i] = true then nwds (l.take i) else nwds (l.take i) ++ [wrd l[i]] := by
  rw [List.take_succ_eq_append_getElem h]
  unfold nwds
  rw [List.filter_append, List.map_append]
  by_cases hp : isPar l[i] = true
  · rw [if_pos hp]; simp [hp]
  · rw [if_neg hp]; simp [hp]
theorem opens_snoc {l : List Tok} {i : Nat} (h : i < l.length) : opens (l.take (i + 1)) = opens (l.take i) + if l[i].kind = 6 then 1 else 0 := by
  rw [List.take_succ_eq_append_getElem h, opens_app]
  simp [opens]
theorem nwds_le (l : List Tok) : (nwds l).length ≤ l.length := by
  unfold nwds
  rw [List.length_map]
  exact List.length_filter_le _ _
theorem opens_le (l : List Tok) : opens l ≤ l.length := List.countP_le_length
set_option maxRecDepth 100000 in
set_option maxHeartbeats 16000000 in
theorem p_exfew (s : ByteArray) : PCalls Try.prog 9 [.str s] (.bool true) := by
  refine pcalls_of (by first | rfl | simp [free, free.frees, frees_str, frees_u8, frees_u16]) (by first | rfl | simp [free, free.frees, frees_str, frees_u8, frees_u16]) (acalls_of mixed J_law05_ExprFew_ok (Nat.le_of_ble_eq_true rfl) ?_); simp only [J_law05_ExprFew, wk,if_true,if_false,forall_const,implies_true,ne_eq,eq_self,Nat.reduceEqDiff,Nat.reduceAdd,Nat.reduceMul,Nat.reduceSub,Nat.reduceLeDiff,Nat.reduceLT,Int.reduceEq,Int.reduceLT,Int.reduceLE,Int.reduceAdd,Int.reduceSub,Int.reduceMul,Int.reduceNeg,Int.reduceNe,reduceCtorEq,Int.reduceToNat,↓reduceIte]
  refine PCalls.use (p_awake05) ?_; simp only [wk,if_true,if_false,forall_const,implies_true,ne_eq,eq_self,Nat.reduceEqDiff,Nat.reduceAdd,Nat.reduceMul,Nat.reduceSub,Nat.reduceLeDiff,Nat.reduceLT,Int.reduceEq,Int.reduceLT,Int.reduceLE,Int.reduceAdd,Int.reduceSub,Int.reduceMul,Int.reduceNeg,Int.reduceNe,reduceCtorEq,Int.reduceToNat,↓reduceIte]
  intro hs
  have q1 := p_parse s (by omega)
  have q2 := p_rall s (by omega)
  have ht := fun h => parse_tree (s := s) h
  have hlx := parseR_len s
  have hok := fun h => parse_ok (s := s) h
  obtain ⟨R, hR⟩ : ∃ R, R = parseR s := ⟨_, rfl⟩
  rw [← hR] at q1 ht hlx hok
  simp only [resI, resV, vToks, vTrs] at q1 q2
  refine PCalls.use (q1) ?_; simp only [wk,if_true,if_false,forall_const,implies_true,ne_eq,eq_self,Nat.reduceEqDiff,Nat.reduceAdd,Nat.reduceMul,Nat.reduceSub,Nat.reduceLeDiff,Nat.reduceLT,Int.reduceEq,Int.reduceLT,Int.reduceLE,Int.reduceAdd,Int.reduceSub,Int.reduceMul,Int.reduceNeg,Int.reduceNe,reduceCtorEq,Int.reduceToNat,↓reduceIte]
  intro h0
  refine PCalls.use (q2) ?_; simp only [wk,if_true,if_false,forall_const,implies_true,ne_eq,eq_self,Nat.reduceEqDiff,Nat.reduceAdd,Nat.reduceMul,Nat.reduceSub,Nat.reduceLeDiff,Nat.reduceLT,Int.reduceEq,Int.reduceLT,Int.reduceLE,Int.reduceAdd,Int.reduceSub,Int.reduceMul,Int.reduceNeg,Int.reduceNe,reduceCtorEq,Int.reduceToNat,↓reduceIte]
  obtain ⟨e, t1, oe, _, o1, o2⟩ := ht h0
  obtain ⟨k1, k2, _⟩ := hok h0
  obtain ⟨p1, _, p3⟩ := tree_post t1
  have hnl := allT_name (s := s) (by omega)
  have hll := allT_len s
  have hnx : ∀ t ∈ R.1, t.name.size ≤ 1000000 := fun t htm => by
    rw [(hok h0).2.2] at htm
    obtain ⟨w1, w2, w3, w4⟩ := readR_ok k2
    rw [w4] at htm
    exact readD_names hnl t htm
  have q3 := p_text R.1 (by omega) hnx
  have hX : textX R.1 = (joinB ((e.toks 0).map wrd), 0) := by unfold textX; rw [t1]
  rw [hX] at q3
  simp only [vTrs] at q3
  refine PCalls.use (q3) ?_; simp only [wk,if_true,if_false,forall_const,implies_true,ne_eq,eq_self,Nat.reduceEqDiff,Nat.reduceAdd,Nat.reduceMul,Nat.reduceSub,Nat.reduceLeDiff,Nat.reduceLT,Int.reduceEq,Int.reduceLT,Int.reduceLE,Int.reduceAdd,Int.reduceSub,Int.reduceMul,Int.reduceNeg,Int.reduceNe,reduceCtorEq,Int.reduceToNat,↓reduceIte]
  intro h4
  obtain ⟨z1, _⟩ := text_size t1 hnx 0
  obtain ⟨l', g1, g2⟩ := text_read (toks_ok (m := 0) oe) (by omega) (by omega)
  have q4 := p_rall (joinB ((e.toks 0).map wrd)) (by omega)
  have hnm := allT_name (s := joinB ((e.toks 0).map wrd)) (by omega)
  rw [g1] at q4 hnm
  simp only [resV, vToks] at q4
  refine PCalls.use (q4) ?_; simp only [wk,if_true,if_false,forall_const,implies_true,ne_eq,eq_self,Nat.reduceEqDiff,Nat.reduceAdd,Nat.reduceMul,Nat.reduceSub,Nat.reduceLeDiff,Nat.reduceLT,Int.reduceEq,Int.reduceLT,Int.reduceLE,Int.reduceAdd,Int.reduceSub,Int.reduceMul,Int.reduceNeg,Int.reduceNe,reduceCtorEq,Int.reduceToNat,↓reduceIte]
  have hop := opens_core g2
  have hot := others_core g2
  have hlm : l'.length = (e.toks 0).length := (len_core g2).symm
  have hnw : nwds (allT s).1 = nwds l' := by rw [nwds_others, nwds_others, ← o2, hot]
  have hna : (nwds (allT s).1).length = R.1.length := by rw [nwds_len, ← o2, others_len 0 e oe, ← p3]
  have hpq : opens l' ≤ opens (allT s).1 := by rw [← hop]; exact o1
  obtain ⟨T, hT⟩ : ∃ T, T = (allT s).1 := ⟨_, rfl⟩
  rw [← hT] at hnl hll hnw hna hpq ⊢
  have x1 := nwds_le T
  have x2 := opens_le T
  have x3 := opens_le l'
  refine W_loop (fun n fr h' => ∃ i : Nat, i ≤ T.length ∧ n = T.length - i ∧ fr = [(3, .lst .ro R.1.length (trsC R.1)), (6, .lst .ro T.length (toksC T)), (11, .lst .ro l'.length (toksC l')), (14, .lst (.own 9) (nwds (T.take i)).length ((nwds (T.take i)).map .str)), (15, .lst (.own 9) 0 []), (16, .int .i64 (opens (T.take i) : Nat)), (17, .int .i64 0), (67, .int .i64 T.length), (68, .int .i64 i)]) T.length ⟨0, by omega, by omega, rfl⟩ ?_
  rintro n fr h' ⟨i, hi, rfl, rfl⟩
  simp only [J_law05_ExprFew_j10, wk,if_true,if_false,forall_const,implies_true,ne_eq,eq_self,Nat.reduceEqDiff,Nat.reduceAdd,Nat.reduceMul,Nat.reduceSub,Nat.reduceLeDiff,Nat.reduceLT,Int.reduceEq,Int.reduceLT,Int.reduceLE,Int.reduceAdd,Int.reduceSub,Int.reduceMul,Int.reduceNeg,Int.reduceNe,reduceCtorEq,Int.reduceToNat,↓reduceIte]
  refine ⟨fun hlt => ?_, fun hge => ?_⟩
  · have hil : i < T.length := by omega
    have hd : (toksC T).drop ((i : Int).toNat * 4) = _ := toksC_drop hil
    have y1 := nwds_le (T.take i)
    have y2 := opens_le (T.take i)
    rw [List.length_take] at y1 y2
    have qw := p_rword04 T[i].kind T[i].name T[i].of T[i].at_ (hnl _ (List.getElem_mem hil))
    refine ⟨⟨by omega, by omega⟩, ?_⟩
    have hsn := nwds_snoc hil
    have hos := opens_snoc hil
    have nxt : ∀ (A : List ByteArray) (p : Nat), A = nwds (T.take (i + 1)) → p = opens (T.take (i + 1)) → inR ((i : Int) + 1) ∧ ∃ m, m < T.length - i ∧ ∃ i' : Nat, i' ≤ T.length ∧ m = T.length - i' ∧ [(3, AV.lst .ro R.1.length (trsC R.1)), (6, .lst .ro T.length (toksC T)), (11, .lst .ro l'.length (toksC l')), (14, .lst (.own 9) A.length (A.map .str)), (15, .lst (.own 9) 0 []), (16, .int .i64 (p : Nat)), (17, .int .i64 0), (67, .int .i64 T.length), (68, .int .i64 ((i : Int) + 1))] = [(3, .lst .ro R.1.length (trsC R.1)), (6, .lst .ro T.length (toksC T)), (11, .lst .ro l'.length (toksC l')), (14, .lst (.own 9) (nwds (T.take i')).length ((nwds (T.take i')).map .str)), (15, .lst (.own 9) 0 []), (16, .int .i64 (opens (T.take i') : Nat)), (17, .int .i64 0), (67, .int .i64 T.length), (68, .int .i64 i')] := fun A p hA hp =>
      ⟨inR_of (by omega) (by omega), T.length - (i + 1), by omega, i + 1, by omega, rfl, by rw [hA, hp]; rfl⟩
    by_cases k6 : T[i].kind = 6
    · have hx := nxt (nwds (T.take i)) (opens (T.take i) + 1) (by rw [hsn, if_pos (by simp [isPar, k6])]) (by rw [hos, if_pos k6])
      simp only [wk,if_true,if_false,forall_const,implies_true,ne_eq,eq_self,Nat.reduceEqDiff,Nat.reduceAdd,Nat.reduceMul,Nat.reduceSub,Nat.reduceLeDiff,Nat.reduceLT,Int.reduceEq,Int.reduceLT,Int.reduceLE,Int.reduceAdd,Int.reduceSub,Int.reduceMul,Int.reduceNeg,Int.reduceNe,reduceCtorEq,Int.reduceToNat,↓reduceIte, J_law05_ExprFew_j9, J_law05_ExprFew_j8, hd, eqTrue k6]
      exact ⟨inR_of (by omega) (by omega), ⟨by omega, by omega⟩, hx⟩
    · by_cases k7 : T[i].kind = 7
      · have hx := nxt (nwds (T.take i)) (opens (T.take i)) (by rw [hsn, if_pos (by simp [isPar, k7])]) (by rw [hos, if_neg k6]; rfl)
        simp only [wk,if_true,if_false,forall_const,implies_true,ne_eq,eq_self,Nat.reduceEqDiff,Nat.reduceAdd,Nat.reduceMul,Nat.reduceSub,Nat.reduceLeDiff,Nat.reduceLT,Int.reduceEq,Int.reduceLT,Int.reduceLE,Int.reduceAdd,Int.reduceSub,Int.reduceMul,Int.reduceNeg,Int.reduceNe,reduceCtorEq,Int.reduceToNat,↓reduceIte, J_law05_ExprFew_j9, J_law05_ExprFew_j8, hd, eqFalse k6, eqTrue k7]
        exact ⟨⟨by omega, by omega⟩, ⟨by omega, by omega⟩, hx⟩
      · have hx := nxt (nwds (T.take i) ++ [wrd T[i]]) (opens (T.take i)) (by rw [hsn, if_neg (by simp [isPar, k6, k7])]) (by rw [hos, if_neg k6]; rfl)
        simp only [wk,if_true,if_false,forall_const,implies_true,ne_eq,eq_self,Nat.reduceEqDiff,Nat.reduceAdd,Nat.reduceMul,Nat.reduceSub,Nat.reduceLeDiff,Nat.reduceLT,Int.reduceEq,Int.reduceLT,Int.reduceLE,Int.reduceAdd,Int.reduceSub,Int.reduceMul,Int.reduceNeg,Int.reduceNe,reduceCtorEq,Int.reduceToNat,↓reduceIte, J_law05_ExprFew_j9, J_law05_ExprFew_j8, hd, eqFalse k6, eqFalse k7]
        refine ⟨⟨by omega, by omega⟩, ⟨by omega, by omega⟩, ⟨by omega, by omega⟩, ?_⟩
        refine PCalls.use (qw) ?_; simp only [wk,if_true,if_false,forall_const,implies_true,ne_eq,eq_self,Nat.reduceEqDiff,Nat.reduceAdd,Nat.reduceMul,Nat.reduceSub,Nat.reduceLeDiff,Nat.reduceLT,Int.reduceEq,Int.reduceLT,Int.reduceLE,Int.reduceAdd,Int.reduceSub,Int.reduceMul,Int.reduceNeg,Int.reduceNe,reduceCtorEq,Int.reduceToNat,↓reduceIte]
        simp only [List.length_append, List.length_singleton, List.map_append, List.map_cons, List.map_nil] at hx
        exact ⟨⟨by omega, by omega⟩, hx⟩
  · rw [List.take_of_length_le (by omega)]
    simp only [J_law05_ExprFew_j7, wk,if_true,if_false,forall_const,implies_true,ne_eq,eq_self,Nat.reduceEqDiff,Nat.reduceAdd,Nat.reduceMul,Nat.reduceSub,Nat.reduceLeDiff,Nat.reduceLT,Int.reduceEq,Int.reduceLT,Int.reduceLE,Int.reduceAdd,Int.reduceSub,Int.reduceMul,Int.reduceNeg,Int.reduceNe,reduceCtorEq,Int.reduceToNat,↓reduceIte]
    refine W_loop (fun n fr h' => ∃ i : Nat, i ≤ l'.length ∧ n = l'.length - i ∧ fr = [(3, .lst .ro R.1.length (trsC R.1)), (11, .lst .ro l'.length (toksC l')), (14, .lst (.own 9) (nwds T).length ((nwds T).map .str)), (15, .lst (.own 9) (nwds (l'.take i)).length ((nwds (l'.take i)).map .str)), (16, .int .i64 (opens T : Nat)), (17, .int .i64 (opens (l'.take i) : Nat)), (103, .int .i64 l'.length), (104, .int .i64 i)]) l'.length ⟨0, by omega, by omega, rfl⟩ ?_
    rintro n fr h' ⟨i, hi, rfl, rfl⟩
    simp only [J_law05_ExprFew_j6, wk,if_true,if_false,forall_const,implies_true,ne_eq,eq_self,Nat.reduceEqDiff,Nat.reduceAdd,Nat.reduceMul,Nat.reduceSub,Nat.reduceLeDiff,Nat.reduceLT,Int.reduceEq,Int.reduceLT,Int.reduceLE,Int.reduceAdd,Int.reduceSub,Int.reduceMul,Int.reduceNeg,Int.reduceNe,reduceCtorEq,Int.reduceToNat,↓reduceIte]
    refine ⟨fun hlt => ?_, fun hge2 => ?_⟩
    · have hil : i < l'.length := by omega
      have hd : (toksC l').drop ((i : Int).toNat * 4) = _ := toksC_drop hil
      have y1 := nwds_le (l'.take i)
      have y2 := opens_le (l'.take i)
      rw [List.length_take] at y1 y2
      have qw := p_rword04 l'[i].kind l'[i].name l'[i].of l'[i].at_ (hnm _ (List.getElem_mem hil))
      refine ⟨⟨by omega, by omega⟩, ?_⟩
      have hsn := nwds_snoc hil
      have hos := opens_snoc hil
      have nxt : ∀ (A : List ByteArray) (p : Nat), A = nwds (l'.take (i + 1)) → p = opens (l'.take (i + 1)) → inR ((i : Int) + 1) ∧ ∃ m, m < l'.length - i ∧ ∃ i' : Nat, i' ≤ l'.length ∧ m = l'.length - i' ∧ [(3, AV.lst .ro R.1.length (trsC R.1)), (11, .lst .ro l'.length (toksC l')), (14, .lst (.own 9) (nwds T).length ((nwds T).map .str)), (15, .lst (.own 9) A.length (A.map .str)), (16, .int .i64 (opens T : Nat)), (17, .int .i64 (p : Nat)), (103, .int .i64 l'.length), (104, .int .i64 ((i : Int) + 1))] = [(3, .lst .ro R.1.length (trsC R.1)), (11, .lst .ro l'.length (toksC l')), (14, .lst (.own 9) (nwds T).length ((nwds T).map .str)), (15, .lst (.own 9) (nwds (l'.take i')).length ((nwds (l'.take i')).map .str)), (16, .int .i64 (opens T : Nat)), (17, .int .i64 (opens (l'.take i') : Nat)), (103, .int .i64 l'.length), (104, .int .i64 i')] := fun A p hA hp =>
        ⟨inR_of (by omega) (by omega), l'.length - (i + 1), by omega, i + 1, by omega, rfl, by rw [hA, hp]; rfl⟩
      by_cases k6 : l'[i].kind = 6
      · have hx := nxt (nwds (l'.take i)) (opens (l'.take i) + 1) (by rw [hsn, if_pos (by simp [isPar, k6])]) (by rw [hos, if_pos k6])
        simp only [wk,if_true,if_false,forall_const,implies_true,ne_eq,eq_self,Nat.reduceEqDiff,Nat.reduceAdd,Nat.reduceMul,Nat.reduceSub,Nat.reduceLeDiff,Nat.reduceLT,Int.reduceEq,Int.reduceLT,Int.reduceLE,Int.reduceAdd,Int.reduceSub,Int.reduceMul,Int.reduceNeg,Int.reduceNe,reduceCtorEq,Int.reduceToNat,↓reduceIte, J_law05_ExprFew_j5, J_law05_ExprFew_j4, hd, eqTrue k6]
        exact ⟨inR_of (by omega) (by omega), ⟨by omega, by omega⟩, hx⟩
      · by_cases k7 : l'[i].kind = 7
        · have hx := nxt (nwds (l'.take i)) (opens (l'.take i)) (by rw [hsn, if_pos (by simp [isPar, k7])]) (by rw [hos, if_neg k6]; rfl)
          simp only [wk,if_true,if_false,forall_const,implies_true,ne_eq,eq_self,Nat.reduceEqDiff,Nat.reduceAdd,Nat.reduceMul,Nat.reduceSub,Nat.reduceLeDiff,Nat.reduceLT,Int.reduceEq,Int.reduceLT,Int.reduceLE,Int.reduceAdd,Int.reduceSub,Int.reduceMul,Int.reduceNeg,Int.reduceNe,reduceCtorEq,Int.reduceToNat,↓reduceIte, J_law05_ExprFew_j5, J_law05_ExprFew_j4, hd, eqFalse k6, eqTrue k7]
          exact ⟨⟨by omega, by omega⟩, ⟨by omega, by omega⟩, hx⟩
        · have hx := nxt (nwds (l'.take i) ++ [wrd l'[i]]) (opens (l'.take i)) (by rw [hsn, if_neg (by simp [isPar, k6, k7])]) (by rw [hos, if_neg k6]; rfl)
          simp only [wk,if_true,if_false,forall_const,implies_true,ne_eq,eq_self,Nat.reduceEqDiff,Nat.reduceAdd,Nat.reduceMul,Nat.reduceSub,Nat.reduceLeDiff,Nat.reduceLT,Int.reduceEq,Int.reduceLT,Int.reduceLE,Int.reduceAdd,Int.reduceSub,Int.reduceMul,Int.reduceNeg,Int.reduceNe,reduceCtorEq,Int.reduceToNat,↓reduceIte, J_law05_ExprFew_j5, J_law05_ExprFew_j4, hd, eqFalse k6, eqFalse k7]
          refine ⟨⟨by omega, by omega⟩, ⟨by omega, by omega⟩, ⟨by omega, by omega⟩, ?_⟩
          refine PCalls.use (qw) ?_; simp only [wk,if_true,if_false,forall_const,implies_true,ne_eq,eq_self,Nat.reduceEqDiff,Nat.reduceAdd,Nat.reduceMul,Nat.reduceSub,Nat.reduceLeDiff,Nat.reduceLT,Int.reduceEq,Int.reduceLT,Int.reduceLE,Int.reduceAdd,Int.reduceSub,Int.reduceMul,Int.reduceNeg,Int.reduceNe,reduceCtorEq,Int.reduceToNat,↓reduceIte]
          simp only [List.length_append, List.length_singleton, List.map_append, List.map_cons, List.map_nil] at hx
          exact ⟨⟨by omega, by omega⟩, hx⟩
    · rw [List.take_of_length_le (by omega)]
      simp only [J_law05_ExprFew_j3, wk,if_true,if_false,forall_const,implies_true,ne_eq,eq_self,Nat.reduceEqDiff,Nat.reduceAdd,Nat.reduceMul,Nat.reduceSub,Nat.reduceLeDiff,Nat.reduceLT,Int.reduceEq,Int.reduceLT,Int.reduceLE,Int.reduceAdd,Int.reduceSub,Int.reduceMul,Int.reduceNeg,Int.reduceNe,reduceCtorEq,Int.reduceToNat,↓reduceIte]
      rw [← hnw]
      refine ⟨fun _ => ⟨fun _ => ⟨fun h => absurd (by omega) h, fun _ => ?_⟩, fun h => absurd rfl h⟩, fun h => absurd h (by omega)⟩
      refine W_loop (fun n fr h' => ∃ i : Nat, i ≤ (nwds T).length ∧ n = (nwds T).length - i ∧ fr = [(14, .lst (.own 9) (nwds T).length ((nwds T).map .str)), (15, .lst (.own 9) (nwds T).length ((nwds T).map .str)), (156, .int .i64 (nwds T).length), (157, .int .i64 i)]) (nwds T).length ⟨0, by omega, by omega, rfl⟩ ?_
      rintro n fr h3 ⟨j, hj, rfl, rfl⟩
      simp only [J_law05_ExprFew_j2, wk,if_true,if_false,forall_const,implies_true,ne_eq,eq_self,Nat.reduceEqDiff,Nat.reduceAdd,Nat.reduceMul,Nat.reduceSub,Nat.reduceLeDiff,Nat.reduceLT,Int.reduceEq,Int.reduceLT,Int.reduceLE,Int.reduceAdd,Int.reduceSub,Int.reduceMul,Int.reduceNeg,Int.reduceNe,reduceCtorEq,Int.reduceToNat,↓reduceIte]
      refine ⟨fun hlt => ?_, fun hge3 => ?_⟩
      · have hjl : j < (nwds T).length := by omega
        have hd : ((nwds T).map AV.str).drop j = .str (nwds T)[j] :: ((nwds T).map AV.str).drop (j + 1) := by
          rw [List.drop_eq_getElem_cons (by rw [List.length_map]; exact hjl), List.getElem_map]
        simp only [wk,if_true,if_false,forall_const,implies_true,ne_eq,eq_self,Nat.reduceEqDiff,Nat.reduceAdd,Nat.reduceMul,Nat.reduceSub,Nat.reduceLeDiff,Nat.reduceLT,Int.reduceEq,Int.reduceLT,Int.reduceLE,Int.reduceAdd,Int.reduceSub,Int.reduceMul,Int.reduceNeg,Int.reduceNe,reduceCtorEq,Int.reduceToNat,↓reduceIte, Int.toNat_natCast, hd]
        exact ⟨⟨by omega, by omega⟩, ⟨by omega, by omega⟩, inR_of (by omega) (by omega), (nwds T).length - (j + 1), by omega, j + 1, by omega, rfl, rfl⟩
      · simp only [J_law05_ExprFew_j1, wk,if_true,if_false,forall_const,implies_true,ne_eq,eq_self,Nat.reduceEqDiff,Nat.reduceAdd,Nat.reduceMul,Nat.reduceSub,Nat.reduceLeDiff,Nat.reduceLT,Int.reduceEq,Int.reduceLT,Int.reduceLE,Int.reduceAdd,Int.reduceSub,Int.reduceMul,Int.reduceNeg,Int.reduceNe,reduceCtorEq,Int.reduceToNat,↓reduceIte]
end Go.Proofs.Ytmbijfcjfhdnjaa

/- Expressions: what is read can be written and is read alike; how deep parentheses are (plain). -/
-- fast
namespace Go.Proofs.Ytmbijfcjfhdnjaa
set_option linter.unusedSimpArgs false
set_option linter.unusedVariables false
open Go.RowKit Go.Lib

/-- how deep parentheses may be is no matter where they are not so deep -/
theorem ctl_cap {M : Nat} : ∀ (m : List Tok) (b : Bool) (n : Nat) (az : Bool) (r1 r2 : Bool × Nat), ctl (M + 1) b (n + 1) az m = some r1 → ctl (M + 1) b n az m = some r2 → ctl M b n az m = some r2
  | [], _, _, _, _, _, _, h => h
  | t :: m, b, n, az, r1, r2, h1, h2 => by
    obtain ⟨b1, n1, p1, p2⟩ := ctl_cons h1
    obtain ⟨b2, n2, q1, q2⟩ := ctl_cons h2
    have hs : cstep M b n az t = some (b2, n2) ∧ b1 = b2 ∧ n1 = n2 + 1 := by
      rcases cstep_cases q1 with ⟨rfl, k, k2, rfl, rfl⟩ | ⟨rfl, k, rfl, k3, rfl, rfl⟩ | ⟨rfl, k, hp, rfl, rfl⟩ | ⟨rfl, k, rfl, rfl⟩
      · rcases cstep_cases p1 with ⟨_, _, _, rfl, rfl⟩ | ⟨_, k', _⟩ | ⟨h, _⟩ | ⟨h, _⟩
        · exact ⟨by unfold cstep; rw [if_pos rfl, if_pos ⟨k, k2⟩], rfl, rfl⟩
        · omega
        · cases h
        · cases h
      · rcases cstep_cases p1 with ⟨_, k', _⟩ | ⟨_, _, _, k4, rfl, rfl⟩ | ⟨h, _⟩ | ⟨h, _⟩
        · omega
        · exact ⟨by unfold cstep; rw [if_pos rfl, if_neg (by omega), if_pos ⟨k, rfl⟩, if_neg (by omega)], rfl, rfl⟩
        · cases h
        · cases h
      · rcases cstep_cases p1 with ⟨h, _⟩ | ⟨h, _⟩ | ⟨_, _, _, rfl, rfl⟩ | ⟨_, k', _⟩
        · cases h
        · cases h
        · exact ⟨by unfold cstep; rw [if_neg (by simp), if_pos k, if_pos hp], rfl, by omega⟩
        · exact absurd k (bind_ne k').2.2
      · rcases cstep_cases p1 with ⟨h, _⟩ | ⟨h, _⟩ | ⟨_, k', _⟩ | ⟨_, _, rfl, rfl⟩
        · cases h
        · cases h
        · exact absurd k' (bind_ne k).2.2
        · exact ⟨by unfold cstep; rw [if_neg (by simp), if_neg (bind_ne k).2.2, if_pos k], rfl, rfl⟩
    obtain ⟨e1, rfl, rfl⟩ := hs
    simp only [ctl, e1]
    exact ctl_cap m b1 n2 _ r1 r2 p2 q2
theorem pd_more : ∀ (m : Int) (e : Xp), e.pd m ≤ e.pd 0 + 1
  | m, .atm _ => by simp [Xp.pd]
  | m, .op k a b => by
    have h0 : ¬ bindK k < 0 := by have := bind_ge k; omega
    simp only [Xp.pd]
    rw [if_neg h0]
    split <;> omega
theorem post_op {e : Xp} {p : List Trm} {k : Int} (hk : k ≠ 1) (ho : e.okE wrT) (h : e.post = p ++ [sgn k]) : ∃ a b, e = .op k a b ∧ a.post ++ b.post = p := by
  cases e with
  | atm t =>
    exfalso
    have h1 : [t] = p ++ [sgn k] := h
    have hp : p = [] := by
      have := congrArg List.length h1
      simp at this
      exact this
    subst hp
    simp only [List.nil_append, List.cons.injEq, and_true] at h1
    have := ho.1
    rw [h1] at this
    exact hk this
  | op k' a b =>
    have h1 : (a.post ++ b.post) ++ [sgn k'] = p ++ [sgn k] := by rw [← h]; simp [Xp.post]
    obtain ⟨h2, h3⟩ := List.append_inj' h1 rfl
    simp only [List.cons.injEq, and_true] at h3
    have : k' = k := congrArg Trm.op h3
    subst this
    exact ⟨a, b, rfl, h2⟩
theorem post_two {a b c d : Xp} (ha : a.okE wrT) (hb : b.okE wrT) (hc : c.okE wrT) (hd : d.okE wrT) (h : a.post ++ b.post = c.post ++ d.post) : a = c ∧ b = d := by
  have h1 := runX_post (wr := wrT) a (b.post ++ []) [] ha
  have h2 := runX_post (wr := wrT) c (d.post ++ []) [] hc
  rw [runX_post b [] [a] hb] at h1
  rw [runX_post d [] [c] hd] at h2
  rw [List.append_nil, h, ← List.append_nil d.post, h2] at h1
  simp only [runX, Option.some.injEq, List.cons.injEq, and_true] at h1
  exact ⟨h1.2.symm, h1.1.symm⟩
theorem acc_sub {M : Nat} {l : List Tok} (hw1 : ∀ t ∈ l, t.kind = 1 → wrT (leaf t) = true) (hw2 : ∀ t ∈ l, 0 < bindK t.kind → t.name = ⟨#[]⟩ ∧ t.of = 0) (ha : accT M l) : ∃ e : Xp, e.okE wrT ∧ readD l = e.post := by
  obtain ⟨e, h1, h2, _⟩ := read_tree (M := M) (wr := wrT) l.length l (Nat.le_refl _) ha hw1 hw2
  exact ⟨e, h1, h2⟩
/-- what is read is written with parentheses no deeper -/
theorem read_depth : ∀ (f M : Nat) (l : List Tok) (e : Xp), l.length ≤ f → accT M l → (∀ t ∈ l, t.kind = 1 → wrT (leaf t) = true) → (∀ t ∈ l, 0 < bindK t.kind → t.name = ⟨#[]⟩ ∧ t.of = 0) → e.okE wrT → readD l = e.post → ∀ m, lowsOk m 0 l → e.pd m ≤ M
  | 0, M, l, e, hl, ha, _, _, _, _, m, _ => by
    have : l = [] := List.eq_nil_of_length_eq_zero (by omega)
    subst this
    simp [accT, ctl] at ha
  | f + 1, M, l, e, hl, ha, hw1, hw2, ho, he, m, hm => by
    rcases best_spec l false 0 false (true, 0) 0 (-1) 9 ha with ⟨e1, e2⟩ | ⟨l1, l2, s, e1, e2, e3, e4, e5, e6, e7, e8⟩
    · cases l with
      | nil => simp [accT, ctl] at ha
      | cons t l =>
        obtain ⟨b', n', q1, q2⟩ := ctl_cons ha
        simp only [lowsOk] at e2
        rcases cstep_cases q1 with ⟨_, k, _, rfl, rfl⟩ | ⟨_, k, _, k4, rfl, rfl⟩ | ⟨q, _⟩ | ⟨q, _⟩
        · rw [if_neg (by omega), if_neg (by omega)] at e2
          have hnil : l = [] := by
            cases l with
            | nil => rfl
            | cons u l2 =>
              exfalso
              obtain ⟨b2, n2, q3, q4⟩ := ctl_cons q2
              rcases cstep_cases q3 with ⟨q, _⟩ | ⟨q, _⟩ | ⟨_, _, q, _⟩ | ⟨_, q, _⟩
              · cases q
              · cases q
              · omega
              · have := e2.2
                simp only [lowsOk] at this
                rw [if_neg (bind_ne q).2.1, if_neg (bind_ne q).2.2] at this
                have := this.1 (by first | exact rfl | trivial) q
                have := bind_le u.kind
                omega
          subst hnil
          rw [readD_one t k] at he
          cases e with
          | atm u => simp [Xp.pd]
          | op k a b =>
            have h1 := congrArg List.length he
            have h2 := toks_len 0 a
            have h3 := toks_len 0 b
            simp only [Xp.post, List.length_append, List.length_singleton] at h1
            omega
        · rw [if_pos k] at e2
          rw [show decide (t.kind = 5) = false by rw [decide_eq_false]; omega] at q2
          obtain ⟨M, rfl⟩ : ∃ M', M = M' + 1 := ⟨M - 1, by omega⟩
          obtain ⟨m', c, r1, r2, r3⟩ := ctl_close l false 0 false (by omega) q2 e2
          subst r1
          rw [readD_open k r2 r3] at he
          have q3 : ∃ r, ctl (M + 1) false 1 false m' = some r := by
            rw [ctl_app] at q2
            cases hc : ctl (M + 1) false 1 false m' with
            | none => rw [hc] at q2; cases q2
            | some r => exact ⟨r, rfl⟩
          obtain ⟨r, q3⟩ := q3
          have q4 : accT M m' := ctl_cap m' false 0 false r (true, 0) q3 r3
          have ih := read_depth f M m' e (by simp at hl; omega) q4 (fun u hu => hw1 u (by simp [hu])) (fun u hu => hw2 u (by simp [hu])) ho he 0 (lows0 _ _)
          have := pd_more m e
          omega
        · cases q
        · cases q
    · have a2 : accT M l2 := by
        unfold accT
        cases hk : decide (s.kind = 5) with
        | false => rw [hk] at e6; exact e6
        | true => rw [hk] at e6; exact ctl_as e6
      subst e1
      simp only [List.length_append, List.length_cons] at hl
      rw [readD_sign e5 a2 e3 e7 e8] at he
      obtain ⟨x1, o1, p1⟩ := acc_sub (fun u hu => hw1 u (by simp [hu])) (fun u hu => hw2 u (by simp [hu])) e5
      obtain ⟨x2, o2, p2⟩ := acc_sub (fun u hu => hw1 u (by simp [hu])) (fun u hu => hw2 u (by simp [hu])) a2
      obtain ⟨a, b, rfl, hab⟩ := post_op (k := s.kind) (p := readD l1 ++ readD l2) (bind_ne e3).1 ho (by rw [← he, List.append_assoc])
      rw [p1, p2] at hab
      obtain ⟨rfl, rfl⟩ := post_two ho.2.2.1 ho.2.2.2 o1 o2 hab
      have ih1 := read_depth f M l1 a (by omega) e5 (fun u hu => hw1 u (by simp [hu])) (fun u hu => hw2 u (by simp [hu])) o1 p1 _ e7
      have ih2 := read_depth f M l2 b (by omega) a2 (fun u hu => hw1 u (by simp [hu])) (fun u hu => hw2 u (by simp [hu])) o2 p2 _ e8
      have hmk : m ≤ bindK s.kind := by
        have key : ∀ (l : List Tok) (n : Nat) (b : Bool) (az : Bool) (r : Bool × Nat), ctl M b n az l = some (true, 0) → lowsOk m n (l ++ s :: l2) → m ≤ bindK s.kind := by
          intro l
          induction l with
          | nil =>
            intro n b az r hc hl
            simp only [ctl, Option.some.injEq, Prod.mk.injEq] at hc
            simp only [List.nil_append, lowsOk] at hl
            rw [if_neg (bind_ne e3).2.1, if_neg (bind_ne e3).2.2] at hl
            exact hl.1 hc.2 e3
          | cons t l ih =>
            intro n b az r hc hl
            obtain ⟨b1, n1, p1, p2⟩ := ctl_cons hc
            simp only [List.cons_append, lowsOk] at hl
            rcases cstep_cases p1 with ⟨_, k, _, rfl, rfl⟩ | ⟨_, k, _, _, rfl, rfl⟩ | ⟨_, k, _, rfl, rfl⟩ | ⟨_, k, rfl, rfl⟩
            · rw [if_neg (by omega), if_neg (by omega)] at hl; exact ih _ _ _ r p2 hl.2
            · rw [if_pos k] at hl; exact ih _ _ _ r p2 hl
            · rw [if_neg (by omega), if_pos k] at hl; exact ih _ _ _ r p2 hl
            · rw [if_neg (bind_ne k).2.1, if_neg (bind_ne k).2.2] at hl; exact ih _ _ _ r p2 hl.2
        exact key l1 0 false false (true, 0) e5 hm
      simp only [Xp.pd]
      rw [if_neg (by omega)]
      omega
end Go.Proofs.Ytmbijfcjfhdnjaa

/- Expressions: what comes of a text that was written (plain); deepRight. -/
-- fast
namespace Go.Proofs.Ytmbijfcjfhdnjaa
set_option linter.unusedSimpArgs false
set_option linter.unusedVariables false
open Go.RowKit Go.Lib

def closes (l : List Tok) : Nat := l.countP fun t => decide (t.kind = 7)
theorem closes_app (a b : List Tok) : closes (a ++ b) = closes a + closes b := List.countP_append
theorem closes_cons (t : Tok) (l : List Tok) : closes (t :: l) = closes l + if t.kind = 7 then 1 else 0 := by
  simp [closes, List.countP_cons]
/-- opened and closed -/
theorem ctl_bal {M : Nat} : ∀ (l : List Tok) (b : Bool) (n : Nat) (az : Bool) (b' : Bool) (n' : Nat), ctl M b n az l = some (b', n') → n + opens l = n' + closes l
  | [], b, n, az, b', n', h => by
    simp only [ctl, Option.some.injEq, Prod.mk.injEq] at h
    rw [h.2]; rfl
  | t :: l, b, n, az, b', n', h => by
    obtain ⟨b1, n1, p1, p2⟩ := ctl_cons h
    have ih := ctl_bal l b1 n1 _ b' n' p2
    rw [opens_cons, closes_cons]
    rcases cstep_cases p1 with ⟨_, k, _, _, rfl⟩ | ⟨_, k, _, _, _, rfl⟩ | ⟨_, k, hp, _, rfl⟩ | ⟨_, k, _, rfl⟩
    · rw [if_neg (by omega), if_neg (by omega)]; omega
    · rw [if_pos k, if_neg (by omega)]; omega
    · rw [if_neg (by omega), if_pos k]; omega
    · rw [if_neg (bind_ne k).2.1, if_neg (bind_ne k).2.2]; omega
/-- deeper is allowed where it is needed -/
theorem ctl_raise {M M' : Nat} (hM : M ≤ M') : ∀ (l : List Tok) (b : Bool) (n : Nat) (az : Bool) (r : Bool × Nat), n ≤ M → ctl M b n az l = some r → ctl M' b n az l = some r
  | [], _, _, _, _, _, h => h
  | t :: l, b, n, az, r, hn, h => by
    obtain ⟨b1, n1, p1, p2⟩ := ctl_cons h
    have hs : cstep M' b n az t = some (b1, n1) ∧ n1 ≤ M := by
      rcases cstep_cases p1 with ⟨rfl, k, k2, rfl, rfl⟩ | ⟨rfl, k, rfl, k3, rfl, rfl⟩ | ⟨rfl, k, hp, rfl, rfl⟩ | ⟨rfl, k, rfl, rfl⟩
      · exact ⟨by unfold cstep; rw [if_pos rfl, if_pos ⟨k, k2⟩], hn⟩
      · exact ⟨by unfold cstep; rw [if_pos rfl, if_neg (by omega), if_pos ⟨k, rfl⟩, if_neg (by omega)], by omega⟩
      · exact ⟨by unfold cstep; rw [if_neg (by simp), if_pos k, if_pos hp], by omega⟩
      · exact ⟨by unfold cstep; rw [if_neg (by simp), if_neg (bind_ne k).2.2, if_pos k], hn⟩
    simp only [ctl, hs.1]
    exact ctl_raise hM l b1 n1 _ r hs.2 p2
theorem ctlE_big {M M' : Nat} (hM : M ≤ M') : ∀ (l : List Tok) (i : Nat) (b : Bool) (n : Nat) (az : Bool) (j : Nat) (er : Int) (r : Bool × Nat), n ≤ M → ctlE M i b n az l = .inl (j, er) → ctl M' b n az l = some r → er = 3 ∧ ∃ (l1 l2 : List Tok) (t : Tok), l = l1 ++ t :: l2 ∧ j = i + l1.length ∧ t.kind = 6 ∧ n + opens l1 = M + closes l1
  | [], i, b, n, az, j, er, r, _, h, _ => by simp [ctlE] at h
  | t :: l, i, b, n, az, j, er, r, hn, h, h' => by
    obtain ⟨b1, n1, p1, p2⟩ := ctl_cons h'
    simp only [ctlE] at h
    cases hc : cstep M b n az t with
    | none =>
      rw [hc] at h
      simp only [Sum.inl.injEq, Prod.mk.injEq] at h
      obtain ⟨rfl, rfl⟩ := h
      rcases cstep_cases p1 with ⟨rfl, k, k2, rfl, rfl⟩ | ⟨rfl, k, rfl, k3, rfl, rfl⟩ | ⟨rfl, k, hp, rfl, rfl⟩ | ⟨rfl, k, rfl, rfl⟩
      · unfold cstep at hc; rw [if_pos rfl, if_pos ⟨k, k2⟩] at hc; cases hc
      · have hnM : n = M := by
          by_cases h1 : n = M
          · exact h1
          · unfold cstep at hc; rw [if_pos rfl, if_neg (by omega), if_pos ⟨k, rfl⟩, if_neg h1] at hc; cases hc
        refine ⟨by rw [if_pos ⟨rfl, k, rfl⟩], [], l, t, rfl, rfl, k, ?_⟩
        rw [hnM]; rfl
      · unfold cstep at hc; rw [if_neg (by simp), if_pos k, if_pos hp] at hc; cases hc
      · unfold cstep at hc; rw [if_neg (by simp), if_neg (bind_ne k).2.2, if_pos k] at hc; cases hc
    | some x =>
      obtain ⟨b2, n2⟩ := x
      rw [hc] at h
      simp only at h
      have hs : b2 = b1 ∧ n2 = n1 ∧ n2 ≤ M ∧ n + (if t.kind = 6 then 1 else 0) = n2 + (if t.kind = 7 then 1 else 0) := by
        rcases cstep_cases hc with ⟨rfl, k, k2, rfl, rfl⟩ | ⟨rfl, k, rfl, k3, rfl, rfl⟩ | ⟨rfl, k, hp, rfl, rfl⟩ | ⟨rfl, k, rfl, rfl⟩
        · rcases cstep_cases p1 with ⟨_, _, _, rfl, rfl⟩ | ⟨_, k', _⟩ | ⟨h, _⟩ | ⟨h, _⟩
          · exact ⟨rfl, rfl, hn, by rw [if_neg (by omega), if_neg (by omega)]⟩
          · omega
          · cases h
          · cases h
        · rcases cstep_cases p1 with ⟨_, k', _⟩ | ⟨_, _, _, k4, rfl, rfl⟩ | ⟨h, _⟩ | ⟨h, _⟩
          · omega
          · exact ⟨rfl, rfl, by omega, by rw [if_pos k, if_neg (by omega)]⟩
          · cases h
          · cases h
        · rcases cstep_cases p1 with ⟨h, _⟩ | ⟨h, _⟩ | ⟨_, _, _, rfl, rfl⟩ | ⟨_, k', _⟩
          · cases h
          · cases h
          · exact ⟨rfl, rfl, by omega, by rw [if_neg (by omega), if_pos k]; omega⟩
          · exact absurd k (bind_ne k').2.2
        · rcases cstep_cases p1 with ⟨h, _⟩ | ⟨h, _⟩ | ⟨_, k', _⟩ | ⟨_, _, rfl, rfl⟩
          · cases h
          · cases h
          · exact absurd k' (bind_ne k).2.2
          · exact ⟨rfl, rfl, hn, by rw [if_neg (bind_ne k).2.1, if_neg (bind_ne k).2.2]⟩
      obtain ⟨rfl, rfl, h3, h4⟩ := hs
      obtain ⟨g1, l1, l2, u, g2, g3, g4, g5⟩ := ctlE_big hM l (i + 1) b2 n2 _ j er r h3 h p2
      refine ⟨g1, t :: l1, l2, u, by rw [g2]; rfl, by rw [g3, List.length_cons]; omega, g4, ?_⟩
      rw [opens_cons, closes_cons]
      omega
theorem wd_ok {t : Tok} (h : wrd t ≠ ⟨#[]⟩) : wdB t = true := by
  have h : wordT t.kind t.name t.of ≠ ⟨#[]⟩ := h
  simp [wdB, h]
/-- what a text that was written is read as -/
theorem parse_text {e : Xp} (ho : e.okE wrT) (hp : e.post.length ≤ 200) (hs : (joinB ((e.toks 0).map wrd)).size ≤ 4000) :
    (parseR (joinB ((e.toks 0).map wrd)) = (e.post, 0, 0)) ∨ (100 < e.pd 0 ∧ (parseR (joinB ((e.toks 0).map wrd))).2.2 = 3 ∧ ∃ (l1 l2 : List Tok) (t : Tok), e.toks 0 = l1 ++ t :: l2 ∧ t.kind = 6 ∧ opens l1 = 100 + closes l1) := by
  have hlen := toks_len 0 e
  obtain ⟨l', h1, h2⟩ := text_read (toks_ok (m := 0) ho) (by omega) hs
  have hw : ∀ t ∈ e.toks 0, wdB t = true := fun t ht => wd_ok (toks_ok ho t ht)
  have hll := len_core h2
  have hR : readR wdB l' = readR wdB (e.toks 0) := (readR_core h2).symm
  have hrd := tok_read e 0 ho
  unfold parseR
  rw [h1]
  simp only
  rw [if_neg (by simp), hR, readR_acc hw]
  have hbig := tok_acc (M := max 100 (e.pd 0)) ho 0 (by omega)
  cases hc : ctlE 100 0 false 0 false (e.toks 0) with
  | inr y =>
    left
    obtain ⟨b, n⟩ := y
    have h3 := (ctlE_ok (e.toks 0) 0 false 0 false (b, n)).1 hc
    have h4 := ctl_raise (M' := max 100 (e.pd 0)) (by omega) (e.toks 0) false 0 false (b, n) (by omega) h3
    unfold accT at hbig
    rw [hbig] at h4
    simp only [Option.some.injEq, Prod.mk.injEq] at h4
    obtain ⟨rfl, rfl⟩ := h4
    have hq : (if 200 < (readD (e.toks 0)).length then (([], (e.toks 0).length, 3) : List Trm × Nat × Int) else (readD (e.toks 0), 0, 0)) = (e.post, 0, 0) := by rw [hrd, if_neg (by omega)]
    have hz : ¬ (true = false ∨ 0 < 0) := by simp
    simp only [if_neg hz, hq, if_true]
  | inl y =>
    right
    obtain ⟨j, er⟩ := y
    obtain ⟨g1, l1, l2, t, g2, g3, g4, g5⟩ := ctlE_big (M' := max 100 (e.pd 0)) (by omega) (e.toks 0) 0 false 0 false j er _ (by omega) hc hbig
    subst g1
    refine ⟨?_, ?_, l1, l2, t, g2, g4, by omega⟩
    · rcases Nat.lt_or_ge 100 (e.pd 0) with h | h
      · exact h
      · exfalso
        have h5 := (ctlE_ok (e.toks 0) 0 false 0 false (true, 0)).2 (tok_acc (M := 100) ho 0 h)
        rw [hc] at h5; cases h5
    · simp only
      rw [if_neg (by decide)]
      split
      · rfl
      · simp
/-- parentheses in bytes -/
def cnt (l : List UInt8) : Int := (l.countP fun b => decide (b.toNat = 40)) - (l.countP fun b => decide (b.toNat = 41))
theorem cnt_app (a b : List UInt8) : cnt (a ++ b) = cnt a + cnt b := by
  unfold cnt; rw [List.countP_append, List.countP_append]; omega
theorem cnt_cons (b : UInt8) (l : List UInt8) : cnt (b :: l) = cnt l + (if b.toNat = 40 then 1 else if b.toNat = 41 then -1 else 0) := by
  unfold cnt
  rw [List.countP_cons, List.countP_cons]
  by_cases h1 : b.toNat = 40
  · simp [h1]; omega
  · by_cases h2 : b.toNat = 41
    · simp [h2]; omega
    · simp [h1, h2]
theorem cnt_zero {l : List UInt8} (h : ∀ b ∈ l, b.toNat ≠ 40 ∧ b.toNat ≠ 41) : cnt l = 0 := by
  induction l with
  | nil => rfl
  | cons b l ih =>
    obtain ⟨h1, h2⟩ := h b (by simp)
    rw [cnt_cons, ih (fun c hc => h c (by simp [hc])), if_neg h1, if_neg h2]; rfl
theorem atom_cnt {w : ByteArray} {o : Int} (h : atomW o w ≠ ⟨#[]⟩) : cnt (atomW o w).data.toList = 0 := by
  have inn : ∀ b : UInt8, innI b.toNat = true → b.toNat ≠ 40 ∧ b.toNat ≠ 41 := fun b hb => by
    constructor <;> (intro h; rw [h] at hb; revert hb; decide)
  unfold atomW at h ⊢
  split
  · split
    · next hw => subst hw; rfl
    · next h1 h2 => rw [if_pos h1, if_neg h2] at h; exact absurd rfl h
  · split
    · next hm =>
      obtain ⟨_, _, _, hall⟩ := may_all hm
      have hw : cnt w.data.toList = 0 := cnt_zero fun b hb => inn b (hall b hb)
      split
      · rw [ByteArray.data_append, Array.toList_append, cnt_app, hw]
        next hk => rcases hk with rfl | rfl | rfl | rfl <;> rfl
      · split
        · exact hw
        · rfl
    · rfl
def cntT (l : List Tok) : Int := opens l - closes l
theorem wl_cnt : ∀ (m : Int) (e : Xp), e.okE wrT → ∀ t ∈ e.toks m, cnt (wl t) = (if t.kind = 6 then 1 else 0) - (if t.kind = 7 then 1 else 0)
  | _, .atm t, h, u, hu => by
    simp only [Xp.toks, List.mem_singleton] at hu
    subst hu
    have h1 : atomW t.of t.name ≠ ⟨#[]⟩ := wrT_word t h.1 h.2
    exact atom_cnt h1
  | m, .op k a b, ⟨hk, _, ha, hb⟩, u, hu => by
    have h1 := wl_cnt (bindK k) a ha
    have h2 := wl_cnt (bindK k + 1) b hb
    have h6 : cnt (wl (tokS 6)) = (if (tokS 6).kind = 6 then 1 else 0) - (if (tokS 6).kind = 7 then 1 else 0) := by decide
    have h7 : cnt (wl (tokS 7)) = (if (tokS 7).kind = 6 then 1 else 0) - (if (tokS 7).kind = 7 then 1 else 0) := by decide
    have hs : cnt (wl (tokS k)) = (if (tokS k).kind = 6 then 1 else 0) - (if (tokS k).kind = 7 then 1 else 0) := by rcases bind_pos hk with rfl | rfl | rfl | rfl <;> decide
    simp only [Xp.toks] at hu
    split at hu
    · rcases List.mem_cons.1 hu with rfl | hu
      · exact h6
      · rcases List.mem_append.1 hu with hu | hu
        · rcases List.mem_append.1 hu with hu | hu
          · exact h1 u hu
          · rcases List.mem_cons.1 hu with rfl | hu
            · exact hs
            · exact h2 u hu
        · simp only [List.mem_singleton] at hu; subst hu; exact h7
    · rcases List.mem_append.1 hu with hu | hu
      · exact h1 u hu
      · rcases List.mem_cons.1 hu with rfl | hu
        · exact hs
        · exact h2 u hu
theorem cnt_join : ∀ (l : List Tok), (∀ t ∈ l, cnt (wl t) = (if t.kind = 6 then 1 else 0) - (if t.kind = 7 then 1 else 0)) → cnt (joinS (l.map wl)) = cntT l
  | [], _ => rfl
  | [t], h => by
    simp only [List.map_cons, List.map_nil, joinS]
    rw [h t (by simp)]
    unfold cntT
    rw [opens_cons, closes_cons]
    have h1 : opens ([] : List Tok) = 0 := rfl
    have h2 : closes ([] : List Tok) = 0 := rfl
    rw [h1, h2]
    split <;> split <;> simp
  | t :: u :: l, h => by
    have ih := cnt_join (u :: l) (fun x hx => h x (by simp [hx]))
    have c32 : ∀ r : List UInt8, cnt (32 :: r) = cnt r := fun r => by rw [cnt_cons, if_neg (by decide), if_neg (by decide), Int.add_zero]
    rw [List.map_cons, joinS_cons (by simp), cnt_app, c32, ih, h t (by simp)]
    unfold cntT
    rw [opens_cons t, closes_cons t]
    by_cases k6 : t.kind = 6
    · simp [k6]; omega
    · by_cases k7 : t.kind = 7
      · simp [k7]; omega
      · simp [k6, k7]
/-- so many are open somewhere -/
theorem deep_place {e : Xp} (ho : e.okE wrT) {l1 l2 : List Tok} {t : Tok} (h1 : e.toks 0 = l1 ++ t :: l2) (h2 : t.kind = 6) (h3 : opens l1 = 100 + closes l1) : ∃ K, K ≤ (joinB ((e.toks 0).map wrd)).size ∧ cnt ((joinB ((e.toks 0).map wrd)).data.toList.take K) = 101 := by
  have hl := len_size (joinB ((e.toks 0).map wrd))
  have hj : (joinB ((e.toks 0).map wrd)).data.toList = joinS ((e.toks 0).map wl) := by rw [joinB_wl, join_joinS]
  have hall := wl_cnt 0 e ho
  rw [h1] at hall
  have hpre : ∃ rest, joinS ((e.toks 0).map wl) = joinS ((l1 ++ [t]).map wl) ++ rest := by
    rw [h1]
    cases l2 with
    | nil => exact ⟨[], by simp⟩
    | cons u l2 =>
      refine ⟨32 :: joinS ((u :: l2).map wl), ?_⟩
      rw [show l1 ++ t :: u :: l2 = (l1 ++ [t]) ++ (u :: l2) by simp, List.map_append, joinS_app (by simp) (by simp)]
  obtain ⟨rest, hr⟩ := hpre
  refine ⟨(joinS ((l1 ++ [t]).map wl)).length, ?_, ?_⟩
  · rw [← hl, hj, hr, List.length_append]; omega
  · rw [hj, hr, List.take_left, cnt_join _ (fun x hx => hall x (by
      rcases List.mem_append.1 hx with hx | hx
      · simp [hx]
      · simp at hx; simp [hx]))]
    unfold cntT
    rw [opens_app, closes_app, opens_cons, closes_cons, if_pos h2, if_neg (by omega)]
    have h5 : opens ([] : List Tok) = 0 := rfl
    have h6 : closes ([] : List Tok) = 0 := rfl
    rw [h5, h6]
    omega
end Go.Proofs.Ytmbijfcjfhdnjaa

/- ExprBack. -/
-- fast
namespace Go.Proofs.Ytmbijfcjfhdnjaa
set_option linter.unusedSimpArgs false
set_option linter.unusedVariables false
open Go.RowKit Go.Lib

theorem len_split : ∀ (l : List Tok), l.length = (others l).length + opens l + closes l
  | [] => rfl
  | t :: l => by
    have ih := len_split l
    rw [others_cons, opens_cons, closes_cons, List.length_cons]
    by_cases k6 : t.kind = 6
    · simp [isPar, k6]; omega
    · by_cases k7 : t.kind = 7
      · simp [isPar, k7]; omega
      · simp [isPar, k6, k7]; omega
theorem par_size {t : Tok} (hw : wrd t ≠ ⟨#[]⟩) (hk : t.kind = 6 ∨ t.kind = 7) : (wrd t).size = 1 := by
  obtain ⟨k, w, o, p⟩ := t
  simp only at hk
  have hw : wordT k w o ≠ ⟨#[]⟩ := hw
  show (wordT k w o).size = 1
  by_cases ho : o = 0
  · by_cases hn : w = ⟨#[]⟩
    · subst ho; subst hn
      rcases hk with rfl | rfl <;> rfl
    · exfalso; apply hw
      rcases hk with rfl | rfl <;> simp [wordT, ho, hn]
  · exfalso; apply hw
    rcases hk with rfl | rfl <;> simp [wordT, ho]
theorem tot_cons (t : Tok) (l : List Tok) : tot (t :: l) = (wrd t).size + tot l := by simp [tot]
theorem tot_split : ∀ (l : List Tok), (∀ t ∈ l, wrd t ≠ ⟨#[]⟩) → tot l = ((nwds l).map (·.size)).sum + opens l + closes l
  | [], _ => rfl
  | t :: l, h => by
    have ih := tot_split l (fun x hx => h x (by simp [hx]))
    have ht := par_size (h t (by simp))
    rw [tot_cons, opens_cons, closes_cons]
    have hn : nwds (t :: l) = if isPar t = true then nwds l else wrd t :: nwds l := by
      unfold nwds
      by_cases hp : isPar t = true
      · rw [if_pos hp]; simp [hp]
      · rw [if_neg hp]; simp [hp]
    rw [hn]
    by_cases k6 : t.kind = 6
    · rw [if_pos (by simp [isPar, k6]), if_pos k6, if_neg (by omega), ht (.inl k6)]; omega
    · by_cases k7 : t.kind = 7
      · rw [if_pos (by simp [isPar, k7]), if_neg k6, if_pos k7, ht (.inr k7)]; omega
      · rw [if_neg (by simp [isPar, k6, k7]), if_neg k6, if_neg k7, List.map_cons, List.sum_cons]; omega
/-- what is read, written: at most twice as long -/
theorem text_le {s : ByteArray} {e : Xp} (h : (parseR s).2.2 = 0) (ht : treeT (parseR s).1 = some e) : (joinB ((e.toks 0).map wrd)).size ≤ 2 * s.size := by
  obtain ⟨e', t1, oe, ac, o1, o2⟩ := parse_tree h
  rw [ht] at t1
  simp only [Option.some.injEq] at t1
  subst t1
  obtain ⟨w1, w2⟩ := allT_words s
  have b1 := ctl_bal _ _ _ _ _ _ ac
  have b2 := ctl_bal _ _ _ _ _ _ (tok_acc (M := e.pd 0) oe 0 (Nat.le_refl _))
  have s1 := len_split (allT s).1
  have s2 := len_split (e.toks 0)
  have t1 := tot_split (allT s).1 w1
  have t2 := tot_split (e.toks 0) (toks_ok oe)
  have hn : nwds (e.toks 0) = nwds (allT s).1 := by rw [nwds_others, nwds_others, o2]
  have hj := joinB_tot (e.toks 0)
  have hl := tot_len w1
  rw [hn] at t2
  rw [o2] at s2
  omega
theorem parse_depth {s : ByteArray} {e : Xp} (h : (parseR s).2.2 = 0) (ht : treeT (parseR s).1 = some e) : e.pd 0 ≤ 100 := by
  obtain ⟨h1, h2, h3⟩ := parse_ok h
  obtain ⟨w1, w2, w3, w4⟩ := readR_ok h2
  obtain ⟨_, oe, pe⟩ := tree_post ht
  have hw1 : ∀ t ∈ (allT s).1, t.kind = 1 → wrT (leaf t) = true := fun t ht hk => by
    have := w1 t ht
    unfold wdB at this
    rw [hk] at this
    exact this
  have hw2 : ∀ t ∈ (allT s).1, 0 < bindK t.kind → t.name = ⟨#[]⟩ ∧ t.of = 0 := fun t ht hk => by
    have := w1 t ht
    unfold wdB at this
    have h5 := sign_word_ne (t := ⟨t.kind, t.of, t.name⟩) hk
    simp only [Bool.not_eq_true', decide_eq_false_iff_not] at this
    by_cases hg : t.of = 0 ∧ t.name = ⟨#[]⟩
    · exact ⟨hg.2, hg.1⟩
    · exact absurd (h5.2 hg) this
  exact read_depth (allT s).1.length 100 (allT s).1 e (Nat.le_refl _) w2 hw1 hw2 oe (by rw [← pe, h3, w4]) 0 (lows0 _ _)
theorem parse_nil {s : ByteArray} (h : (parseR s).2.2 ≠ 0) : (parseR s).1 = [] := by
  unfold parseR at h ⊢
  split
  · rfl
  · next h1 =>
    rw [if_neg h1] at h
    split
    · next h2 => rw [if_pos h2] at h; exact absurd rfl h
    · split
      · rfl
      · split <;> rfl
theorem cnt_snoc {l : List UInt8} {i : Nat} (h : i < l.length) : cnt (l.take (i + 1)) = cnt (l.take i) + (if (l[i]).toNat = 40 then 1 else if (l[i]).toNat = 41 then -1 else 0) := by
  rw [List.take_succ_eq_append_getElem h, cnt_app, cnt_cons]
  have : cnt [] = 0 := rfl
  rw [this]; omega
theorem cnt_bound (l : List UInt8) : -(l.length : Int) ≤ cnt l ∧ cnt l ≤ l.length := by
  unfold cnt
  have h1 := List.countP_le_length (p := fun b : UInt8 => decide (b.toNat = 40)) (l := l)
  have h2 := List.countP_le_length (p := fun b : UInt8 => decide (b.toNat = 41)) (l := l)
  omega
set_option maxRecDepth 100000 in
set_option maxHeartbeats 8000000 in
theorem p_deepRight (s : ByteArray) (hs : s.size ≤ 1000000) {K : Nat} (hK : K ≤ s.size) (hc : cnt (s.data.toList.take K) = 101) : PCalls Try.prog 28 [.str s] (.bool true) := by
  have hl := len_size s
  have hK0 : K ≠ 0 := by rintro rfl; rw [List.take_zero] at hc; revert hc; decide
  refine pcalls_of (by first | rfl | simp [free, free.frees, frees_str, frees_u8, frees_u16]) (by first | rfl | simp [free, free.frees, frees_str, frees_u8, frees_u16]) (acalls_of mixed J_law05_deepRight_ok (Nat.le_of_ble_eq_true rfl) ?_); simp only [J_law05_deepRight, wk,if_true,if_false,forall_const,implies_true,ne_eq,eq_self,Nat.reduceEqDiff,Nat.reduceAdd,Nat.reduceMul,Nat.reduceSub,Nat.reduceLeDiff,Nat.reduceLT,Int.reduceEq,Int.reduceLT,Int.reduceLE,Int.reduceAdd,Int.reduceSub,Int.reduceMul,Int.reduceNeg,Int.reduceNe,reduceCtorEq,Int.reduceToNat,↓reduceIte]
  refine W_loop (fun n fr h' => ∃ (i : Nat) (k : Nat), i < K ∧ n = K - i ∧ k ≤ i + 1 ∧ fr = [(0, .str s), (3, .int .i64 (cnt (s.data.toList.take i))), (4, .int .i64 k), (5, .int .i64 i)]) K ⟨0, 1, by omega, by omega, by omega, rfl⟩ ?_
  rintro n fr h' ⟨i, k, hi, rfl, hk, rfl⟩
  simp only [J_law05_deepRight_j5, wk,if_true,if_false,forall_const,implies_true,ne_eq,eq_self,Nat.reduceEqDiff,Nat.reduceAdd,Nat.reduceMul,Nat.reduceSub,Nat.reduceLeDiff,Nat.reduceLT,Int.reduceEq,Int.reduceLT,Int.reduceLE,Int.reduceAdd,Int.reduceSub,Int.reduceMul,Int.reduceNeg,Int.reduceNe,reduceCtorEq,Int.reduceToNat,↓reduceIte]
  refine ⟨fun hlt => ?_, fun hge => absurd (by omega) hge⟩
  have hil : i < s.data.toList.length := by omega
  have hv : byteAt s (i : Int).toNat = (s.data.toList[i]).toNat := byte_at hil
  have hsn := cnt_snoc hil
  have hb1 := cnt_bound (s.data.toList.take i)
  have hb2 := cnt_bound (s.data.toList.take (i + 1))
  rw [List.length_take] at hb1 hb2
  refine ⟨⟨by omega, by omega⟩, ?_⟩
  rw [hv]
  obtain ⟨B, hB⟩ : ∃ B : UInt8, B = s.data.toList[i] := ⟨_, rfl⟩
  rw [← hB] at hsn hv ⊢
  -- behind a byte
  have nxt : ∀ (c : Int) (k' : Nat), c = cnt (s.data.toList.take (i + 1)) → k' ≤ i + 2 → ¬ 100 < c → inR ((i : Int) + 1) ∧ ∃ m, m < K - i ∧ ∃ (i' k2 : Nat), i' < K ∧ m = K - i' ∧ k2 ≤ i' + 1 ∧ [(0, AV.str s), (3, .int .i64 c), (4, .int .i64 k'), (5, .int .i64 ((i : Int) + 1))] = [(0, .str s), (3, .int .i64 (cnt (s.data.toList.take i'))), (4, .int .i64 k2), (5, .int .i64 i')] := fun c k' e1 e2 e3 => by
    have hne : i + 1 ≠ K := by rintro rfl; rw [e1, hc] at e3; omega
    exact ⟨inR_of (by omega) (by omega), K - (i + 1), by omega, i + 1, k', by omega, rfl, by omega, by rw [e1]; rfl⟩
  by_cases c40 : B.toNat = 40
  · rw [if_pos c40] at hsn
    simp only [wk,if_true,if_false,forall_const,implies_true,ne_eq,eq_self,Nat.reduceEqDiff,Nat.reduceAdd,Nat.reduceMul,Nat.reduceSub,Nat.reduceLeDiff,Nat.reduceLT,Int.reduceEq,Int.reduceLT,Int.reduceLE,Int.reduceAdd,Int.reduceSub,Int.reduceMul,Int.reduceNeg,Int.reduceNe,reduceCtorEq,Int.reduceToNat,↓reduceIte, J_law05_deepRight_j4, J_law05_deepRight_j3, J_law05_deepRight_j2, hv, (show (((B.toNat : Nat) : Int) = 40) = True from eqTrue (by omega)), (show (((B.toNat : Nat) : Int) = 41) = False from eqFalse (by omega)), (show (((B.toNat : Nat) : Int) = 32) = False from eqFalse (by omega))]
    exact ⟨inR_of (by omega) (by omega), ⟨by omega, by omega⟩, ⟨by omega, by omega⟩, nxt _ k (by omega) (by omega)⟩
  · by_cases c41 : B.toNat = 41
    · rw [if_neg c40, if_pos c41] at hsn
      simp only [wk,if_true,if_false,forall_const,implies_true,ne_eq,eq_self,Nat.reduceEqDiff,Nat.reduceAdd,Nat.reduceMul,Nat.reduceSub,Nat.reduceLeDiff,Nat.reduceLT,Int.reduceEq,Int.reduceLT,Int.reduceLE,Int.reduceAdd,Int.reduceSub,Int.reduceMul,Int.reduceNeg,Int.reduceNe,reduceCtorEq,Int.reduceToNat,↓reduceIte, J_law05_deepRight_j4, J_law05_deepRight_j3, J_law05_deepRight_j2, hv, (show (((B.toNat : Nat) : Int) = 40) = False from eqFalse (by omega)), (show (((B.toNat : Nat) : Int) = 41) = True from eqTrue (by omega)), (show (((B.toNat : Nat) : Int) = 32) = False from eqFalse (by omega))]
      exact ⟨⟨by omega, by omega⟩, inR_of (by omega) (by omega), ⟨by omega, by omega⟩, nxt _ k (by omega) (by omega)⟩
    · rw [if_neg c40, if_neg c41] at hsn
      by_cases c32 : B.toNat = 32
      · simp only [wk,if_true,if_false,forall_const,implies_true,ne_eq,eq_self,Nat.reduceEqDiff,Nat.reduceAdd,Nat.reduceMul,Nat.reduceSub,Nat.reduceLeDiff,Nat.reduceLT,Int.reduceEq,Int.reduceLT,Int.reduceLE,Int.reduceAdd,Int.reduceSub,Int.reduceMul,Int.reduceNeg,Int.reduceNe,reduceCtorEq,Int.reduceToNat,↓reduceIte, J_law05_deepRight_j4, J_law05_deepRight_j3, J_law05_deepRight_j2, hv, (show (((B.toNat : Nat) : Int) = 40) = False from eqFalse (by omega)), (show (((B.toNat : Nat) : Int) = 41) = False from eqFalse (by omega)), (show (((B.toNat : Nat) : Int) = 32) = True from eqTrue (by omega))]
        exact ⟨⟨by omega, by omega⟩, ⟨by omega, by omega⟩, inR_of (by omega) (by omega), nxt _ (k + 1) (by omega) (by omega)⟩
      · simp only [wk,if_true,if_false,forall_const,implies_true,ne_eq,eq_self,Nat.reduceEqDiff,Nat.reduceAdd,Nat.reduceMul,Nat.reduceSub,Nat.reduceLeDiff,Nat.reduceLT,Int.reduceEq,Int.reduceLT,Int.reduceLE,Int.reduceAdd,Int.reduceSub,Int.reduceMul,Int.reduceNeg,Int.reduceNe,reduceCtorEq,Int.reduceToNat,↓reduceIte, J_law05_deepRight_j4, J_law05_deepRight_j3, J_law05_deepRight_j2, hv, (show (((B.toNat : Nat) : Int) = 40) = False from eqFalse (by omega)), (show (((B.toNat : Nat) : Int) = 41) = False from eqFalse (by omega)), (show (((B.toNat : Nat) : Int) = 32) = False from eqFalse (by omega))]
        exact ⟨⟨by omega, by omega⟩, ⟨by omega, by omega⟩, nxt _ k (by omega) (by omega)⟩
set_option maxRecDepth 100000 in
set_option maxHeartbeats 16000000 in
theorem p_exback (x : List Trm) (s : ByteArray) (hl : x.length ≤ 9223372036854775807) : PCalls Try.prog 8 [vTrs x, .str s] (.bool true) := by
  have g1 := p_largex x hl
  simp only [vTrs] at g1
  refine pcalls_of (by simp [vTrs, free, free.frees, frees_trs]) rfl (acalls_of mixed J_law05_ExprBack_ok (Nat.le_of_ble_eq_true rfl) ?_); simp only [J_law05_ExprBack, vTrs, wk,if_true,if_false,forall_const,implies_true,ne_eq,eq_self,Nat.reduceEqDiff,Nat.reduceAdd,Nat.reduceMul,Nat.reduceSub,Nat.reduceLeDiff,Nat.reduceLT,Int.reduceEq,Int.reduceLT,Int.reduceLE,Int.reduceAdd,Int.reduceSub,Int.reduceMul,Int.reduceNeg,Int.reduceNe,reduceCtorEq,Int.reduceToNat,↓reduceIte]
  refine PCalls.use (p_awake05) ?_; simp only [wk,if_true,if_false,forall_const,implies_true,ne_eq,eq_self,Nat.reduceEqDiff,Nat.reduceAdd,Nat.reduceMul,Nat.reduceSub,Nat.reduceLeDiff,Nat.reduceLT,Int.reduceEq,Int.reduceLT,Int.reduceLE,Int.reduceAdd,Int.reduceSub,Int.reduceMul,Int.reduceNeg,Int.reduceNe,reduceCtorEq,Int.reduceToNat,↓reduceIte]
  refine PCalls.use (g1) ?_; simp only [wk,if_true,if_false,forall_const,implies_true,ne_eq,eq_self,Nat.reduceEqDiff,Nat.reduceAdd,Nat.reduceMul,Nat.reduceSub,Nat.reduceLeDiff,Nat.reduceLT,Int.reduceEq,Int.reduceLT,Int.reduceLE,Int.reduceAdd,Int.reduceSub,Int.reduceMul,Int.reduceNeg,Int.reduceNe,reduceCtorEq,Int.reduceToNat,↓reduceIte]
  intro hlg hs
  obtain ⟨hx, hn0⟩ := largeX_no hlg
  have hn : ∀ t ∈ x, t.name.size ≤ 1000000 := fun t ht => by have := hn0 t ht; omega
  -- what comes of the text
  have q1 := p_parse s (by omega)
  have hnil := @parse_nil s
  have hple := parseR_len s
  have hok := @parse_ok s
  have htr := @parse_tree s
  have hle := @text_le s
  have hdp := @parse_depth s
  have hnm : (parseR s).2.2 = 0 → ∀ t ∈ (parseR s).1, t.name.size ≤ 1000000 := fun h0 t htm => by
    obtain ⟨_, k2, k3⟩ := parse_ok h0
    rw [k3] at htm
    obtain ⟨_, _, _, w4⟩ := readR_ok k2
    rw [w4] at htm
    exact readD_names (allT_name (s := s) (by omega)) t htm
  obtain ⟨R, hR⟩ : ∃ R, R = parseR s := ⟨_, rfl⟩
  rw [← hR] at q1 hnil hple hok htr hle hdp hnm
  simp only [resI, vTrs] at q1
  have q2 := p_text x hl hn
  simp only [vTrs] at q2
  cases tx : treeT x with
  | none =>
    have hX : textX x = (⟨#[]⟩, 2) := by unfold textX; rw [tx]
    rw [hX] at q2
    refine PCalls.use (q2) ?_; simp only [wk,if_true,if_false,forall_const,implies_true,ne_eq,eq_self,Nat.reduceEqDiff,Nat.reduceAdd,Nat.reduceMul,Nat.reduceSub,Nat.reduceLeDiff,Nat.reduceLT,Int.reduceEq,Int.reduceLT,Int.reduceLE,Int.reduceAdd,Int.reduceSub,Int.reduceMul,Int.reduceNeg,Int.reduceNe,reduceCtorEq,Int.reduceToNat,↓reduceIte]
    simp only [wk,if_true,if_false,forall_const,implies_true,ne_eq,eq_self,Nat.reduceEqDiff,Nat.reduceAdd,Nat.reduceMul,Nat.reduceSub,Nat.reduceLeDiff,Nat.reduceLT,Int.reduceEq,Int.reduceLT,Int.reduceLE,Int.reduceAdd,Int.reduceSub,Int.reduceMul,Int.reduceNeg,Int.reduceNe,reduceCtorEq,Int.reduceToNat,↓reduceIte, J_law05_ExprBack_j1]
    refine PCalls.use (q1) ?_; simp only [wk,if_true,if_false,forall_const,implies_true,ne_eq,eq_self,Nat.reduceEqDiff,Nat.reduceAdd,Nat.reduceMul,Nat.reduceSub,Nat.reduceLeDiff,Nat.reduceLT,Int.reduceEq,Int.reduceLT,Int.reduceLE,Int.reduceAdd,Int.reduceSub,Int.reduceMul,Int.reduceNeg,Int.reduceNe,reduceCtorEq,Int.reduceToNat,↓reduceIte]
    refine ⟨fun h0 => ?_, fun h0 => ?_⟩
    · rw [hnil h0]; rfl
    · obtain ⟨e2, t1, oe2, _⟩ := htr h0
      have hsz := hle h0 t1
      have hd := hdp h0 t1
      obtain ⟨pp1, _, pp3⟩ := tree_post t1
      obtain ⟨zz1, zz2⟩ := text_size t1 (hnm h0) 0
      have hX2 : textX R.1 = (joinB ((e2.toks 0).map wrd), 0) := by unfold textX; rw [t1]
      have q3 := p_text R.1 (by omega) (hnm h0)
      have q4 := p_may R.1 (by omega) (hnm h0)
      have q6 := p_samex R.1 R.1 (by omega) (by omega)
      rw [hX2] at q3
      rw [t1, Option.isSome_some] at q4
      simp only [vTrs, decide_true] at q3 q4 q6
      refine PCalls.use (q3) ?_; simp only [wk,if_true,if_false,forall_const,implies_true,ne_eq,eq_self,Nat.reduceEqDiff,Nat.reduceAdd,Nat.reduceMul,Nat.reduceSub,Nat.reduceLeDiff,Nat.reduceLT,Int.reduceEq,Int.reduceLT,Int.reduceLE,Int.reduceAdd,Int.reduceSub,Int.reduceMul,Int.reduceNeg,Int.reduceNe,reduceCtorEq,Int.reduceToNat,↓reduceIte]
      refine PCalls.use (q4) ?_; simp only [wk,if_true,if_false,forall_const,implies_true,ne_eq,eq_self,Nat.reduceEqDiff,Nat.reduceAdd,Nat.reduceMul,Nat.reduceSub,Nat.reduceLeDiff,Nat.reduceLT,Int.reduceEq,Int.reduceLT,Int.reduceLE,Int.reduceAdd,Int.reduceSub,Int.reduceMul,Int.reduceNeg,Int.reduceNe,reduceCtorEq,Int.reduceToNat,↓reduceIte]
      refine ⟨fun h4 => ?_, fun h4 => ?_⟩
      · rw [decide_eq_true (by omega)]
      · have q5 := p_parse (joinB ((e2.toks 0).map wrd)) (by omega)
        rw [(parse_text oe2 (by rw [← pp3]; exact pp1) (by omega)).resolve_right (fun h => by have := h.1; omega), ← pp3] at q5
        simp only [resI, vTrs] at q5
        refine PCalls.use (q5) ?_; simp only [wk,if_true,if_false,forall_const,implies_true,ne_eq,eq_self,Nat.reduceEqDiff,Nat.reduceAdd,Nat.reduceMul,Nat.reduceSub,Nat.reduceLeDiff,Nat.reduceLT,Int.reduceEq,Int.reduceLT,Int.reduceLE,Int.reduceAdd,Int.reduceSub,Int.reduceMul,Int.reduceNeg,Int.reduceNe,reduceCtorEq,Int.reduceToNat,↓reduceIte]
        refine PCalls.use (q6) ?_; simp only [wk,if_true,if_false,forall_const,implies_true,ne_eq,eq_self,Nat.reduceEqDiff,Nat.reduceAdd,Nat.reduceMul,Nat.reduceSub,Nat.reduceLeDiff,Nat.reduceLT,Int.reduceEq,Int.reduceLT,Int.reduceLE,Int.reduceAdd,Int.reduceSub,Int.reduceMul,Int.reduceNeg,Int.reduceNe,reduceCtorEq,Int.reduceToNat,↓reduceIte]
  | some e =>
    obtain ⟨p1, oe, p3⟩ := tree_post tx
    obtain ⟨z1, z2⟩ := text_size tx hn 0
    have hX : textX x = (joinB ((e.toks 0).map wrd), 0) := by unfold textX; rw [tx]
    rw [hX] at q2
    refine PCalls.use (q2) ?_; simp only [wk,if_true,if_false,forall_const,implies_true,ne_eq,eq_self,Nat.reduceEqDiff,Nat.reduceAdd,Nat.reduceMul,Nat.reduceSub,Nat.reduceLeDiff,Nat.reduceLT,Int.reduceEq,Int.reduceLT,Int.reduceLE,Int.reduceAdd,Int.reduceSub,Int.reduceMul,Int.reduceNeg,Int.reduceNe,reduceCtorEq,Int.reduceToNat,↓reduceIte]
    refine ⟨fun h4k => ?_, fun h4k => ?_⟩
    · have q7 := p_parse (joinB ((e.toks 0).map wrd)) (by omega)
      rcases parse_text oe (by rw [← p3]; exact p1) (by omega) with hp | ⟨_, hp3, l1, l2, t, d1, d2, d3⟩
      · rw [hp, ← p3] at q7
        have q8 := p_samex x x (by omega) (by omega)
        simp only [resI, vTrs, decide_true] at q7 q8
        refine PCalls.use (q7) ?_; simp only [wk,if_true,if_false,forall_const,implies_true,ne_eq,eq_self,Nat.reduceEqDiff,Nat.reduceAdd,Nat.reduceMul,Nat.reduceSub,Nat.reduceLeDiff,Nat.reduceLT,Int.reduceEq,Int.reduceLT,Int.reduceLE,Int.reduceAdd,Int.reduceSub,Int.reduceMul,Int.reduceNeg,Int.reduceNe,reduceCtorEq,Int.reduceToNat,↓reduceIte]
        refine PCalls.use (q8) ?_; simp only [wk,if_true,if_false,forall_const,implies_true,ne_eq,eq_self,Nat.reduceEqDiff,Nat.reduceAdd,Nat.reduceMul,Nat.reduceSub,Nat.reduceLeDiff,Nat.reduceLT,Int.reduceEq,Int.reduceLT,Int.reduceLE,Int.reduceAdd,Int.reduceSub,Int.reduceMul,Int.reduceNeg,Int.reduceNe,reduceCtorEq,Int.reduceToNat,↓reduceIte]
        simp only [wk,if_true,if_false,forall_const,implies_true,ne_eq,eq_self,Nat.reduceEqDiff,Nat.reduceAdd,Nat.reduceMul,Nat.reduceSub,Nat.reduceLeDiff,Nat.reduceLT,Int.reduceEq,Int.reduceLT,Int.reduceLE,Int.reduceAdd,Int.reduceSub,Int.reduceMul,Int.reduceNeg,Int.reduceNe,reduceCtorEq,Int.reduceToNat,↓reduceIte, J_law05_ExprBack_j1]
        refine PCalls.use (q1) ?_; simp only [wk,if_true,if_false,forall_const,implies_true,ne_eq,eq_self,Nat.reduceEqDiff,Nat.reduceAdd,Nat.reduceMul,Nat.reduceSub,Nat.reduceLeDiff,Nat.reduceLT,Int.reduceEq,Int.reduceLT,Int.reduceLE,Int.reduceAdd,Int.reduceSub,Int.reduceMul,Int.reduceNeg,Int.reduceNe,reduceCtorEq,Int.reduceToNat,↓reduceIte]
        refine ⟨fun h0 => ?_, fun h0 => ?_⟩
        · rw [hnil h0]; rfl
        · obtain ⟨e2, t1, oe2, _⟩ := htr h0
          have hsz := hle h0 t1
          have hd := hdp h0 t1
          obtain ⟨pp1, _, pp3⟩ := tree_post t1
          obtain ⟨zz1, zz2⟩ := text_size t1 (hnm h0) 0
          have hX2 : textX R.1 = (joinB ((e2.toks 0).map wrd), 0) := by unfold textX; rw [t1]
          have q3 := p_text R.1 (by omega) (hnm h0)
          have q4 := p_may R.1 (by omega) (hnm h0)
          have q6 := p_samex R.1 R.1 (by omega) (by omega)
          rw [hX2] at q3
          rw [t1, Option.isSome_some] at q4
          simp only [vTrs, decide_true] at q3 q4 q6
          refine PCalls.use (q3) ?_; simp only [wk,if_true,if_false,forall_const,implies_true,ne_eq,eq_self,Nat.reduceEqDiff,Nat.reduceAdd,Nat.reduceMul,Nat.reduceSub,Nat.reduceLeDiff,Nat.reduceLT,Int.reduceEq,Int.reduceLT,Int.reduceLE,Int.reduceAdd,Int.reduceSub,Int.reduceMul,Int.reduceNeg,Int.reduceNe,reduceCtorEq,Int.reduceToNat,↓reduceIte]
          refine PCalls.use (q4) ?_; simp only [wk,if_true,if_false,forall_const,implies_true,ne_eq,eq_self,Nat.reduceEqDiff,Nat.reduceAdd,Nat.reduceMul,Nat.reduceSub,Nat.reduceLeDiff,Nat.reduceLT,Int.reduceEq,Int.reduceLT,Int.reduceLE,Int.reduceAdd,Int.reduceSub,Int.reduceMul,Int.reduceNeg,Int.reduceNe,reduceCtorEq,Int.reduceToNat,↓reduceIte]
          refine ⟨fun h4 => ?_, fun h4 => ?_⟩
          · rw [decide_eq_true (by omega)]
          · have q5 := p_parse (joinB ((e2.toks 0).map wrd)) (by omega)
            rw [(parse_text oe2 (by rw [← pp3]; exact pp1) (by omega)).resolve_right (fun h => by have := h.1; omega), ← pp3] at q5
            simp only [resI, vTrs] at q5
            refine PCalls.use (q5) ?_; simp only [wk,if_true,if_false,forall_const,implies_true,ne_eq,eq_self,Nat.reduceEqDiff,Nat.reduceAdd,Nat.reduceMul,Nat.reduceSub,Nat.reduceLeDiff,Nat.reduceLT,Int.reduceEq,Int.reduceLT,Int.reduceLE,Int.reduceAdd,Int.reduceSub,Int.reduceMul,Int.reduceNeg,Int.reduceNe,reduceCtorEq,Int.reduceToNat,↓reduceIte]
            refine PCalls.use (q6) ?_; simp only [wk,if_true,if_false,forall_const,implies_true,ne_eq,eq_self,Nat.reduceEqDiff,Nat.reduceAdd,Nat.reduceMul,Nat.reduceSub,Nat.reduceLeDiff,Nat.reduceLT,Int.reduceEq,Int.reduceLT,Int.reduceLE,Int.reduceAdd,Int.reduceSub,Int.reduceMul,Int.reduceNeg,Int.reduceNe,reduceCtorEq,Int.reduceToNat,↓reduceIte]
      · obtain ⟨K, k1, k2⟩ := deep_place oe d1 d2 d3
        have q9 := p_deepRight (joinB ((e.toks 0).map wrd)) (by omega) k1 k2
        obtain ⟨T, hT⟩ : ∃ T, T = parseR (joinB ((e.toks 0).map wrd)) := ⟨_, rfl⟩
        rw [← hT] at q7 hp3
        simp only [resI, vTrs] at q7
        refine PCalls.use (q7) ?_; simp only [wk,if_true,if_false,forall_const,implies_true,ne_eq,eq_self,Nat.reduceEqDiff,Nat.reduceAdd,Nat.reduceMul,Nat.reduceSub,Nat.reduceLeDiff,Nat.reduceLT,Int.reduceEq,Int.reduceLT,Int.reduceLE,Int.reduceAdd,Int.reduceSub,Int.reduceMul,Int.reduceNeg,Int.reduceNe,reduceCtorEq,Int.reduceToNat,↓reduceIte]
        refine ⟨fun _ => ?_, fun h => absurd hp3 h⟩
        refine PCalls.use (q9) ?_; simp only [wk,if_true,if_false,forall_const,implies_true,ne_eq,eq_self,Nat.reduceEqDiff,Nat.reduceAdd,Nat.reduceMul,Nat.reduceSub,Nat.reduceLeDiff,Nat.reduceLT,Int.reduceEq,Int.reduceLT,Int.reduceLE,Int.reduceAdd,Int.reduceSub,Int.reduceMul,Int.reduceNeg,Int.reduceNe,reduceCtorEq,Int.reduceToNat,↓reduceIte]
    · simp only [wk,if_true,if_false,forall_const,implies_true,ne_eq,eq_self,Nat.reduceEqDiff,Nat.reduceAdd,Nat.reduceMul,Nat.reduceSub,Nat.reduceLeDiff,Nat.reduceLT,Int.reduceEq,Int.reduceLT,Int.reduceLE,Int.reduceAdd,Int.reduceSub,Int.reduceMul,Int.reduceNeg,Int.reduceNe,reduceCtorEq,Int.reduceToNat,↓reduceIte, J_law05_ExprBack_j1]
      refine PCalls.use (q1) ?_; simp only [wk,if_true,if_false,forall_const,implies_true,ne_eq,eq_self,Nat.reduceEqDiff,Nat.reduceAdd,Nat.reduceMul,Nat.reduceSub,Nat.reduceLeDiff,Nat.reduceLT,Int.reduceEq,Int.reduceLT,Int.reduceLE,Int.reduceAdd,Int.reduceSub,Int.reduceMul,Int.reduceNeg,Int.reduceNe,reduceCtorEq,Int.reduceToNat,↓reduceIte]
      refine ⟨fun h0 => ?_, fun h0 => ?_⟩
      · rw [hnil h0]; rfl
      · obtain ⟨e2, t1, oe2, _⟩ := htr h0
        have hsz := hle h0 t1
        have hd := hdp h0 t1
        obtain ⟨pp1, _, pp3⟩ := tree_post t1
        obtain ⟨zz1, zz2⟩ := text_size t1 (hnm h0) 0
        have hX2 : textX R.1 = (joinB ((e2.toks 0).map wrd), 0) := by unfold textX; rw [t1]
        have q3 := p_text R.1 (by omega) (hnm h0)
        have q4 := p_may R.1 (by omega) (hnm h0)
        have q6 := p_samex R.1 R.1 (by omega) (by omega)
        rw [hX2] at q3
        rw [t1, Option.isSome_some] at q4
        simp only [vTrs, decide_true] at q3 q4 q6
        refine PCalls.use (q3) ?_; simp only [wk,if_true,if_false,forall_const,implies_true,ne_eq,eq_self,Nat.reduceEqDiff,Nat.reduceAdd,Nat.reduceMul,Nat.reduceSub,Nat.reduceLeDiff,Nat.reduceLT,Int.reduceEq,Int.reduceLT,Int.reduceLE,Int.reduceAdd,Int.reduceSub,Int.reduceMul,Int.reduceNeg,Int.reduceNe,reduceCtorEq,Int.reduceToNat,↓reduceIte]
        refine PCalls.use (q4) ?_; simp only [wk,if_true,if_false,forall_const,implies_true,ne_eq,eq_self,Nat.reduceEqDiff,Nat.reduceAdd,Nat.reduceMul,Nat.reduceSub,Nat.reduceLeDiff,Nat.reduceLT,Int.reduceEq,Int.reduceLT,Int.reduceLE,Int.reduceAdd,Int.reduceSub,Int.reduceMul,Int.reduceNeg,Int.reduceNe,reduceCtorEq,Int.reduceToNat,↓reduceIte]
        refine ⟨fun h4 => ?_, fun h4 => ?_⟩
        · rw [decide_eq_true (by omega)]
        · have q5 := p_parse (joinB ((e2.toks 0).map wrd)) (by omega)
          rw [(parse_text oe2 (by rw [← pp3]; exact pp1) (by omega)).resolve_right (fun h => by have := h.1; omega), ← pp3] at q5
          simp only [resI, vTrs] at q5
          refine PCalls.use (q5) ?_; simp only [wk,if_true,if_false,forall_const,implies_true,ne_eq,eq_self,Nat.reduceEqDiff,Nat.reduceAdd,Nat.reduceMul,Nat.reduceSub,Nat.reduceLeDiff,Nat.reduceLT,Int.reduceEq,Int.reduceLT,Int.reduceLE,Int.reduceAdd,Int.reduceSub,Int.reduceMul,Int.reduceNeg,Int.reduceNe,reduceCtorEq,Int.reduceToNat,↓reduceIte]
          refine PCalls.use (q6) ?_; simp only [wk,if_true,if_false,forall_const,implies_true,ne_eq,eq_self,Nat.reduceEqDiff,Nat.reduceAdd,Nat.reduceMul,Nat.reduceSub,Nat.reduceLeDiff,Nat.reduceLT,Int.reduceEq,Int.reduceLT,Int.reduceLE,Int.reduceAdd,Int.reduceSub,Int.reduceMul,Int.reduceNeg,Int.reduceNe,reduceCtorEq,Int.reduceToNat,↓reduceIte]
end Go.Proofs.Ytmbijfcjfhdnjaa
