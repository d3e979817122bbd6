/- The abstract layer, twelfth part: what operations look at, and that they tell one thing. -/
import Derived.Test.YtajpibdchgflnaaAb10
namespace Go.Proofs.Ytajpibdchgflnaa
set_option linter.unusedSimpArgs false
set_option linter.unusedVariables false
open Go.RowKit Go.Lib

def opdR : Opd → List Nat
  | .t k => [k]
  | _ => []
def opdsR (l : List Opd) : List Nat := l.flatMap opdR
def partsR (l : List (Nat × Nat × Opd)) : List Nat := l.flatMap fun p => opdR p.2.2
def optR : Option Opd → List Nat
  | some x => opdR x
  | none => []
/-- the slots that an operation looks at -/
def opR : AOp → List Nat
  | .ex _ l => opdsR l
  | .mv x | .load _ x | .lds _ x | .nilck x | .pnil _ x | .not x | .conv _ x | .cstr x | .b2s x | .fld _ x | .ext _ x | .lens x | .lenl x | .mvu _ _ x | .box x _ | .mk0 _ _ _ x | .mkn _ _ _ _ x | .loado x => opdR x
  | .pick c a b => opdR c ++ opdR a ++ opdR b
  | .build _ ps | .bsl _ _ _ _ ps => partsR ps
  | .bin _ x y | .bbin _ x y | .idxa _ x y | .idxs x y | .mn x y | .mx x y | .store _ x y | .stores _ x y | .app _ _ _ x y | .apps _ x y => opdR x ++ opdR y
  | .slcs x lo hi => opdR x ++ optR lo ++ optR hi
  | .slcl _ x lo hi mx => opdR x ++ optR lo ++ optR hi ++ optR mx
  | .mkfn _ l => opdsR l
  | .mvo k => [k]
  | .new _ _ => []
  | .storeo a k => k :: opdR a
  | .appo _ _ _ k y | .appso _ k y => k :: opdR y
  | .call f l | .calli f l => opdR f ++ opdsR l
/-- the slots whose right to append it takes -/
def opT : AOp → List Nat
  | .mvo k | .storeo _ k | .appo _ _ _ k _ | .appso _ k _ => [k]
  | _ => []

def Agree (l : List Nat) (fr fr' : Fr) : Prop := ∀ k ∈ l, lk fr' k = lk fr k
theorem Agree.left {a b : List Nat} {fr fr' : Fr} (h : Agree (a ++ b) fr fr') : Agree a fr fr' := fun k hk => h k (by simp [hk])
theorem Agree.right {a b : List Nat} {fr fr' : Fr} (h : Agree (a ++ b) fr fr') : Agree b fr fr' := fun k hk => h k (by simp [hk])

section
variable {fr fr' : Fr} {h : Hp}
theorem ev_congr {x : Opd} (ha : Agree (opdR x) fr fr') : ev fr' x = ev fr x := by
  cases x with
  | t k => simp only [ev, ha k (by simp [opdR])]
  | _ => rfl
theorem evs_congr : ∀ {l : List Opd}, Agree (opdsR l) fr fr' → evs fr' l = evs fr l
  | [], _ => rfl
  | x :: r, ha => by
    have h1 : Agree (opdR x) fr fr' := fun k hk => ha k (by simp [opdsR, hk])
    have h2 : Agree (opdsR r) fr fr' := fun k hk => ha k (by simp only [opdsR, List.flatMap_cons, List.mem_append]; exact .inr hk)
    simp only [evs, ev_congr h1, evs_congr h2]
theorem evD_congr {d : AV} {x : Option Opd} (ha : Agree (optR x) fr fr') : evD fr' d x = evD fr d x := by
  cases x with
  | none => rfl
  | some x => exact ev_congr ha
theorem buildK_congr {K : List AV → Prop} : ∀ {l : List (Nat × Nat × Opd)} {t : List AV}, Agree (partsR l) fr fr' → buildK fr' t l K = buildK fr t l K
  | [], _, _ => rfl
  | (o, s, x) :: r, t, ha => by
    have h1 : Agree (opdR x) fr fr' := fun k hk => ha k (by simp [partsR, hk])
    have h2 : Agree (partsR r) fr fr' := fun k hk => ha k (by simp only [partsR, List.flatMap_cons, List.mem_append]; exact .inr hk)
    simp only [buildK, ev_congr h1]
    cases ev fr x with
    | none => rfl
    | some a => simp only [buildK_congr h2]
theorem val_congr {o : AOp} {K : AV → Prop} (ha : Agree (opR o) fr fr') : val fr' h o K = val fr h o K := by
  cases o with
  | build t ps => exact buildK_congr ha
  | pick c a b => simp only [val, ev_congr ha.left.left, ev_congr ha.left.right, ev_congr ha.right]
  | bin op x y => simp only [val, ev_congr ha.left, ev_congr ha.right]
  | bbin op x y => simp only [val, ev_congr ha.left, ev_congr ha.right]
  | idxa s x y => simp only [val, ev_congr ha.left, ev_congr ha.right]
  | idxs x y => simp only [val, ev_congr ha.left, ev_congr ha.right]
  | mn x y => simp only [val, ev_congr ha.left, ev_congr ha.right]
  | mx x y => simp only [val, ev_congr ha.left, ev_congr ha.right]
  | slcs x lo hi => simp only [val, ev_congr ha.left.left, evD_congr ha.left.right, evD_congr ha.right]
  | slcl s x lo hi mx =>
    cases mx with
    | none => simp only [val, ev_congr ha.left.left.left, evD_congr ha.left.left.right, evD_congr ha.left.right]
    | some m =>
      have hm : ev fr' m = ev fr m := ev_congr ha.right
      simp only [val, ev_congr ha.left.left.left, evD_congr ha.left.left.right, evD_congr ha.left.right, hm]
  | mkfn f l => simp only [val, evs_congr ha]
  | ex e l => simp only [val, evs_congr ha]
  | mv x => simp only [val, ev_congr ha]
  | load s x => simp only [val, ev_congr ha]
  | lds s x => simp only [val, ev_congr ha]
  | nilck x => simp only [val, ev_congr ha]
  | pnil n x => simp only [val, ev_congr ha]
  | not x => simp only [val, ev_congr ha]
  | conv k x => simp only [val, ev_congr ha]
  | cstr x => simp only [val, ev_congr ha]
  | b2s x => simp only [val, ev_congr ha]
  | fld o x => simp only [val, ev_congr ha]
  | ext i x => simp only [val, ev_congr ha]
  | lens x => simp only [val, ev_congr ha]
  | lenl x => simp only [val, ev_congr ha]
  | _ => rfl
theorem eff_congr {P : Program} {o : AOp} {R : AV → Hp → Prop} (ha : Agree (opR o) fr fr') : eff P o fr' h R = eff P o fr h R := by
  cases o with
  | mvu e s x => simp only [eff, ev_congr ha]
  | mvo k => simp only [eff, ha k (by simp [opR])]
  | new l u => rfl
  | box x u => simp only [eff, ev_congr ha]
  | bsl e s n t p => exact buildK_congr ha
  | mk0 e s b c => simp only [eff, ev_congr ha]
  | mkn e s b z c => simp only [eff, ev_congr ha]
  | loado x => simp only [eff, ev_congr ha]
  | store n a x => simp only [eff, ev_congr ha.left, ev_congr ha.right]
  | stores n a x => simp only [eff, ev_congr ha.left, ev_congr ha.right]
  | storeo a k =>
    have h2 : Agree (opdR a) fr fr' := fun j hj => ha j (by simp [opR, hj])
    simp only [eff, ev_congr h2, ha k (by simp [opR])]
  | app e s b x y => simp only [eff, ev_congr ha.left, ev_congr ha.right]
  | appo e s b k y =>
    have h2 : Agree (opdR y) fr fr' := fun j hj => ha j (by simp [opR, hj])
    simp only [eff, ev_congr h2, ha k (by simp [opR])]
  | appso e k y =>
    have h2 : Agree (opdR y) fr fr' := fun j hj => ha j (by simp [opR, hj])
    simp only [eff, ev_congr h2, ha k (by simp [opR])]
  | call f l => simp only [eff, ev_congr ha.left, evs_congr ha.right]
  | calli f l => simp only [eff, ev_congr ha.left, evs_congr ha.right]
  | _ => simp only [eff]; exact val_congr ha

/-- tells one thing -/
def Det {α : Type} (F : (α → Prop) → Prop) : Prop := ∀ K, F K → ∃ a, (∀ K' : α → Prop, K' a → F K') ∧ K a
theorem buildK_det : ∀ (l : List (Nat × Nat × Opd)) (t : List AV), Det (fun K => buildK fr t l K)
  | [], t => fun K hK => ⟨t, fun _ h => h, hK⟩
  | (o, s, x) :: r, t => fun K hK => by
    simp only [buildK] at hK ⊢
    split at hK
    · next a ha =>
      obtain ⟨l, h1, h2⟩ := buildK_det r _ K hK.2
      exact ⟨l, fun K' h => ⟨hK.1, h1 K' h⟩, h2⟩
    · exact hK.elim
theorem upgK_det : ∀ (u : List (Nat × Nat × Nat)) (l : List AV), Det (fun K => upgK u l K)
  | [], l => fun K hK => ⟨l, fun _ h => h, hK⟩
  | (i, e, s) :: r, l => fun K hK => by
    simp only [upgK] at hK ⊢
    split at hK
    · next n c hl =>
      obtain ⟨l', h1, h2⟩ := upgK_det r _ K hK.2
      exact ⟨l', fun K' h => ⟨hK.1, h1 K' h⟩, h2⟩
    · exact hK.elim
theorem arith_det (k : IntKind) (z : Int) : Det (arith k z) := fun K hK => by
  unfold arith at hK ⊢
  split at hK
  · exact ⟨_, fun _ h => ⟨hK.1, h⟩, hK.2⟩
  · next hk => exact ⟨_, fun _ h => by cases k <;> first | exact absurd rfl hk | exact h, hK⟩
theorem ibin_det (op : BinOp) (k : IntKind) (a b : Int) : Det (ibin op k a b) := fun K hK => by
  cases op <;> simp only [ibin] at hK ⊢ <;> first | exact arith_det _ _ K hK | (obtain ⟨c, h1, h2⟩ := arith_det _ _ K hK.2; exact ⟨c, fun K' h => ⟨hK.1, h1 K' h⟩, h2⟩) | exact ⟨_, fun _ h => ⟨hK.1, h⟩, hK.2⟩ | exact ⟨_, fun _ h => h, hK⟩ | exact hK.elim
theorem sbin_det (op : BinOp) (a b : ByteArray) : Det (sbin op a b) := fun K hK => by
  cases op <;> simp only [sbin] at hK ⊢ <;> first | exact ⟨_, fun _ h => ⟨hK.1, h⟩, hK.2⟩ | exact ⟨_, fun _ h => h, hK⟩ | exact hK.elim
theorem bin2_det (op : BinOp) (a b : AV) : Det (bin2 op a b) := fun K hK => by
  unfold bin2 at hK ⊢
  split at hK
  · split at hK
    · exact ⟨_, fun _ h => ⟨hK.1, h⟩, hK.2⟩
    · exact ⟨_, fun _ h => ⟨hK.1, h⟩, hK.2⟩
    · obtain ⟨c, h1, h2⟩ := ibin_det _ _ _ _ K hK.2
      exact ⟨c, fun K' h => ⟨hK.1, h1 K' h⟩, h2⟩
  · exact sbin_det _ _ _ K hK
  · exact hK.elim
theorem loadK_det (sz : Option Nat) (l : List AV) : Det (loadK sz l) := fun K hK => by
  unfold loadK at hK ⊢
  split at hK
  · split at hK
    · exact ⟨_, fun _ h => h, hK⟩
    · exact hK.elim
  · exact ⟨_, fun _ h => ⟨hK.1, h⟩, hK.2⟩
theorem val_det (o : AOp) : Det (val fr h o) := fun K hK => by
  cases o with
  | build t ps =>
    obtain ⟨l, h1, h2⟩ := buildK_det ps t _ hK
    exact ⟨.agg l, fun K' h => h1 (fun l => K' (.agg l)) h, h2⟩
  | pick c a b =>
    simp only [val] at hK ⊢
    split at hK
    · next p hp =>
      cases p with
      | true =>
        obtain ⟨x, h1, h2⟩ := opt_ev (hK.1 rfl)
        exact ⟨x, fun K' h => ⟨fun _ => by rw [h1]; exact h, fun e => by cases e⟩, h2⟩
      | false =>
        obtain ⟨x, h1, h2⟩ := opt_ev (hK.2 rfl)
        exact ⟨x, fun K' h => ⟨(fun e => by cases e), (fun _ => by rw [h1]; exact h)⟩, h2⟩
    · exact hK.elim
  | bin op x y =>
    simp only [val] at hK ⊢
    split at hK
    · exact bin2_det _ _ _ K hK
    · exact hK.elim
  | lds s x =>
    simp only [val] at hK ⊢
    split at hK
    · split at hK
      · exact loadK_det _ _ K hK
      · exact hK.elim
    · exact loadK_det _ _ K hK
    · exact hK.elim
  | load s x =>
    simp only [val] at hK ⊢
    split at hK
    · split at hK
      · exact loadK_det _ _ K hK
      · exact hK.elim
    · exact loadK_det _ _ K hK
    · exact hK.elim
  | b2s x =>
    simp only [val] at hK ⊢
    split at hK
    · obtain ⟨bs, h1, h2, h3⟩ := hK
      exact ⟨_, fun _ h => ⟨bs, h1, h2, h⟩, h3⟩
    · exact hK.elim
  | idxa s x i =>
    simp only [val] at hK ⊢
    split at hK
    · exact ⟨_, fun _ h => ⟨hK.1, h⟩, hK.2⟩
    · exact ⟨_, fun _ h => ⟨hK.1, h⟩, hK.2⟩
    · exact hK.elim
  | idxs x i =>
    simp only [val] at hK ⊢
    split at hK
    · exact ⟨_, fun _ h => ⟨hK.1, h⟩, hK.2⟩
    · exact hK.elim
  | slcs x lo hi =>
    simp only [val] at hK ⊢
    split at hK
    · split at hK
      · exact ⟨_, fun _ h => ⟨hK.1, h⟩, hK.2⟩
      · exact hK.elim
    · exact hK.elim
  | slcl s x lo hi mx =>
    simp only [val] at hK ⊢
    split at hK
    · split at hK
      · cases mx with
        | none => exact ⟨_, fun _ h => ⟨hK.1, h⟩, hK.2⟩
        | some m =>
          simp only at hK ⊢
          obtain ⟨h1, h2⟩ := hK
          split at h2
          · exact ⟨_, fun _ h => ⟨h1, ⟨h2.1, h⟩⟩, h2.2⟩
          · exact h2.elim
      · exact hK.elim
    · exact hK.elim
  | ext i x =>
    simp only [val] at hK ⊢
    split at hK
    · split at hK
      · next a ha => exact ⟨a, fun _ h => h, hK⟩
      · exact hK.elim
    · exact hK.elim
  | bbin n x y =>
    simp only [val] at hK ⊢
    split at hK
    · exact ⟨_, fun _ h => h, hK⟩
    · exact hK.elim
  | mn x y =>
    simp only [val] at hK ⊢
    split at hK
    · exact ⟨_, fun _ h => h, hK⟩
    · exact hK.elim
  | mx x y =>
    simp only [val] at hK ⊢
    split at hK
    · exact ⟨_, fun _ h => h, hK⟩
    · exact hK.elim
  | mkfn f l =>
    simp only [val] at hK ⊢
    split at hK
    · exact ⟨_, fun _ h => h, hK⟩
    · exact hK.elim
  | ex e l =>
    simp only [val] at hK ⊢
    split at hK
    · split at hK
      · exact ⟨_, fun _ h => h, hK⟩
      · exact hK.elim
    · exact hK.elim
  | mv x => simp only [val] at hK ⊢; split at hK <;> first | exact ⟨_, fun _ h => h, hK⟩ | exact hK.elim
  | nilck x => simp only [val] at hK ⊢; split at hK <;> first | exact ⟨_, fun _ h => h, hK⟩ | exact hK.elim
  | pnil n x => simp only [val] at hK ⊢; split at hK <;> first | exact ⟨_, fun _ h => h, hK⟩ | exact hK.elim
  | not x => simp only [val] at hK ⊢; split at hK <;> first | exact ⟨_, fun _ h => h, hK⟩ | exact hK.elim
  | conv k x => simp only [val] at hK ⊢; split at hK <;> first | exact ⟨_, fun _ h => h, hK⟩ | exact hK.elim
  | cstr x => simp only [val] at hK ⊢; split at hK <;> first | exact ⟨_, fun _ h => h, hK⟩ | exact hK.elim
  | fld o x => simp only [val] at hK ⊢; split at hK <;> first | exact ⟨_, fun _ h => h, hK⟩ | exact hK.elim
  | lens x => simp only [val] at hK ⊢; split at hK <;> first | exact ⟨_, fun _ h => h, hK⟩ | exact hK.elim
  | lenl x => simp only [val] at hK ⊢; split at hK <;> first | exact ⟨_, fun _ h => h, hK⟩ | exact hK.elim
  | _ => exact hK.elim
/-- what an operation tells and does is one thing -/
def Eff1 (P : Program) (o : AOp) (fr : Fr) (h : Hp) (a : AV) (h' : Hp) : Prop := eff P o fr h (fun x y => x = a ∧ y = h')
theorem eff_det {P : Program} {o : AOp} {R : AV → Hp → Prop} (hR : eff P o fr h R) : ∃ a h', Eff1 P o fr h a h' ∧ R a h' := by
  unfold Eff1
  cases o with
  | mvu e s x => simp only [eff] at hR ⊢; split at hR <;> first | exact ⟨_, _, ⟨hR.1, rfl, rfl⟩, hR.2⟩ | exact hR.elim
  | mvo k => simp only [eff] at hR ⊢; split at hR <;> first | exact ⟨_, _, ⟨rfl, rfl⟩, hR⟩ | exact hR.elim
  | new l u =>
    obtain ⟨x, h1, h2⟩ := upgK_det u l _ hR
    exact ⟨_, _, h1 _ ⟨rfl, rfl⟩, h2⟩
  | box x u =>
    simp only [eff] at hR ⊢
    split at hR
    · obtain ⟨x, h1, h2⟩ := upgK_det u _ _ hR.2
      exact ⟨_, _, ⟨hR.1, h1 _ ⟨rfl, rfl⟩⟩, h2⟩
    · exact hR.elim
  | bsl e s n t p =>
    obtain ⟨x, h1, h2⟩ := buildK_det p t _ hR
    exact ⟨_, _, h1 _ ⟨rfl, rfl⟩, h2⟩
  | mk0 e s b c => simp only [eff] at hR ⊢; split at hR <;> first | exact ⟨_, _, ⟨hR.1, rfl, rfl⟩, hR.2⟩ | exact hR.elim
  | mkn e s b z c => simp only [eff] at hR ⊢; split at hR <;> first | exact ⟨_, _, ⟨hR.1, rfl, rfl⟩, hR.2⟩ | exact hR.elim
  | loado x =>
    simp only [eff] at hR ⊢
    split at hR
    · split at hR
      · split at hR
        · exact ⟨_, _, ⟨rfl, rfl⟩, hR⟩
        · exact hR.elim
      · exact hR.elim
    · exact hR.elim
  | store n a x =>
    simp only [eff] at hR ⊢
    split at hR
    · split at hR
      · exact ⟨_, _, ⟨hR.1, rfl, rfl⟩, hR.2⟩
      · exact hR.elim
    · exact hR.elim
  | stores n a x =>
    simp only [eff] at hR ⊢
    split at hR
    · split at hR
      · exact ⟨_, _, ⟨hR.1, rfl, rfl⟩, hR.2⟩
      · exact hR.elim
    · exact hR.elim
  | storeo a k =>
    simp only [eff] at hR ⊢
    split at hR
    · split at hR
      · exact ⟨_, _, ⟨hR.1, rfl, rfl⟩, hR.2⟩
      · exact hR.elim
    · exact hR.elim
  | app e s b x y => simp only [eff] at hR ⊢; split at hR <;> first | exact ⟨_, _, ⟨hR.1, rfl, rfl⟩, hR.2⟩ | exact hR.elim
  | appo e s b k y => simp only [eff] at hR ⊢; split at hR <;> first | exact ⟨_, _, ⟨hR.1, rfl, rfl⟩, hR.2⟩ | exact hR.elim
  | appso e k y => simp only [eff] at hR ⊢; split at hR <;> first | exact ⟨_, _, ⟨hR.1, rfl, rfl⟩, hR.2⟩ | exact hR.elim
  | calli f l =>
    simp only [eff] at hR ⊢
    split at hR
    · obtain ⟨v, hv, h1, h2, h3⟩ := hR
      exact ⟨v, hv, ⟨v, hv, h1, h2, rfl, rfl⟩, h3⟩
    · exact hR.elim
  | call f l =>
    simp only [eff] at hR ⊢
    split at hR
    · obtain ⟨v, h1, h2⟩ := hR
      exact ⟨v, h, ⟨v, h1, rfl, rfl⟩, h2⟩
    · exact hR.elim
  | apps e x y => exact hR.elim
  | _ =>
    simp only [eff] at hR ⊢
    obtain ⟨a, h1, h2⟩ := val_det _ _ hR
    exact ⟨a, h, h1 _ ⟨rfl, rfl⟩, h2⟩
end
end Go.Proofs.Ytajpibdchgflnaa
