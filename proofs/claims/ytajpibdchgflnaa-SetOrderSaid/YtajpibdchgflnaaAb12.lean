/- The abstract layer, thirteenth part: regions whose order is open: one order serves for all. -/
import Derived.Test.YtajpibdchgflnaaAb11
import Derived.Orders
namespace Go.Proofs.Ytajpibdchgflnaa
set_option linter.unusedSimpArgs false
set_option linter.unusedVariables false
open Go.RowKit Go.Lib

def isP : AOp → Bool
  | .load _ _ | .lds _ _ | .new _ _ | .box _ _ | .mkn _ _ _ _ _ | .loado _ | .store _ _ _ | .stores _ _ _ | .storeo _ _ | .apps _ _ _ | .calli _ _ => false
  | _ => true
def isA : AOp → Bool
  | .new _ _ | .box _ _ | .mkn _ _ _ _ _ => true
  | _ => false
def isL : AOp → Bool
  | .load _ _ | .lds _ _ => true
  | _ => false
def isS : AOp → Bool
  | .lds _ _ => true
  | _ => false
def isC : AOp → Bool
  | .calli _ _ => true
  | _ => false
def rd (s : AStm) : List Nat := opR s.op ++ (s.gd.map (·.1)).toList
def wr (s : AStm) : List Nat := s.dst.toList ++ opT s.op
def disj (a b : List Nat) : Bool := a.all fun k => !b.contains k
/-- may two statements change places? -/
def commB (s t : AStm) : Bool := disj (wr s) (rd t) && disj (wr s) (wr t) && disj (wr t) (rd s) && (isP s.op || isP t.op || (isL s.op && isL t.op) || (isL s.op && isA t.op) || (isS s.op && isC t.op) || (isC s.op && isS t.op))

section
variable {P : Program} {fr fr' : Fr} {h : Hp}

theorem eff1_P {o : AOp} {a : AV} {h' : Hp} (hp : isP o = true) (he : Eff1 P o fr h a h') : h' = h ∧ ∀ h2, Eff1 P o fr h2 a h2 := by
  unfold Eff1 at *
  cases o with
  | call f l =>
    simp only [eff] at he ⊢
    split at he
    · obtain ⟨v, h1, rfl, rfl⟩ := he
      exact ⟨rfl, fun h2 => ⟨_, h1, rfl, trivial⟩⟩
    · exact he.elim
  | load s x => simp [isP] at hp
  | lds s x => simp [isP] at hp
  | stores n a x => simp [isP] at hp
  | calli f l => simp [isP] at hp
  | mvu e s x => simp only [eff] at he ⊢; split at he <;> first | exact he.elim | exact ⟨he.2.2.symm, fun h2 => ⟨he.1, he.2.1, trivial⟩⟩
  | mvo k => simp only [eff] at he ⊢; split at he <;> first | exact he.elim | exact ⟨he.2.symm, fun h2 => ⟨he.1, trivial⟩⟩
  | bsl e s n t p =>
    obtain ⟨x, h1, h2⟩ := buildK_det p t _ he
    exact ⟨h2.2.symm, fun h3 => h1 (krow e n h3 fun x y => x = a ∧ y = h3) ⟨h2.1, rfl⟩⟩
  | mk0 e s b c => simp only [eff] at he ⊢; split at he <;> first | exact he.elim | exact ⟨he.2.2.symm, fun h2 => ⟨he.1, he.2.1, trivial⟩⟩
  | app e s b x y => simp only [eff] at he ⊢; split at he <;> first | exact he.elim | exact ⟨he.2.2.symm, fun h2 => ⟨he.1, he.2.1, trivial⟩⟩
  | appo e s b k y => simp only [eff] at he ⊢; split at he <;> first | exact he.elim | exact ⟨he.2.2.symm, fun h2 => ⟨he.1, he.2.1, trivial⟩⟩
  | appso e k y => simp only [eff] at he ⊢; split at he <;> first | exact he.elim | exact ⟨he.2.2.symm, fun h2 => ⟨he.1, he.2.1, trivial⟩⟩
  | new l u => simp [isP] at hp
  | box x u => simp [isP] at hp
  | mkn e s b z c => simp [isP] at hp
  | loado x => simp [isP] at hp
  | store n a x => simp [isP] at hp
  | storeo a k => simp [isP] at hp
  | apps e x y => simp [isP] at hp
  | _ =>
    simp only [eff] at he ⊢
    obtain ⟨b, h1, h2⟩ := val_det _ _ he
    obtain ⟨rfl, rfl⟩ := h2
    exact ⟨rfl, fun h2 => h1 (kv h2 fun x y => x = b ∧ y = h2) ⟨rfl, rfl⟩⟩
theorem eff1_L {o : AOp} {a : AV} {h' : Hp} (hp : isL o = true) (he : Eff1 P o fr h a h') : h' = h := by
  unfold Eff1 at *
  cases o with
  | load s x =>
    simp only [eff] at he
    obtain ⟨b, h1, h2⟩ := val_det _ _ he
    exact h2.2.symm
  | lds s x =>
    simp only [eff] at he
    obtain ⟨b, h1, h2⟩ := val_det _ _ he
    exact h2.2.symm
  | _ => simp [isL] at hp

/-- an allocation makes one object more, and does not look at the others -/
theorem eff1_A {o : AOp} {a : AV} {h' : Hp} (hp : isA o = true) (he : Eff1 P o fr h a h') : ∃ x, h' = h ++ [x] := by
  unfold Eff1 at *
  cases o with
  | new l u =>
    obtain ⟨x, h1, h2⟩ := upgK_det u l _ he
    exact ⟨_, h2.2.symm⟩
  | box x u =>
    simp only [eff] at he
    split at he
    · obtain ⟨x, h1, h2⟩ := upgK_det u _ _ he.2
      exact ⟨_, h2.2.symm⟩
    · exact he.elim
  | mkn e s b z c =>
    simp only [eff] at he
    split at he <;> first | exact he.elim | exact ⟨_, he.2.2.symm⟩
  | _ => simp [isA] at hp
theorem eff1_LA {o : AOp} {a : AV} (hp : isL o = true) (he : Eff1 P o fr h a h) (x : Option (Bool × List AV)) : Eff1 P o fr (h ++ [x]) a (h ++ [x]) := by
  unfold Eff1 at *
  cases o with
  | load s y =>
    simp only [eff, val] at he ⊢
    split at he
    · split at he
      · next id off hev s' l hl =>
        have hlt := (List.getElem?_eq_some_iff.1 hl).1
        rw [List.getElem?_append_left hlt, hl]
        obtain ⟨b, h1, h2⟩ := loadK_det _ _ _ he
        exact h1 _ ⟨h2.1, rfl⟩
      · exact he.elim
    · obtain ⟨b, h1, h2⟩ := loadK_det _ _ _ he
      exact h1 _ ⟨h2.1, rfl⟩
    · exact he.elim
  | lds s y =>
    simp only [eff, val] at he ⊢
    split at he
    · split at he
      · next id off hev l hl =>
        have hlt := (List.getElem?_eq_some_iff.1 hl).1
        rw [List.getElem?_append_left hlt, hl]
        obtain ⟨b, h1, h2⟩ := loadK_det _ _ _ he
        exact h1 _ ⟨h2.1, rfl⟩
      · exact he.elim
    · obtain ⟨b, h1, h2⟩ := loadK_det _ _ _ he
      exact h1 _ ⟨h2.1, rfl⟩
    · exact he.elim
  | _ => simp [isL] at hp
/-- what is loaded from closed objects stays with calls -/
theorem eff1_S {o : AOp} {a : AV} (hp : isS o = true) (he : Eff1 P o fr h a h) {h2 : Hp} (hq : SealEq h h2) : Eff1 P o fr h2 a h2 := by
  unfold Eff1 at *
  cases o with
  | lds s y =>
    simp only [eff, val] at he ⊢
    split at he
    · split at he
      · next id off hev l hl =>
        rw [(hq _ _).1 hl]
        obtain ⟨b, h1, h2⟩ := loadK_det _ _ _ he
        exact h1 _ ⟨h2.1, rfl⟩
      · exact he.elim
    · obtain ⟨b, h1, h2⟩ := loadK_det _ _ _ he
      exact h1 _ ⟨h2.1, rfl⟩
    · exact he.elim
  | _ => simp [isS] at hp
theorem eff1_C {o : AOp} {a : AV} {h' : Hp} (hp : isC o = true) (he : Eff1 P o fr h a h') : SealEq h h' := by
  unfold Eff1 at *
  cases o with
  | calli f l =>
    simp only [eff] at he
    split at he
    · obtain ⟨v, hv, _, h1, rfl, rfl⟩ := he
      exact h1
    · exact he.elim
  | _ => simp [isC] at hp

inductive VStep (P : Program) (s : AStm) (fr : Fr) (h : Hp) : Fr → Hp → Prop where
  | run (a : AV) (h' : Hp) : (s.gd = none ∨ ∃ q want, s.gd = some (q, want) ∧ lk fr q = some (.bool want)) → Eff1 P s.op fr h a h' → VStep P s fr h (put s.dst a (tk s.op fr)) h'
  | skip : (∃ q want, s.gd = some (q, want) ∧ (lk fr q = some (.bool (!want)) ∨ lk fr q = some (.tup []))) → VStep P s fr h (put s.dst (.tup []) fr) h

theorem lk_put (d : Option Nat) (a : AV) (fr : Fr) (k : Nat) : lk (put d a fr) k = if d = some k then some a else lk fr k := by
  cases d with
  | none => simp [put]
  | some j => simp only [put, lk_cons, Option.some.injEq]
theorem lk_tk (o : AOp) (fr : Fr) (k : Nat) : lk (tk o fr) k = if k ∈ opT o then (lk fr k).map deg else lk fr k := by
  cases o <;> simp only [tk, opT, List.mem_singleton, List.not_mem_nil, if_false, lk_degr]
theorem opT_R {o : AOp} {k : Nat} (h : k ∈ opT o) : k ∈ opR o := by
  cases o <;> simp_all [opT, opR]
theorem vstep_foot {s : AStm} {fr1 : Fr} {h1 : Hp} (hv : VStep P s fr h fr1 h1) : (∀ k, k ∉ wr s → lk fr1 k = lk fr k) ∧
    ∀ fr', Agree (rd s) fr fr' → ∃ fr1', VStep P s fr' h fr1' h1 ∧ (∀ k, k ∈ wr s → lk fr1' k = lk fr1 k) ∧ (∀ k, k ∉ wr s → lk fr1' k = lk fr' k) := by
  have hgd : ∀ {fr' : Fr}, Agree (rd s) fr fr' → ∀ q want, s.gd = some (q, want) → lk fr' q = lk fr q := fun ha q want hq => ha q (by simp [rd, hq])
  cases hv with
  | run a h' hg he =>
    refine ⟨fun k hk => ?_, fun fr' ha => ⟨put s.dst a (tk s.op fr'), .run a _ ?_ ?_, fun k hk => ?_, fun k hk => ?_⟩⟩
    · simp only [wr, List.mem_append, not_or, Option.mem_toList] at hk
      rw [lk_put, if_neg hk.1, lk_tk, if_neg hk.2]
    · rcases hg with hg | ⟨q, want, hq, hl⟩
      · exact .inl hg
      · exact .inr ⟨q, want, hq, by rw [hgd ha q want hq]; exact hl⟩
    · unfold Eff1; rw [eff_congr (ha.left)]; exact he
    · rw [lk_put, lk_put]
      split
      · rfl
      · next hne =>
        simp only [wr, List.mem_append, Option.mem_toList] at hk
        have hk' := hk.resolve_left hne
        rw [lk_tk, lk_tk, if_pos hk', if_pos hk', ha k (by simp [rd, opT_R hk'])]
    · simp only [wr, List.mem_append, not_or, Option.mem_toList] at hk
      rw [lk_put, if_neg hk.1, lk_tk, if_neg hk.2]
  | skip hg =>
    refine ⟨fun k hk => ?_, fun fr' ha => ⟨put s.dst (.tup []) fr', .skip ?_, fun k hk => ?_, fun k hk => ?_⟩⟩
    · simp only [wr, List.mem_append, not_or, Option.mem_toList] at hk
      rw [lk_put, if_neg hk.1]
    · obtain ⟨q, want, hq, hl⟩ := hg
      exact ⟨q, want, hq, by rw [hgd ha q want hq]; exact hl⟩
    · rw [lk_put, lk_put]
      split
      · rfl
      · next hne =>
        simp only [wr, List.mem_append, Option.mem_toList] at hk
        have hk' := hk.resolve_left hne
        exact ha k (by simp [rd, opT_R hk'])
    · simp only [wr, List.mem_append, not_or, Option.mem_toList] at hk
      rw [lk_put, if_neg hk.1]
theorem vstep_P {s : AStm} {fr1 : Fr} {h1 : Hp} (hp : isP s.op = true) (hv : VStep P s fr h fr1 h1) : h1 = h ∧ ∀ h2, VStep P s fr h2 fr1 h2 := by
  cases hv with
  | run a h' hg he =>
    obtain ⟨rfl, q⟩ := eff1_P hp he
    exact ⟨rfl, fun h2 => .run a h2 hg (q h2)⟩
  | skip hg => exact ⟨rfl, fun h2 => .skip hg⟩
theorem vstep_L {s : AStm} {fr1 : Fr} {h1 : Hp} (hp : isL s.op = true) (hv : VStep P s fr h fr1 h1) : h1 = h := by
  cases hv with
  | run a h' hg he => exact eff1_L hp he
  | skip hg => rfl

theorem vstep_A {s : AStm} {fr1 : Fr} {h1 : Hp} (hp : isA s.op = true) (hv : VStep P s fr h fr1 h1) : h1 = h ∨ ∃ x, h1 = h ++ [x] := by
  cases hv with
  | run a h' hg he => exact .inr (eff1_A hp he)
  | skip hg => exact .inl rfl
theorem vstep_LA {s : AStm} {fr1 : Fr} (hp : isL s.op = true) (hv : VStep P s fr h fr1 h) (x : Option (Bool × List AV)) : VStep P s fr (h ++ [x]) fr1 (h ++ [x]) := by
  cases hv with
  | run a h' hg he => exact .run a _ hg (eff1_LA hp he x)
  | skip hg => exact .skip hg

theorem SealEq.refl (h : Hp) : SealEq h h := fun _ _ => .rfl
theorem SealEq.symm {h h2 : Hp} (hq : SealEq h h2) : SealEq h2 h := fun i l => (hq i l).symm
theorem vstep_S {s : AStm} {fr1 : Fr} (hp : isS s.op = true) (hv : VStep P s fr h fr1 h) {h2 : Hp} (hq : SealEq h h2) : VStep P s fr h2 fr1 h2 := by
  cases hv with
  | run a h' hg he => exact .run a _ hg (eff1_S hp he hq)
  | skip hg => exact .skip hg
theorem vstep_C {s : AStm} {fr1 : Fr} {h1 : Hp} (hp : isC s.op = true) (hv : VStep P s fr h fr1 h1) : SealEq h h1 := by
  cases hv with
  | run a h' hg he => exact eff1_C hp he
  | skip hg => exact .refl _
theorem isS_L {o : AOp} (h : isS o = true) : isL o = true := by cases o <;> first | rfl | cases h
def Feq (fr fr' : Fr) : Prop := ∀ k, lk fr' k = lk fr k
theorem disj_spec {a b : List Nat} (h : disj a b = true) {k : Nat} (hk : k ∈ a) : k ∉ b := by
  have := List.all_eq_true.1 h k hk
  simpa using this
theorem vstep_feq {s : AStm} {fr1 : Fr} {h1 : Hp} (hv : VStep P s fr h fr1 h1) (he : Feq fr fr') : ∃ fr1', VStep P s fr' h fr1' h1 ∧ Feq fr1 fr1' := by
  obtain ⟨f1, f2⟩ := vstep_foot hv
  obtain ⟨fr1', q1, q2, q3⟩ := f2 fr' (fun k _ => he k)
  refine ⟨fr1', q1, fun k => ?_⟩
  by_cases hk : k ∈ wr s
  · exact q2 k hk
  · rw [q3 k hk, f1 k hk, he k]
theorem vstep_comm {s t : AStm} {fr1 fr2 : Fr} {h1 h2 : Hp} (hc : commB s t = true) (hs : VStep P s fr h fr1 h1) (ht : VStep P t fr1 h1 fr2 h2) :
    ∃ fr1' h1' fr2', VStep P t fr h fr1' h1' ∧ VStep P s fr1' h1' fr2' h2 ∧ Feq fr2 fr2' := by
  simp only [commB, Bool.and_eq_true] at hc
  obtain ⟨⟨⟨c1, c2⟩, c3⟩, c4⟩ := hc
  obtain ⟨s1, s2⟩ := vstep_foot hs
  obtain ⟨t1, t2⟩ := vstep_foot ht
  obtain ⟨fr1', p1, p2, p3⟩ := t2 fr (fun k hk => (s1 k (fun hw => disj_spec c1 hw hk)).symm)
  obtain ⟨fr2', r1, r2, r3⟩ := s2 fr1' (fun k hk => p3 k (fun hw => disj_spec c3 hw hk))
  refine ⟨fr1', ?_⟩
  have hfeq : Feq fr2 fr2' := fun k => by
    by_cases hks : k ∈ wr s
    · rw [r2 k hks, t1 k (disj_spec c2 hks)]
    · rw [r3 k hks]
      by_cases hkt : k ∈ wr t
      · exact p2 k hkt
      · rw [p3 k hkt, t1 k hkt, s1 k hks]
  by_cases hps : isP s.op = true
  · obtain ⟨rfl, q⟩ := vstep_P hps hs
    obtain ⟨_, q'⟩ := vstep_P hps r1
    exact ⟨h2, fr2', p1, q' h2, hfeq⟩
  · by_cases hpt : isP t.op = true
    · obtain ⟨rfl, _⟩ := vstep_P hpt ht
      obtain ⟨_, q'⟩ := vstep_P hpt p1
      exact ⟨h, fr2', q' h, r1, hfeq⟩
    · have hps' : isP s.op = false := by simpa using hps
      have hpt' : isP t.op = false := by simpa using hpt
      rw [hps', hpt'] at c4
      simp only [Bool.or_self, Bool.false_or, Bool.or_eq_true, Bool.and_eq_true] at c4
      rcases c4 with ((c4 | c4) | c4) | c4
      · obtain rfl := vstep_L c4.1 hs
        obtain rfl := vstep_L c4.2 ht
        exact ⟨_, fr2', p1, r1, hfeq⟩
      · obtain rfl := vstep_L c4.1 hs
        rcases vstep_A c4.2 ht with rfl | ⟨x, rfl⟩
        · exact ⟨_, fr2', p1, r1, hfeq⟩
        · exact ⟨_, fr2', p1, vstep_LA c4.1 r1 x, hfeq⟩
      · obtain rfl := vstep_L (isS_L c4.1) hs
        exact ⟨_, fr2', p1, vstep_S c4.1 r1 (vstep_C c4.2 ht), hfeq⟩
      · obtain rfl := vstep_L (isS_L c4.2) ht
        exact ⟨_, fr2', vstep_S c4.2 p1 (vstep_C c4.1 hs).symm, r1, hfeq⟩

def VRun (P : Program) : List AStm → Fr → Hp → Fr → Hp → Prop
  | [], fr, h, fr', h' => fr' = fr ∧ h' = h
  | s :: r, fr, h, fr', h' => ∃ fr1 h1, VStep P s fr h fr1 h1 ∧ VRun P r fr1 h1 fr' h'
theorem vrun_feq : ∀ {l : List AStm} {fr fr' fr1 : Fr} {h h1 : Hp}, VRun P l fr h fr1 h1 → Feq fr fr' → ∃ fr1', VRun P l fr' h fr1' h1 ∧ Feq fr1 fr1'
  | [], fr, fr', fr1, h, h1, ⟨e1, e2⟩, he => ⟨fr', ⟨rfl, e2⟩, by rw [e1]; exact he⟩
  | s :: r, fr, fr', fr1, h, h1, ⟨fr2, h2, a, b⟩, he => by
    obtain ⟨fr2', q1, q2⟩ := vstep_feq a he
    obtain ⟨fr1', q3, q4⟩ := vrun_feq b q2
    exact ⟨fr1', ⟨fr2', h2, q1, q3⟩, q4⟩
theorem vrun_front {t : AStm} {post : List AStm} : ∀ {pre : List AStm} {fr fr1 : Fr} {h h1 : Hp}, (∀ s ∈ pre, commB s t = true) → VRun P (pre ++ t :: post) fr h fr1 h1 → ∃ fr1', VRun P (t :: (pre ++ post)) fr h fr1' h1 ∧ Feq fr1 fr1'
  | [], fr, fr1, h, h1, _, hr => ⟨fr1, hr, fun _ => rfl⟩
  | s :: pre, fr, fr1, h, h1, hc, ⟨fr2, h2, a, b⟩ => by
    obtain ⟨fr1', ⟨fr3, h3, q1, q2⟩, q3⟩ := vrun_front (fun x hx => hc x (by simp [hx])) b
    obtain ⟨fra, ha, frb, p1, p2, p3⟩ := vstep_comm (hc s (by simp)) a q1
    obtain ⟨fr4, p4, p5⟩ := vrun_feq q2 p3
    exact ⟨fr4, ⟨fra, ha, p1, frb, h3, p2, p4⟩, fun k => by rw [p5 k, q3 k]⟩

theorem feq_same {q : Nat} {a b : AV} (hq : lk fr q = some a) (e : a = b) : Feq ((q, b) :: fr) fr := fun k => by
  subst e
  rw [lk_cons]
  split
  · next e => subst e; exact hq
  · rfl
theorem feq_symm (he : Feq fr fr') : Feq fr' fr := fun k => (he k).symm
theorem vrun_of : ∀ {l : List AStm} {fr : Fr} {h : Hp} {K : Fr → Hp → Prop}, (∀ fr fr' h, Feq fr fr' → K fr h → K fr' h) → VOps P l fr h K → ∃ fr' h', VRun P l fr h fr' h' ∧ K fr' h'
  | [], fr, h, K, _, hv => ⟨fr, h, ⟨rfl, rfl⟩, hv⟩
  | s :: r, fr, h, K, hK, hv => by
    have back : ∀ {fr0 fr1 fr2 : Fr} {h1 h2 : Hp}, Feq fr0 fr → VStep P s fr0 h fr1 h1 → VRun P r fr1 h1 fr2 h2 → K fr2 h2 → ∃ fr' h', VRun P (s :: r) fr h fr' h' ∧ K fr' h' := by
      intro fr0 fr1 fr2 h1 h2 hfe hst hru hk
      obtain ⟨fr1', q1, q2⟩ := vstep_feq hst hfe
      obtain ⟨fr2', q3, q4⟩ := vrun_feq hru q2
      exact ⟨fr2', h2, ⟨fr1', h1, q1, q3⟩, hK _ _ _ q4 hk⟩
    simp only [VOps] at hv
    split at hv
    · next hgd =>
      obtain ⟨a, h1, he, hk⟩ := eff_det hv
      obtain ⟨fr2, h2, r1, r2⟩ := vrun_of hK hk
      exact back (fun _ => rfl) (.run a h1 (.inl hgd) he) r1 r2
    · next q want hgd =>
      split at hv
      · next p hp =>
        by_cases e : p = want
        · obtain ⟨a, h1, he, hk⟩ := eff_det (hv.1 e)
          obtain ⟨fr2, h2, r1, r2⟩ := vrun_of hK hk
          exact back (feq_same hp (by rw [e])) (.run a h1 (.inr ⟨q, want, hgd, by simp [lk_cons]⟩) he) r1 r2
        · have e' : p = !want := by cases p <;> cases want <;> simp_all
          obtain ⟨fr2, h2, r1, r2⟩ := vrun_of hK (hv.2 e')
          exact back (feq_same hp (by rw [e'])) (.skip ⟨q, want, hgd, .inl (by simp [lk_cons])⟩) r1 r2
      · next hp =>
        obtain ⟨fr2, h2, r1, r2⟩ := vrun_of hK hv
        exact back (fun _ => rfl) (.skip ⟨q, want, hgd, .inr hp⟩) r1 r2
      · exact hv.elim

/-- what is done with one order is done -/
theorem wop_of_eff {o : Oper} {d : Option Nat} {a : AOp} {v : AV} {h' : Hp} (hc : chkEff P o.op d a = true) (he : Eff1 P a fr h v h') : wop P d a fr h (fun f hh => f = put d v (tk a fr) ∧ hh = h') := by
  unfold Eff1 at he
  cases a with
  | mvu e s x => simp only [eff] at he; simp only [wop]; split at he <;> first | exact he.elim | (rename_i heq; rw [heq]; exact ⟨he.1, by rw [he.2.1]; rfl, he.2.2⟩)
  | mvo k => simp only [eff] at he; simp only [wop]; split at he <;> first | exact he.elim | (rename_i heq; rw [heq]; exact ⟨by rw [he.1]; rfl, he.2⟩)
  | new l u =>
    obtain ⟨x, h1, h2⟩ := upgK_det u l _ he
    exact h1 _ ⟨by rw [← h2.1]; rfl, h2.2⟩
  | box x u =>
    simp only [eff] at he; simp only [wop]
    split at he
    · next heq =>
      obtain ⟨x, h1, h2⟩ := upgK_det u _ _ he.2
      rw [heq]
      exact ⟨he.1, h1 _ ⟨by rw [← h2.1]; rfl, h2.2⟩⟩
    · exact he.elim
  | bsl e s n t p =>
    obtain ⟨x, h1, h2⟩ := buildK_det p t _ he
    exact h1 _ ⟨by rw [← h2.1]; rfl, h2.2⟩
  | mk0 e s b c => simp only [eff] at he; simp only [wop]; split at he <;> first | exact he.elim | (rename_i heq; rw [heq]; exact ⟨he.1, by rw [he.2.1]; rfl, he.2.2⟩)
  | mkn e s b z c => simp only [eff] at he; simp only [wop]; split at he <;> first | exact he.elim | (rename_i heq; rw [heq]; exact ⟨he.1, by rw [he.2.1]; rfl, he.2.2⟩)
  | loado x =>
    simp only [eff] at he; simp only [wop]
    split at he
    · next heq =>
      rw [heq]
      simp only
      split at he
      · next heq =>
        rw [heq]
        simp only
        split at he
        · next heq => rw [heq]; exact ⟨by rw [he.1]; rfl, he.2⟩
        · exact he.elim
      · exact he.elim
    · exact he.elim
  | store n a x =>
    have hd : d = none := by simp only [chkEff, Bool.and_eq_true] at hc; simpa using hc.2
    subst hd
    simp only [eff] at he; simp only [wop]
    split at he
    · next heq heq' =>
      rw [heq, heq']
      simp only
      split at he
      · next heq => rw [heq]; exact ⟨he.1, rfl, he.2.2⟩
      · exact he.elim
    · exact he.elim
  | stores n a x =>
    have hd : d = none := by simp only [chkEff, Bool.and_eq_true] at hc; simpa using hc.2
    subst hd
    simp only [eff] at he; simp only [wop]
    split at he
    · next heq heq' =>
      rw [heq, heq']
      simp only
      split at he
      · next heq => rw [heq]; exact ⟨he.1, rfl, he.2.2⟩
      · exact he.elim
    · exact he.elim
  | storeo a k =>
    have hd : d = none := by simp only [chkEff, Bool.and_eq_true] at hc; simpa using hc.2
    subst hd
    simp only [eff] at he; simp only [wop]
    split at he
    · next heq heq' =>
      rw [heq, heq']
      simp only
      split at he
      · next heq => rw [heq]; exact ⟨he.1, rfl, he.2.2⟩
      · exact he.elim
    · exact he.elim
  | app e s b x y => simp only [eff] at he; simp only [wop]; split at he <;> first | exact he.elim | (rename_i heq heq'; rw [heq, heq']; exact ⟨he.1, by rw [he.2.1]; rfl, he.2.2⟩)
  | appo e s b k y => simp only [eff] at he; simp only [wop]; split at he <;> first | exact he.elim | (rename_i heq heq'; rw [heq, heq']; exact ⟨he.1, by rw [he.2.1]; rfl, he.2.2⟩)
  | appso e k y => simp only [eff] at he; simp only [wop]; split at he <;> first | exact he.elim | (rename_i heq heq'; rw [heq, heq']; exact ⟨he.1, by rw [he.2.1]; rfl, he.2.2⟩)
  | calli f l =>
    simp only [eff] at he; simp only [wop]
    split at he
    · next heq heq' =>
      obtain ⟨v', hv', h1, h2, rfl, rfl⟩ := he
      rw [heq, heq']
      exact h1.mono (by rintro _ _ ⟨rfl, rfl⟩; exact ⟨rfl, rfl⟩)
    · exact he.elim
  | call f l =>
    simp only [eff] at he; simp only [wop]
    split at he
    · next heq heq' =>
      obtain ⟨v', h1, rfl, rfl⟩ := he
      rw [heq, heq']
      exact h1.use ⟨rfl, rfl⟩
    · exact he.elim
  | apps e x y => exact he.elim
  | _ =>
    simp only [eff] at he; simp only [wop]
    obtain ⟨b, h1, h2⟩ := val_det _ _ he
    exact h1 _ ⟨by rw [← h2.1]; rfl, h2.2⟩
end
end Go.Proofs.Ytajpibdchgflnaa
