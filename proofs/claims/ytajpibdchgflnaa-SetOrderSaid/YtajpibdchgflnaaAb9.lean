/- The abstract layer, tenth part: code, functions, and calls that leave all objects alone. -/
import Derived.Test.YtajpibdchgflnaaAb8
namespace Go.Proofs.Ytajpibdchgflnaa
set_option linter.unusedSimpArgs false
set_option linter.unusedVariables false
open Go.RowKit Go.Lib

structure AStm where
  dst : Option Nat
  gd : Option (Nat × Bool)
  op : AOp

inductive ACode where
  | skip
  | ops (l : List AStm)
  | draw (vars : List Nat) (l : List AStm)
  | seq (a b : ACode)
  | cond (c : Opd) (a b : ACode)
  | block (id : Nat) (a : ACode)
  | loop (vars : List Nat) (a : ACode)
  | exit (id : Nat)
  | ret
  | keep (l : List Nat) (a : ACode)

def restr : List Nat → Fr → Fr
  | [], _ => []
  | k :: r, fr => match lk fr k with
    | some a => (k, a) :: restr r fr
    | none => restr r fr

/-- does not lead to an object -/
def free : AV → Bool
  | .ptr _ _ | .hs _ _ => false
  | .fp l | .lst _ _ l | .agg l | .tup l | .fn _ l => frees l
  | _ => true
where frees : List AV → Bool
  | [] => true
  | a :: l => free a && frees l

/-- A call that leaves all objects alone, and tells v. -/
def PCalls (P : Program) (f : FuncId) (args : List AV) (v : AV) : Prop :=
  free.frees args = true ∧ free v = true ∧ ACalls P f args [] (fun a h' => a = v ∧ h' = [])

def WOps (P : Program) : List AStm → Fr → Hp → (Fr → Hp → Prop) → Prop
  | [], fr, h, K => K fr h
  | s :: r, fr, h, K => match s.gd with
    | none => wop P s.dst s.op fr h (fun fr h => WOps P r fr h K)
    | some (q, want) => match lk fr q with
      | some (.bool p) => (p = want → wop P s.dst s.op ((q, .bool want) :: fr) h (fun fr h => WOps P r fr h K)) ∧ (p = !want → WOps P r (put s.dst (.tup []) ((q, .bool (!want)) :: fr)) h K)
      | some (.tup []) => WOps P r (put s.dst (.tup []) fr) h K
      | _ => False
def kops (P : Program) (r : List AStm) (K : Fr → Hp → Prop) (fr : Fr) (h : Hp) : Prop := WOps P r fr h K
theorem WOps_nil (P : Program) (fr : Fr) (h : Hp) (K : Fr → Hp → Prop) : WOps P [] fr h K = K fr h := rfl
theorem WOps_cons (P : Program) (d : Option Nat) (o : AOp) (r : List AStm) (fr : Fr) (h : Hp) (K : Fr → Hp → Prop) : WOps P (⟨d, none, o⟩ :: r) fr h K = wop P d o fr h (kops P r K) := rfl
theorem WOps_gd (P : Program) (d : Option Nat) (q : Nat) (want : Bool) (o : AOp) (r : List AStm) (fr : Fr) (h : Hp) (K : Fr → Hp → Prop) : WOps P (⟨d, some (q, want), o⟩ :: r) fr h K = match lk fr q with
      | some (.bool p) => (p = want → wop P d o ((q, .bool want) :: fr) h (kops P r K)) ∧ (p = !want → WOps P r (put d (.tup []) ((q, .bool (!want)) :: fr)) h K)
      | some (.tup []) => WOps P r (put d (.tup []) fr) h K
      | _ => False := rfl
theorem kops_eq (P : Program) (r : List AStm) (K : Fr → Hp → Prop) (fr : Fr) (h : Hp) : kops P r K fr h = WOps P r fr h K := rfl

/-- the frame behind what an operation takes -/
def tk (o : AOp) (fr : Fr) : Fr :=
  match o with
  | .mvo k | .storeo _ k | .appo _ _ _ k _ | .appso _ k _ => degr k fr
  | _ => fr
def kobj (h : Hp) (R : AV → Hp → Prop) (l : List AV) : Prop := R (.ptr h.length 0) (h ++ [some (false, l)])
def krow (e n : Nat) (h : Hp) (R : AV → Hp → Prop) (l : List AV) : Prop := R (.lst (.own e) n l) h
def kv (h : Hp) (R : AV → Hp → Prop) (a : AV) : Prop := R a h
/-- the closed objects are the same -/
def SealEq (h h' : Hp) : Prop := ∀ (id : Nat) (l : List AV), h[id]? = some (some (true, l)) ↔ h'[id]? = some (some (true, l))
/-- What an operation tells and does; a call must be one that leaves all objects alone. -/
def eff (P : Program) (o : AOp) (fr : Fr) (h : Hp) (R : AV → Hp → Prop) : Prop :=
  match o with
  | .mvu e sz x => match ev fr x with
    | some (.lst .clip n l) => l.length = n * sz ∧ R (.lst (.own e) n l) h
    | _ => False
  | .mvo k => match lk fr k with
    | some (.lst (.own e) n l) => R (.lst (.own e) n l) h
    | _ => False
  | .new l ups => upgK ups l (kobj h R)
  | .box x ups => match ev fr x with
    | some a => isTup a = false ∧ upgK ups (cellsOf a) (kobj h R)
    | none => False
  | .bsl e _ n tmpl parts => buildK fr tmpl parts (krow e n h R)
  | .mk0 e _ bytes c => match ev fr c with
    | some (.int _ n) => (0 ≤ n ∧ bytes * n ≤ 140737488355328 ∧ n ≤ 9223372036854775807) ∧ R (.lst (.own e) 0 []) h
    | _ => False
  | .mkn _ sz bytes zero n => match ev fr n with
    | some (.int _ n) => (0 ≤ n ∧ bytes * n ≤ 140737488355328 ∧ n ≤ 9223372036854775807) ∧ R (.hs h.length n.toNat) (h ++ [some (false, (List.range (n.toNat * sz)).map fun i => zero.getD (i % sz) .nilp)])
    | _ => False
  | .loado x => match ev fr x with
    | some (.ptr id off) => (match h[id]? with
      | some (some (false, l)) => (match l[off]? with
        | some (.lst (.own e) n c) => R (.lst (.own e) n c) (h.set id (some (false, l.set off (.lst .ro n c))))
        | _ => False)
      | _ => False)
    | _ => False
  | .store n a x => match ev fr a, ev fr x with
    | some (.ptr id off), some v => (match h[id]? with
      | some (some (false, l)) => (isTup v = false ∧ (cellsOf v).length = n ∧ off + n ≤ l.length) ∧ R .nilp (h.set id (some (false, splice l off (cellsOf v))))
      | _ => False)
    | _, _ => False
  | .stores n a x => match ev fr a, ev fr x with
    | some (.ptr id off), some v => (match h[id]? with
      | some (some (false, l)) => (isTup v = false ∧ (cellsOf v).length = n ∧ off + n ≤ l.length) ∧ R .nilp (h.set id (some (true, splice l off (cellsOf v))))
      | _ => False)
    | _, _ => False
  | .storeo a k => match ev fr a, lk fr k with
    | some (.ptr id off), some (.lst (.own e) n c) => (match h[id]? with
      | some (some (false, l)) => off < l.length ∧ R .nilp (h.set id (some (false, l.set off (.lst (.own e) n c))))
      | _ => False)
    | _, _ => False
  | .app e sz bytes x y => match ev fr x, ev fr y with
    | some (.lst .clip n l), some (.lst _ m l') => (l.length = n * sz ∧ l'.length = m * sz ∧ n + m ≤ 9223372036854775807 ∧ (n + m) * bytes ≤ 140737488355328) ∧ R (.lst (.own e) (n + m) (l ++ l')) h
    | _, _ => False
  | .appo e sz bytes k y => match lk fr k, ev fr y with
    | some (.lst (.own e') n l), some (.lst _ m l') => (e' = e ∧ l'.length = m * sz ∧ n + m ≤ 9223372036854775807 ∧ (n + m) * bytes ≤ 140737488355328) ∧ R (.lst (.own e) (n + m) (l ++ l')) h
    | _, _ => False
  | .appso e k y => match lk fr k, ev fr y with
    | some (.lst (.own e') n l), some (.str s) => (e' = e ∧ n + s.size ≤ 140737488355328) ∧ R (.lst (.own e) (n + s.size) (l ++ s.data.toList.map fun b => AV.int .u8 b.toNat)) h
    | _, _ => False
  | .call f args => match ev fr f, evs fr args with
    | some (.fn f' caps), some l => ∃ v, PCalls P f' (l ++ caps) v ∧ R v h
    | _, _ => False
  | .calli f args => match ev fr f, evs fr args with
    | some (.fn f' caps), some l => ∃ v hv, ACalls P f' (l ++ caps) h (fun a h' => a = v ∧ h' = hv) ∧ SealEq h hv ∧ R v hv
    | _, _ => False
  | o => val fr h o (kv h R)

def kput (d : Option Nat) (o : AOp) (fr : Fr) (K : Fr → Hp → Prop) (a : AV) (h : Hp) : Prop := K (put d a (tk o fr)) h
/-- .. where the order is open. -/
def VOps (P : Program) : List AStm → Fr → Hp → (Fr → Hp → Prop) → Prop
  | [], fr, h, K => K fr h
  | s :: r, fr, h, K => match s.gd with
    | none => eff P s.op fr h (kput s.dst s.op fr (fun fr h => VOps P r fr h K))
    | some (q, want) => match lk fr q with
      | some (.bool p) => (p = want → eff P s.op ((q, .bool want) :: fr) h (kput s.dst s.op ((q, .bool want) :: fr) (fun fr h => VOps P r fr h K))) ∧ (p = !want → VOps P r (put s.dst (.tup []) ((q, .bool (!want)) :: fr)) h K)
      | some (.tup []) => VOps P r (put s.dst (.tup []) fr) h K
      | _ => False
def kvops (P : Program) (r : List AStm) (K : Fr → Hp → Prop) (fr : Fr) (h : Hp) : Prop := VOps P r fr h K
def kdraw (vars : List Nat) (Q : Exit → Fr → Hp → Prop) (fr : Fr) (h : Hp) : Prop := Q .normal (restr vars fr) h
theorem VOps_nil (P : Program) (fr : Fr) (h : Hp) (K : Fr → Hp → Prop) : VOps P [] fr h K = K fr h := rfl
theorem VOps_cons (P : Program) (d : Option Nat) (o : AOp) (r : List AStm) (fr : Fr) (h : Hp) (K : Fr → Hp → Prop) : VOps P (⟨d, none, o⟩ :: r) fr h K = eff P o fr h (kput d o fr (kvops P r K)) := rfl
theorem VOps_gd (P : Program) (d : Option Nat) (q : Nat) (want : Bool) (o : AOp) (r : List AStm) (fr : Fr) (h : Hp) (K : Fr → Hp → Prop) : VOps P (⟨d, some (q, want), o⟩ :: r) fr h K = match lk fr q with
      | some (.bool p) => (p = want → eff P o ((q, .bool want) :: fr) h (kput d o ((q, .bool want) :: fr) (kvops P r K))) ∧ (p = !want → VOps P r (put d (.tup []) ((q, .bool (!want)) :: fr)) h K)
      | some (.tup []) => VOps P r (put d (.tup []) fr) h K
      | _ => False := rfl
theorem kvops_eq (P : Program) (r : List AStm) (K : Fr → Hp → Prop) (fr : Fr) (h : Hp) : kvops P r K fr h = VOps P r fr h K := rfl

def W (P : Program) : ACode → Fr → Hp → (Exit → Fr → Hp → Prop) → Prop
  | .skip, fr, h, Q => Q .normal fr h
  | .ops l, fr, h, Q => WOps P l fr h (Q .normal)
  | .draw vars l, fr, h, Q => VOps P l fr h (kdraw vars Q)
  | .seq a b, fr, h, Q => W P a fr h (fun e fr h => match e with
    | .normal => W P b fr h Q
    | e => Q e fr h)
  | .cond c a b, fr, h, Q => match ev fr c with
    | some (.bool p) => (p = true → W P a fr h Q) ∧ (p = false → W P b fr h Q)
    | _ => False
  | .block id a, fr, h, Q => W P a fr h (fun e fr h => match e with
    | .exit i => if i = id then Q .normal fr h else Q (.exit i) fr h
    | e => Q e fr h)
  | .loop vars a, fr, h, Q => ∃ I : Nat → Fr → Hp → Prop, (∃ n, I n (restr vars fr) h) ∧ ∀ n fr h, I n fr h → W P a fr h (fun e fr' h' => match e with
    | .normal => ∃ m, m < n ∧ I m (restr vars fr') h'
    | e => Q e fr' h')
  | .exit id, fr, h, Q => Q (.exit id) fr h
  | .ret, fr, h, Q => Q .ret fr h
  | .keep l a, fr, h, Q => W P a (restr l fr) h Q

def kseq (P : Program) (b : ACode) (Q : Exit → Fr → Hp → Prop) : Exit → Fr → Hp → Prop := fun e fr h => match e with
  | .normal => W P b fr h Q
  | e => Q e fr h
def kblock (id : Nat) (Q : Exit → Fr → Hp → Prop) : Exit → Fr → Hp → Prop := fun e fr h => match e with
  | .exit i => if i = id then Q .normal fr h else Q (.exit i) fr h
  | e => Q e fr h
def kloop (vars : List Nat) (I : Nat → Fr → Hp → Prop) (n : Nat) (Q : Exit → Fr → Hp → Prop) : Exit → Fr → Hp → Prop := fun e fr' h' => match e with
  | .normal => ∃ m, m < n ∧ I m (restr vars fr') h'
  | e => Q e fr' h'

inductive RV where
  | t (k : Nat)
  | c (k : Nat) (sz : Option Nat)
structure AFn where
  N : Nat
  rs : List RV
  code : ACode
def resL (fr : Fr) (h : Hp) : List RV → (List AV → Prop) → Prop
  | [], K => K []
  | .t k :: r, K => match ev fr (.t k) with
    | some a => resL fr h r (fun l => K (a :: l))
    | none => False
  | .c k sz :: r, K => val fr h (.load sz (.t k)) (fun a => resL fr h r (fun l => K (a :: l)))
def res1 (K : AV → Prop) (l : List AV) : Prop :=
  match l with
  | [a] => K a
  | l => K (.tup l)
/-- behind a function's body -/
def kret (rs : List RV) (R : AV → Hp → Prop) : Exit → Fr → Hp → Prop := fun e fr h => match e with
  | .normal => resL fr h rs (res1 (fun a => R a h))
  | .ret => resL fr h rs (res1 (fun a => R a h))
  | _ => False
def args0 : Nat → List AV → Fr
  | _, [] => []
  | k, a :: l => (k, a) :: args0 (k + 1) l

def dstOf (ops : Array Oper) (j : Nat) : Option Nat := (ops[j]?).bind (·.dst)
def chkGd (ops : Array Oper) : Option (Nat × Bool) → Option (Nat × Bool) → Bool
  | none, none => true
  | some (j, b), some (q, b') => decide (dstOf ops j = some q) && b == b'
  | _, _ => false
def chkStm (P : Program) (ops : Array Oper) (N : Nat) (o : Oper) (s : AStm) : Bool :=
  decide (o.dst = s.dst) && (match s.dst with
    | some d => decide (d < N)
    | none => true) && chkGd ops o.guard s.gd && chkEff P o.op o.dst s.op
def chkStms (P : Program) (ops : Array Oper) (N : Nat) : List Oper → List AStm → Bool
  | [], [] => true
  | o :: r, s :: r' => chkStm P ops N o s && chkStms P ops N r r'
  | _, _ => false

section
variable {P : Program} {g : Gh} {h : Hp} {w : World} {fr : Fr} {act : Act} {N : Nat}

theorem lk_restr : ∀ (l : List Nat) (fr : Fr) (k : Nat) (a : AV), lk (restr l fr) k = some a → lk fr k = some a
  | [], fr, k, a, h => by simp [restr, lk] at h
  | j :: r, fr, k, a, h => by
    simp only [restr] at h
    split at h
    · next b hb =>
      rw [lk_cons] at h
      split at h
      · next e => subst e; rw [hb]; exact h
      · exact lk_restr r fr k a h
    · exact lk_restr r fr k a h
theorem FrameOk.restr {tmps : Array Value} (hf : FrameOk P g w tmps fr) (l : List Nat) : FrameOk P g w tmps (restr l fr) := fun k a hk => hf k a (lk_restr l fr k a hk)
theorem FrameOk.same {tmps : Array Value} {q : Nat} {a b : AV} (hf : FrameOk P g w tmps fr) (hq : lk fr q = some a) (e : a = b) : FrameOk P g w tmps ((q, b) :: fr) := by
  subst e
  intro k c hk
  rw [lk_cons] at hk
  split at hk
  · next e => subst e; simp only [Option.some.injEq] at hk; subst hk; exact hf _ _ hq
  · exact hf k c hk

theorem yielded_of {ops : Array Oper} {tmps : Array Value} {j q : Nat} (hd : dstOf ops j = some q) {v : Value} (hv : tmps[q]? = some v) : yielded ops tmps j = match v with | .bool b => some b | _ => none := by
  unfold yielded
  unfold dstOf at hd
  rw [hd]
  simp only [Option.bind_some, hv]
  cases v <;> rfl

/-- whether a guarded operation comes up -/
theorem wanted_of {ops : Array Oper} {o : Oper} {s : AStm} {q : Nat} {want : Bool} (hg : chkGd ops o.guard s.gd = true) (hs : s.gd = some (q, want)) (hf : FrameOk P g w act.tmps fr) :
    (∀ p, lk fr q = some (.bool p) → Region.wanted o (yielded ops act.tmps) = (p == want)) ∧ (lk fr q = some (.tup []) → Region.wanted o (yielded ops act.tmps) = false) := by
  rw [hs] at hg
  unfold chkGd at hg
  split at hg
  · next e => cases e
  · next j b q' b' hog e =>
    simp only [Option.some.injEq, Prod.mk.injEq] at e
    obtain ⟨rfl, rfl⟩ := e
    simp only [Bool.and_eq_true, decide_eq_true_eq, beq_iff_eq] at hg
    obtain ⟨hd, rfl⟩ := hg
    refine ⟨fun p hp => ?_, fun hp => ?_⟩
    · obtain ⟨v, h1, h2, _⟩ := hf _ _ hp
      cases h2
      simp only [Region.wanted, hog, yielded_of hd h1]
      cases p <;> cases b <;> rfl
    · obtain ⟨v, h1, h2, _⟩ := hf _ _ hp
      cases h2
      simp only [Region.wanted, hog, yielded_of hd h1]
      rfl
  · cases hg
theorem wanted_none {ops : Array Oper} {o : Oper} {s : AStm} (hg : chkGd ops o.guard s.gd = true) (hs : s.gd = none) (y : Nat → Option Bool) : Region.wanted o y = true := by
  rw [hs] at hg
  unfold chkGd at hg
  split at hg
  · next h _ => simp [Region.wanted, h]
  · next e => cases e
  · cases hg

theorem ok_skip {o : Oper} {s : AStm} {g0 : Gh} {w0 : World} (hd : act.defers = []) (hN : act.tmps.size = N) (hdst : o.dst = s.dst) (hlt : ∀ d, s.dst = some d → d < N) (hf : FrameOk P g w act.tmps fr) :
    FrameOk P g w (act.put o.dst undef).tmps (put s.dst (.tup []) fr) ∧ (act.put o.dst undef).defers = [] ∧ (act.put o.dst undef).tmps.size = N := by
  obtain ⟨p1, p2⟩ := put_size act o.dst undef
  refine ⟨?_, by rw [p2, hd], by rw [p1, hN]⟩
  rw [hdst]
  cases hsd : s.dst with
  | none => exact hf
  | some d => exact hf.put (by rw [hN]; exact hlt d hsd) (.tup [] [] (by intro a ha; simp at ha) .nil) trivial

/-- the operations of a region, one behind the other -/
theorem wops_sound {ops : Array Oper} {Q : Exit → Act → World → Prop} {g0 : Gh} {w0 : World} {K : Fr → Hp → Prop} (hQ : ∀ a w, Ok P g0 w0 N K a w → Q .normal a w) :
    ∀ (l : List Oper) (ls : List AStm), chkStms P ops N l ls = true → ∀ {g : Gh} {h : Hp} {w : World} {fr : Fr} {act : Act}, Ev g0 w0 g w → Sim P g h w → FrameOk P g w act.tmps fr → act.defers = [] → act.tmps.size = N → WOps P ls fr h K → wpList P ops Q l act w
  | [], [], _, g, h, w, fr, act, hev, hs, hf, hd, hN, hw => hQ _ _ ⟨g, fr, h, hw, hev, hs, hf, hd, hN⟩
  | [], _ :: _, hc, _, _, _, _, _, _, _, _, _, _, _ => by simp [chkStms] at hc
  | _ :: _, [], hc, _, _, _, _, _, _, _, _, _, _, _ => by simp [chkStms] at hc
  | o :: l, s :: ls, hc, g, h, w, fr, act, hev, hs, hf, hd, hN, hw => by
    simp only [chkStms, chkStm, Bool.and_eq_true, decide_eq_true_eq] at hc
    obtain ⟨⟨⟨⟨hc1, hc2⟩, hc3⟩, hc4⟩, hcr⟩ := hc
    have hlt : ∀ d, s.dst = some d → d < N := fun d hd' => by rw [hd'] at hc2; simpa using hc2
    have hlto : ∀ d, o.dst = some d → d < N := fun d hd' => hlt d (by rw [← hc1]; exact hd')
    -- the operation comes up
    have key : ∀ fr', FrameOk P g w act.tmps fr' → wop P s.dst s.op fr' h (fun fr h => WOps P ls fr h K) → o.wp P act w (wpList P ops Q l) Q := by
      intro fr' hf' hw'
      rw [← hc1] at hw'
      refine Oper.wp_mono (fun a1 w1 h1 => ?_) (wop_sound (Q := Q) hs hf' hd hN hlto hc4 hw')
      obtain ⟨g1, fr1, h1', q1, q2, q3, q4, q5, q6⟩ := h1
      exact wops_sound hQ l ls hcr (hev.trans q2) q3 q4 q5 q6 q1
    have skip : ∀ fr', FrameOk P g w act.tmps fr' → WOps P ls (put s.dst (.tup []) fr') h K → wpList P ops Q l (act.put o.dst undef) w := by
      intro fr' hf' hw'
      obtain ⟨r1, r2, r3⟩ := ok_skip (g0 := g) (w0 := w) (s := s) hd hN hc1 hlt hf'
      exact wops_sound hQ l ls hcr hev hs r1 r2 r3 hw'
    unfold wpList
    cases hgd : s.gd with
    | none =>
      rw [if_pos (wanted_none hc3 hgd _)]
      simp only [WOps, hgd] at hw
      exact .inl (key fr hf hw)
    | some qw =>
      obtain ⟨q, want⟩ := qw
      obtain ⟨w1, w2⟩ := wanted_of hc3 hgd hf
      simp only [WOps, hgd] at hw
      split at hw
      · next p hp =>
        rw [w1 p hp]
        by_cases e : p = want
        · subst e
          simp only [beq_self_eq_true, if_true]
          exact .inl (key _ (hf.same hp rfl) (hw.1 rfl))
        · have e' : p = !want := by cases p <;> cases want <;> simp_all
          have e2 : (p == want) = false := by simpa using e
          rw [e2]
          simp only [Bool.false_eq_true, if_false]
          exact skip _ (hf.same hp (by rw [e'])) (hw.2 e')
      · next hp =>
        rw [w2 hp]
        simp only [Bool.false_eq_true, if_false]
        exact skip fr hf hw
      · exact hw.elim
end

end Go.Proofs.Ytajpibdchgflnaa
