/- Texts of one proof, laid together: Ab13. -/
import Derived.Test.YtpiofcjkekpboaaMA8
import Derived.Scope
set_option maxRecDepth 100000
set_option maxHeartbeats 16000000

set_option linter.unusedSimpArgs false
set_option linter.unusedVariables false
/- The abstract layer, fourteenth part: code does what it is said to do; functions. -/
namespace Go.Proofs.Ytpiofcjkekpboaa
open Go.RowKit Go.Lib

def directB (ops : Array Oper) (j i : Nat) : Bool := ((ops[i]?).map fun o => o.after.any fun e => Region.binds .any e && e.on == j).getD false
def reachB (ops : Array Oper) : Nat → Nat → Nat → Bool
 | 0, _, _ => false
 | f + 1, j, i => directB ops j i || (List.range i).any fun m => directB ops m i && reachB ops f j m
def stmAt (ls : List AStm) (i : Nat) : AStm := ls.getD i ⟨none, none, .mv (.c .nilp), none⟩
def drawP (ops : Array Oper) (ls : List AStm) (k : Nat) : Bool :=
 (List.range ops.size).all fun i =>
  (((ops[i]?).map fun o => o.after.all fun e => !Region.binds .any e || decide (e.on < i)).getD true) &&
  (List.range i).all fun j => decide (i = k ∨ j = k) || commB (stmAt ls j) (stmAt ls i) || reachB ops i j i
def drawB (ops : Array Oper) (ls : List AStm) : Bool := drawP ops ls ops.size
def isX : AOp → Bool
 | .call _ _ | .apc _ _ _ _ _ _ => true
 | _ => false
def trivB (d : Option Nat) (o : AOp) (ds : List Nat) : AStm → Bool
 | ⟨some k, none, .mv (.c _), none⟩ => !(opR o).contains k && decide (d ≠ some k)
 | ⟨some k, none, .fld _ (.t q), none⟩ => (!(opR o).contains k && decide (d ≠ some k)) && (!ds.contains q && decide (d ≠ some q))
 | _ => false
def mvS : AStm → Bool
 | ⟨_, none, .mv _, none⟩ => true
 | ⟨_, none, .ext _ _, none⟩ => true
 | ⟨_, none, .fld _ _, none⟩ => true
 | ⟨_, none, .store _ _ _, none⟩ => true
 | _ => false
def drawX (ops : Array Oper) (ls : List AStm) (k : Nat) (d : Option Nat) (o : AOp) : Bool :=
 (isX o && decide (k < ops.size)) && (drawP ops ls k && ((List.range k).all (fun j => reachB ops k j k) && (List.range ops.size).all (fun i => decide (i ≤ k) || reachB ops i k i || trivB d o (ls.filterMap (·.dst)) (stmAt ls i))))

def chk (P : Program) (N : Nat) : Code → ACode → Bool
 | c, .keep _ a => chk P N c a
 | c, .holes _ a => chk P N c a
 | c, .nms _ a => chk P N c a
 | c, .nmo _ _ a => chk P N c a
 | c, .upg _ _ e sz a => decide ((P.info? e).map (·.size) = some sz) && chk P N c a
 | _, .dead => true
 | .scope c, .scope a => chk P N c a
 | .skip, .skip => true
 | .region _ ops false, .ops l => chkStms P ops N ops.toList l
 | .region _ ops true, .draw _ l => chkStms P ops N ops.toList l && drawB ops l
 | .region _ ops true, .drax _ pre d o post => chkStms P ops N ops.toList (pre ++ ⟨d, none, o, none⟩ :: post) && (post.all mvS && drawX ops (pre ++ ⟨d, none, o, none⟩ :: post) pre.length d o)
 | .seq c d, .seq a b => chk P N c a && chk P N d b
 | .cond x c d, .cond y a b => chkOpd x y && chk P N c a && chk P N d b
 | .block i c, .block j a => i == j && chk P N c a
 | .loop c, .loop _ a => chk P N c a
 | .exit i, .exit j => i == j
 | .ret, .ret => true
 | _, _ => false
def chkRV (P : Program) : List ResultVar → List RV → Bool
 | [], [] => true
 | .tmp k :: r, .t j :: r' => k == j && chkRV P r r'
 | .cell k t :: r, .c j sz :: r' => k == j && (match P.info? t, P.underlying t with
   | some i, some d => if isAggT d then decide (sz = some i.size) else decide (sz = none)
   | _, _ => false) && chkRV P r r'
 | _, _ => false
def chkFn (P : Program) (f : FuncId) (F : AFn) : Bool :=
 match P.funcs[f]? with
 | some fn => !(fn.name == "runtime.NumGoroutine") && fn.ntmps == F.N && chkRV P fn.results.toList F.rs && (match fn.body with
  | some c => chk P F.N c F.code
  | none => false)
 | none => false

section
variable {P : Program} {g : Gh} {h : Hp} {w : World} {fr : Fr} {act : Act} {N : Nat}

theorem chkStms_length {ops : Array Oper} : ∀ {l : List Oper} {ls : List AStm}, chkStms P ops N l ls = true → l.length = ls.length
 | [], [], _ => rfl
 | [], _ :: _, h => by simp [chkStms] at h
 | _ :: _, [], h => by simp [chkStms] at h
 | _ :: _, _ :: _, h => by simp only [chkStms, Bool.and_eq_true] at h; simp [chkStms_length h.2]
theorem chkStms_at {ops : Array Oper} : ∀ {l : List Oper} {ls : List AStm}, chkStms P ops N l ls = true → ∀ (i : Nat) (o : Oper), l[i]? = some o → chkStm P ops N o (stmAt ls i) = true
 | [], _, _, i, o, h => by simp at h
 | _ :: _, [], hc, i, o, h => by simp [chkStms] at hc
 | o' :: l, s :: ls, hc, i, o, h => by
  simp only [chkStms, Bool.and_eq_true] at hc
  cases i with
  | zero => simp at h; subst h; simpa [stmAt] using hc.1
  | succ i => simpa [stmAt] using chkStms_at hc.2 i o (by simpa using h)

theorem reach_listed {ops : Array Oper} {listed : Array Bool} (hcl : ∀ i o, ops[i]? = some o → listed.getD i true = true → ∀ e ∈ o.after, Region.binds .any e = true → listed.getD e.on false = true) (hsz : listed.size = ops.size) :
  ∀ (f j i : Nat), reachB ops f j i = true → (∀ o, ops[i]? = some o → ∀ e ∈ o.after, Region.binds .any e = true → listed.getD e.on false = true) → listed.getD j false = true
 | 0, j, i, h, _ => by simp [reachB] at h
 | f + 1, j, i, h, hi => by
  have hdir : ∀ m, directB ops m i = true → listed.getD m false = true := by
   intro m hm
   unfold directB at hm
   cases ho : ops[i]? with
   | none => rw [ho] at hm; simp at hm
   | some o =>
    rw [ho] at hm
    simp only [Option.map_some, Option.getD_some, Array.any_eq_true] at hm
    obtain ⟨q, hq, he⟩ := hm
    simp only [Bool.and_eq_true, beq_iff_eq] at he
    have := hi o ho o.after[q] (by simp) he.1
    rw [he.2] at this
    exact this
  simp only [reachB, Bool.or_eq_true] at h
  rcases h with h | h
  ·exact hdir j h
  ·obtain ⟨m, _, hm⟩ := List.any_eq_true.1 h
   simp only [Bool.and_eq_true] at hm
   have hml := hdir m hm.1
   refine reach_listed hcl hsz f j m hm.2 (fun o ho => hcl m o ho ?_)
   have hlt : m < listed.size := by
    rcases Nat.lt_or_ge m listed.size with h' | h'
    ·exact h'
    ·simp [Array.getD_eq_getD_getElem?, Array.getElem?_eq_none h'] at hml
   simp only [Array.getD_eq_getD_getElem?, Array.getElem?_eq_getElem hlt, Option.getD_some] at hml ⊢
   exact hml

def rem (n : Nat) (listed : Array Bool) : List Nat := (List.range n).filter fun j => !listed.getD j true
theorem rem_cut {n i : Nat} {listed : Array Bool} {pre post : List Nat} (hsz : listed.size = n) (hi : i < n) (hpp : rem n listed = pre ++ i :: post) : rem n (listed.setIfInBounds i true) = pre ++ post ∧ (∀ j ∈ pre, j < i ∧ listed.getD j true = false) ∧ ∀ j ∈ post, i < j := by
 have hpw : (rem n listed).Pairwise (· < ·) := List.Pairwise.filter _ List.pairwise_lt_range
 rw [hpp] at hpw
 obtain ⟨hp1, hp2, hp3⟩ := List.pairwise_append.1 hpw
 have hnotpost : ∀ j ∈ post, j ≠ i := fun j hj e => by
  have := (List.pairwise_cons.1 hp2).1 j hj
  omega
 have hnotpre : ∀ j ∈ pre, j ≠ i := fun j hj e => by
  have := hp3 j hj i (by simp)
  omega
 refine ⟨?_, fun j hj => ⟨hp3 j hj i (by simp), ?_⟩, (List.pairwise_cons.1 hp2).1⟩
 ·have e1 : rem n (listed.setIfInBounds i true) = (rem n listed).filter fun j => decide (j ≠ i) := by
   unfold rem
   rw [List.filter_filter]
   apply List.filter_congr
   intro j hj
   simp only [List.mem_range] at hj
   by_cases e : j = i
   ·subst e
    simp [Array.getD_eq_getD_getElem?, hsz, hj]
   ·rw [getD_set_ne true (fun e' => e e'.symm)]
    simp [e]
  rw [e1, hpp, List.filter_append, List.filter_cons]
  simp only [ne_eq, not_true_eq_false, decide_false, Bool.false_eq_true, if_false]
  rw [List.filter_eq_self.2 (fun j hj => by simp [hnotpre j hj]), List.filter_eq_self.2 (fun j hj => by simp [hnotpost j hj])]
 ·have : j ∈ rem n listed := by rw [hpp]; simp [hj]
  simp only [rem, List.mem_filter] at this
  simpa using this.2

theorem rem_split {n i : Nat} {listed : Array Bool} (hsz : listed.size = n) (hi : i < n) (hl : listed.getD i true = false) : ∃ pre post, rem n listed = pre ++ i :: post ∧ rem n (listed.setIfInBounds i true) = pre ++ post ∧ ∀ j ∈ pre, j < i ∧ listed.getD j true = false := by
 have hmem : i ∈ rem n listed := by simp only [rem, List.mem_filter, List.mem_range]; exact ⟨hi, by rw [hl]; rfl⟩
 obtain ⟨pre, post, hpp⟩ := List.append_of_mem hmem
 exact ⟨pre, post, hpp, (rem_cut hsz hi hpp).1, (rem_cut hsz hi hpp).2.1⟩
theorem mem_rem {n i : Nat} {listed : Array Bool} : i ∈ rem n listed ↔ i < n ∧ listed.getD i true = false := by
 simp [rem]
theorem ready_first {ops : Array Oper} {ls : List AStm} {listed : Array Bool} {k : Nat} (hdr : drawP ops ls k = true) (hsz : listed.size = ops.size) {i : Nat} {rest : List Nat} (hrem : rem ops.size listed = i :: rest) : i ∈ Region.ready .any ops listed := by
 have hdi := List.all_eq_true.1 hdr
 have hi : i ∈ rem ops.size listed := by rw [hrem]; simp
 simp only [rem, List.mem_filter, List.mem_range] at hi
 have hpw : (rem ops.size listed).Pairwise (· < ·) := List.Pairwise.filter _ List.pairwise_lt_range
 rw [hrem] at hpw
 have hmin := (List.pairwise_cons.1 hpw).1
 have hmem : i ∈ Region.ready .any ops listed := by
  refine mem_ready.2 ⟨by simpa using hi.2, ops[i]'hi.1, by simp [hi.1], fun e he hb => ?_⟩
  have h1 := hdi i (by simpa using hi.1)
  simp only [Bool.and_eq_true] at h1
  have h2 := h1.1
  rw [show ops[i]? = some (ops[i]'hi.1) by simp [hi.1]] at h2
  simp only [Option.map_some, Option.getD_some, Array.all_eq_true] at h2
  obtain ⟨q, hq, rfl⟩ := Array.mem_iff_getElem.1 he
  have h3 := h2 q hq
  rw [hb] at h3
  simp only [Bool.not_true, Bool.false_or, decide_eq_true_eq] at h3
  -- e.on is below i, so it is listed
  cases hl : listed.getD ((ops[i]'hi.1).after[q]).on true with
  | true =>
   have hlt : ((ops[i]'hi.1).after[q]).on < listed.size := by rw [hsz]; have := hi.1; omega
   simp only [Array.getD_eq_getD_getElem?, Array.getElem?_eq_getElem hlt, Option.getD_some] at hl ⊢
   exact hl
  | false =>
   exfalso
   have : ((ops[i]'hi.1).after[q]).on ∈ rem ops.size listed := by
    simp only [rem, List.mem_filter, List.mem_range]
    exact ⟨by have := hi.1; omega, by rw [hl]; rfl⟩
   rw [hrem] at this
   rcases List.mem_cons.1 this with e | e
   ·omega
   ·have := hmin _ e; omega
 exact hmem

theorem any_sound {ops : Array Oper} {ls : List AStm} {Q : Exit → Act → World → Prop} {g0 : Gh} {w0 : World} {K : Fr → Hp → Prop} (hchk : chkStms P ops N ops.toList ls = true) {k : Nat} (hdr : drawP ops ls k = true)
  (hQ : ∀ a w, Ok P g0 w0 N K a w → Q .normal a w) (hK : ∀ fr fr' h, Feq fr fr' → K fr h → K fr' h) :
  ∀ (fuel : Nat) (listed : Array Bool), (rem ops.size listed).length = fuel → listed.size = ops.size → listed.getD k true = true →
   (∀ i o, ops[i]? = some o → listed.getD i true = true → ∀ e ∈ o.after, Region.binds .any e = true → listed.getD e.on false = true) →
   ∀ {g : Gh} {h : Hp} {w : World} {fr fr' : Fr} {h' : Hp} {act : Act}, Ev g0 w0 g w → Sim P g h w → FrameOk P g w act.tmps fr → act.defers = [] → act.tmps.size = N → VRun P ((rem ops.size listed).map (stmAt ls)) fr h fr' h' → K fr' h' → wpAny P .any ops Q fuel listed act w := by
 have hdi := List.all_eq_true.1 hdr
 intro fuel
 induction fuel with
 | zero =>
  intro listed hlen hsz hkl hcl g h w fr fr' h' act hev hs hf hd hN hr hk
  have hnil : rem ops.size listed = [] := List.eq_nil_of_length_eq_zero hlen
  refine ⟨?_, ?_⟩
  ·apply List.eq_nil_iff_forall_not_mem.2
   intro i hi
   obtain ⟨h1, o, ho, _⟩ := mem_ready.1 hi
   have hlt : i < ops.size := (Array.getElem?_eq_some_iff.1 ho).1
   have : i ∈ rem ops.size listed := by simp only [rem, List.mem_filter, List.mem_range]; exact ⟨hlt, by rw [h1]; rfl⟩
   rw [hnil] at this
   cases this
  ·rw [hnil] at hr
   obtain ⟨rfl, rfl⟩ := hr
   exact hQ _ _ ⟨g, fr', h', hk, hev, hs, hf, hd, hN⟩
 | succ fuel ih =>
  intro listed hlen hsz hkl hcl g h w fr fr' h' act hev hs hf hd hN hr hk
  refine ⟨?_, ?_⟩
  ·intro hready
   exfalso
   -- the first one is ready
   cases hrem : rem ops.size listed with
   | nil => rw [hrem] at hlen; simp at hlen
   | cons i rest =>
    have hmem := ready_first hdr hsz hrem
    rw [hready] at hmem
    cases hmem
  ·intro i hi
   obtain ⟨hil, o, ho, hall⟩ := mem_ready.1 hi
   have hlt : i < ops.size := (Array.getElem?_eq_some_iff.1 ho).1
   obtain ⟨pre, post, hpp, hpp', hpre⟩ := rem_split hsz hlt hil
   have hcomm : ∀ s ∈ pre.map (stmAt ls), commB s (stmAt ls i) = true := by
    intro s hs'
    obtain ⟨j, hj, rfl⟩ := List.mem_map.1 hs'
    obtain ⟨hji, hjl⟩ := hpre j hj
    have h1 := hdi i (by simpa using hlt)
    simp only [Bool.and_eq_true] at h1
    have h2 := List.all_eq_true.1 h1.2 j (by simpa using hji)
    rcases Bool.or_eq_true_iff.1 h2 with h3 | h3
    ·rcases Bool.or_eq_true_iff.1 h3 with h3 | h3
     ·rcases of_decide_eq_true h3 with e | e
      ·rw [e] at hil; rw [hkl] at hil; cases hil
      ·rw [e] at hjl; rw [hkl] at hjl; cases hjl
     ·exact h3
    ·exfalso
     have h4 := reach_listed hcl hsz i j i h3 (fun o' ho' => by rw [ho] at ho'; simp only [Option.some.injEq] at ho'; subst ho'; exact hall)
     have hjs : j < listed.size := by rw [hsz]; omega
     simp only [Array.getD_eq_getD_getElem?, Array.getElem?_eq_getElem hjs, Option.getD_some] at h4 hjl
     rw [hjl] at h4
     cases h4
   rw [hpp, List.map_append, List.map_cons] at hr
   obtain ⟨fr'', ⟨fr1, h1, hst, hru⟩, hfe⟩ := vrun_front hcomm hr
   have hk' := hK _ _ _ hfe hk
   rw [← List.map_append, ← hpp'] at hru
   -- what the state is like behind it
   have hsz' : (listed.setIfInBounds i true).size = ops.size := by simp [hsz]
   have hlen' : (rem ops.size (listed.setIfInBounds i true)).length = fuel := by
    rw [hpp'] ; rw [hpp] at hlen
    simp only [List.length_append, List.length_cons] at hlen ⊢
    omega
   have hkl' : (listed.setIfInBounds i true).getD k true = true := by
    by_cases e : i = k
    ·subst e; rw [hil] at hkl; cases hkl
    ·rw [getD_set_ne true e]; exact hkl
   have hcl' : ∀ i' o', ops[i']? = some o' → (listed.setIfInBounds i true).getD i' true = true → ∀ e ∈ o'.after, Region.binds .any e = true → (listed.setIfInBounds i true).getD e.on false = true := by
    intro i' o' ho' hl' e he hb
    refine getD_set_true ?_
    by_cases e1 : i' = i
    ·subst e1
     rw [ho] at ho'
     simp only [Option.some.injEq] at ho'
     subst ho'
     exact hall e he hb
    ·rw [getD_set_ne true (fun e2 => e1 e2.symm)] at hl'
     exact hcl i' o' ho' hl' e he hb
   have hcs := chkStms_at hchk i o (by simpa using ho)
   simp only [chkStm, Bool.and_eq_true, decide_eq_true_eq] at hcs
   obtain ⟨⟨⟨hc1, hc2⟩, hc3⟩, hc4⟩ := hcs
   have hltd : ∀ d, (stmAt ls i).dst = some d → d < N := fun d hd' => by rw [hd'] at hc2; simpa using hc2
   unfold wpOp
   rw [ho]
   simp only
   cases hst with
   | run a h' hg he =>
    have hwant : Region.wanted o (yielded ops act.tmps) = true := by
     rcases hg with hg | ⟨q, want, hq, hl⟩
     ·exact wanted_none hc3 hg _
     ·rw [(wanted_of hc3 hq hf).1 want hl]; simp
    rw [if_pos hwant]
    left
    refine Oper.wp_mono (fun a1 w1 hok => ?_) (effA_sound (Q := Q) hs hf hd hN (fun d hd' => hltd d (by rw [← hc1]; exact hd')) hc4 he)
    obtain ⟨g2, fr2, h2, ⟨rfl, rfl⟩, q2, q3, q4, q5, q6⟩ := hok
    rw [← hc1] at hru
    exact ih _ hlen' hsz' hkl' hcl' (hev.trans q2) q3 q4 q5 q6 hru hk'
   | skip hg =>
    obtain ⟨q, want, hq, hl⟩ := hg
    have hwant : Region.wanted o (yielded ops act.tmps) = false := by
     rcases hl with hl | hl
     ·rw [(wanted_of hc3 hq hf).1 _ hl]; cases want <;> rfl
     ·exact (wanted_of hc3 hq hf).2 hl
    rw [hwant]
    simp only [Bool.false_eq_true, if_false]
    obtain ⟨r1, r2, r3⟩ := ok_skip (g0 := g) (w0 := w) (s := stmAt ls i) hd hN hc1 hltd hf
    exact ih _ hlen' hsz' hkl' hcl' hev hs r1 r2 r3 hru hk'

theorem wopX_congr {d : Option Nat} {o : AOp} {fr fr' : Fr} {C : Fr → Hp → Prop} (hx : isX o = true) (ha : ∀ k, k ∈ opR o → lk fr' k = lk fr k) (hw : wop P d o fr h C) : wop P d o fr' h (fun fr2 h2 => ∃ a, C (put d a fr) h2 ∧ fr2 = put d a fr') := by
 cases o with
 | call f l =>
  have h1 : ev fr' f = ev fr f := ev_congr fun k hk => ha k (by simp only [opR, List.mem_append]; exact .inl hk)
  have h2 : evs fr' l = evs fr l := evs_congr fun k hk => ha k (by simp only [opR, List.mem_append]; exact .inr hk)
  simp only [wop, h1, h2] at hw ⊢
  split at hw
  ·next f' caps l' e1 e2 => exact hw.mono fun a h' hc => ⟨a, hc, rfl⟩
  ·next f' caps l' e1 e2 => exact hw.mono fun a h' hc => ⟨a, hc, rfl⟩
  ·exact hw.elim
 | apc e sz b z x y =>
  have h1 : ev fr' x = ev fr x := ev_congr fun k hk => ha k (by simp only [opR, List.mem_append]; exact .inl hk)
  have h2 : ev fr' y = ev fr y := ev_congr fun k hk => ha k (by simp only [opR, List.mem_append]; exact .inr hk)
  simp only [wop, h1, h2] at hw ⊢
  split at hw
  ·next n l m l' e1 e2 =>
   exact ⟨hw.1, fun e => ⟨_, hw.2.1 e, rfl⟩, fun e k => ⟨_, hw.2.2 e k, rfl⟩⟩
  ·next id n c m l' e1 e2 =>
   split at hw
   ·next l e3 e4 =>
    exact ⟨hw.1, fun e => ⟨_, hw.2.1 e, rfl⟩, fun e k => ⟨_, hw.2.2 e k, rfl⟩⟩
   ·exact hw.elim
  ·exact hw.elim
 | _ => simp [isX] at hx
theorem wopX_mono {d : Option Nat} {o : AOp} {fr : Fr} {C C' : Fr → Hp → Prop} (hx : isX o = true) (hm : ∀ f h, C f h → C' f h) (hw : wop P d o fr h C) : wop P d o fr h C' := by
 cases o with
 | call f l =>
  simp only [wop] at hw ⊢
  split at hw
  ·next f' caps l' e1 e2 => exact hw.mono fun a h' hc => hm _ _ hc
  ·next f' caps l' e1 e2 => exact hw.mono fun a h' hc => hm _ _ hc
  ·exact hw.elim
 | apc e sz b z x y =>
  simp only [wop] at hw ⊢
  split at hw
  ·next n l m l' e1 e2 =>
   exact ⟨hw.1, fun e => hm _ _ (hw.2.1 e), fun e k => hm _ _ (hw.2.2 e k)⟩
  ·next id n c m l' e1 e2 =>
   split at hw
   ·next l e3 e4 =>
    exact ⟨hw.1, fun e => hm _ _ (hw.2.1 e), fun e k => hm _ _ (hw.2.2 e k)⟩
   ·exact hw.elim
  ·exact hw.elim
 | _ => simp [isX] at hx
theorem feq_put {d : Option Nat} {a : AV} {fr fr' : Fr} (he : Feq fr fr') : Feq (put d a fr) (put d a fr') := fun k => by
 rw [lk_put, lk_put, he k]
theorem VOps_feq {K : Fr → Hp → Prop} (hK : ∀ fr fr' h, Feq fr fr' → K fr h → K fr' h) : ∀ {post : List AStm} {fr fr' : Fr} {h : Hp}, post.all mvS = true → Feq fr fr' → VOps P post fr h K → VOps P post fr' h K
 | [], fr, fr', h, _, he, hv => hK _ _ _ he hv
 | s :: r, fr, fr', h, hp, he, hv => by
  simp only [List.all_cons, Bool.and_eq_true] at hp
  obtain ⟨hs, hr⟩ := hp
  unfold mvS at hs
  split at hs
  ·next d x =>
   have h1 : ev fr' x = ev fr x := ev_congr fun k _ => he k
   simp only [VOps, effA, eff, val, h1] at hv ⊢
   split at hv
   ·next a e1 => exact VOps_feq hK hr (feq_put he) hv
   ·exact hv.elim
  ·next d i x =>
   have h1 : ev fr' x = ev fr x := ev_congr fun k _ => he k
   simp only [VOps, effA, eff, val, h1] at hv ⊢
   split at hv
   ·next l e1 =>
    split at hv
    ·next a e2 => exact VOps_feq hK hr (feq_put he) hv
    ·exact hv.elim
   ·exact hv.elim
  ·next d off x =>
   have h1 : ev fr' x = ev fr x := ev_congr fun k _ => he k
   simp only [VOps, effA, eff, val, h1] at hv ⊢
   split at hv
   ·next id q e1 => exact VOps_feq hK hr (feq_put he) hv
   ·next l e1 => exact VOps_feq hK hr (feq_put he) hv
   ·next Q e1 => exact ⟨hv.1, VOps_feq hK hr (feq_put he) hv.2⟩
   ·exact hv.elim
  ·next d n a x =>
   have h1 : ev fr' a = ev fr a := ev_congr fun k _ => he k
   have h2 : ev fr' x = ev fr x := ev_congr fun k _ => he k
   simp only [VOps, effA, eff, h1, h2] at hv ⊢
   split at hv
   ·next id off v e1 e2 =>
    split at hv
    ·next l e3 => exact ⟨hv.1, VOps_feq hK hr (feq_put he) hv.2⟩
    ·exact hv.elim
   ·exact hv.elim
  ·cases hs
def tv (fr : Fr) : AStm → Option AV
 | ⟨_, none, .mv (.c v), none⟩ => some v
 | ⟨_, none, .fld off (.t q), none⟩ => match ev fr (.t q) with
  | some (.ptr id j) => some (.ptr id (j + off))
  | _ => none
 | _ => none
theorem tv_feq {fr fr' : Fr} (s : AStm) (he : Feq fr fr') : tv fr' s = tv fr s := by
 unfold tv
 split
 ·rfl
 ·next d off q =>
  have : ev fr' (.t q) = ev fr (.t q) := ev_congr fun k _ => he k
  rw [this]
 ·rfl
theorem tv_put {d : Option Nat} {o : AOp} {ds : List Nat} {s : AStm} {e : Option Nat} {a : AV} {fr : Fr} (ht : trivB d o ds s = true) (he : e = d ∨ ∃ k, e = some k ∧ k ∈ ds) : tv (put e a fr) s = tv fr s := by
 unfold trivB at ht
 split at ht
 ·rfl
 ·next k off q =>
  simp only [Bool.and_eq_true, Bool.not_eq_true', List.contains_eq_mem, decide_eq_false_iff_not, decide_eq_true_eq] at ht
  have : ev (put e a fr) (.t q) = ev fr (.t q) := ev_congr fun j hj => by
   simp only [opdR, List.mem_singleton] at hj
   subst hj
   rw [lk_put]
   rcases he with rfl | ⟨k', rfl, hk⟩
   ·rw [if_neg ht.2.2]
   ·rw [if_neg (fun e => ht.2.1 (by injection e with e; rw [← e]; exact hk))]
  simp only [tv, this]
 ·cases ht
theorem triv_cases {d : Option Nat} {o : AOp} {ds : List Nat} {s : AStm} (ht : trivB d o ds s = true) : ∃ k, s.dst = some k ∧ k ∉ opR o ∧ d ≠ some k := by
 unfold trivB at ht
 split at ht
 ·next k v => simp only [Bool.and_eq_true, Bool.not_eq_true', List.contains_eq_mem, decide_eq_false_iff_not, decide_eq_true_eq] at ht; exact ⟨k, rfl, ht.1, ht.2⟩
 ·next k off q => simp only [Bool.and_eq_true, Bool.not_eq_true', List.contains_eq_mem, decide_eq_false_iff_not, decide_eq_true_eq] at ht; exact ⟨k, rfl, ht.1.1, ht.1.2⟩
 ·cases ht
theorem fOk_feq {fr fr' : Fr} (he : Feq fr fr') : ∀ {l : List AStm}, fOk fr l → fOk fr' l
 | [], h => h
 | s :: r, h => by
  unfold fOk at h ⊢
  split at h
  ·trivial
  ·next d off x r' e =>
   injection e with e1 e2
   subst e1; subst e2
   have h1 : ev fr' x = ev fr x := ev_congr fun k _ => he k
   simp only [h1]
   split at h
   ·exact fOk_feq he h
   ·exact h.elim
  ·next s' r' hne e =>
   injection e with e1 e2
   subst e1; subst e2
   exact fOk_feq he h
theorem fOk_tv {d : Option Nat} {o : AOp} {ds : List Nat} {fr : Fr} : ∀ {l : List AStm}, fOk fr l → ∀ s ∈ l, trivB d o ds s = true → ∃ v, tv fr s = some v
 | [], _, s, hs, _ => by simp at hs
 | s' :: r, h, s, hs, ht => by
  rcases List.mem_cons.1 hs with rfl | hs
  ·unfold trivB at ht
   split at ht
   ·exact ⟨_, rfl⟩
   ·next k off q =>
    simp only [fOk] at h
    split at h
    ·next e3 => exact ⟨_, by simp only [tv, e3]; rfl⟩
    ·exact h.elim
   ·cases ht
  ·refine fOk_tv (l := r) ?_ s hs ht
   unfold fOk at h
   split at h
   ·next e => cases e
   ·next e => injection e with e1 e2; subst e2; split at h; exact h; exact h.elim
   ·next e => injection e with e1 e2; subst e2; exact h
theorem triv_step {s : AStm} {v : AV} {fr fra : Fr} {h ha : Hp} (ht : tv fr s = some v) (hs : VStep P s fr h fra ha) : fra = put s.dst v fr ∧ ha = h := by
 unfold tv at ht
 split at ht
 ·next d v' =>
  injection ht with ht
  subst ht
  cases hs with
  | run a h' hg he =>
   simp only [Eff1A, effA, eff, val, ev, kv] at he
   obtain ⟨rfl, rfl⟩ := he
   exact ⟨rfl, rfl⟩
  | skip hg => obtain ⟨q, w, hq, _⟩ := hg; cases hq
 ·next d off q =>
  split at ht
  ·next id j e1 =>
   injection ht with ht
   subst ht
   cases hs with
   | run a h' hg he =>
    simp only [Eff1A, effA, eff, val, e1, kv] at he
    obtain ⟨rfl, rfl⟩ := he
    exact ⟨rfl, rfl⟩
   | skip hg => obtain ⟨q, w, hq, _⟩ := hg; cases hq
  ·cases ht
 ·cases ht
theorem triv_run {s : AStm} {v : AV} {fr : Fr} (ht : tv fr s = some v) (h : Hp) : VStep P s fr h (put s.dst v fr) h := by
 unfold tv at ht
 split at ht
 ·next d v' =>
  injection ht with ht
  subst ht
  exact .run v' h (.inl rfl) (by simp [Eff1A, effA, eff, val, ev, kv])
 ·next d off q =>
  split at ht
  ·next id j e1 =>
   injection ht with ht
   subst ht
   exact .run _ h (.inl rfl) (by simp [Eff1A, effA, eff, val, e1, kv])
  ·cases ht
 ·cases ht
theorem vstep_op {ops : Array Oper} {s : AStm} {i : Nat} {o : Oper} {Q : Exit → Act → World → Prop} {K : Act → World → Prop} {fra : Fr} {ha : Hp} (ho : ops[i]? = some o) (hcs : chkStm P ops N o s = true) (hs : Sim P g h w) (hf : FrameOk P g w act.tmps fr) (hd : act.defers = []) (hN : act.tmps.size = N) (hst : VStep P s fr h fra ha)
  (hk : ∀ g2 w2 act2, Ev g w g2 w2 → Sim P g2 ha w2 → FrameOk P g2 w2 act2.tmps fra → act2.defers = [] → act2.tmps.size = N → K act2 w2) : wpOp P ops Q i K act w := by
 simp only [chkStm, Bool.and_eq_true, decide_eq_true_eq] at hcs
 obtain ⟨⟨⟨hc1, hc2⟩, hc3⟩, hc4⟩ := hcs
 have hltd : ∀ d, s.dst = some d → d < N := fun d hd' => by rw [hd'] at hc2; simpa using hc2
 unfold wpOp
 rw [ho]
 simp only
 cases hst with
 | run a h' hg he =>
  have hwant : Region.wanted o (yielded ops act.tmps) = true := by
   rcases hg with hg | ⟨q, want, hq, hl⟩
   ·exact wanted_none hc3 hg _
   ·rw [(wanted_of hc3 hq hf).1 want hl]; simp
  rw [if_pos hwant]
  left
  refine Oper.wp_mono (fun a1 w1 hok => ?_) (effA_sound (Q := Q) hs hf hd hN (fun d hd' => hltd d (by rw [← hc1]; exact hd')) hc4 he)
  obtain ⟨g2, fr2, h2, ⟨rfl, rfl⟩, q2, q3, q4, q5, q6⟩ := hok
  rw [hc1] at q4
  exact hk _ _ _ q2 q3 q4 q5 q6
 | skip hg =>
  obtain ⟨q, want, hq, hl⟩ := hg
  have hwant : Region.wanted o (yielded ops act.tmps) = false := by
   rcases hl with hl | hl
   ·rw [(wanted_of hc3 hq hf).1 _ hl]; cases want <;> rfl
   ·exact (wanted_of hc3 hq hf).2 hl
  rw [hwant]
  simp only [Bool.false_eq_true, if_false]
  obtain ⟨r1, r2, r3⟩ := ok_skip (g0 := g) (w0 := w) (s := s) hd hN hc1 hltd hf
  exact hk _ _ _ (.refl _ _) hs r1 r2 r3

theorem anyx_sound {ops : Array Oper} {ls : List AStm} {Q : Exit → Act → World → Prop} {g0 : Gh} {w0 : World} {K : Fr → Hp → Prop} {k : Nat} {d : Option Nat} {o : AOp} (hlk : stmAt ls k = ⟨d, none, o, none⟩) (hchk : chkStms P ops N ops.toList ls = true) (hdr : drawX ops ls k d o = true)
  (hQ : ∀ a w, Ok P g0 w0 N K a w → Q .normal a w) (hK : ∀ fr fr' h, Feq fr fr' → K fr h → K fr' h) :
  ∀ (fuel : Nat) (listed : Array Bool), (rem ops.size listed).length = fuel → listed.size = ops.size →
   (∀ i o, ops[i]? = some o → listed.getD i true = true → ∀ e ∈ o.after, Region.binds .any e = true → listed.getD e.on false = true) →
   ∀ {A B : List Nat} {g : Gh} {h : Hp} {w : World} {fr : Fr} {act : Act}, rem ops.size listed = A ++ k :: B → Ev g0 w0 g w → Sim P g h w → FrameOk P g w act.tmps fr → act.defers = [] → act.tmps.size = N →
    (∃ fr1 h1, VRun P (A.map (stmAt ls)) fr h fr1 h1 ∧ (∀ s ∈ B.map (stmAt ls), trivB d o (ls.filterMap (·.dst)) s = true → ∃ v, tv fr1 s = some v) ∧ wop P d o fr1 h1 (fun fr2 h2 => ∃ fr' h', VRun P (B.map (stmAt ls)) fr2 h2 fr' h' ∧ K fr' h')) → wpAny P .any ops Q fuel listed act w := by
 simp only [drawX, Bool.and_eq_true, decide_eq_true_eq] at hdr
 obtain ⟨⟨hisx, hkn⟩, hdp, hdpre, hdpost⟩ := hdr
 have hdi := List.all_eq_true.1 hdp
 have hdpre := List.all_eq_true.1 hdpre
 have hdpost := List.all_eq_true.1 hdpost
 intro fuel
 induction fuel with
 | zero =>
  intro listed hlen hsz hcl A B g h w fr act hrem
  rw [hrem] at hlen; simp at hlen
 | succ fuel ih =>
  intro listed hlen hsz hcl A B g h w fr act hrem hev hs hf hd hN hrx
  obtain ⟨fr1, h1, hrun, htv, hx⟩ := hrx
  refine ⟨?_, ?_⟩
  ·intro hready
   exfalso
   cases hr : rem ops.size listed with
   | nil => rw [hr] at hrem; simp at hrem
   | cons i rest =>
    have hmem := ready_first hdp hsz hr
    rw [hready] at hmem
    cases hmem
  ·intro i hi
   obtain ⟨hil, o', ho, hall⟩ := mem_ready.1 hi
   have hlt : i < ops.size := (Array.getElem?_eq_some_iff.1 ho).1
   obtain ⟨_, hA, hB⟩ := rem_cut hsz hkn hrem
   have nr : ∀ j, j < ops.size → listed.getD j true = false → reachB ops i j i = true → False := by
    intro j hj hjl h3
    have h4 := reach_listed hcl hsz i j i h3 (fun o2 ho2 => by rw [ho] at ho2; simp only [Option.some.injEq] at ho2; subst ho2; exact hall)
    have hjs : j < listed.size := by rw [hsz]; exact hj
    simp only [Array.getD_eq_getD_getElem?, Array.getElem?_eq_getElem hjs, Option.getD_some] at h4 hjl
    rw [hjl] at h4
    cases h4
   have hcm : ∀ j, j < i → i ≠ k → j ≠ k → listed.getD j true = false → commB (stmAt ls j) (stmAt ls i) = true := by
    intro j hj hik hjk hjl
    have q1 := hdi i (by simpa using hlt)
    simp only [Bool.and_eq_true] at q1
    have q2 := List.all_eq_true.1 q1.2 j (by simpa using hj)
    rcases Bool.or_eq_true_iff.1 q2 with q3 | q3
    ·rcases Bool.or_eq_true_iff.1 q3 with q3 | q3
     ·rcases of_decide_eq_true q3 with e | e
      ·exact absurd e hik
      ·exact absurd e hjk
     ·exact q3
    ·exact (nr j (by omega) hjl q3).elim
   have him : i ∈ rem ops.size listed := mem_rem.2 ⟨hlt, hil⟩
   have hsz' : (listed.setIfInBounds i true).size = ops.size := by simp [hsz]
   have hlen' : (rem ops.size (listed.setIfInBounds i true)).length = fuel := by
    obtain ⟨pre, post, e1⟩ := List.append_of_mem him
    rw [(rem_cut hsz hlt e1).1]; rw [e1] at hlen
    simp only [List.length_append, List.length_cons] at hlen ⊢
    omega
   have hcl' : ∀ i' o', ops[i']? = some o' → (listed.setIfInBounds i true).getD i' true = true → ∀ e ∈ o'.after, Region.binds .any e = true → (listed.setIfInBounds i true).getD e.on false = true := by
    intro i' o2 ho' hl' e he hb
    refine getD_set_true ?_
    by_cases e1 : i' = i
    ·subst e1
     rw [ho] at ho'
     simp only [Option.some.injEq] at ho'
     subst ho'
     exact hall e he hb
    ·rw [getD_set_ne true (fun e2 => e1 e2.symm)] at hl'
     exact hcl i' o2 ho' hl' e he hb
   have hcs := chkStms_at hchk i o' (by simpa using ho)
   have hin := him
   rw [hrem] at hin
   simp only [List.mem_append, List.mem_cons] at hin
   rcases hin with hin | rfl | hin
   · -- one of those before
    have hik := (hA i hin).1
    obtain ⟨A1, A2, rfl⟩ := List.append_of_mem hin
    have e1 : rem ops.size listed = A1 ++ i :: (A2 ++ k :: B) := by rw [hrem]; simp
    obtain ⟨c1, c2, c3⟩ := rem_cut hsz hlt e1
    rw [List.map_append, List.map_cons] at hrun
    obtain ⟨fr2, ⟨fra, ha, hst, hru⟩, hfe⟩ := vrun_front (fun s hs' => by
     obtain ⟨j, hj, rfl⟩ := List.mem_map.1 hs'
     exact hcm j (c2 j hj).1 (by omega) (by have := (c2 j hj).1; omega) (c2 j hj).2) hrun
    rw [← List.map_append] at hru
    refine vstep_op ho hcs hs hf hd hN hst fun g2 w2 act2 r1 r2 r3 r4 r5 => ih _ hlen' hsz' hcl' (A := A1 ++ A2) (B := B) (by rw [c1]; simp) (hev.trans r1) r2 r3 r4 r5 ⟨fr2, h1, hru, (fun s hs' ht => by rw [tv_feq s hfe]; exact htv s hs' ht), ?_⟩
    refine wopX_mono hisx (fun f2 h2 hc => ?_) (wopX_congr hisx (fun k _ => hfe k) hx)
    obtain ⟨a, ⟨f3, h3, p1, p2⟩, rfl⟩ := hc
    obtain ⟨f4, p3, p4⟩ := vrun_feq p1 (feq_put hfe)
    exact ⟨f4, h3, p3, hK _ _ _ p4 p2⟩
   · -- the one itself
    have hAn : A = [] := by
     cases A with
     | nil => rfl
     | cons j A' =>
      exfalso
      obtain ⟨q1, q2⟩ := hA j (by simp)
      exact nr j (by omega) q2 (hdpre j (by simpa using q1))
    subst hAn
    obtain ⟨rfl, rfl⟩ := hrun
    obtain ⟨c1, c2, c3⟩ := rem_cut hsz hlt hrem
    rw [hlk] at hcs
    simp only [chkStm, Bool.and_eq_true, decide_eq_true_eq] at hcs
    obtain ⟨⟨⟨hc1, hc2⟩, hc3⟩, hc4⟩ := hcs
    have hkl : (listed.setIfInBounds i true).getD i true = true := by
     have : i < listed.size := by rw [hsz]; exact hlt
     simp [Array.getD_eq_getD_getElem?, this]
    unfold wpOp
    rw [ho]
    simp only
    rw [if_pos (wanted_none (s := ⟨d, none, o, none⟩) hc3 rfl _)]
    left
    subst hc1
    refine Oper.wp_mono (fun a1 w1 hok => ?_) (wop_sound (Q := Q) hs hf hd hN (fun d' hd' => by rw [hd'] at hc2; simpa using hc2) hc4 hx)
    obtain ⟨g2, fr2, h2, ⟨f3, h3, p1, p2⟩, q2, q3, q4, q5, q6⟩ := hok
    exact any_sound hchk hdp hQ hK fuel _ hlen' hsz' hkl hcl' (hev.trans q2) q3 q4 q5 q6 (by rw [c1]; exact p1) p2
   · -- one of those behind
    have hik := hB i hin
    have htr : trivB d o (ls.filterMap (·.dst)) (stmAt ls i) = true := by
     have q := hdpost i (by simpa using hlt)
     rcases Bool.or_eq_true_iff.1 q with q | q
     ·rcases Bool.or_eq_true_iff.1 q with q | q
      ·have := of_decide_eq_true q; omega
      ·exact (nr k hkn (mem_rem.1 (by rw [hrem]; simp)).2 q).elim
     ·exact q
    obtain ⟨t, hsi, ht1, ht2⟩ := triv_cases htr
    obtain ⟨v, hvt⟩ := htv _ (List.mem_map_of_mem hin) htr
    have hlls : i < ls.length := by
     have := chkStms_length hchk
     simp only [Array.length_toList] at this
     omega
    have htds : t ∈ ls.filterMap (·.dst) := List.mem_filterMap.2 ⟨ls[i], List.getElem_mem hlls, by rw [← hsi]; simp [stmAt, hlls]⟩
    obtain ⟨B1, B2, rfl⟩ := List.append_of_mem hin
    have e1 : rem ops.size listed = (A ++ k :: B1) ++ i :: B2 := by rw [hrem]; simp
    obtain ⟨c1, c2, c3⟩ := rem_cut hsz hlt e1
    have hcA : ∀ s ∈ A.map (stmAt ls), commB s (stmAt ls i) = true := fun s hs' => by
     obtain ⟨j, hj, rfl⟩ := List.mem_map.1 hs'
     obtain ⟨y1, y2⟩ := c2 j (by simp [hj])
     exact hcm j y1 (by omega) (by have := (hA j hj).1; omega) y2
    have hcB : ∀ s ∈ B1.map (stmAt ls), commB s (stmAt ls i) = true := fun s hs' => by
     obtain ⟨j, hj, rfl⟩ := List.mem_map.1 hs'
     obtain ⟨y1, y2⟩ := c2 j (by simp [hj])
     exact hcm j y1 (by omega) (by have := hB j (by simp [hj]); omega) y2
    have app : ∀ {l : List AStm} {fr fr1 fr2 : Fr} {h h1 h2 : Hp} {s : AStm}, VRun P l fr h fr1 h1 → VStep P s fr1 h1 fr2 h2 → VRun P (l ++ s :: []) fr h fr2 h2 := by
     intro l
     induction l with
     | nil => rintro fr fr1 fr2 h h1 h2 s ⟨rfl, rfl⟩ hst; exact ⟨fr2, h2, hst, rfl, rfl⟩
     | cons x l ihl => rintro fr fr1 fr2 h h1 h2 s ⟨f, hh, y1, y2⟩ hst; exact ⟨f, hh, y1, ihl y2 hst⟩
    obtain ⟨fr2, ⟨fra, ha, hst, hru⟩, hfe⟩ := vrun_front hcA (app hrun (triv_run hvt h1))
    rw [List.append_nil] at hru
    refine vstep_op ho hcs hs hf hd hN hst fun g2 w2 act2 r1 r2 r3 r4 r5 => ih _ hlen' hsz' hcl' (A := A) (B := B1 ++ B2) (by rw [c1]; simp) (hev.trans r1) r2 r3 r4 r5 ⟨fr2, h1, hru, (fun s hs' ht => by
     rw [tv_feq s hfe, hsi, tv_put ht (.inr ⟨t, rfl, htds⟩)]
     refine htv s ?_ ht
     simp only [List.map_append, List.map_cons, List.mem_append, List.mem_cons] at hs' ⊢
     rcases hs' with hs' | hs'
     ·exact .inl hs'
     ·exact .inr (.inr hs')), ?_⟩
    rw [hsi] at hfe
    have hag : ∀ q, q ∈ opR o → lk fr2 q = lk fr1 q := fun q hq => by
     rw [hfe q, lk_put, if_neg (fun e => ht1 (by injection e with e; rw [e]; exact hq))]
    refine wopX_mono hisx (fun f2 h2 hc => ?_) (wopX_congr hisx hag hx)
    obtain ⟨a, ⟨f3, h3, p1, p2⟩, rfl⟩ := hc
    rw [List.map_append, List.map_cons] at p1
    obtain ⟨f4, ⟨f5, h5, y1, y2⟩, y3⟩ := vrun_front hcB p1
    obtain ⟨rfl, rfl⟩ := triv_step (v := v) (by rw [tv_put htr (.inl rfl)]; exact hvt) y1
    rw [hsi] at y2
    rw [← List.map_append] at y2
    obtain ⟨f6, y4, y5⟩ := vrun_feq y2 (fr' := put d a fr2) (fun q => by
     rw [lk_put, hfe q, lk_put, lk_put, lk_put]
     by_cases e2 : d = some q
     ·rw [if_pos e2, if_neg (fun e => ht2 (by rw [e2, e])), if_pos e2]
     ·rw [if_neg e2, if_neg e2])
    exact ⟨f6, h3, y4, hK _ _ _ (fun q => by rw [y5 q, y3 q]) p2⟩

def OkE (P : Program) (g0 : Gh) (w0 : World) (N : Nat) (Q : Exit → Fr → Hp → Prop) : Exit → Act → World → Prop := fun e => Ok P g0 w0 N (Q e)

theorem ok_ev {g1 : Gh} {w1 : World} {K : Fr → Hp → Prop} {a : Act} {w2 : World} (hev : Ev g w g1 w1) (hk : Ok P g1 w1 N K a w2) : Ok P g w N K a w2 := by
 obtain ⟨g2, fr2, h2, q1, q2, q3⟩ := hk
 exact ⟨g2, fr2, h2, q1, hev.trans q2, q3⟩

theorem FrameOk.name {tmps : Array Value} {k : Nat} {e : TypeId} {u : Option Value} {l : List Int} (hf : FrameOk P g w tmps fr) (hk : lk fr k = some (.stk e u l)) : ∃ v, FrameOk P g w tmps ((k, .stk e (some v) l) :: fr) := by
 obtain ⟨v, h1, h2, h3⟩ := hf k _ hk
 obtain ⟨a, c, rfl, q1, q2, q3⟩ := stk_slice h2
 refine ⟨.slice a l.length c, fun j b hj => ?_⟩
 rw [lk_cons] at hj
 split at hj
 ·next e1 =>
  subst e1
  simp only [Option.some.injEq] at hj
  subst hj
  exact ⟨_, h1, .stk a c e _ l q1 q2 (fun v h => by injection h with h; exact h.symm), h3⟩
 ·exact hf j b hj
theorem Sim.name {id off : Nat} {c : List AV} {e : TypeId} {u : Option Value} {l : List Int} (hs : Sim P g h w) (hl : h[id]? = some (some (false, c))) (hc : c[off]? = some (.stk e u l)) : ∃ v, Sim P g (h.set id (some (false, c.set off (.stk e (some v) l)))) w := by
 obtain ⟨b, arr, e', p1, ⟨rest, p2⟩, p3, p4, p5, p6, p7, p8, p9⟩ := hs.obj id false c hl
 obtain ⟨v, hv, hr⟩ := p3.get off _ hc
 obtain ⟨a, cc, rfl, q1, q2, q3⟩ := stk_slice hr
 have hidlt : id < h.length := (List.getElem?_eq_some_iff.1 hl).1
 refine ⟨.slice a l.length cc, hs.prot, ?_, hs.inj, fun i b hb => by rw [List.length_set]; exact hs.dom i b hb, hs.flt, hs.olt, fun i hi => hs.hole i (hole_set hi), hs.fro⟩
 intro id' s l' hl'
 by_cases e1 : id' = id
 ·subst e1
  rw [List.getElem?_set] at hl'
  simp only [if_true, hidlt, Option.some.injEq, Prod.mk.injEq] at hl'
  obtain ⟨rfl, rfl⟩ := hl'
  refine ⟨b, arr, e', p1, ⟨rest, p2⟩, p3.setR off hv (.stk a cc e _ l q1 q2 (fun v h => by injection h with h; exact h.symm)), p4, fun i x y hx hy => ?_, p6, (fun h => by cases h), p8, p9⟩
  rw [List.getElem?_set] at hy
  split at hy
  ·next hio =>
   subst hio
   split at hy
   ·simp only [Option.some.injEq] at hy
    subst hy
    rw [hv] at hx
    simp only [Option.some.injEq] at hx
    subst hx
    have hq := p5 off _ _ hv hc
    exact hq
   ·cases hy
  ·exact p5 i x y hx hy
 ·rw [List.getElem?_set_ne (fun e => e1 e.symm)] at hl'
  exact hs.obj id' s l' hl'
theorem Sim.upg {id off : Nat} {c : List AV} {e : TypeId} {sz n : Nat} {l : List AV} (hi : (P.info? e).map (·.size) = some sz) (hs : Sim P g h w) (hl : h[id]? = some (some (false, c))) (hc : c[off]? = some (.lst .clip n l)) (hn : l.length = n * sz) : Sim P g (h.set id (some (false, c.set off (.lst (.own e) n l)))) w := by
 obtain ⟨b, arr, e', p1, ⟨rest, p2⟩, p3, p4, p5, p6, p7, p8, p9⟩ := hs.obj id false c hl
 obtain ⟨v, hv, hr⟩ := p3.get off _ hc
 have hidlt : id < h.length := (List.getElem?_eq_some_iff.1 hl).1
 have hr2 : Rep g v (.lst (.own e) n l) ∧ ∃ a, v = .slice a n n := by
  cases hr with
  | lst b off n c f vs l h1 h2 h3 h4 h5 => exact ⟨.lst b off n c _ vs l h1 h2 h3 (fun e => by cases e) h5, _, by rw [h4 rfl]⟩
  | lst0 a c f h => exact ⟨.lst0 a c _ (fun e => by cases e), a, by rw [h rfl]⟩
 refine ⟨hs.prot, ?_, hs.inj, fun i b hb => by rw [List.length_set]; exact hs.dom i b hb, hs.flt, hs.olt, fun i hi => hs.hole i (hole_set hi), hs.fro⟩
 intro id' s l' hl'
 by_cases e1 : id' = id
 ·subst e1
  rw [List.getElem?_set] at hl'
  simp only [if_true, hidlt, Option.some.injEq, Prod.mk.injEq] at hl'
  obtain ⟨rfl, rfl⟩ := hl'
  refine ⟨b, arr, e', p1, ⟨rest, p2⟩, p3.setR off hv hr2.1, p4, fun i x y hx hy => ?_, p6, (fun h => by cases h), p8, p9⟩
  rw [List.getElem?_set] at hy
  split at hy
  ·next hio =>
   subst hio
   split at hy
   ·simp only [Option.some.injEq] at hy
    subst hy
    rw [hv] at hx
    simp only [Option.some.injEq] at hx
    subst hx
    exact ⟨sz, hi, hn, .inr hr2.2⟩
   ·cases hy
  ·exact p5 i x y hx hy
 ·rw [List.getElem?_set_ne (fun e => e1 e.symm)] at hl'
  exact hs.obj id' s l' hl'
theorem W_sound (hm : P.follows .mixedOrders = true) : ∀ (a : ACode) (c : Code), chk P N c a = true → ∀ {Q : Exit → Fr → Hp → Prop} {g : Gh} {h : Hp} {w : World} {fr : Fr} {act : Act}, Sim P g h w → FrameOk P g w act.tmps fr → act.defers = [] → act.tmps.size = N → W P a fr h Q → c.wp P (OkE P g w N Q) act w := by
 intro a
 induction a with
 | keep l a ih =>
  intro c hc Q g h w fr act hs hf hd hN hw
  refine ih c ?_ hs (hf.restr l) hd hN hw
  cases c <;> simpa [chk] using hc
 | holes m a ih =>
  intro c hc Q g h w fr act hs hf hd hN hw
  refine ih c ?_ (hs.holes m) hf hd hN hw
  cases c <;> simpa [chk] using hc
 | nms k a ih =>
  intro c hc Q g h w fr act hs hf hd hN hw
  have hc' : chk P N c a = true := by cases c <;> simpa [chk] using hc
  simp only [W] at hw
  split at hw
  ·next e u l hk =>
   obtain ⟨v, hv⟩ := hf.name hk
   exact ih c hc' hs hv hd hN (hw v)
  ·exact ih c hc' hs hf hd hN hw
 | nmo k off a ih =>
  intro c hc Q g h w fr act hs hf hd hN hw
  have hc' : chk P N c a = true := by cases c <;> simpa [chk] using hc
  simp only [W] at hw
  split at hw
  ·split at hw
   ·next hl =>
    split at hw
    ·next hcell =>
     obtain ⟨v, hv⟩ := hs.name hl hcell
     exact ih c hc' hv hf hd hN (hw v)
    ·exact ih c hc' hs hf hd hN hw
   ·exact ih c hc' hs hf hd hN hw
  ·exact ih c hc' hs hf hd hN hw
 | upg k off e sz a ih =>
  intro c hc Q g h w fr act hs hf hd hN hw
  have hc' : decide ((P.info? e).map (·.size) = some sz) = true ∧ chk P N c a = true := by
   have : (decide ((P.info? e).map (·.size) = some sz) && chk P N c a) = true := by cases c <;> simpa [chk] using hc
   simpa only [Bool.and_eq_true] using this
  simp only [W] at hw
  split at hw
  ·split at hw
   ·next hl =>
    split at hw
    ·next hcell => exact ih c hc'.2 (hs.upg (of_decide_eq_true hc'.1) hl hcell hw.1) hf hd hN hw.2
    ·exact ih c hc'.2 hs hf hd hN hw
   ·exact ih c hc'.2 hs hf hd hN hw
  ·exact ih c hc'.2 hs hf hd hN hw
 | skip =>
  intro c hc Q g h w fr act hs hf hd hN hw
  cases c <;> first | (simp [chk] at hc; done) | skip
  exact wp_skip ⟨g, fr, h, hw, .refl _ _, hs, hf, hd, hN⟩
 | ops l =>
  intro c hc Q g h w fr act hs hf hd hN hw
  cases c with
  | region id ops dr =>
   cases dr with
   | false =>
    simp only [chk] at hc
    refine wp_region_list (wops_sound (K := Q .normal) (g0 := g) (w0 := w) (fun a w h => h) _ _ hc (.refl _ _) hs hf hd hN hw)
   | true => simp [chk] at hc
  | _ => simp [chk] at hc
 | draw vars l =>
  intro c hc Q g h w fr act hs hf hd hN hw
  cases c with
  | region id ops dr =>
   cases dr with
   | false => simp [chk] at hc
   | true =>
    simp only [chk, Bool.and_eq_true] at hc
    have hlen := chkStms_length hc.1
    have hK : ∀ fr fr' h, Feq fr fr' → kdraw vars Q fr h → kdraw vars Q fr' h := by
     intro fr fr' h he hk
     have : ∀ l : List Nat, restr l fr' = restr l fr := by
      intro l
      induction l with
      | nil => rfl
      | cons k l ih => simp only [restr, he k, ih]
     unfold kdraw at *
     rw [this]; exact hk
    obtain ⟨fr', h', hr, hk⟩ := vrun_of hK hw
    have hrem : rem ops.size (Array.replicate ops.size false) = List.range ops.size := by
     unfold rem
     apply List.filter_eq_self.2
     intro j hj
     simp only [List.mem_range] at hj
     simp [Array.getD_eq_getD_getElem?, hj]
    have hmap : (List.range ops.size).map (stmAt l) = l := by
     apply List.ext_getElem?
     intro j
     rw [List.getElem?_map]
     simp only [Array.length_toList] at hlen
     by_cases hj : j < ops.size
     ·rw [List.getElem?_range hj]
      have : j < l.length := by omega
      simp [stmAt, this]
     ·rw [List.getElem?_eq_none (by simp; omega), List.getElem?_eq_none (by omega)]
      rfl
    refine wp_region_any hm ?_
    have hdrew : ({ w with drawn := w.drawn + 1 } : World) = w.drewN 1 := rfl
    rw [hdrew]
    refine any_sound (K := kdraw vars Q) (g0 := g) (w0 := w) hc.1 hc.2 (fun a w1 hok => ?_) hK ops.size _ (by rw [hrem]; simp) (by simp) (by simp [Array.getD_eq_getD_getElem?]) (fun i o ho hl => ?_) (.drew g w 1) (hs.drewN 1) (hf.drewN 1) hd hN (by rw [hrem, hmap]; exact hr) hk
    ·obtain ⟨g2, fr2, h2, q1, q2, q3, q4, q5, q6⟩ := hok
     exact ⟨g2, restr vars fr2, h2, q1, q2, q3, q4.restr vars, q5, q6⟩
    ·have hlt : i < ops.size := (Array.getElem?_eq_some_iff.1 ho).1
     simp [Array.getD_eq_getD_getElem?, hlt] at hl
  | _ => simp [chk] at hc
 | drax vars pre d o post =>
  intro c hc Q g h w fr act hs hf hd hN hw
  cases c with
  | region id ops dr =>
   cases dr with
   | false => simp [chk] at hc
   | true =>
    simp only [chk, Bool.and_eq_true] at hc
    have hlen := chkStms_length hc.1
    have hkv : ∀ fr fr' h, Feq fr fr' → kdraw vars Q fr h → kdraw vars Q fr' h := by
     intro fr fr' h he hk
     have : ∀ l : List Nat, restr l fr' = restr l fr := by
      intro l
      induction l with
      | nil => rfl
      | cons k l ih => simp only [restr, he k, ih]
     unfold kdraw at *
     rw [this]; exact hk
    have hrem : rem ops.size (Array.replicate ops.size false) = List.range ops.size := by
     unfold rem
     apply List.filter_eq_self.2
     intro j hj
     simp only [List.mem_range] at hj
     simp [Array.getD_eq_getD_getElem?, hj]
    have hsize : ops.size = pre.length + (1 + post.length) := by simp at hlen; omega
    have hrange : List.range ops.size = List.range pre.length ++ pre.length :: ((List.range post.length).map fun j => pre.length + 1 + j) := by
     rw [hsize]
     apply List.ext_getElem?
     intro j
     rcases Nat.lt_trichotomy j pre.length with h1 | h1 | h1
     ·rw [List.getElem?_append_left (by simpa using h1), List.getElem?_range (by omega), List.getElem?_range h1]
     ·subst h1; rw [List.getElem?_append_right (by simp), List.getElem?_range (by omega)]; simp
     ·rw [List.getElem?_append_right (by simp; omega)]
      obtain ⟨m, rfl⟩ : ∃ m, j = pre.length + 1 + m := ⟨j - pre.length - 1, by omega⟩
      simp only [List.length_range, show pre.length + 1 + m - pre.length = m + 1 by omega, List.getElem?_cons_succ, List.getElem?_map]
      by_cases h2 : m < post.length
      ·rw [List.getElem?_range (by omega), List.getElem?_range h2]; rfl
      ·rw [List.getElem?_eq_none (by simp; omega), List.getElem?_eq_none (by simp; omega)]; rfl
    have hmA : (List.range pre.length).map (stmAt (pre ++ ⟨d, none, o, none⟩ :: post)) = pre := by
     apply List.ext_getElem?
     intro j
     rw [List.getElem?_map]
     by_cases hj : j < pre.length
     ·rw [List.getElem?_range hj]; simp [stmAt, List.getElem?_append_left, hj]
     ·rw [List.getElem?_eq_none (by simp; omega), List.getElem?_eq_none (by omega)]; rfl
    have hmB : ((List.range post.length).map fun j => pre.length + 1 + j).map (stmAt (pre ++ ⟨d, none, o, none⟩ :: post)) = post := by
     apply List.ext_getElem?
     intro j
     rw [List.getElem?_map, List.getElem?_map]
     by_cases hj : j < post.length
     ·rw [List.getElem?_range hj]
      simp only [Option.map_some, stmAt, List.getD_eq_getElem?_getD]
      rw [List.getElem?_append_right (by omega), show pre.length + 1 + j - pre.length = j + 1 by omega, List.getElem?_cons_succ, List.getElem?_eq_getElem hj]
      rfl
     ·rw [List.getElem?_eq_none (by simp; omega), List.getElem?_eq_none (by omega)]; rfl
    have hisx : isX o = true := by
     have := hc.2.2
     simp only [drawX, Bool.and_eq_true] at this
     exact this.1.1
    have hXf : ∀ fr fr' h, Feq fr fr' → kdrax P vars d o post Q fr h → kdrax P vars d o post Q fr' h := by
     intro f1 f2 h1 he hx
     refine ⟨fOk_feq he hx.1, wopX_mono hisx (fun f3 h3 hq => ?_) (wopX_congr hisx (fun k _ => he k) hx.2)⟩
     obtain ⟨a, hq, rfl⟩ := hq
     exact VOps_feq hkv hc.2.1 (feq_put he) hq
    simp only [W] at hw
    obtain ⟨fr', h', hr, hk⟩ := vrun_of hXf hw
    have hfk := hk.1
    have hk := wopX_mono hisx (fun f2 h2 hq => vrun_of hkv hq) hk.2
    refine wp_region_any hm ?_
    have hdrew : ({ w with drawn := w.drawn + 1 } : World) = w.drewN 1 := rfl
    rw [hdrew]
    refine anyx_sound (K := kdraw vars Q) (g0 := g) (w0 := w) (k := pre.length) (by simp [stmAt]) hc.1 hc.2.2 (fun a w1 hok => ?_) hkv ops.size _ (by rw [hrem]; simp) (by simp) (fun i o ho hl => ?_) (by rw [hrem]; exact hrange) (.drew g w 1) (hs.drewN 1) (hf.drewN 1) hd hN ⟨fr', h', by rw [hmA]; exact hr, by rw [hmB]; exact fun s hs' ht => fOk_tv hfk s hs' ht, by rw [hmB]; exact hk⟩
    ·obtain ⟨g2, fr2, h2, q1, q2, q3, q4, q5, q6⟩ := hok
     exact ⟨g2, restr vars fr2, h2, q1, q2, q3, q4.restr vars, q5, q6⟩
    ·have hlt : i < ops.size := (Array.getElem?_eq_some_iff.1 ho).1
     simp [Array.getD_eq_getD_getElem?, hlt] at hl
  | _ => simp [chk] at hc
 | seq a b iha ihb =>
  intro c hc Q g h w fr act hs hf hd hN hw
  cases c with
  | seq c1 c2 =>
   simp only [chk, Bool.and_eq_true] at hc
   refine wp_seq (wp_mono (iha c1 hc.1 hs hf hd hN hw) (fun e a1 w1 hok => ?_))
   cases e with
   | normal =>
    obtain ⟨g1, fr1, h1, q1, q2, q3, q4, q5, q6⟩ := hok
    exact wp_mono (ihb c2 hc.2 q3 q4 q5 q6 q1) (fun e a2 w2 h2 => ok_ev q2 h2)
   | _ => exact hok
  | _ => simp [chk] at hc
 | cond y a b iha ihb =>
  intro c hc Q g h w fr act hs hf hd hN hw
  cases c with
  | cond x c1 c2 =>
   simp only [chk, Bool.and_eq_true] at hc
   simp only [W] at hw
   split at hw
   ·next p hp =>
    obtain ⟨h1, _⟩ := ev_ok hf hc.1.1 hp
    generalize hx : act.eval x = u at h1
    cases h1
    exact wp_cond_split hx (fun e => iha c1 hc.1.2 hs hf hd hN (hw.1 e)) (fun e => ihb c2 hc.2 hs hf hd hN (hw.2 e))
   ·exact hw.elim
  | _ => simp [chk] at hc
 | block id a ih =>
  intro c hc Q g h w fr act hs hf hd hN hw
  cases c with
  | block i c =>
   simp only [chk, Bool.and_eq_true, beq_iff_eq] at hc
   obtain ⟨rfl, hc⟩ := hc
   refine wp_block (wp_mono (ih c hc hs hf hd hN hw) (fun e a1 w1 hok => ?_))
   cases e with
   | exit j =>
    unfold OkE at hok
    simp only [Exit.inBlock]
    split
    ·next e => subst e; simp only [if_true] at hok; exact hok
    ·next e => simp only [e, if_false] at hok; exact hok
   | _ => exact hok
  | _ => simp [chk] at hc
 | loop vars a ih =>
  intro c hc Q g h w fr act hs hf hd hN hw
  cases c with
  | loop c =>
   simp only [chk] at hc
   obtain ⟨I, ⟨n, hI⟩, hround⟩ := hw
   refine wp_loop_ghost (fun n a1 w1 => Ok P g w N (I n) a1 w1) n ⟨g, restr vars fr, h, hI, .refl _ _, hs, hf.restr vars, hd, hN⟩ ?_
   intro n a1 w1 ⟨g1, fr1, h1, q1, q2, q3, q4, q5, q6⟩
   refine wp_mono (ih c hc q3 q4 q5 q6 (hround n fr1 h1 q1)) (fun e a2 w2 hok => ?_)
   cases e with
   | normal =>
    obtain ⟨g2, fr2, h2, ⟨m, hmn, hIm⟩, r2, r3, r4, r5, r6⟩ := hok
    exact ⟨m, hmn, g2, restr vars fr2, h2, hIm, q2.trans r2, r3, r4.restr vars, r5, r6⟩
   | _ => exact ok_ev q2 hok
  | _ => simp [chk] at hc
 | exit id =>
  intro c hc Q g h w fr act hs hf hd hN hw
  cases c with
  | exit j =>
   simp only [chk, beq_iff_eq] at hc
   subst hc
   exact wp_exit ⟨g, fr, h, hw, .refl _ _, hs, hf, hd, hN⟩
  | _ => simp [chk] at hc
 | dead =>
  intro c hc Q g h w fr act hs hf hd hN hw
  exact hw.elim
 | scope a ih =>
  intro c hc Q g h w fr act hs hf hd hN hw
  cases c with
  | scope c =>
   simp only [chk] at hc
   refine wp_scope_straight (wp_mono (ih c hc hs hf hd hN hw) (fun e a1 w1 hok => ?_))
   cases e with
   | goto l => obtain ⟨_, _, _, hF, _⟩ := hok; exact hF.elim
   | _ => exact hok
  | _ => simp [chk] at hc
 | ret =>
  intro c hc Q g h w fr act hs hf hd hN hw
  cases c <;> first | (simp [chk] at hc; done) | skip
  exact wp_ret ⟨g, fr, h, hw, .refl _ _, hs, hf, hd, hN⟩

def resFn (tmps : Array Value) : ResultVar → Sem Value
 | .tmp t => pure (tmps.getD t undef)
 | .cell a t => do loadVar t (← asAddr (tmps.getD a undef))
theorem results_eq (fn : Func) (tmps : Array Value) : results fn tmps = (do let vs ← fn.results.mapM (resFn tmps); pure (if h : vs.size = 1 then vs[0] else .tuple vs)) := by
 unfold results
 congr 1
theorem resL_ok (hs : Sim P g h w) (hf : FrameOk P g w act.tmps fr) : ∀ {rs : List ResultVar} {vs : List RV} {K : List AV → Prop}, chkRV P rs vs = true → resL fr h vs K →
  ∃ us l, (rs.mapM (m := Sem) (resFn act.tmps)).run P w = .ok us w ∧ RepL g us l ∧ plains l ∧ K l
 | [], [], K, _, hk => ⟨[], [], rfl, .nil, by intro a ha; simp at ha, hk⟩
 | [], _ :: _, _, h, _ => by simp [chkRV] at h
 | .tmp _ :: _, [], _, h, _ => by simp [chkRV] at h
 | .cell _ _ :: _, [], _, h, _ => by simp [chkRV] at h
 | .tmp _ :: _, .c _ _ :: _, _, h, _ => by simp [chkRV] at h
 | .cell _ _ :: _, .t _ :: _, _, h, _ => by simp [chkRV] at h
 | .tmp k :: r, .t j :: r', K, hc, hk => by
  simp only [chkRV, Bool.and_eq_true, beq_iff_eq] at hc
  obtain ⟨rfl, hc⟩ := hc
  simp only [resL] at hk
  obtain ⟨a, he, hk⟩ := opt_ev hk
  obtain ⟨h1, h2⟩ := ev_ok (x := .tmp k) hf (by simp [chkOpd]) he
  obtain ⟨us, l, q1, q2, q3, q4⟩ := resL_ok hs hf hc hk
  refine ⟨act.eval (.tmp k) :: us, a :: l, ?_, .cons h1 q2, ?_, q4⟩
  ·simp only [List.mapM_cons, resFn, Sem.run_bind, Sem.run_pure, Result.andThen_ok, q1]
   rfl
  ·intro b hb; rcases List.mem_cons.1 hb with rfl | hb; exact h2; exact q3 b hb
 | .cell k t :: r, .c j sz :: r', K, hc, hk => by
  simp only [chkRV, Bool.and_eq_true, beq_iff_eq] at hc
  obtain ⟨⟨rfl, hty⟩, hc⟩ := hc
  simp only [resL] at hk
  let o : Oper := { dst := none, op := .load t (.tmp k), type := t, pos := "", after := #[], guard := none }
  have hco : chkVal P o.op (.load sz (.t k)) = true := by
   simp only [o, chkVal, chkOpd, beq_self_eq_true, Bool.true_and]
   exact hty
  obtain ⟨v, a, h1, h2, h3, h4⟩ := val_load (o := o) hs hf hco hk
  obtain ⟨us, l, q1, q2, q3, q4⟩ := resL_ok hs hf hc h4
  have hld : (do loadVar t (← asAddr (act.tmps.getD k undef)) : Sem Value).run P w = .ok v w := by
   have he : (execOp act.eval o).run P w = ((Instr.loadAt t (act.eval (.tmp k))).run P w).andThen fun v w => .ok (.value v) w := by simp [execOp, o]
   rw [he] at h1
   have hpt : ∃ ad, act.eval (.tmp k) = .pointer (some ad) := by
    cases hx : act.eval (.tmp k) with
    | pointer p =>
     cases p with
     | none => rw [hx] at h1; simp [Instr.loadAt, Instr.sureAddr] at h1
     | some ad => exact ⟨ad, rfl⟩
    | _ => rw [hx] at h1; simp [Instr.loadAt, Instr.sureAddr] at h1
   obtain ⟨ad, had⟩ := hpt
   have had' : act.tmps.getD k undef = .pointer (some ad) := by simpa [Act.eval] using had
   rw [had] at h1
   rw [had']
   simp only [Instr.loadAt, Instr.sureAddr, pure_bind] at h1
   simp only [asAddr, pure_bind]
   cases hlv : (loadVar t ad).run P w with
   | ok v' w' =>
    rw [hlv] at h1
    simp only [Result.andThen, Result.ok.injEq, Next.value.injEq] at h1
    rw [h1.1, h1.2]
   | halt x w' => rw [hlv] at h1; simp [Result.andThen] at h1
  refine ⟨v :: us, a :: l, ?_, .cons h2 q2, ?_, q4⟩
  ·have hld' : (resFn act.tmps (.cell k t)).run P w = .ok v w := hld
   simp only [List.mapM_cons, Sem.run_bind, hld', Result.andThen_ok, q1]
   rfl
  ·intro b hb; rcases List.mem_cons.1 hb with rfl | hb; exact h3; exact q3 b hb

theorem args0_ok {vargs : List Value} {n : Nat} : ∀ (args : List AV) (us : List Value) (k : Nat), RepL g us args → plains args → (∀ i v, us[i]? = some v → (vargs.toArray ++ Array.replicate n undef)[k + i]? = some v) → FrameOk P g w (vargs.toArray ++ Array.replicate n undef) (args0 k args)
 | [], us, k, _, _, _ => fun j a hj => by simp [args0, lk] at hj
 | a :: args, _, k, .cons (v := u) (vs := us) h0 hl, hp, hv => by
  intro j b hj
  simp only [args0, lk_cons] at hj
  split at hj
  ·next e =>
   subst e
   simp only [Option.some.injEq] at hj
   subst hj
   exact ⟨u, by simpa using hv 0 u rfl, h0, Owned.plain (hp a (by simp))⟩
  ·exact args0_ok args us (k + 1) hl (fun x hx => hp x (by simp [hx])) (fun i v hi => by have := hv (i + 1) v (by simpa using hi); rw [show k + 1 + i = k + (i + 1) by omega]; exact this) j b hj

theorem acalls_of {f : FuncId} {F : AFn} {args : List AV} {R : AV → Hp → Prop} (hm : P.follows .mixedOrders = true) (hc : chkFn P f F = true) (hN : args.length ≤ F.N) (hw : W P F.code (args0 0 args) h (kret F.rs R)) : ACalls P f args h R := by
  unfold chkFn at hc
  split at hc
  · next fn hfn =>
    simp only [Bool.and_eq_true, beq_iff_eq] at hc
    obtain ⟨⟨⟨hc1, hc2⟩, hc3⟩, hc4⟩ := hc
    split at hc4
    · next c hb =>
      refine ⟨by simp only [entersB, hfn, hb]; simpa using hc1, fun g w vargs hs hns hr hpl => ?_⟩
      have hal : vargs.length = args.length := hr.length
      refine calls_of_wp hfn hb ?_
      let act : Act := { tmps := vargs.toArray ++ Array.replicate (fn.ntmps - vargs.toArray.size) undef, defers := [] }
      have hf : FrameOk P g w act.tmps (args0 0 args) := args0_ok args vargs 0 hr hpl (fun i v hi => by
        rw [Nat.zero_add, Array.getElem?_append_left (by simpa using (List.getElem?_eq_some_iff.1 hi).1)]
        simpa using hi)
      have hsz : act.tmps.size = F.N := by simp [act]; omega
      refine wp_mono (W_sound hm F.code c hc4 hs hf rfl hsz hw) (fun e a1 w1 hok => ?_)
      obtain ⟨g1, fr1, h1, q1, q2, q3, q4, q5, q6⟩ := hok
      have fin : resL fr1 h1 F.rs (res1 (fun a => R a h1)) → bodyPost P fn (fun e w' => ∃ x a h' g', e = .returned x ∧ Ev g w g' w' ∧ Sim P g' h' w' ∧ (∀ b k, g'.own b ≠ some (.slot k)) ∧ Rep g' x a ∧ plain a = true ∧ R a h') .ret a1 w1 := by
        intro hres
        obtain ⟨us, l, r1, r2, r3, r4⟩ := resL_ok q3 q4 hc3 hres
        -- what the frame could append to is forgotten
        let g2 : Gh := { g1 with own := fun b => match g1.own b with
          | some (.slot _) => none
          | x => x }
        have hle : GLe g1 g2 := ⟨fun _ _ _ h => h, fun _ _ h => h, fun _ _ h => h⟩
        have hs2 : Sim P g2 h1 w1 := ⟨q3.prot, fun id s l hl => (q3.obj id s l hl).keep hle (fun b hb h8 h9 => ⟨rfl, fun _ => rfl, h8, by simp only [g2, h9]⟩) (fun b i o1 o3 o4 => ⟨rfl, by simp only [g2, o1], fun _ => rfl, o3, o4⟩), q3.inj, q3.dom, q3.flt, fun b x hx => by
          simp only [g2] at hx
          split at hx
          · cases hx
          · exact q3.olt b x hx, q3.hole, fun b o hx => by obtain ⟨k1, k2, k3⟩ := q3.fro b o hx; exact ⟨k1, by simp only [g2, k2], k3⟩⟩
        have hns2 : ∀ b k, g2.own b ≠ some (.slot k) := fun b k hx => by
          simp only [g2] at hx
          split at hx
          · cases hx
          · next hy => exact hy k hx
        have hev2 : Ev g w g2 w1 := ⟨q2.le.trans hle, q2.F, fun b hb => by
          obtain ⟨p1, p2, p3, p4⟩ := q2.Fb b hb
          refine ⟨p1, p2, ?_, p4⟩
          simp only [g2]
          split
          · next k hk => rw [p3] at hk; exact absurd hk (hns b k)
          · exact p3, q2.os, q2.tape, q2.output, q2.size, q2.Fx⟩
        have hrun : (results fn a1.tmps).run P w1 = .ok (if hh : us.toArray.size = 1 then us.toArray[0] else .tuple us.toArray) w1 := by
          rw [results_eq, Array.mapM_eq_mapM_toList]
          simp only [Sem.run_bind, Sem.run_map, r1, Result.andThen_ok]
          rfl
        refine ⟨q5, _, hrun, ?_⟩
        have hul := r2.length
        cases r2 with
        | nil =>
          simp only [res1] at r4
          exact ⟨_, .tup [], h1, g2, rfl, hev2, hs2, hns2, .tup [] [] (by intro a ha; simp at ha) .nil, rfl, r4⟩
        | cons p1 p2 =>
          cases p2 with
          | nil =>
            simp only [res1] at r4
            exact ⟨_, _, h1, g2, rfl, hev2, hs2, hns2, p1.mono hle, r3 _ (by simp), r4⟩
          | cons p3 p4 =>
            simp only [res1] at r4
            refine ⟨_, _, h1, g2, rfl, hev2, hs2, hns2, ?_, rfl, r4⟩
            simp only [List.size_toArray, List.length_cons]
            rw [dif_neg (by omega)]
            exact .tup _ _ r3 ((RepL.cons p1 (.cons p3 p4)).mono hle)
      cases e with
      | normal => exact fin q1
      | ret => exact fin q1
      | _ => exact q1.elim
    · cases hc4
  · cases hc

end
end Go.Proofs.Ytpiofcjkekpboaa
