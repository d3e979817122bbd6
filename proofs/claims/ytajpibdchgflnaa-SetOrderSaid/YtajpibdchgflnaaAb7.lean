/- The abstract layer, eighth part: operations that change something do what they are said to do. -/
import Derived.Test.YtajpibdchgflnaaAb6
namespace Go.Proofs.Ytajpibdchgflnaa
set_option linter.unusedSimpArgs false
set_option linter.unusedVariables false
open Go.RowKit Go.Lib

/-- What holds behind a piece of code. -/
def Ok (P : Program) (g0 : Gh) (w0 : World) (N : Nat) (K : Fr → Hp → Prop) (act : Act) (w : World) : Prop :=
  ∃ g fr h, K fr h ∧ Ev g0 w0 g w ∧ Sim P g h w ∧ FrameOk P g w act.tmps fr ∧ act.defers = [] ∧ act.tmps.size = N

section
variable {P : Program} {g : Gh} {h : Hp} {w : World} {fr : Fr} {act : Act} {N : Nat} {K : Fr → Hp → Prop} {Q : Exit → Act → World → Prop} {o : Oper}

theorem FrameOk.put {tmps : Array Value} {k : Nat} {v : Value} {a : AV} (hf : FrameOk P g w tmps fr) (hk : k < tmps.size) (hr : Rep g v a) (ho : Owned P g w (.slot k) v a) : FrameOk P g w (tmps.setIfInBounds k v) ((k, a) :: fr) := by
  intro j b hj
  rw [lk_cons] at hj
  by_cases e : k = j
  · subst e
    rw [if_pos rfl] at hj
    simp only [Option.some.injEq] at hj
    subst hj
    exact ⟨v, by simp [Array.getElem?_setIfInBounds, hk], hr, ho⟩
  · rw [if_neg e] at hj
    obtain ⟨u, h1, h2, h3⟩ := hf j b hj
    exact ⟨u, by rw [Array.getElem?_setIfInBounds_ne e]; exact h1, h2, h3⟩
theorem put_size (a : Act) (d : Option Tmp) (v : Value) : (a.put d v).tmps.size = a.tmps.size ∧ (a.put d v).defers = a.defers := by
  cases d <;> simp [Act.put]
theorem ok_put {g' : Gh} {w' : World} {h' : Hp} {fr' : Fr} {v : Value} {a : AV} (hN : act.tmps.size = N) (hd : act.defers = []) (hdst : ∀ d, o.dst = some d → d < N) (hev : Ev g w g' w') (hs' : Sim P g' h' w') (hf' : FrameOk P g' w' act.tmps fr') (hr : Rep g' v a) (ho : ∀ k, o.dst = some k → Owned P g' w' (.slot k) v a) (hK : K (put o.dst a fr') h') :
    Ok P g w N K (act.put o.dst v) w' := by
  obtain ⟨p1, p2⟩ := put_size act o.dst v
  refine ⟨g', put o.dst a fr', h', hK, hev, hs', ?_, by rw [p2, hd], by rw [p1, hN]⟩
  cases hod : o.dst with
  | none => simpa [Act.put, Go.Proofs.Ytajpibdchgflnaa.put] using hf'
  | some k => exact hf'.put (by rw [hN]; exact hdst k hod) hr (ho k hod)
theorem wp_value {next : Act → World → Prop} {v : Value} {w' : World} (hr : (execOp act.eval o).run P w = .ok (.value v) w') (hn : next (act.put o.dst v) w') : o.wp P act w next Q := by
  unfold Oper.wp; rw [hr]; exact hn

theorem sound_val {a : AOp} (hs : Sim P g h w) (hf : FrameOk P g w act.tmps fr) (hd : act.defers = []) (hN : act.tmps.size = N) (hdst : ∀ d, o.dst = some d → d < N) (hc : chkVal P o.op a = true) (hw : val fr h a (kval o.dst fr h K)) : o.wp P act w (Ok P g w N K) Q := by
  obtain ⟨v, b, h1, h2, h3, h4⟩ := val_sound hs hf hc hw
  exact wp_value h1 (ok_put hN hd hdst (.refl g w) hs hf h2 (fun _ _ => Owned.plain h3) h4)

theorem rep_up {v : Value} {e n : Nat} {l : List AV} (hr : Rep g v (.lst .clip n l)) : Rep g v (.lst (.own e) n l) ∧ ∃ a, v = .slice a n n := by
  cases hr with
  | lst b off n c f vs l q1 q2 q3 q4 q5 => rw [q4 rfl]; exact ⟨.lst b off n n _ vs l q1 q2 (Nat.le_refl _) (fun h => by cases h) q5, _, rfl⟩
  | lst0 a c f q => rw [q rfl]; exact ⟨.lst0 a 0 _ (fun h => by cases h), _, rfl⟩

theorem sound_mvu {e sz : Nat} {y : Opd} (hs : Sim P g h w) (hf : FrameOk P g w act.tmps fr) (hd : act.defers = []) (hN : act.tmps.size = N) (hdst : ∀ d, o.dst = some d → d < N) (hc : chkEff P o.op o.dst (.mvu e sz y) = true) (hw : wop P o.dst (.mvu e sz y) fr h K) : o.wp P act w (Ok P g w N K) Q := by
  simp only [chkEff, Bool.and_eq_true, beq_iff_eq] at hc
  obtain ⟨⟨hc1, hc2⟩, _⟩ := hc
  simp only [wop] at hw
  split at hw
  · next n l he =>
    obtain ⟨hl, hK⟩ := hw
    obtain ⟨x, hx, hco⟩ : ∃ x, (execOp act.eval o).run P w = .ok (.value (act.eval x)) w ∧ chkOpd x y = true := by
      split at hc1
      · next x hop => exact ⟨x, by simp [execOp, hop], hc1⟩
      · next x hop => exact ⟨x, by simp [execOp, hop], hc1⟩
      · cases hc1
    obtain ⟨h1, _⟩ := ev_ok hf hco he
    obtain ⟨h2, h3⟩ := rep_up (e := e) h1
    exact wp_value hx (ok_put hN hd hdst (.refl g w) hs hf h2 (fun _ _ => ⟨sz, hc2, hl, .inr h3⟩) hK)
  · exact hw.elim

/-- what a slot that may append hands on -/
theorem own_give {k : Nat} {x : Loc} {v : Value} {e n : Nat} {l : List AV} (ho : Owned P g w (.slot k) v (.lst (.own e) n l)) :
    ∃ ob, (∀ b, ob = some b → g.own b = some (.slot k) ∧ ¬ g.F b ∧ ∀ id, g.io id ≠ some b) ∧ Owned P (g.give ob x) w x v (.lst (.own e) n l) := by
  obtain ⟨sz, h1, h2, ⟨vs, h3, h4⟩ | h3⟩ := ho
  · refine ⟨v.ownBlock, fun b hb => ⟨(h4 b hb).1, (h4 b hb).2.2⟩, sz, h1, h2, .inl ⟨vs, h3, fun b hb => ⟨?_, (h4 b hb).2⟩⟩⟩
    simp only [Gh.give]; rw [if_pos hb]
  · exact ⟨none, fun b hb => (by cases hb), sz, h1, h2, .inr h3⟩

theorem sound_mvo {k : Nat} (hs : Sim P g h w) (hf : FrameOk P g w act.tmps fr) (hd : act.defers = []) (hN : act.tmps.size = N) (hdst : ∀ d, o.dst = some d → d < N) (hc : chkEff P o.op o.dst (.mvo k) = true) (hw : wop P o.dst (.mvo k) fr h K) : o.wp P act w (Ok P g w N K) Q := by
  simp only [chkEff, Bool.and_eq_true] at hc
  obtain ⟨hc1, hc2⟩ := hc
  simp only [wop] at hw
  split at hw
  · next e n l he =>
    have hx : (execOp act.eval o).run P w = .ok (.value (act.eval (.tmp k))) w := by
      split at hc1
      · next j hop => obtain rfl := eq_of_beq hc1; simp [execOp, hop]
      · next j hop => obtain rfl := eq_of_beq hc1; simp [execOp, hop]
      · cases hc1
    obtain ⟨v, h1, h2, h3⟩ := hf k _ he
    have hv : act.eval (.tmp k) = v := by simp only [Act.eval, Array.getD_eq_getD_getElem?, h1, Option.getD_some]
    rw [hv] at hx
    cases hod : o.dst with
    | none => rw [hod] at hc2; cases hc2
    | some d =>
      obtain ⟨ob, q1, q2⟩ := own_give (x := .slot d) h3
      obtain ⟨r1, r2⟩ := hs.give (x := .slot d) q1
      refine wp_value hx (ok_put hN hd hdst r2 r1 (hf.give (.slot d) q1) (h2.mono (gle_give _ _ _)) (fun k' hk' => ?_) hw)
      rw [hod] at hk'
      simp only [Option.some.injEq] at hk'
      subst hk'
      exact q2
  · exact hw.elim

theorem RepL.setR {g : Gh} : ∀ {vs : List Value} {l : List AV} (i : Nat) {v : Value} {a : AV}, RepL g vs l → vs[i]? = some v → Rep g v a → RepL g vs (l.set i a)
  | _, _, _, _, _, .nil, _, _ => by simp; exact .nil
  | _, _, 0, _, _, .cons _ hl, e, h => by simp at e; subst e; exact .cons h hl
  | _, _, i + 1, _, _, .cons h0 hl, e, h => .cons h0 (RepL.setR i hl (by simpa using e) h)
theorem upg_ok {id : Nat} {vs : List Value} : ∀ {ups : List (Nat × Nat × Nat)} {l : List AV} {K : List AV → Prop}, upsOk P ups = true → RepL g vs l → (∀ (i : Nat) v a, vs[i]? = some v → l[i]? = some a → Owned P g w (.cell id i) v a) → upgK ups l K →
    ∃ l', RepL g vs l' ∧ (∀ (i : Nat) v a, vs[i]? = some v → l'[i]? = some a → Owned P g w (.cell id i) v a) ∧ K l'
  | [], l, K, _, h1, h2, h3 => ⟨l, h1, h2, h3⟩
  | (i, e, sz) :: r, l, K, hu, h1, h2, h3 => by
    simp only [upsOk, List.all_cons, Bool.and_eq_true, beq_iff_eq] at hu
    simp only [upgK] at h3
    split at h3
    · next n c hl =>
      obtain ⟨v, hv, hr⟩ := h1.get i _ hl
      obtain ⟨r1, a, r2⟩ := rep_up (e := e) hr
      refine upg_ok (ups := r) hu.2 (h1.setR i hv r1) (fun j u b hu' hb => ?_) h3.2
      rw [List.getElem?_set] at hb
      split at hb
      · next hij =>
        subst hij
        split at hb
        · simp only [Option.some.injEq] at hb
          subst hb
          rw [hv] at hu'
          simp only [Option.some.injEq] at hu'
          subst hu'
          exact ⟨sz, hu.1, h3.1, .inr ⟨a, r2⟩⟩
        · cases hb
      · exact h2 j u b hu' hb
    · exact h3.elim
theorem cells_of {v : Value} {a : AV} (hr : Rep g v a) (hp : plain a = true) (hnt : isTup a = false) : ∃ us : List Value, v.cells = us.toArray ∧ RepL g us (cellsOf a) ∧ (∀ v ∈ us, v.oneCell' = true) ∧ plains (cellsOf a) := by
  cases hr with
  | agg vs l q1 q2 q3 => exact ⟨vs, by rfl, q3, q1, q2⟩
  | tup vs l q1 q2 => simp [isTup] at hnt
  | _ => exact ⟨[_], by rfl, .cons (by first | exact .bool _ | exact .int _ _ | exact .str _ | exact .nilp | (exact .ptr _ _ _ ‹_›) | (exact .fp _ _ _ _ ‹_› ‹_› ‹_›) | (exact .lst _ _ _ _ _ _ _ ‹_› ‹_› ‹_› ‹_› ‹_›) | (exact .lst0 _ _ _ ‹_›) | (exact .hs _ _ _ _ ‹_› ‹_›) | (exact .fn _ _ _ ‹_› ‹_›) | exact .nilf) .nil, by simp [Value.oneCell'], by intro b hb; simp only [cellsOf, List.mem_singleton] at hb; subst hb; exact hp⟩

theorem sound_alloc {e : TypeId} {us : List Value} {l : List AV} {ups : List (Nat × Nat × Nat)} (hs : Sim P g h w) (hf : FrameOk P g w act.tmps fr) (hd : act.defers = []) (hN : act.tmps.size = N) (hdst : ∀ d, o.dst = some d → d < N)
    (hx : (execOp act.eval o).run P w = .ok (.value (.pointer (some ⟨w.heap.size, 0, none⟩))) (w.alloc (.cells us.toArray e))) (hr : RepL g us l) (h1 : ∀ v ∈ us, v.oneCell' = true) (hp : plains l) (hu : upsOk P ups = true) (hw : upgK ups l (kbox o.dst fr h K)) : o.wp P act w (Ok P g w N K) Q := by
  obtain ⟨l', q1, q2, q3⟩ := upg_ok (w := w) (id := h.length) hu hr (fun i v a _ ha => Owned.plain (hp a (List.mem_of_getElem? ha))) hw
  obtain ⟨r1, r2⟩ := hs.alloc us.toArray e l' q1 h1 q2
  exact wp_value hx (ok_put hN hd hdst r2 r1 (hf.alloc hs _) (.ptr h.length 0 w.heap.size (by simp [Gh.obj])) (fun _ _ => trivial) q3)
theorem sound_new {l : List AV} {ups : List (Nat × Nat × Nat)} (hs : Sim P g h w) (hf : FrameOk P g w act.tmps fr) (hd : act.defers = []) (hN : act.tmps.size = N) (hdst : ∀ d, o.dst = some d → d < N) (hc : chkEff P o.op o.dst (.new l ups) = true) (hw : wop P o.dst (.new l ups) fr h K) : o.wp P act w (Ok P g w N K) Q := by
  simp only [chkEff, Bool.and_eq_true] at hc
  obtain ⟨hc1, hc2⟩ := hc
  split at hc1
  · next t hop =>
    split at hc1
    · next i hi =>
      split at hc1
      · next z hz =>
        obtain ⟨r1, r2, r3⟩ := chkVs_ok g hc1
        refine sound_alloc (e := t) (us := z.cells.toList) hs hf hd hN hdst ?_ r1 r3 r2 hc2 hw
        simp [execOp, hop, Instr.alloc, zeroValue, typeInfo, hi, hz, newVar, newRow]
      · cases hc1
    · cases hc1
  · cases hc1
theorem sound_box {y : Opd} {ups : List (Nat × Nat × Nat)} (hs : Sim P g h w) (hf : FrameOk P g w act.tmps fr) (hd : act.defers = []) (hN : act.tmps.size = N) (hdst : ∀ d, o.dst = some d → d < N) (hc : chkEff P o.op o.dst (.box y ups) = true) (hw : wop P o.dst (.box y ups) fr h K) : o.wp P act w (Ok P g w N K) Q := by
  simp only [chkEff, Bool.and_eq_true] at hc
  obtain ⟨hc1, hc2⟩ := hc
  split at hc1
  · next t x hop =>
    simp only [wop] at hw
    split at hw
    · next a he =>
      obtain ⟨h1, h2⟩ := ev_ok hf hc1 he
      obtain ⟨us, q1, q2, q3, q4⟩ := cells_of h1 h2 hw.1
      refine sound_alloc (e := t) (us := us) hs hf hd hN hdst ?_ q2 q3 q4 hc2 hw.2
      simp [execOp, hop, Instr.box, newVar, newRow, q1]
    · exact hw.elim
  · cases hc1

/-- a new row of the frame's own -/
theorem FrameOk.newRow {tmps : Array Value} {w' : World} {v' : Value} {e : TypeId} {sz m : Nat} {news : List Value} (hf : FrameOk P g w tmps fr) (hs : Sim P g h w) (hown' : w'.ownsRow 0 e sz v' m ([] ++ news)) (hgr : Grew w w' (.slice none 0 0) v')
    (h1x : ∀ u ∈ [] ++ news, u.oneCell' = true) (d : Nat) : FrameOk P (g.row v'.ownBlock ([] ++ news) (.slot d)) w' tmps fr := by
  have hv : ∀ b, (Value.slice none 0 0).ownBlock = some b → g.own b = some (.slot 0) ∧ (∀ o, ([] : List Value).length ≤ o → g.C b o = none) ∧ ¬ g.F b ∧ ∀ id, g.io id ≠ some b := fun b hb => by cases hb
  obtain ⟨f1, f2, f3⟩ := row_facts (sz := sz) (e := e) hs (World.ownsRow_nil w 0 e sz) hown' hgr hv
  have hle := (Sim.row hs (World.ownsRow_nil w 0 e sz) hown' hgr h1x d hv).2.2
  refine hf.keep hle (fun b k o1 o3 o4 => ?_)
  have hne : v'.ownBlock ≠ some b := fun e' => by
    rcases hgr.way with ⟨q1, _⟩ | ⟨q1, _⟩
    · rw [q1] at e'; cases e'
    · rw [q1] at e'
      simp only [Option.some.injEq] at e'
      have := hs.olt _ _ o1
      omega
  refine ⟨f3 b (hs.olt _ _ o1) hne (fun e' => by cases e'), ?_, ?_, o3, o4⟩
  · simp only [Gh.row]; rw [if_neg hne]; exact o1
  · intro o; simp only [Gh.row]; rw [if_neg (fun hh => hne hh.1)]

theorem rep_row {v' : Value} {e : TypeId} {sz m : Nat} {xs : List Value} {l : List AV} {d : Loc} {w' : World} (hown' : w'.ownsRow 0 e sz v' m xs) (hr : RepL (g.row v'.ownBlock xs d) xs l) (hp : plains l) : Rep (g.row v'.ownBlock xs d) v' (.lst (.own e) m l) := by
  rcases hown'.2 with ⟨rfl, rfl⟩ | ⟨b, c, cur, rfl, _, _, hmc, _, _, ht⟩
  · have : xs = [] := List.eq_nil_of_length_eq_zero (by simpa using hown'.1)
    subst this
    cases hr
    exact .lst0 _ _ _ (fun h => by cases h)
  · refine .lst b 0 m c _ xs l (fun i v hi => ?_) hp hmc (fun h => by cases h) hr
    simp only [Gh.row, Value.ownBlock, Nat.zero_add, true_and]
    rw [if_pos (List.getElem?_eq_some_iff.1 hi).1]
    exact hi
theorem owned_row {v' : Value} {e : TypeId} {sz m : Nat} {xs : List Value} {l : List AV} {d : Loc} {w' : World} (hi : (P.info? e).map (·.size) = some sz) (hown' : w'.ownsRow 0 e sz v' m xs) (hl : xs.length = l.length) (hC : ∀ b o, v'.ownBlock = some b → l.length ≤ o → g.C b o = none)
    (hF : ∀ b, v'.ownBlock = some b → ¬ g.F b ∧ ∀ id, g.io id ≠ some b) : Owned P (g.row v'.ownBlock xs d) w' d v' (.lst (.own e) m l) := by
  refine ⟨sz, hi, by rw [← hl]; exact hown'.1, .inl ⟨xs, hown', fun b hb => ⟨?_, fun o ho => ?_, (hF b hb).1, (hF b hb).2⟩⟩⟩
  · simp only [Gh.row]; rw [if_pos hb]
  · simp only [Gh.row]; rw [if_neg (fun hh => by omega)]; exact hC b o hb ho

/-- a new row, at the operation -/
theorem sound_row {e sz m : Nat} {news : List Value} {l : List AV} {v' : Value} {w' : World} (hs : Sim P g h w) (hf : FrameOk P g w act.tmps fr) (hd : act.defers = []) (hN : act.tmps.size = N) (hdst : ∀ d, o.dst = some d → d < N) (hds : o.dst.isSome = true) (hi : (P.info? e).map (·.size) = some sz)
    (hx : (execOp act.eval o).run P w = .ok (.value v') w') (hown' : w'.ownsRow 0 e sz v' m news) (hgr : Grew w w' (.slice none 0 0) v') (hr : RepL g news l) (h1 : ∀ v ∈ news, v.oneCell' = true) (hp : plains l) (hK : K (put o.dst (.lst (.own e) m l) fr) h) : o.wp P act w (Ok P g w N K) Q := by
  obtain ⟨d, hod⟩ := Option.isSome_iff_exists.1 hds
  have hv : ∀ b, (Value.slice none 0 0).ownBlock = some b → g.own b = some (.slot 0) ∧ (∀ o, ([] : List Value).length ≤ o → g.C b o = none) ∧ ¬ g.F b ∧ ∀ id, g.io id ≠ some b := fun b hb => by cases hb
  obtain ⟨f1, f2, f3⟩ := row_facts (xs := []) (news := news) hs (World.ownsRow_nil w 0 e sz) hown' hgr hv
  obtain ⟨r1, r2, r3⟩ := Sim.row (xs := []) (news := news) hs (World.ownsRow_nil w 0 e sz) hown' hgr h1 d hv
  have hfr := hf.newRow hs (news := news) hown' hgr h1 d
  refine wp_value hx (ok_put hN hd hdst r2 r1 hfr (rep_row hown' (hr.mono r3) hp) (fun k hk => ?_) hK)
  rw [hod] at hk
  simp only [Option.some.injEq] at hk
  subst hk
  refine owned_row hi hown' hr.length (fun b o' hb ho => ?_) (fun b hb => ⟨(f2 b hb).1, (f2 b hb).2.1⟩)
  rcases hgr.way with ⟨q1, _⟩ | ⟨q1, _⟩
  · rw [q1] at hb; cases hb
  · rw [q1] at hb
    simp only [Option.some.injEq] at hb
    exact hs.cnew (by omega) o'

theorem fillE_ok (act : Act) (hf : FrameOk P g w act.tmps fr) {sz : Nat} :
    ∀ (ps : List (Nat × Operand)) (parts : List (Nat × Nat × Opd)) (cells : List Value) (tmpl : List AV) (K : List AV → Prop), chkPartsE sz ps parts = true → RepL g cells tmpl → plains tmpl → (∀ v ∈ cells, v.oneCell' = true) → buildK fr tmpl parts K →
      ∃ cells' l, Instr.fill (fun i => some (i * sz, sz)) cells.toArray (ps.map fun q => (q.1, act.eval q.2)) = some cells'.toArray ∧ RepL g cells' l ∧ plains l ∧ (∀ v ∈ cells', v.oneCell' = true) ∧ K l ∧ cells'.length = cells.length
  | [], [], cells, tmpl, K, _, h1, h2, h3, h4 => ⟨cells, tmpl, rfl, h1, h2, h3, h4, rfl⟩
  | [], _ :: _, _, _, _, h, _, _, _, _ => by simp [chkPartsE] at h
  | _ :: _, [], _, _, _, h, _, _, _, _ => by simp [chkPartsE] at h
  | (i, x) :: r, (off, sz', y) :: r', cells, tmpl, K, hc, h1, h2, h3, h4 => by
    simp only [chkPartsE, Bool.and_eq_true, beq_iff_eq] at hc
    obtain ⟨⟨⟨rfl, rfl⟩, hco⟩, hc2⟩ := hc
    simp only [buildK] at h4
    split at h4
    · next a hev =>
      obtain ⟨⟨hnt, hlen, hfit⟩, h4⟩ := h4
      obtain ⟨hra, hpa⟩ := ev_ok hf hco hev
      obtain ⟨us, hus, hru, hone, hplain⟩ := cells_of hra hpa hnt
      have hul : us.length = sz' := by rw [hru.length]; exact hlen
      have hfold : (us.toArray.zipIdx.foldl (fun cs (c, j) => cs.setIfInBounds (i * sz' + j) c) cells.toArray) = (splice cells (i * sz') us).toArray := by
        have key : ∀ (us : List Value) (k : Nat) (cs : List Value), ((us.zipIdx k).foldl (fun (cs : Array Value) (q : Value × Nat) => cs.setIfInBounds (i * sz' + q.2) q.1) cs.toArray) = (splice cs (i * sz' + k) us).toArray := by
          intro us
          induction us with
          | nil => intro k cs; rfl
          | cons u us ih =>
            intro k cs
            rw [List.zipIdx_cons, List.foldl_cons, splice_cons]
            have := ih (k + 1) (cs.set (i * sz' + k) u)
            simpa [Nat.add_assoc] using this
        have := key us 0 cells
        simpa using this
      obtain ⟨cells', l, q1, q2, q3, q4, q5, q6⟩ := fillE_ok act hf r r' (splice cells (i * sz') us) (splice tmpl (i * sz') (cellsOf a)) K hc2 (h1.splice _ hru) (fun b hb => (mem_splice hb).elim (h2 b) (hplain b)) (fun v hv => (mem_splice hv).elim (h3 v) (hone v)) h4
      refine ⟨cells', l, ?_, q2, q3, q4, q5, by rw [q6, splice_length]⟩
      rw [← q1]
      simp only [List.map_cons, Instr.fill, hus]
      have hcond : (us.toArray.size ≠ sz' || i * sz' + us.toArray.size > cells.toArray.size) = false := by
        simp only [List.size_toArray, hul, h1.length]
        simp; omega
      simp only [List.size_toArray] at hcond ⊢
      rw [hcond]
      simp only [Bool.false_eq_true, if_false]
      rw [hfold]
    · exact h4.elim

theorem isSlice_of {t e : TypeId} (h : isSliceOf P t e = true) : P.underlying t = some (.slice e) := by
  unfold isSliceOf at h
  split at h
  · next e' he => obtain rfl := eq_of_beq h; exact he
  · cases h
theorem elem_of {e sz bytes : Nat} (h : elemOk P e sz bytes = true) : ∃ i z, P.info? e = some i ∧ i.zero = some z ∧ i.size = sz ∧ i.bytes = bytes ∧ z.cells.size = sz ∧ 0 < sz := by
  unfold elemOk at h
  split at h
  · next i hi =>
    simp only [Bool.and_eq_true, beq_iff_eq] at h
    obtain ⟨⟨⟨h1, h2⟩, h3⟩, h4⟩ := h
    split at h4
    · next z hz =>
      have h3 : sz ≠ 0 := by simpa using h3
      exact ⟨i, z, hi, hz, h1, h2, eq_of_beq h4, by omega⟩
    · cases h4
  · cases h

theorem sound_bsl {e sz n : Nat} {tmpl : List AV} {parts : List (Nat × Nat × Opd)} (hs : Sim P g h w) (hf : FrameOk P g w act.tmps fr) (hd : act.defers = []) (hN : act.tmps.size = N) (hdst : ∀ d, o.dst = some d → d < N) (hc : chkEff P o.op o.dst (.bsl e sz n tmpl parts) = true) (hw : wop P o.dst (.bsl e sz n tmpl parts) fr h K) : o.wp P act w (Ok P g w N K) Q := by
  simp only [chkEff, Bool.and_eq_true] at hc
  obtain ⟨hc1, hds⟩ := hc
  split at hc1
  · next t n' ps hop =>
    simp only [Bool.and_eq_true, beq_iff_eq, decide_eq_true_eq] at hc1
    obtain ⟨⟨⟨⟨ht, rfl⟩, hsm⟩, hinf⟩, hps⟩ := hc1
    have ht := isSlice_of ht
    split at hinf
    · next i hi =>
      simp only [Bool.and_eq_true, beq_iff_eq] at hinf
      obtain ⟨rfl, hinf⟩ := hinf
      split at hinf
      · next z hz =>
        simp only [Bool.and_eq_true, beq_iff_eq] at hinf
        obtain ⟨hzs, hvs⟩ := hinf
        obtain ⟨r1, r2, r3⟩ := chkVs_ok g hvs
        obtain ⟨cells', l, f1, f2, f3, f4, f5, f6⟩ := fillE_ok act hf (sz := i.size) ps.toList parts _ tmpl _ hps r1 r2 r3 hw
        have hlen : cells'.length = n' * i.size := by rw [f6]; simp
        have hm : n' ≤ maxLen := by unfold maxLen; omega
        have hz2 : (zeroValue e).run P w = .ok z w := by simp [zeroValue, typeInfo, hi, hz]
        have hcells : (Array.range (n' * i.size)).map (z.cells[· % z.cells.size]!) = ((List.range (n' * i.size)).map fun j => z.cells[j % z.cells.size]!).toArray := by
          apply Array.ext'; simp
        have hx : (execOp act.eval o).run P w = .ok (.value (.slice (some ⟨w.heap.size, 0, none⟩) n' n')) (w.alloc (.cells cells'.toArray e)) := by
          have hmap : (Array.map (fun q => (q.1, act.eval q.2)) ps).toList = ps.toList.map fun q => (q.1, act.eval q.2) := by simp
          have hno : ¬ (n' * i.size > 2 ^ 24) := by simp; omega
          simp only [execOp, hop, Instr.buildSlice, Sem.run_bind, run_underlying ht, Result.andThen_ok, sizeOf, typeInfo, run_program, hi, Sem.run_pure, if_neg hno, hmap]
          by_cases h0 : n' * i.size = 0
          · have f1' : Instr.fill (fun j => some (j * i.size, i.size)) #[] (ps.toList.map fun q => (q.1, act.eval q.2)) = some cells'.toArray := by simpa [h0] using f1
            have e0 : ∀ f : Nat → Value, (Array.range (n' * i.size)).map f = #[] := by intro f; rw [h0]; simp
            simp only [if_pos h0, Sem.run_pure, Result.andThen_ok, e0, f1']
            simp [newRow]
          · simp only [if_neg h0, Sem.run_bind, hz2, Sem.run_pure, Result.andThen_ok, hcells, f1]
            simp [newRow]
        refine sound_row (v' := .slice (some ⟨w.heap.size, 0, none⟩) n' n') (m := n') hs hf hd hN hdst hds (by simp [hi]) hx ⟨hlen, .inr ⟨w.heap.size, n', cells'.toArray, rfl, Nat.zero_le _, heap_new w _, Nat.le_refl _, hm, by simpa using hlen, by simp [← hlen]⟩⟩ ⟨rfl, rfl, rfl, by simp, .inr ⟨rfl, fun k hk => Below.heap_alloc _ _ _ hk⟩⟩ f2 f4 f3 f5
      · cases hinf
    · cases hinf
  · cases hc1

end
end Go.Proofs.Ytajpibdchgflnaa
