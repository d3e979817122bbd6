/- The abstract layer, ninth part: the other operations that change something, and calls. -/
import Derived.Orders
import Derived.Test.YtajpibdchgflnaaAb7
import Derived.Laws.OwnMore
namespace Go.Proofs.Ytajpibdchgflnaa
set_option linter.unusedSimpArgs false
set_option linter.unusedVariables false
open Go.RowKit Go.Lib

section
variable {P : Program} {g : Gh} {h : Hp} {w : World} {fr : Fr} {act : Act} {N : Nat} {K : Fr → Hp → Prop} {Q : Exit → Act → World → Prop} {o : Oper}

theorem sound_mk0 {e sz bytes : Nat} {c : Opd} (hs : Sim P g h w) (hf : FrameOk P g w act.tmps fr) (hd : act.defers = []) (hN : act.tmps.size = N) (hdst : ∀ d, o.dst = some d → d < N) (hc : chkEff P o.op o.dst (.mk0 e sz bytes c) = true) (hw : wop P o.dst (.mk0 e sz bytes c) fr h K) : o.wp P act w (Ok P g w N K) Q := by
  simp only [chkEff, Bool.and_eq_true] at hc
  obtain ⟨⟨hc1, hc2⟩, hds⟩ := hc
  obtain ⟨i, z, hi, hz, rfl, rfl, hzs, hpos⟩ := elem_of hc2
  split at hc1
  · next t l c' hop =>
    simp only [Bool.and_eq_true] at hc1
    obtain ⟨⟨ht, hl⟩, hcc⟩ := hc1
    have ht := isSlice_of ht
    simp only [wop] at hw
    split at hw
    · next k n he =>
      obtain ⟨⟨n0, n1, n2⟩, hK⟩ := hw
      obtain ⟨h1, _⟩ := ev_ok hf hcc he
      generalize hx1 : act.eval c' = u1 at h1
      cases h1
      obtain ⟨h2, _⟩ := ev_ok hf hl (a := .int .i64 0) rfl
      generalize hx2 : act.eval l = u2 at h2
      cases h2
      have hrun := run_make (P := P) w t e i z ht hi hz .i64 k 0 n (Int.le_refl _) n0 (by omega) n2
      have hx : (execOp act.eval o).run P w = .ok (.value (.slice (some ⟨w.heap.size, 0, none⟩) 0 n.toNat)) (w.alloc (.cells (madeCells z.cells (n.toNat * i.size)) e)) := by
        simp [execOp, hop, hx1, hx2, hrun]
      refine sound_row (sz := i.size) (news := []) (l := []) hs hf hd hN hdst hds (by simp [hi]) hx ⟨by simp, .inr ⟨w.heap.size, n.toNat, _, rfl, Nat.zero_le _, heap_new w _, Nat.zero_le _, by unfold maxLen; omega, ?_, by simp⟩⟩ ⟨rfl, rfl, rfl, by simp, .inr ⟨rfl, fun k hk => Below.heap_alloc _ _ _ hk⟩⟩ .nil (by simp) (by intro a ha; simp at ha) hK
      simp [madeCells]
    · exact hw.elim
  · cases hc1
theorem sound_mkn {e sz bytes : Nat} {zero : List AV} {c : Opd} (hs : Sim P g h w) (hf : FrameOk P g w act.tmps fr) (hd : act.defers = []) (hN : act.tmps.size = N) (hdst : ∀ d, o.dst = some d → d < N) (hc : chkEff P o.op o.dst (.mkn e sz bytes zero c) = true) (hw : wop P o.dst (.mkn e sz bytes zero c) fr h K) : o.wp P act w (Ok P g w N K) Q := by
  simp only [chkEff, Bool.and_eq_true] at hc
  obtain ⟨⟨hc1, hc2⟩, hc3⟩ := hc
  obtain ⟨i, z, hi, hz, rfl, rfl, hzs, hpos⟩ := elem_of hc2
  rw [hi] at hc3
  simp only [hz] at hc3
  obtain ⟨r1, r2, r3⟩ := chkVs_ok g hc3
  have hzl : zero.length = i.size := by rw [← r1.length]; simpa using hzs
  split at hc1
  · next t l c' hop =>
    simp only [Bool.and_eq_true] at hc1
    obtain ⟨⟨ht, hl⟩, hcc⟩ := hc1
    have ht := isSlice_of ht
    simp only [wop] at hw
    split at hw
    · next k n he =>
      obtain ⟨⟨n0, n1, n2⟩, hK⟩ := hw
      obtain ⟨h1, _⟩ := ev_ok hf hcc he
      generalize hx1 : act.eval c' = u1 at h1
      cases h1
      obtain ⟨h2, _⟩ := ev_ok hf hl he
      generalize hx2 : act.eval l = u2 at h2
      cases h2
      have hrun := run_make (P := P) w t e i z ht hi hz k k n n n0 (Int.le_refl _) (by omega) n2
      have hx : (execOp act.eval o).run P w = .ok (.value (.slice (some ⟨w.heap.size, 0, none⟩) n.toNat n.toNat)) (w.alloc (.cells (madeCells z.cells (n.toNat * i.size)) e)) := by
        simp [execOp, hop, hx1, hx2, hrun]
      have hcell : ∀ j v, (madeCells z.cells (n.toNat * i.size)).toList[j]? = some v → z.cells.toList[j % i.size]? = some v := by
        intro j v hj
        simp only [madeCells, Array.toList_map, Array.toList_range, List.getElem?_map] at hj
        cases hr : (List.range (n.toNat * i.size))[j]? with
        | none => rw [hr] at hj; cases hj
        | some q =>
          rw [hr] at hj
          simp only [Option.map_some, Option.some.injEq] at hj
          have hq : q = j := by
            have := List.getElem?_range (n := n.toNat * i.size) (i := j)
            by_cases hlt : j < n.toNat * i.size
            · rw [this hlt] at hr; simpa using hr.symm
            · rw [List.getElem?_eq_none (by simp; omega)] at hr; cases hr
          subst hq
          have hm : q % i.size < z.cells.size := by rw [hzs]; exact Nat.mod_lt _ hpos
          rw [← hj, hzs, getElem!_pos z.cells _ hm]
          simp [hm]
      have hR : RepL g (madeCells z.cells (n.toNat * i.size)).toList ((List.range (n.toNat * i.size)).map fun j => zero.getD (j % i.size) .nilp) := by
        refine RepL.mk (by simp [madeCells]) (fun j v a hv ha => ?_)
        have hz' := hcell j v hv
        rw [List.getElem?_map] at ha
        cases hr : (List.range (n.toNat * i.size))[j]? with
        | none => rw [hr] at ha; cases ha
        | some q =>
          rw [hr] at ha
          simp only [Option.map_some, Option.some.injEq] at ha
          have hq : q = j := by
            have := List.getElem?_range (n := n.toNat * i.size) (i := j)
            by_cases hlt : j < n.toNat * i.size
            · rw [this hlt] at hr; simpa using hr.symm
            · rw [List.getElem?_eq_none (by simp; omega)] at hr; cases hr
          subst hq
          have hm : q % i.size < zero.length := by rw [hzl]; exact Nat.mod_lt _ hpos
          obtain ⟨u, hu1, hu2⟩ := r1.get (q % i.size) (zero[q % i.size]) (by simp [hm])
          rw [hz'] at hu1
          simp only [Option.some.injEq] at hu1
          subst hu1
          rw [← ha]
          simpa [hm] using hu2
      have h1c : ∀ v ∈ (madeCells z.cells (n.toNat * i.size)).toList, v.oneCell' = true := by
        intro v hv
        obtain ⟨j, hj, e'⟩ := List.mem_iff_getElem.1 hv
        exact r3 v (List.mem_of_getElem? (hcell j v (by simp only [List.getElem?_eq_getElem hj, e'])))
      have hpz : ∀ a ∈ ((List.range (n.toNat * i.size)).map fun j => zero.getD (j % i.size) AV.nilp), plain a = true := by
        intro a ha
        obtain ⟨j, hj, rfl⟩ := List.mem_map.1 ha
        have hm : j % i.size < zero.length := by rw [hzl]; exact Nat.mod_lt _ hpos
        simp only [List.getD_eq_getElem?_getD, List.getElem?_eq_getElem hm, Option.getD_some]
        exact r2 _ (List.getElem_mem hm)
      obtain ⟨s1, s2⟩ := hs.alloc (madeCells z.cells (n.toNat * i.size)) e _ hR h1c (fun j v a _ ha => Owned.plain (hpz a (List.mem_of_getElem? ha)))
      exact wp_value hx (ok_put hN hd hdst s2 s1 (hf.alloc hs _) (.hs h.length w.heap.size n.toNat n.toNat (by simp [Gh.obj]) (Nat.le_refl _)) (fun _ _ => trivial) hK)
    · exact hw.elim
  · cases hc1

theorem sound_store {n : Nat} {a y : Opd} (hs : Sim P g h w) (hf : FrameOk P g w act.tmps fr) (hd : act.defers = []) (hN : act.tmps.size = N) (hc : chkEff P o.op o.dst (.store n a y) = true) (hw : wop P o.dst (.store n a y) fr h K) : o.wp P act w (Ok P g w N K) Q := by
  simp only [chkEff, Bool.and_eq_true] at hc
  obtain ⟨hc1, hds⟩ := hc
  have hod : o.dst = none := by simpa using hds
  split at hc1
  · next t x v hop =>
    simp only [Bool.and_eq_true, beq_iff_eq] at hc1
    obtain ⟨⟨hca, hcv⟩, hsz⟩ := hc1
    obtain ⟨i, hi, rfl⟩ := info_size hsz
    simp only [wop] at hw
    split at hw
    · next id off av ha hv =>
      split at hw
      · next l hl =>
        obtain ⟨⟨hnt, hlen, hfit⟩, hK⟩ := hw
        obtain ⟨h1, _⟩ := ev_ok hf hca ha
        obtain ⟨h2, h3⟩ := ev_ok hf hcv hv
        generalize hx1 : act.eval x = u1 at h1
        cases h1 with
        | ptr _ _ b hb =>
          obtain ⟨us, q1, q2, q3, q4⟩ := cells_of h2 h3 hnt
          obtain ⟨b', arr, e, p1, p2, p3, p4, p5, p6, p7, p8, p9⟩ := hs.obj id false l hl
          obtain rfl : b = b' := by rw [hb] at p1; simpa using p1
          have hul : us.length = i.size := by rw [q2.length]; exact hlen
          have hal : arr.toList.length = l.length := p3.length
          have hst := run_storeCells_cells (P := P) b off us 0 w (fun j hj => by
              rw [cell_of_row w b _ arr e (0, 0) p2]
              simp only [Array.length_toList] at hal
              simp; omega) (fun j hj => by simp [World.frozen?, p2]) q3
          simp only [Nat.add_zero] at hst
          have hrun : (execOp act.eval o).run P w = .ok .skip (w.setCells b off us) := by
            have hsz2 : ¬ (us.toArray.size ≠ i.size) := by simp [hul]
            simp [execOp, hop, hx1, Instr.storeAt, Instr.sureAddr, storeVar, sizeOf, typeInfo, hi, q1, hul, hst]
          obtain ⟨s1, s2⟩ := hs.store hl hb off us (cellsOf av) q2 q3 (fun j v' a' _ ha' => Owned.plain (q4 a' (List.mem_of_getElem? ha')))
          unfold Oper.wp
          rw [hrun]
          show Ok P g w N K (act.put o.dst undef) _
          rw [hod]
          exact ⟨g, fr, _, hK, s2, s1, hf.store hb off us, hd, hN⟩
      · exact hw.elim
    · exact hw.elim
  · cases hc1

/-- an object is closed: it stays as it is -/
def Gh.shut (g : Gh) (b : Nat) (arr : Array Value) : Gh := ⟨fun b' o => if b' = b then arr.toList[o]? else g.C b' o, g.io, g.F, g.own⟩
theorem Sim.shut (hs : Sim P g h w) {id b : Nat} {l : List AV} {tmps : Array Value} (hl : h[id]? = some (some (false, l))) (hb : g.io id = some b) (hf : FrameOk P g w tmps fr) :
    ∃ g', Sim P g' (h.set id (some (true, l))) w ∧ Ev g w g' w ∧ FrameOk P g' w tmps fr := by
  obtain ⟨b', arr, e, p1, p2, p3, p4, p5, p6, p7, p8, p9⟩ := hs.obj id false l hl
  obtain rfl : b = b' := by rw [hb] at p1; simpa using p1
  have hidlt : id < h.length := (List.getElem?_eq_some_iff.1 hl).1
  have hne : ∀ b', b' ≠ b → ∀ o, (g.shut b arr).C b' o = g.C b' o := fun b' e o => by simp [Gh.shut, e]
  have hle : GLe g (g.shut b arr) := ⟨fun b' o v hv => by
    by_cases e : b' = b
    · subst e; rw [p6 rfl o] at hv; cases hv
    · rw [hne b' e]; exact hv, fun _ _ h => h⟩
  refine ⟨g.shut b arr, ⟨?_, ?_, hs.inj, fun i b hb => by rw [List.length_set]; exact hs.dom i b hb, hs.flt, hs.olt⟩, ⟨hle, fun _ => .rfl, fun b' hb' => ⟨rfl, hne b' (fun e => p8 (e ▸ hb')), rfl, fun _ h => h⟩, rfl, rfl, rfl, Nat.le_refl _⟩, ?_⟩
  · intro b' o v hv
    by_cases e1 : b' = b
    · subst e1
      simp only [Gh.shut, if_true] at hv
      exact ⟨by rw [cell_of_row w b' o arr e (0, 0) p2]; simpa using hv, p4 v (List.mem_of_getElem? hv)⟩
    · rw [hne b' e1] at hv; exact hs.prot b' o v hv
  · intro id' s l' hl'
    by_cases e1 : id' = id
    · subst e1
      rw [List.getElem?_set] at hl'
      simp only [if_true, hidlt, Option.some.injEq, Prod.mk.injEq] at hl'
      obtain ⟨rfl, rfl⟩ := hl'
      exact ⟨b, arr, e, hb, p2, p3.mono hle, p4, fun i v a x y => (p5 i v a x y).keep fun b' o1 _ o3 o4 => ⟨rfl, o1, hne b' (fun e => o4 id' (e ▸ hb)), o3, o4⟩, fun h => (nomatch h), fun _ i v hv => by simpa [Gh.shut] using hv, p8, p9⟩
    · rw [List.getElem?_set_ne (fun e => e1 e.symm)] at hl'
      exact (hs.obj id' s l' hl').keep hle (fun b' i1 i2 i3 => ⟨rfl, hne b' (fun e => e1 (hs.inj _ _ _ (e ▸ i1) hb)), i2, i3⟩) (fun b' i i1 i2 i3 => ⟨rfl, i1, hne b' (fun e => i3 id (e ▸ hb)), i2, i3⟩)
  · intro k a hk
    obtain ⟨v, v1, v2, v3⟩ := hf k a hk
    exact ⟨v, v1, v2.mono hle, v3.keep fun b' o1 _ o3 o4 => ⟨rfl, o1, hne b' (fun e => o4 id (e ▸ hb)), o3, o4⟩⟩
theorem sound_stores {n : Nat} {a y : Opd} (hs : Sim P g h w) (hf : FrameOk P g w act.tmps fr) (hd : act.defers = []) (hN : act.tmps.size = N) (hc : chkEff P o.op o.dst (.stores n a y) = true) (hw : wop P o.dst (.stores n a y) fr h K) : o.wp P act w (Ok P g w N K) Q := by
  simp only [wop] at hw
  split at hw
  · next id off av ha hv =>
    split at hw
    · next l hl =>
      obtain ⟨hfit, hK⟩ := hw
      have hw' : wop P o.dst (.store n a y) fr h (fun fr' h' => fr' = fr ∧ h' = h.set id (some (false, splice l off (cellsOf av)))) := by
        simp only [wop, ha, hv, hl]
        refine ⟨hfit, ?_⟩
        simp
      obtain ⟨b, hb⟩ : ∃ b, g.io id = some b := ⟨_, (hs.obj id false l hl).choose_spec.choose_spec.choose_spec.1⟩
      refine Oper.wp_mono (fun a1 w1 hok => ?_) (sound_store (Q := Q) hs hf hd hN hc hw')
      obtain ⟨g1, fr1, h1, ⟨rfl, rfl⟩, e1, s1, f1, d1, n1⟩ := hok
      obtain ⟨g2, s2, e2, f2⟩ := s1.shut (id := id) (b := b) (by rw [List.getElem?_set_self (List.getElem?_eq_some_iff.1 hl).1]) (e1.le.io _ _ hb) f1
      rw [List.set_set] at s2
      exact ⟨g2, _, _, hK, e1.trans e2, s2, f2, d1, n1⟩
    · exact hw.elim
  · exact hw.elim
theorem sound_storeo {a : Opd} {k : Nat} (hs : Sim P g h w) (hf : FrameOk P g w act.tmps fr) (hd : act.defers = []) (hN : act.tmps.size = N) (hc : chkEff P o.op o.dst (.storeo a k) = true) (hw : wop P o.dst (.storeo a k) fr h K) : o.wp P act w (Ok P g w N K) Q := by
  simp only [chkEff, Bool.and_eq_true] at hc
  obtain ⟨hc1, hds⟩ := hc
  have hod : o.dst = none := by simpa using hds
  split at hc1
  · next t x j hop =>
    simp only [Bool.and_eq_true, beq_iff_eq] at hc1
    obtain ⟨⟨hca, rfl⟩, hsz⟩ := hc1
    obtain ⟨i, hi, hisz⟩ := info_size hsz
    simp only [wop] at hw
    split at hw
    · next id off e n c ha hk =>
      split at hw
      · next l hl =>
        obtain ⟨hfit, hK⟩ := hw
        obtain ⟨h1, _⟩ := ev_ok hf hca ha
        generalize hx1 : act.eval x = u1 at h1
        cases h1 with
        | ptr _ _ b hb =>
          obtain ⟨v, v1, v2, v3⟩ := hf j _ hk
          have hv : act.eval (.tmp j) = v := by simp only [Act.eval, Array.getD_eq_getD_getElem?, v1, Option.getD_some]
          obtain ⟨ob, g1, g2⟩ := own_give (x := .cell id off) v3
          obtain ⟨s1, s2⟩ := hs.give (x := .cell id off) g1
          have hone : v.oneCell' = true := by cases v2 <;> rfl
          have hcl : v.cells = #[v] := by cases v2 <;> rfl
          obtain ⟨b', arr, e', p1, p2, p3, p4, p5, p6, p7, p8, p9⟩ := hs.obj id false l hl
          obtain rfl : b = b' := by rw [hb] at p1; simpa using p1
          have hal : arr.toList.length = l.length := p3.length
          have hst := run_storeCells_cells (P := P) b off [v] 0 w (fun j hj => by
              rw [cell_of_row w b _ arr e' (0, 0) p2]
              simp only [Array.length_toList] at hal
              simp at hj
              simp; omega) (fun j hj => by simp [World.frozen?, p2]) (by simpa using hone)
          simp only [Nat.add_zero] at hst
          have hrun : (execOp act.eval o).run P w = .ok .skip (w.setCells b off [v]) := by
            simp [execOp, hop, hx1, hv, Instr.storeAt, Instr.sureAddr, storeVar, sizeOf, typeInfo, hi, hcl, hisz, hst]
          obtain ⟨t1, t2⟩ := s1.store hl hb off [v] [.lst (.own e) n c] (.cons (v2.mono (gle_give _ _ _)) .nil) (by simpa using hone) (fun q v' a' hv' ha' => by
            cases q with
            | zero => simp at hv' ha'; subst hv'; subst ha'; exact g2
            | succ q => simp at hv')
          unfold Oper.wp
          rw [hrun]
          show Ok P g w N K (act.put o.dst undef) _
          rw [hod]
          exact ⟨_, _, _, hK, s2.trans t2, t1, (hf.give (.cell id off) g1).store hb off [v], hd, hN⟩
      · exact hw.elim
    · exact hw.elim
  · cases hc1

/-- the right to append is taken out of an object -/
theorem Sim.takeCell (hs : Sim P g h w) {id off d : Nat} {l : List AV} {e n : Nat} {c : List AV} (hl : h[id]? = some (some (false, l))) (ha : l[off]? = some (.lst (.own e) n c)) {ob : Option Nat} (ho : ∀ b, ob = some b → g.own b = some (.cell id off) ∧ ¬ g.F b ∧ ∀ i, g.io i ≠ some b) :
    Sim P (g.give ob (.slot d)) (h.set id (some (false, l.set off (.lst .ro n c)))) w ∧ Ev g w (g.give ob (.slot d)) w := by
  have hle := gle_give g ob (.slot d)
  have hidlt : id < h.length := (List.getElem?_eq_some_iff.1 hl).1
  refine ⟨⟨hs.prot, ?_, hs.inj, fun i b hb => by rw [List.length_set]; exact hs.dom i b hb, hs.flt, ?_⟩, ⟨hle, fun _ => .rfl, fun b hb => ⟨rfl, fun _ => rfl, ?_, fun _ h => h⟩, rfl, rfl, rfl, Nat.le_refl _⟩⟩
  · intro id' s l' hl'
    by_cases e1 : id' = id
    · subst e1
      rw [List.getElem?_set] at hl'
      simp only [if_true, hidlt, Option.some.injEq, Prod.mk.injEq] at hl'
      obtain ⟨rfl, rfl⟩ := hl'
      obtain ⟨b, arr, e', p1, p2, p3, p4, p5, p6, p7, p8, p9⟩ := hs.obj id' false l hl
      obtain ⟨v, hv, hr⟩ := p3.get off _ ha
      refine ⟨b, arr, e', p1, p2, (p3.setR off hv (by simpa [deg] using hr.deg)).mono hle, p4, ?_, p6, (fun h => by cases h), p8, ?_⟩
      · intro i u a hu hb
        rw [List.getElem?_set] at hb
        split at hb
        · split at hb
          · simp only [Option.some.injEq] at hb; subst hb; exact Owned.plain rfl
          · cases hb
        · next hne =>
          refine (p5 i u a hu hb).keep fun b1 o1 _ o3 o4 => ⟨rfl, ?_, fun _ => rfl, o3, o4⟩
          simp only [Gh.give]
          rw [if_neg (fun e2 => by rw [(ho b1 e2).1] at o1; simp only [Option.some.injEq, Loc.cell.injEq, true_and] at o1; exact hne o1)]
          exact o1
      · simp only [Gh.give]; rw [if_neg (fun e2 => (ho b e2).2.2 id' p1)]; exact p9
    · rw [List.getElem?_set_ne (fun e => e1 e.symm)] at hl'
      refine (hs.obj id' s l' hl').keep hle (fun b hb h8 h9 => ⟨rfl, fun _ => rfl, h8, ?_⟩) (fun b i o1 o3 o4 => ⟨rfl, ?_, fun _ => rfl, o3, o4⟩)
      · simp only [Gh.give]; rw [if_neg (fun e2 => (ho b e2).2.2 id' hb)]; exact h9
      · simp only [Gh.give]; rw [if_neg (fun e2 => by rw [(ho b e2).1] at o1; simp only [Option.some.injEq, Loc.cell.injEq] at o1; exact e1 o1.1.symm)]; exact o1
  · intro b y hb
    simp only [Gh.give] at hb
    split at hb
    · next e2 => exact hs.olt b _ (ho b e2).1
    · exact hs.olt b y hb
  · simp only [Gh.give]; rw [if_neg (fun e2 => (ho b e2).2.1 hb)]
theorem sound_loado {y : Opd} (hs : Sim P g h w) (hf : FrameOk P g w act.tmps fr) (hd : act.defers = []) (hN : act.tmps.size = N) (hdst : ∀ d, o.dst = some d → d < N) (hc : chkEff P o.op o.dst (.loado y) = true) (hw : wop P o.dst (.loado y) fr h K) : o.wp P act w (Ok P g w N K) Q := by
  simp only [chkEff, Bool.and_eq_true] at hc
  obtain ⟨hc1, hds⟩ := hc
  obtain ⟨d, hod⟩ := Option.isSome_iff_exists.1 hds
  split at hc1
  · next t x hop =>
    simp only [Bool.and_eq_true] at hc1
    obtain ⟨hco, hty⟩ := hc1
    simp only [wop] at hw
    split at hw
    · next id off ha =>
      split at hw
      · next l hl =>
        split at hw
        · next e n c hcell =>
          obtain ⟨h1, _⟩ := ev_ok hf hco ha
          generalize hx1 : act.eval x = u1 at h1
          cases h1 with
          | ptr _ _ b hb =>
            obtain ⟨b', arr, e', p1, p2, p3, p4, p5, p6, p7, p8, p9⟩ := hs.obj id false l hl
            obtain rfl : b = b' := by rw [hb] at p1; simpa using p1
            obtain ⟨v, hv, hr⟩ := p3.get off _ hcell
            have hown := p5 off v _ hv hcell
            have hrun : (execOp act.eval o).run P w = .ok (.value v) w := by
              split at hty
              · next dd hdd =>
                have hagg : (isAgg t).run P w = .ok false w := by
                  simp only [isAgg, Sem.run_bind, run_underlying hdd, Result.andThen_ok]
                  cases dd <;> first | rfl | (simp [isAggT] at hty)
                have hcv : w.cell? ⟨b, off, none⟩ = some v := by rw [cell_of_row w b off arr e' (0, 0) p2]; simpa using hv
                simp [execOp, hop, hx1, Instr.loadAt, Instr.sureAddr, loadVar, hagg, hcv]
              · cases hty
            obtain ⟨ob, g1, g2⟩ : ∃ ob, (∀ b, ob = some b → g.own b = some (.cell id off) ∧ ¬ g.F b ∧ ∀ i, g.io i ≠ some b) ∧ Owned P (g.give ob (.slot d)) w (.slot d) v (.lst (.own e) n c) := by
              obtain ⟨sz, q1, q2, ⟨vs, q3, q4⟩ | q3⟩ := hown
              · refine ⟨v.ownBlock, fun b hb => ⟨(q4 b hb).1, (q4 b hb).2.2⟩, sz, q1, q2, .inl ⟨vs, q3, fun b hb => ⟨?_, (q4 b hb).2⟩⟩⟩
                simp only [Gh.give]; rw [if_pos hb]
              · exact ⟨none, fun b hb => (by cases hb), sz, q1, q2, .inr q3⟩
            obtain ⟨s1, s2⟩ := hs.takeCell (d := d) hl hcell g1
            have hf' : FrameOk P (g.give ob (.slot d)) w act.tmps fr := hf.keep (gle_give _ _ _) (fun b1 k o1 o3 o4 => ⟨rfl, by
              simp only [Gh.give]; rw [if_neg (fun e2 => by rw [(g1 b1 e2).1] at o1; cases o1)]; exact o1, fun _ => rfl, o3, o4⟩)
            refine wp_value hrun (ok_put hN hd hdst s2 s1 hf' (hr.mono (gle_give _ _ _)) (fun k hk => ?_) hw)
            rw [hod] at hk
            simp only [Option.some.injEq] at hk
            subst hk
            exact g2
        · exact hw.elim
      · exact hw.elim
    · exact hw.elim
  · cases hc1

/-- an append, behind the run -/
theorem sound_grow {e sz n m : Nat} {xs news : List Value} {l l' : List AV} {v v' : Value} {w' : World} {k : Nat} (hs : Sim P g h w) (hf : FrameOk P g w act.tmps fr) (hd : act.defers = []) (hN : act.tmps.size = N) (hdst : ∀ d, o.dst = some d → d < N) (hds : o.dst.isSome = true) (hi : (P.info? e).map (·.size) = some sz)
    (hx : (execOp act.eval o).run P w = .ok (.value v') w') (hown : w.ownsRow 0 e sz v n xs) (hown' : w'.ownsRow 0 e sz v' m (xs ++ news)) (hgr : Grew w w' v v') (hr : RepL g xs l) (hr' : RepL g news l') (h1 : ∀ v ∈ xs ++ news, v.oneCell' = true) (hp : plains (l ++ l'))
    (hv : ∀ b, v.ownBlock = some b → g.own b = some (.slot k) ∧ (∀ o, xs.length ≤ o → g.C b o = none) ∧ ¬ g.F b ∧ ∀ id, g.io id ≠ some b)
    (hK : K (put o.dst (.lst (.own e) m (l ++ l')) (degr k fr)) h) : o.wp P act w (Ok P g w N K) Q := by
  obtain ⟨d, hod⟩ := Option.isSome_iff_exists.1 hds
  obtain ⟨f1, f2, f3⟩ := row_facts hs hown hown' hgr hv
  obtain ⟨r1, r2, r3⟩ := Sim.row hs hown hown' hgr h1 d hv
  have hfr := hf.row hs hown hown' hgr h1 d hv
  refine wp_value hx (ok_put hN hd hdst r2 r1 hfr (rep_row hown' ((hr.append hr').mono r3) hp) (fun k' hk' => ?_) hK)
  rw [hod] at hk'
  simp only [Option.some.injEq] at hk'
  subst hk'
  have hlen : (xs ++ news).length = (l ++ l').length := (hr.append hr').length
  refine owned_row hi hown' hlen (fun b o' hb ho => ?_) (fun b hb => ⟨(f2 b hb).1, (f2 b hb).2.1⟩)
  rcases hgr.way with ⟨q1, _⟩ | ⟨q1, _⟩
  · rw [q1] at hb
    refine (hv b hb).2.1 o' ?_
    have := hr.length
    rw [List.length_append] at ho
    omega
  · rw [q1] at hb
    simp only [Option.some.injEq] at hb
    exact hs.cnew (by omega) o'

/-- a list as the row that it lies in -/
theorem row_of {v : Value} {f : Fl} {m : Nat} {l : List AV} (hs : Sim P g h w) (hr : Rep g v (.lst f m l)) : ∃ a c vs, v = .slice a m c ∧ RowOf w a vs ∧ RepL g vs l ∧ (∀ u ∈ vs, u.oneCell' = true) ∧ plains l ∧ (f = .clip → c = m) ∧ (a = none → m = 0 ∧ vs = []) := by
  cases hr with
  | lst b off n c f vs l q1 q2 q3 q4 q5 =>
    obtain ⟨r1, r2⟩ := hs.cellsAt q1
    exact ⟨_, _, vs, rfl, .inr ⟨b, off, rfl, r1⟩, q5, r2, q2, q4, fun h => by cases h⟩
  | lst0 a c f q => exact ⟨_, _, [], rfl, .inl rfl, .nil, by simp, by intro a ha; simp at ha, q, fun _ => ⟨rfl, rfl⟩⟩

theorem exec_append {x x' : Operand} {t t' : TypeId} {c : Call} (hop : o.op = .call c) (h1 : c.callee = .builtin .append) (h2 : c.args.toList = [x, x']) (h3 : c.argTypes.toList = [t, t']) {v : Value} {w' : World} (hr : (Builtin.append_ #[t, t'] o.type #[act.eval x, act.eval x']).run P w = .ok v w') : (execOp act.eval o).run P w = .ok (.value v) w' := by
  simp [execOp, hop, resolve, invoke, builtin, h1, of_toList2 h2, of_toList2 h3, hr]

theorem app_type {t t' ty e e' : TypeId} (ht : P.underlying t = some (.slice e)) (ht' : P.underlying t' = some (.slice e')) (u v : Value) : (Builtin.append_ #[t, t'] ty #[u, v]).run P w = (Builtin.append_ #[t, t] ty #[u, v]).run P w := by
  cases u <;> simp [Builtin.append_, run_underlying ht, run_underlying ht']
theorem exec_append' {x x' : Operand} {t t' e e' : TypeId} {c : Call} (ht : P.underlying t = some (.slice e)) (ht' : P.underlying t' = some (.slice e')) (hop : o.op = .call c) (h1 : c.callee = .builtin .append) (h2 : c.args.toList = [x, x']) (h3 : c.argTypes.toList = [t, t']) {v : Value} {w' : World} (hr : (Builtin.append_ #[t, t] o.type #[act.eval x, act.eval x']).run P w = .ok v w') : (execOp act.eval o).run P w = .ok (.value v) w' :=
  exec_append hop h1 h2 h3 (by rw [app_type ht ht']; exact hr)

/-- append to a full slice -/
theorem sound_clip {e sz bytes n m : Nat} {l l' : List AV} {x x' : Operand} {t t' : TypeId} {c : Call} {sa : Option Addr} {xs : List Value} (k : Option Nat) (hs : Sim P g h w) (hf : FrameOk P g w act.tmps fr) (hd : act.defers = []) (hN : act.tmps.size = N) (hdst : ∀ d, o.dst = some d → d < N) (hds : o.dst.isSome = true)
    (hop : o.op = .call c) (h1 : c.callee = .builtin .append) (h2 : c.args.toList = [x, x']) (h3 : c.argTypes.toList = [t, t']) (ht : P.underlying t = some (.slice e)) (ht' : P.underlying t' = some (.slice e)) (he : elemOk P e sz bytes = true)
    (hv : act.eval x = .slice sa n n) (hrow : RowOf w sa xs) (hrx : RepL g xs l) (hox : ∀ u ∈ xs, u.oneCell' = true) (hpl : plains l) (hrl : Rep g (.slice sa n n) (.lst (.own e) n l)) (hl : l.length = n * sz) {f : Fl} (hy : Rep g (act.eval x') (.lst f m l')) (hl' : l'.length = m * sz) (h63 : n + m ≤ 9223372036854775807) (hby : (n + m) * bytes ≤ 140737488355328)
    (hfk : ∀ g' w', FrameOk P g' w' act.tmps fr → FrameOk P g' w' act.tmps (k.elim fr (degr · fr))) (hK : K (put o.dst (.lst (.own e) (n + m) (l ++ l')) (k.elim fr (degr · fr))) h) : o.wp P act w (Ok P g w N K) Q := by
  obtain ⟨i, z, hi, hz, rfl, rfl, hzs, hpos⟩ := elem_of he
  obtain ⟨a, c', news, hx', hrow', hrn, hon, hpl', _, hnil⟩ := row_of hs hy
  rcases Nat.eq_zero_or_pos m with rfl | hm
  · have hl0 : l' = [] := List.eq_nil_of_length_eq_zero (by simpa using hl')
    subst hl0
    have hr := run_app_none (P := P) w t o.type e i ht hi sa n n c' (Nat.le_refl _) a
    rw [← hv, ← hx'] at hr
    refine wp_value (exec_append' ht ht' hop h1 h2 h3 hr) (ok_put (a := .lst (.own e) (n + 0) (l ++ [])) hN hd hdst (.refl g w) hs (hfk g w hf) (by rw [hv]; simpa using hrl) (fun k _ => ⟨i.size, by simp [hi], by simpa using hl, .inr ⟨sa, hv⟩⟩) hK)
  · obtain ⟨c2, w', hr, hown', hgr⟩ := run_app_clip (P := P) w t o.type e i z i.size i.bytes ht hi hz rfl rfl hzs hpos sa n xs (by rw [hrx.length]; exact hl) hrow a m c' news (by rw [hrn.length]; exact hl') hrow' hm (by unfold maxLen; omega) hby
    rw [← hv, ← hx'] at hr
    refine sound_row (K := K) (fr := k.elim fr (degr · fr)) hs (hfk g w hf) hd hN hdst hds (by simp [hi]) (exec_append' ht ht' hop h1 h2 h3 hr) hown' hgr (hrx.append hrn) (fun u hu => (List.mem_append.1 hu).elim (hox u) (hon u)) (fun u hu => (List.mem_append.1 hu).elim (hpl u) (hpl' u)) hK

theorem sound_app {e sz bytes : Nat} {y z : Opd} (hs : Sim P g h w) (hf : FrameOk P g w act.tmps fr) (hd : act.defers = []) (hN : act.tmps.size = N) (hdst : ∀ d, o.dst = some d → d < N) (hc : chkEff P o.op o.dst (.app e sz bytes y z) = true) (hw : wop P o.dst (.app e sz bytes y z) fr h K) : o.wp P act w (Ok P g w N K) Q := by
  simp only [chkEff, Bool.and_eq_true] at hc
  obtain ⟨⟨hc1, he⟩, hds⟩ := hc
  split at hc1
  · next c hop =>
    split at hc1
    · next x x' t t' q1 q2 q3 =>
      simp only [Bool.and_eq_true, beq_iff_eq] at hc1
      obtain ⟨⟨⟨ht, ht'⟩, hcx⟩, hcx'⟩ := hc1
      simp only [wop] at hw
      split at hw
      · next n l f m l' ha hb =>
        obtain ⟨⟨hl, hl', h63, hby⟩, hK⟩ := hw
        obtain ⟨h1, _⟩ := ev_ok hf hcx ha
        obtain ⟨h2, _⟩ := ev_ok hf hcx' hb
        obtain ⟨a, c', xs, hv, hrow, hrx, hox, hpl, hcl, _⟩ := row_of hs h1
        obtain rfl := hcl rfl
        have hrl := (rep_up (e := e) h1).1
        rw [hv] at hrl
        exact sound_clip none hs hf hd hN hdst hds hop q1 q2 q3 (isSlice_of ht) (isSlice_of ht') he hv hrow hrx hox hpl hrl hl h2 hl' h63 hby (fun _ _ h => h) hK
      · exact hw.elim
    · cases hc1
  · cases hc1

theorem FrameOk.degr {tmps : Array Value} (k : Nat) (hf : FrameOk P g w tmps fr) : FrameOk P g w tmps (degr k fr) := by
  intro j a hj
  rw [lk_degr] at hj
  by_cases e : j = k
  · subst e
    rw [if_pos rfl] at hj
    cases hl : lk fr j with
    | none => rw [hl] at hj; cases hj
    | some a' =>
      rw [hl] at hj
      simp only [Option.map_some, Option.some.injEq] at hj
      subst hj
      obtain ⟨v, h1, h2, h3⟩ := hf j a' hl
      exact ⟨v, h1, h2.deg, Owned.plain (plain_deg a')⟩
  · rw [if_neg e] at hj
    exact hf j a hj

/-- a slot's slice that may be appended to -/
theorem own_cases {v : Value} {k e n : Nat} {l : List AV} (hs : Sim P g h w) (hr : Rep g v (.lst (.own e) n l)) (ho : Owned P g w (.slot k) v (.lst (.own e) n l)) :
    ∃ sz, (P.info? e).map (·.size) = some sz ∧ l.length = n * sz ∧ ((∃ xs, w.ownsRow 0 e sz v n xs ∧ RepL g xs l ∧ (∀ u ∈ xs, u.oneCell' = true) ∧ ∀ b, v.ownBlock = some b → g.own b = some (.slot k) ∧ (∀ o, xs.length ≤ o → g.C b o = none) ∧ ¬ g.F b ∧ ∀ id, g.io id ≠ some b) ∨
      ∃ a xs, v = .slice a n n ∧ RowOf w a xs ∧ RepL g xs l ∧ ∀ u ∈ xs, u.oneCell' = true) := by
  obtain ⟨sz, h1, h2, h3⟩ := ho
  obtain ⟨a, c, xs, hv, hrow, hrx, hox, hpl, _, hnil⟩ := row_of hs hr
  refine ⟨sz, h1, h2, ?_⟩
  rcases h3 with ⟨vs, h3, h4⟩ | ⟨a', h3⟩
  · left
    have hxl : xs.length = vs.length := by rw [hrx.length, h2, h3.1]
    have hvx : vs = xs := by
      rcases h3.2 with ⟨e1, e2⟩ | ⟨b, cc, cur, e1, _, hb, hnc, _, hcs, ht⟩
      · have : vs = [] := List.eq_nil_of_length_eq_zero (by rw [h3.1, e2]; simp)
        subst this
        exact (List.eq_nil_of_length_eq_zero (by simpa using hxl)).symm
      · rw [hv] at e1
        simp only [Value.slice.injEq] at e1
        obtain ⟨rfl, _, rfl⟩ := e1
        rcases hrow with rfl | ⟨b', off, e3, hcell⟩
        · exact List.eq_nil_of_length_eq_zero (by simpa using hxl.symm)
        · simp only [Option.some.injEq, Addr.mk.injEq, and_true] at e3
          obtain ⟨rfl, rfl⟩ := e3
          apply List.ext_getElem?
          intro j
          by_cases hj : j < xs.length
          · have c1 := hcell j xs[j] (by simp [hj])
            rw [Nat.zero_add, cell_of_row w b j cur e (0, 0) hb] at c1
            rw [← ht, List.getElem?_take, if_pos (by rw [← h3.1, ← hxl]; exact hj), List.getElem?_eq_getElem hj]
            simpa using c1
          · rw [List.getElem?_eq_none (by omega), List.getElem?_eq_none (by omega)]
    subst hvx
    refine ⟨vs, h3, hrx, hox, fun b hb => ⟨(h4 b hb).1, fun o ho => (h4 b hb).2.1 o (by rw [← hrx.length]; exact ho), (h4 b hb).2.2⟩⟩
  · right
    rw [hv] at h3
    simp only [Value.slice.injEq, true_and] at h3
    obtain ⟨rfl, rfl⟩ := h3
    exact ⟨a, xs, hv, hrow, hrx, hox⟩

theorem sound_appo {e sz bytes k : Nat} {z : Opd} (hs : Sim P g h w) (hf : FrameOk P g w act.tmps fr) (hd : act.defers = []) (hN : act.tmps.size = N) (hdst : ∀ d, o.dst = some d → d < N) (hc : chkEff P o.op o.dst (.appo e sz bytes k z) = true) (hw : wop P o.dst (.appo e sz bytes k z) fr h K) : o.wp P act w (Ok P g w N K) Q := by
  simp only [chkEff, Bool.and_eq_true] at hc
  obtain ⟨⟨hc1, he⟩, hds⟩ := hc
  split at hc1
  · next c hop =>
    split at hc1
    · next j x' t t' q1 q2 q3 =>
      simp only [Bool.and_eq_true, beq_iff_eq] at hc1
      obtain ⟨⟨⟨ht, ht'⟩, rfl⟩, hcx'⟩ := hc1
      have ht := isSlice_of ht
      have ht' := isSlice_of ht'
      simp only [wop] at hw
      split at hw
      · next e' n l f m l' ha hb =>
        obtain ⟨⟨rfl, hl', h63, hby⟩, hK⟩ := hw
        obtain ⟨v, v1, v2, v3⟩ := hf j _ ha
        have hv : act.eval (.tmp j) = v := by simp only [Act.eval, Array.getD_eq_getD_getElem?, v1, Option.getD_some]
        obtain ⟨h2, _⟩ := ev_ok hf hcx' hb
        obtain ⟨i, zz, hi, hz, rfl, rfl, hzs, hpos⟩ := elem_of he
        obtain ⟨sz, o1, o2, ⟨xs, o3, o4, o5, o6⟩ | ⟨sa, xs, o3, o4, o5, o6⟩⟩ := own_cases hs v2 v3
        · have hsz : sz = i.size := by rw [hi] at o1; simpa using o1.symm
          subst hsz
          obtain ⟨a, c', news, hx', hrow', hrn, hon, hpl', _, hnil⟩ := row_of hs h2
          have hpl : plains l := by cases v2 with | lst _ _ _ _ _ _ _ _ hp _ _ _ => exact hp | lst0 => intro a ha; simp at ha
          cases a with
          | none =>
            obtain ⟨rfl, rfl⟩ := hnil rfl
            have hl0 : l' = [] := List.eq_nil_of_length_eq_zero (by simpa using hl')
            subst hl0
            obtain ⟨sa, cap, rfl, hcap⟩ := owns_form o3
            have hnc : n ≤ cap := by
              rcases o3.2 with ⟨e1, _⟩ | ⟨_, _, _, e1, _, _, hnc, _⟩
              · simp only [Value.slice.injEq] at e1; omega
              · simp only [Value.slice.injEq] at e1; omega
            have hr := run_app_none (P := P) w t o.type e' i ht hi sa n cap c' hnc none
            rw [← hv, ← hx'] at hr
            have hown2 : w.ownsRow 0 e' i.size (.slice sa n cap) (n + 0) (xs ++ []) := by simpa using o3
            exact sound_grow (k := j) hs hf hd hN hdst hds o1 (by rw [← hv]; exact exec_append' ht ht' hop q1 q2 q3 hr) o3 hown2 ⟨rfl, rfl, rfl, Nat.le_refl _, .inl ⟨rfl, fun _ _ _ => rfl⟩⟩ o4 .nil (by simpa using o5) (by simpa using hpl) o6 hK
          | some ad =>
            obtain ⟨v', w', hr, hown', hgr⟩ := run_app (P := P) w t o.type e' i zz i.size i.bytes ht hi hz rfl rfl hzs hpos v n xs o3 (some ad) m c' news (by rw [hrn.length]; exact hl') hrow' (fun h => by cases h) hon (by unfold maxLen; omega) hby
            rw [← hv, ← hx'] at hr
            exact sound_grow (k := j) hs hf hd hN hdst hds o1 (exec_append' ht ht' hop q1 q2 q3 hr) o3 hown' hgr o4 hrn (fun u hu => (List.mem_append.1 hu).elim (o5 u) (hon u)) (fun u hu => (List.mem_append.1 hu).elim (hpl u) (hpl' u)) o6 hK
        · have hsz : sz = i.size := by rw [hi] at o1; simpa using o1.symm
          subst hsz
          have hpl : plains l := by cases v2 with | lst _ _ _ _ _ _ _ _ hp _ _ _ => exact hp | lst0 => intro a ha; simp at ha
          rw [o3] at v2 hv
          exact sound_clip (some j) hs hf hd hN hdst hds hop q1 q2 q3 ht ht' he hv o4 o5 o6 hpl v2 o2 h2 hl' h63 hby (fun _ _ h => h.degr j) hK
      · exact hw.elim
    · cases hc1
  · cases hc1

theorem repl_bytes (g : Gh) (s : ByteArray) : RepL g (strCells s) (s.data.toList.map fun b => AV.int .u8 b.toNat) := by
  unfold strCells
  generalize s.data.toList = l
  induction l with
  | nil => exact .nil
  | cons b l ih => exact .cons (.int _ _) ih
theorem run_apps_none (t u ty e : TypeId) (i : TypeInfo) (ht : P.underlying t = some (.slice e)) (hu : P.underlying u = some .string) (hi : P.info? e = some i) (sa : Option Addr) (n k : Nat) (hk : n ≤ k) (s : ByteArray) (h0 : s.size = 0) :
    (Builtin.append_ #[t, u] ty #[.slice sa n k, .string s]).run P w = .ok (.slice sa n k) w := by
  have he : (s.extract 0 0).data = #[] := by apply Array.ext'; simp
  cases sa <;> simp [Builtin.append_, run_underlying ht, run_underlying hu, sizeOf, typeInfo, hi, Builtin.lenOf, Builtin.firstCells, hk, storeCells, h0, he]
theorem run_apps_clip (t u ty e : TypeId) (i : TypeInfo) (ht : P.underlying t = some (.slice e)) (hu : P.underlying u = some .string) (hi : P.info? e = some i) (hz : i.zero = some (.int .u8 0)) (hsize : i.size = 1) (hby : i.bytes = 1)
    (sa : Option Addr) (n : Nat) (xs : List Value) (hx : xs.length = n) (hxs : RowOf w sa xs) (s : ByteArray) (hm : 0 < s.size) (hbytes : n + s.size ≤ 140737488355328) :
    ∃ c' w', (Builtin.append_ #[t, u] ty #[.slice sa n n, .string s]).run P w = .ok (.slice (some ⟨w.heap.size, 0, none⟩) (n + s.size) c') w' ∧ w'.ownsRow 0 e 1 (.slice (some ⟨w.heap.size, 0, none⟩) (n + s.size) c') (n + s.size) (xs ++ strCells s) ∧ Grew w w' (.slice none 0 0) (.slice (some ⟨w.heap.size, 0, none⟩) (n + s.size) c') := by
  have h63 : n + s.size ≤ maxLen := by unfold maxLen; omega
  cases sa with
  | none =>
    have hx0 : xs = [] := by
      rcases hxs with h | ⟨_, _, h, _⟩
      · exact h
      · cases h
    subst hx0
    simp at hx
    subst hx
    have hr := run_append_nil_string (P := P) w t u ty e i (.int .u8 0) ht hu hi hz s hm (by omega) (by rw [hby]; omega)
    have e1 : (s.data.map fun b => Value.int .u8 b.toNat) = (strCells s).toArray := by
      apply Array.ext'
      simp [strCells]
    rw [e1] at hr
    have hgr := grown_row w e (.int .u8 0) 1 rfl 0 s.size [] (strCells s) (by simp) (by simp [strCells_length]) h63 0 (.slice none 0 0)
    simp only [Nat.zero_add, List.nil_append, Array.empty_append] at hgr ⊢
    exact ⟨_, _, hr, hgr⟩
  | some ad =>
    have holds : ∀ j u, xs[j]? = some u → w.cell? (ad.add j) = some u := fun j u hu => by
      rcases hxs with h | ⟨b, off, h, hcell⟩
      · rw [h] at hu; simp at hu
      · injection h with h; subst h; rw [add_none]; exact hcell j u hu
    have hr := run_append_grow_string (P := P) w t u ty e i (.int .u8 0) ht hu hi hz ad n n xs (by rw [hsize]; simpa using hx) holds s (by omega) (by omega) (by rw [hby]; exact growslice_fits (by omega) (by omega))
    exact ⟨_, _, hr, grown_row w e (.int .u8 0) 1 rfl n s.size xs (strCells s) (by simpa using hx) (by simp [strCells_length]) h63 n _⟩
theorem sound_appso {e k : Nat} {z : Opd} (hs : Sim P g h w) (hf : FrameOk P g w act.tmps fr) (hd : act.defers = []) (hN : act.tmps.size = N) (hdst : ∀ d, o.dst = some d → d < N) (hc : chkEff P o.op o.dst (.appso e k z) = true) (hw : wop P o.dst (.appso e k z) fr h K) : o.wp P act w (Ok P g w N K) Q := by
  simp only [chkEff, Bool.and_eq_true] at hc
  obtain ⟨⟨⟨hc1, he⟩, hz0⟩, hds⟩ := hc
  obtain ⟨i, zz, hi, hz, hsz1, hby1, hzs, hpos⟩ := elem_of he
  have hz8 : i.zero = some (.int .u8 0) := by
    rw [hi] at hz0
    simp only at hz0
    split at hz0
    · next q => exact q
    · cases hz0
  split at hc1
  · next c hop =>
    split at hc1
    · next j x' t u q1 q2 q3 =>
      simp only [Bool.and_eq_true, beq_iff_eq] at hc1
      obtain ⟨⟨⟨ht, rfl⟩, hcx'⟩, hu⟩ := hc1
      have ht := isSlice_of ht
      split at hu
      · next hu' =>
        simp only [wop] at hw
        split at hw
        · next e' n l s ha hb =>
          obtain ⟨⟨rfl, hby⟩, hK⟩ := hw
          obtain ⟨v, v1, v2, v3⟩ := hf j _ ha
          have hv : act.eval (.tmp j) = v := by simp only [Act.eval, Array.getD_eq_getD_getElem?, v1, Option.getD_some]
          obtain ⟨h2, _⟩ := ev_ok hf hcx' hb
          generalize hx' : act.eval x' = u2 at h2
          cases h2
          have hpl : plains l := by cases v2 with | lst _ _ _ _ _ _ _ _ hp _ _ _ => exact hp | lst0 => intro a ha; simp at ha
          have hpl' : plains (s.data.toList.map fun b => AV.int .u8 b.toNat) := by intro a ha; obtain ⟨b, _, rfl⟩ := List.mem_map.1 ha; rfl
          obtain ⟨sz, o1, o2, ⟨xs, o3, o4, o5, o6⟩ | ⟨sa, xs, o3, o4, o5, o6⟩⟩ := own_cases hs v2 v3
          · have hsz : sz = 1 := by rw [hi] at o1; simp only [Option.map_some, Option.some.injEq] at o1; rw [← o1]; exact hsz1
            subst hsz
            obtain ⟨v', w', hr, hown', hgr⟩ := run_apps (P := P) w t u o.type e' i ht hu' hi hz8 hsz1 hby1 v n xs o3 s (by unfold maxLen; omega) hby
            rw [← hv, ← hx'] at hr
            exact sound_grow (k := j) hs hf hd hN hdst hds o1 (exec_append hop q1 q2 q3 hr) o3 hown' hgr o4 (repl_bytes g s) (fun u hu => (List.mem_append.1 hu).elim (o5 u) (strCells_oneCell s u)) (fun u hu => (List.mem_append.1 hu).elim (hpl u) (hpl' u)) o6 hK
          · have hsz : sz = 1 := by rw [hi] at o1; simp only [Option.map_some, Option.some.injEq] at o1; rw [← o1]; exact hsz1
            subst hsz
            rw [o3] at v2 hv
            rcases Nat.eq_zero_or_pos s.size with h0 | hm
            · have hl0 : s.data.toList = [] := List.eq_nil_of_length_eq_zero (by simpa using h0)
              have hr := run_apps_none (w := w) t u o.type e' i ht hu' hi sa n n (Nat.le_refl _) s h0
              rw [← hv, ← hx'] at hr
              refine wp_value (exec_append hop q1 q2 q3 hr) (ok_put (a := .lst (.own e') (n + s.size) (l ++ s.data.toList.map fun b => AV.int .u8 b.toNat)) hN hd hdst (.refl g w) hs (hf.degr j) (by rw [hv, h0, hl0]; simpa using v2) (fun k _ => ⟨1, o1, by rw [h0, hl0]; simpa using o2, .inr ⟨sa, by rw [hv, h0]; rfl⟩⟩) hK)
            · obtain ⟨c2, w', hr, hown', hgr⟩ := run_apps_clip (w := w) t u o.type e' i ht hu' hi hz8 hsz1 hby1 sa n xs (by rw [o5.length, o2]; simp) o4 s hm hby
              rw [← hv, ← hx'] at hr
              exact sound_row (K := K) (fr := degr j fr) hs (hf.degr j) hd hN hdst hds o1 (exec_append hop q1 q2 q3 hr) hown' hgr (o5.append (repl_bytes g s)) (fun u hu => (List.mem_append.1 hu).elim (o6 u) (strCells_oneCell s u)) (fun u hu => (List.mem_append.1 hu).elim (hpl u) (hpl' u)) hK
        · exact hw.elim
      · cases hu
    · cases hc1
  · cases hc1

/-- what is the frame's own, hidden while another function runs -/
def Gh.hide (g : Gh) : Gh :=
  { g with F := fun b => g.F b ∨ ∃ k, g.own b = some (.slot k), own := fun b => match g.own b with
    | some (.slot _) => none
    | x => x }
theorem hide_slot (g : Gh) (b k : Nat) : g.hide.own b ≠ some (.slot k) := by
  simp only [Gh.hide]
  intro h
  split at h
  · cases h
  · next hx => exact hx k h
theorem hide_cell {g : Gh} {b id i : Nat} (h : g.own b = some (.cell id i)) : g.hide.own b = some (.cell id i) := by simp only [Gh.hide, h]
theorem Sim.hide (hs : Sim P g h w) : Sim P g.hide h w := by
  have hle : GLe g g.hide := ⟨fun _ _ _ h => h, fun _ _ h => h⟩
  refine ⟨hs.prot, ?_, hs.inj, hs.dom, ?_, ?_⟩
  · intro id s l hl
    refine (hs.obj id s l hl).keep hle (fun b hb h8 h9 => ⟨rfl, fun _ => rfl, ?_, by simp only [Gh.hide, h9]⟩) (fun b i o1 o3 o4 => ⟨rfl, hide_cell o1, fun _ => rfl, ?_, o4⟩)
    · rintro (hf | ⟨k, hk⟩)
      · exact h8 hf
      · rw [h9] at hk; cases hk
    · rintro (hf | ⟨k, hk⟩)
      · exact o3 hf
      · rw [o1] at hk; cases hk
  · rintro b (hf | ⟨k, hk⟩)
    · exact hs.flt b hf
    · exact hs.olt b _ hk
  · intro b x hb
    simp only [Gh.hide] at hb
    split at hb
    · cases hb
    · exact hs.olt b x hb
/-- what was hidden is known again -/
def Gh.back (g g1 : Gh) : Gh := { g1 with F := g.F, own := fun b => match g.own b with
    | some (.slot k) => some (.slot k)
    | _ => g1.own b }
theorem Sim.back {g1 : Gh} {h1 : Hp} {w1 : World} (hs : Sim P g h w) (hev : Ev g.hide w g1 w1) (hs1 : Sim P g1 h1 w1) (hns : ∀ b k, g1.own b ≠ some (.slot k)) : Sim P (g.back g1) h1 w1 ∧ Ev g w (g.back g1) w1 := by
  have hle : GLe g1 (g.back g1) := ⟨fun _ _ _ h => h, fun _ _ h => h⟩
  have hF : ∀ b, ¬ g1.F b → ¬ g.F b ∧ ∀ k, g.own b ≠ some (.slot k) := fun b hb => ⟨fun hf => hb ((hev.F b).2 (.inl hf)), fun k hk => hb ((hev.F b).2 (.inr ⟨k, hk⟩))⟩
  have hown : ∀ b, ¬ g1.F b → (g.back g1).own b = g1.own b := fun b hb => by
    simp only [Gh.back]
    split
    · next k hk => exact absurd hk ((hF b hb).2 k)
    · rfl
  refine ⟨⟨hs1.prot, ?_, hs1.inj, hs1.dom, fun b hb => hs1.flt b ((hev.F b).2 (.inl hb)), ?_⟩, ⟨⟨fun b o v hc => hev.le.C b o v hc, fun i b hi => hev.le.io i b hi⟩, fun _ => .rfl, ?_, hev.os, hev.tape, hev.output, hev.size⟩⟩
  · intro id s l hl
    exact (hs1.obj id s l hl).keep hle (fun b hb h8 h9 => ⟨rfl, fun _ => rfl, (hF b h8).1, by rw [hown b h8]; exact h9⟩) (fun b i o1 o3 o4 => ⟨rfl, by rw [hown b o3]; exact o1, fun _ => rfl, (hF b o3).1, o4⟩)
  · intro b x hb
    simp only [Gh.back] at hb
    split at hb
    · next k hk => have := hs.olt b _ hk; have := hev.size; omega
    · exact hs1.olt b x hb
  · intro b hb
    obtain ⟨q1, q2, q3, q4⟩ := hev.Fb b (.inl hb)
    refine ⟨q1, q2, ?_, q4⟩
    simp only [Gh.back]
    split
    · next k hk => exact hk.symm
    · next hx =>
      rw [q3]
      simp only [Gh.hide]
theorem FrameOk.back {tmps : Array Value} {g1 : Gh} {w1 : World} (hf : FrameOk P g w tmps fr) (hev : Ev g.hide w g1 w1) : FrameOk P (g.back g1) w1 tmps fr := by
  refine hf.keep ⟨fun b o v hc => hev.le.C b o v hc, fun i b hi => hev.le.io i b hi⟩ (fun b k o1 o3 o4 => ?_)
  obtain ⟨q1, q2, q3, q4⟩ := hev.Fb b (.inr ⟨k, o1⟩)
  exact ⟨q1, by simp only [Gh.back, o1], q2, o3, fun j hj => o4 j (q4 j hj)⟩

theorem run_callFunc {f : FuncId} {args : Array Value} (h : entersB P f = true) : (callFunc f args).run P w = .ok (.enter f args) w := by
  unfold entersB at h
  split at h
  · next fn hfn =>
    simp only [Bool.and_eq_true, Bool.not_eq_true'] at h
    obtain ⟨h1, h2⟩ := h
    have h3 : fn.body.isNone = false := by cases hb : fn.body <;> simp_all
    simp only [callFunc, Sem.run_bind, run_program, Result.andThen_ok, hfn, h1, Bool.false_eq_true, if_false, h3]
    rfl
  · cases h

theorem sound_call {f : Opd} {args : List Opd} (hs : Sim P g h w) (hf : FrameOk P g w act.tmps fr) (hd : act.defers = []) (hN : act.tmps.size = N) (hdst : ∀ d, o.dst = some d → d < N) (hc : chkEff P o.op o.dst (.call f args) = true) (hw : wop P o.dst (.call f args) fr h K) : o.wp P act w (Ok P g w N K) Q := by
  simp only [chkEff] at hc
  split at hc
  · next c hop =>
    split at hc
    · next x q1 =>
      simp only [Bool.and_eq_true] at hc
      obtain ⟨hc1, hc2⟩ := hc
      simp only [wop] at hw
      split at hw
      · next f' caps l ha hb =>
        obtain ⟨h1, _⟩ := ev_ok hf hc1 ha
        obtain ⟨h2, h3⟩ := evs_ok hf hc2 hb
        generalize hx : act.eval x = u at h1
        cases h1 with
        | fn _ vs _ p1 p2 =>
          obtain ⟨hent, hcall⟩ := hw
          have hargs : c.args.map act.eval = (c.args.toList.map act.eval).toArray := by cases c.args; simp
          have hrun : (execOp act.eval o).run P w = .ok (.enter f' (c.args.toList.map act.eval ++ vs).toArray) w := by
            simp only [execOp, hop, resolve, q1, hx, Deferred.ofValue, invoke, hargs, pure_bind, Array.empty_append]
            rw [run_callFunc hent]
            simp
          unfold Oper.wp
          rw [hrun]
          refine (hcall g.hide w _ hs.hide (hide_slot g) (RepL.mono (show GLe g g.hide from ⟨fun _ _ _ h => h, fun _ _ h => h⟩) (h2.append p2)) (fun a ha => (List.mem_append.1 ha).elim (h3 a) (p1 a))).mono ?_
          rintro e w1 ⟨v, a, h1', g1, rfl, r1, r2, r3, r4, r5, r6⟩
          obtain ⟨s1, s2⟩ := hs.back r1 r2 r3
          exact ok_put hN hd hdst s2 s1 (hf.back r1) (Rep.mono (show GLe g1 (g.back g1) from ⟨fun _ _ _ h => h, fun _ _ h => h⟩) r4) (fun _ _ => Owned.plain r5) r6
      · exact hw.elim
    · cases hc
  · cases hc

theorem wop_sound {a : AOp} (hs : Sim P g h w) (hf : FrameOk P g w act.tmps fr) (hd : act.defers = []) (hN : act.tmps.size = N) (hdst : ∀ d, o.dst = some d → d < N) (hc : chkEff P o.op o.dst a = true) (hw : wop P o.dst a fr h K) : o.wp P act w (Ok P g w N K) Q := by
  cases a with
  | mvu e s x => exact sound_mvu hs hf hd hN hdst hc hw
  | mvo k => exact sound_mvo hs hf hd hN hdst hc hw
  | new l u => exact sound_new hs hf hd hN hdst hc hw
  | box x u => exact sound_box hs hf hd hN hdst hc hw
  | bsl e s n t p => exact sound_bsl hs hf hd hN hdst hc hw
  | mk0 e s b c => exact sound_mk0 hs hf hd hN hdst hc hw
  | mkn e s b z c => exact sound_mkn hs hf hd hN hdst hc hw
  | loado x => exact sound_loado hs hf hd hN hdst hc hw
  | store n a x => exact sound_store hs hf hd hN hc hw
  | stores n a x => exact sound_stores hs hf hd hN hc hw
  | storeo a k => exact sound_storeo hs hf hd hN hc hw
  | app e s b x y => exact sound_app hs hf hd hN hdst hc hw
  | appo e s b k y => exact sound_appo hs hf hd hN hdst hc hw
  | appso e k y => exact sound_appso hs hf hd hN hdst hc hw
  | call f l => exact sound_call hs hf hd hN hdst hc hw
  | calli f l => exact sound_call hs hf hd hN hdst hc hw
  | apps e x y => exact hw.elim
  | _ => simp only [chkEff] at hc; simp only [wop] at hw; exact sound_val hs hf hd hN hdst hc hw

end
end Go.Proofs.Ytajpibdchgflnaa
