/- Texts of one proof, laid together: Ab8 Ab9 Ab10 Ab11 Ab12. -/
import Derived.Orders
import Derived.Test.YtedaffmkpljlnaaGreatMC13
import Derived.Laws.OwnMore
import Derived.Laws.RangeString
set_option maxRecDepth 100000
set_option maxHeartbeats 16000000

set_option linter.unusedSimpArgs false
set_option linter.unusedVariables false
/- The abstract layer, ninth part: the other operations that change something, and calls. -/
namespace Go.Proofs.YtedaffmkpljlnaaGreat
open Go.RowKit Go.Lib

section
variable {P : Program} {g : Gh} {h : Hp} {w : World} {fr : Fr} {act : Act} {N : Nat} {K : Fr → Hp → Prop} {Q : Exit → Act → World → Prop} {o : Oper}

theorem sound_mk0 {e sz bytes : Nat} {c : Opd} (hs : Sim P g h w) (hf : FrameOk P g w act.tmps fr) (hd : act.defers = []) (hN : act.tmps.size = N) (hdst : ∀ d, o.dst = some d → d < N) (hc : chkEff P o.op o.dst (.mk0 e sz bytes c) = true) (hw : wop P o.dst (.mk0 e sz bytes c) fr h K) : o.wp P act w (Ok P g w N K) Q := by
 simp only [chkEff, Bool.and_eq_true] at hc
 obtain ⟨⟨hc1, hc2⟩, hds⟩ := hc
 obtain ⟨i, z, hi, hz, rfl, rfl, hzs, hpos⟩ := elem_of hc2
 split at hc1
 ·next t l c' hop =>
  simp only [Bool.and_eq_true] at hc1
  obtain ⟨⟨ht, hl⟩, hcc⟩ := hc1
  have ht := isSlice_of ht
  simp only [wop] at hw
  split at hw
  ·next k n he =>
   obtain ⟨⟨n0, n1, n2⟩, hK⟩ := hw
   obtain ⟨h1, _⟩ := ev_ok hf hcc he
   generalize hx1 : act.eval c' = u1 at h1
   cases h1
   obtain ⟨h2, _⟩ := ev_ok hf hl (a := .int .i64 0) rfl
   generalize hx2 : act.eval l = u2 at h2
   cases h2
   have hrun := run_make (P := P) w t e i z ht hi hz .i64 k 0 n (Int.le_refl _) n0 (by omega) n2
   have hx : (execOp act.eval o).run P w = .ok (.value (.slice (some ⟨w.heap.size, 0, none⟩) 0 n.toNat)) (w.alloc (.cells (madeCells z.cells (n.toNat * i.size)) e)) := by
    simp [execOp, hop, hx1, hx2, hrun]
   refine sound_row (sz := i.size) (news := []) (l := []) hs hf hd hN hdst hds (by simp [hi]) hx ⟨by simp, .inr ⟨w.heap.size, n.toNat, _, rfl, Nat.zero_le _, heap_new w _, Nat.zero_le _, by unfold maxLen; omega, ?_, by simp⟩⟩ ⟨rfl, rfl, rfl, by simp, .inr ⟨rfl, fun k hk => Below.heap_alloc _ _ _ hk⟩⟩ .nil (by simp) (by intro a ha; simp at ha) hK
   simp [madeCells]
  ·exact hw.elim
 ·cases hc1
theorem sound_mknH {e sz bytes : Nat} {zero : List AV} {c : Opd} {id : Nat} (hs : Sim P g h w) (hid0 : h[id]? = some none) (hf : FrameOk P g w act.tmps fr) (hd : act.defers = []) (hN : act.tmps.size = N) (hdst : ∀ d, o.dst = some d → d < N) (hc : chkEff P o.op o.dst (.mkn e sz bytes zero c) = true) (hw : match ev fr c with
  | some (.int _ n) => (0 ≤ n ∧ bytes * n ≤ 140737488355328 ∧ n ≤ 9223372036854775807) ∧ K (put o.dst (.hs id n.toNat) fr) (h.set id (some (false, (List.range (n.toNat * sz)).map fun i => zero.getD (i % sz) .nilp)))
  | _ => False) : o.wp P act w (Ok P g w N K) Q := by
 simp only [chkEff, Bool.and_eq_true] at hc
 obtain ⟨⟨hc1, hc2⟩, hc3⟩ := hc
 obtain ⟨i, z, hi, hz, rfl, rfl, hzs, hpos⟩ := elem_of hc2
 rw [hi] at hc3
 simp only [hz] at hc3
 obtain ⟨r1, r2, r3⟩ := chkVs_ok g hc3
 have hzl : zero.length = i.size := by rw [← r1.length]; simpa using hzs
 split at hc1
 ·next t l c' hop =>
  simp only [Bool.and_eq_true] at hc1
  obtain ⟨⟨ht, hl⟩, hcc⟩ := hc1
  have ht := isSlice_of ht
  split at hw
  ·next k n he =>
   obtain ⟨⟨n0, n1, n2⟩, hK⟩ := hw
   obtain ⟨h1, _⟩ := ev_ok hf hcc he
   generalize hx1 : act.eval c' = u1 at h1
   cases h1
   obtain ⟨h2, _⟩ := ev_ok hf hl he
   generalize hx2 : act.eval l = u2 at h2
   cases h2
   have hrun := run_make (P := P) w t e i z ht hi hz k k n n n0 (Int.le_refl _) (by omega) n2
   have hx : (execOp act.eval o).run P w = .ok (.value (.slice (some ⟨w.heap.size, 0, none⟩) n.toNat n.toNat)) (w.alloc (.cells (madeCells z.cells (n.toNat * i.size)) e)) := by
    simp [execOp, hop, hx1, hx2, hrun]
   have hcell : ∀ j v, (madeCells z.cells (n.toNat * i.size)).toList[j]? = some v → z.cells.toList[j % i.size]? = some v := by
    intro j v hj
    simp only [madeCells, Array.toList_map, Array.toList_range, List.getElem?_map] at hj
    cases hr : (List.range (n.toNat * i.size))[j]? with
    | none => rw [hr] at hj; cases hj
    | some q =>
     rw [hr] at hj
     simp only [Option.map_some, Option.some.injEq] at hj
     have hq : q = j := by
      have := List.getElem?_range (n := n.toNat * i.size) (i := j)
      by_cases hlt : j < n.toNat * i.size
      ·rw [this hlt] at hr; simpa using hr.symm
      ·rw [List.getElem?_eq_none (by simp; omega)] at hr; cases hr
     subst hq
     have hm : q % i.size < z.cells.size := by rw [hzs]; exact Nat.mod_lt _ hpos
     rw [← hj, hzs, getElem!_pos z.cells _ hm]
     simp [hm]
   have hR : RepL g (madeCells z.cells (n.toNat * i.size)).toList ((List.range (n.toNat * i.size)).map fun j => zero.getD (j % i.size) .nilp) := by
    refine RepL.mk (by simp [madeCells]) (fun j v a hv ha => ?_)
    have hz' := hcell j v hv
    rw [List.getElem?_map] at ha
    cases hr : (List.range (n.toNat * i.size))[j]? with
    | none => rw [hr] at ha; cases ha
    | some q =>
     rw [hr] at ha
     simp only [Option.map_some, Option.some.injEq] at ha
     have hq : q = j := by
      have := List.getElem?_range (n := n.toNat * i.size) (i := j)
      by_cases hlt : j < n.toNat * i.size
      ·rw [this hlt] at hr; simpa using hr.symm
      ·rw [List.getElem?_eq_none (by simp; omega)] at hr; cases hr
     subst hq
     have hm : q % i.size < zero.length := by rw [hzl]; exact Nat.mod_lt _ hpos
     obtain ⟨u, hu1, hu2⟩ := r1.get (q % i.size) (zero[q % i.size]) (by simp [hm])
     rw [hz'] at hu1
     simp only [Option.some.injEq] at hu1
     subst hu1
     rw [← ha]
     simpa [hm] using hu2
   have h1c : ∀ v ∈ (madeCells z.cells (n.toNat * i.size)).toList, v.oneCell' = true := by
    intro v hv
    obtain ⟨j, hj, e'⟩ := List.mem_iff_getElem.1 hv
    exact r3 v (List.mem_of_getElem? (hcell j v (by simp only [List.getElem?_eq_getElem hj, e'])))
   have hpz : ∀ a ∈ ((List.range (n.toNat * i.size)).map fun j => zero.getD (j % i.size) AV.nilp), plain a = true := by
    intro a ha
    obtain ⟨j, hj, rfl⟩ := List.mem_map.1 ha
    have hm : j % i.size < zero.length := by rw [hzl]; exact Nat.mod_lt _ hpos
    simp only [List.getD_eq_getElem?_getD, List.getElem?_eq_getElem hm, Option.getD_some]
    exact r2 _ (List.getElem_mem hm)
   obtain ⟨s1, s2⟩ := hs.allocAt hid0 (madeCells z.cells (n.toNat * i.size)) e _ hR h1c (fun j v a _ ha => Owned.plain (hpz a (List.mem_of_getElem? ha)))
   exact wp_value hx (ok_put hN hd hdst s2 s1 (hf.allocAt hs hid0 _) (.hs id w.heap.size n.toNat n.toNat (by simp [Gh.obj]) (Nat.le_refl _)) (fun _ _ => trivial) hK)
  ·exact hw.elim
 ·cases hc1

theorem sound_mkn {e sz bytes : Nat} {zero : List AV} {c : Opd} (hs : Sim P g h w) (hf : FrameOk P g w act.tmps fr) (hd : act.defers = []) (hN : act.tmps.size = N) (hdst : ∀ d, o.dst = some d → d < N) (hc : chkEff P o.op o.dst (.mkn e sz bytes zero c) = true) (hw : wop P o.dst (.mkn e sz bytes zero c) fr h K) : o.wp P act w (Ok P g w N K) Q := by
 refine sound_mknH (id := h.length) (hs.holes 1) (hole1 h) hf hd hN hdst hc ?_
 simp only [set_end]
 exact hw

theorem sound_store {n : Nat} {a y : Opd} (hs : Sim P g h w) (hf : FrameOk P g w act.tmps fr) (hd : act.defers = []) (hN : act.tmps.size = N) (hc : chkEff P o.op o.dst (.store n a y) = true) (hw : wop P o.dst (.store n a y) fr h K) : o.wp P act w (Ok P g w N K) Q := by
 simp only [chkEff, Bool.and_eq_true] at hc
 obtain ⟨hc1, hds⟩ := hc
 have hod : o.dst = none := by simpa using hds
 split at hc1
 ·next t x v hop =>
  simp only [Bool.and_eq_true, beq_iff_eq] at hc1
  obtain ⟨⟨hca, hcv⟩, hsz⟩ := hc1
  obtain ⟨i, hi, rfl⟩ := info_size hsz
  simp only [wop] at hw
  split at hw
  ·next id off av ha hv =>
   split at hw
   ·next l hl =>
    obtain ⟨⟨hnt, hlen, hfit⟩, hK⟩ := hw
    obtain ⟨h1, _⟩ := ev_ok hf hca ha
    obtain ⟨h2, h3⟩ := ev_ok hf hcv hv
    generalize hx1 : act.eval x = u1 at h1
    cases h1 with
    | ptr _ _ b hb =>
     obtain ⟨us, q1, q2, q3, q4⟩ := cells_of h2 h3 hnt
     obtain ⟨b', arr, e, p1, p2, p3, p4, p5, p6, p7, p8, p9⟩ := hs.obj id false l hl
     obtain rfl : b = b' := by rw [hb] at p1; simpa using p1
     have hul : us.length = i.size := by rw [q2.length]; exact hlen
     have hal : arr.toList.length = l.length := p3.length
     have hst := run_storeCells_cells (P := P) b off us 0 w (fun j hj => by
       rw [cell_of_row w b _ arr e (0, 0) p2]
       simp only [Array.length_toList] at hal
       simp; omega) (fun j hj => by simp [World.frozen?, p2]) q3
     simp only [Nat.add_zero] at hst
     have hrun : (execOp act.eval o).run P w = .ok .skip (w.setCells b off us) := by
      have hsz2 : ¬ (us.toArray.size ≠ i.size) := by simp [hul]
      simp [execOp, hop, hx1, Instr.storeAt, Instr.sureAddr, storeVar, sizeOf, typeInfo, hi, q1, hul, hst]
     obtain ⟨s1, s2⟩ := hs.store hl hb off us (cellsOf av) q2 q3 (fun j v' a' _ ha' => Owned.plain (q4 a' (List.mem_of_getElem? ha')))
     unfold Oper.wp
     rw [hrun]
     show Ok P g w N K (act.put o.dst undef) _
     rw [hod]
     exact ⟨g, fr, _, hK, s2, s1, hf.store hb off us, hd, hN⟩
   ·exact hw.elim
  ·exact hw.elim
 ·cases hc1

theorem sound_storeu {n : Nat} {ups : List (Nat × Nat × Nat)} {a y : Opd} (hs : Sim P g h w) (hf : FrameOk P g w act.tmps fr) (hd : act.defers = []) (hN : act.tmps.size = N) (hc : chkEff P o.op o.dst (.storeu n ups a y) = true) (hw : wop P o.dst (.storeu n ups a y) fr h K) : o.wp P act w (Ok P g w N K) Q := by
 simp only [chkEff, Bool.and_eq_true] at hc
 obtain ⟨⟨hc1, hds⟩, hups⟩ := hc
 have hod : o.dst = none := by simpa using hds
 split at hc1
 ·next t x v hop =>
  simp only [Bool.and_eq_true, beq_iff_eq] at hc1
  obtain ⟨⟨hca, hcv⟩, hsz⟩ := hc1
  obtain ⟨i, hi, rfl⟩ := info_size hsz
  simp only [wop] at hw
  split at hw
  ·next id av ha hv =>
   split at hw
   ·next l hl =>
    obtain ⟨⟨hnt, hlen, hfit⟩, hK⟩ := hw
    obtain ⟨h1, _⟩ := ev_ok hf hca ha
    obtain ⟨h2, h3⟩ := ev_ok hf hcv hv
    generalize hx1 : act.eval x = u1 at h1
    cases h1 with
    | ptr _ _ b hb =>
     obtain ⟨us, q1, q2, q3, q4⟩ := cells_of h2 h3 hnt
     obtain ⟨b', arr, e, p1, p2, p3, p4, p5, p6, p7, p8, p9⟩ := hs.obj id false l hl
     obtain rfl : b = b' := by rw [hb] at p1; simpa using p1
     have hul : us.length = i.size := by rw [q2.length]; exact hlen
     have hal : arr.toList.length = l.length := p3.length
     have hst := run_storeCells_cells (P := P) b 0 us 0 w (fun j hj => by
       rw [cell_of_row w b _ arr e (0, 0) p2]
       simp only [Array.length_toList] at hal
       simp; omega) (fun j hj => by simp [World.frozen?, p2]) q3
     simp only [Nat.add_zero] at hst
     have hrun : (execOp act.eval o).run P w = .ok .skip (w.setCells b 0 us) := by
      have hsz2 : ¬ (us.toArray.size ≠ i.size) := by simp [hul]
      simp [execOp, hop, hx1, Instr.storeAt, Instr.sureAddr, storeVar, sizeOf, typeInfo, hi, q1, hul, hst]
     obtain ⟨l', u1, u2, u3⟩ := upg_ok (w := w) (id := id) hups q2 (fun j v' a' _ ha' => Owned.plain (q4 a' (List.mem_of_getElem? ha'))) hK
     obtain ⟨s1, s2⟩ := hs.store hl hb 0 us l' u1 q3 (fun j v' a' hv' ha' => by rw [Nat.zero_add]; exact u2 j v' a' hv' ha')
     unfold Oper.wp
     rw [hrun]
     show Ok P g w N K (act.put o.dst undef) _
     rw [hod]
     exact ⟨g, fr, _, u3, s2, s1, hf.store hb 0 us, hd, hN⟩
   ·exact hw.elim
  ·exact hw.elim
 ·cases hc1

def Gh.shut (g : Gh) (b : Nat) (arr : Array Value) : Gh := ⟨fun b' o => if b' = b then arr.toList[o]? else g.C b' o, g.io, g.F, g.own, g.X⟩
theorem Sim.shut (hs : Sim P g h w) {id b : Nat} {l : List AV} {tmps : Array Value} (hl : h[id]? = some (some (false, l))) (hb : g.io id = some b) (hf : FrameOk P g w tmps fr) :
  ∃ g', Sim P g' (h.set id (some (true, l))) w ∧ Ev g w g' w ∧ FrameOk P g' w tmps fr := by
 obtain ⟨b', arr, e, p1, p2, p3, p4, p5, p6, p7, p8, p9⟩ := hs.obj id false l hl
 obtain rfl : b = b' := by rw [hb] at p1; simpa using p1
 have hidlt : id < h.length := (List.getElem?_eq_some_iff.1 hl).1
 have hne : ∀ b', b' ≠ b → ∀ o, (g.shut b arr).C b' o = g.C b' o := fun b' e o => by simp [Gh.shut, e]
 have hle : GLe g (g.shut b arr) := ⟨fun b' o v hv => by
  by_cases e : b' = b
  ·subst e; rw [p6 rfl o] at hv; cases hv
  ·rw [hne b' e]; exact hv, fun _ _ h => h, fun _ _ h => h⟩
 refine ⟨g.shut b arr, ⟨?_, ?_, hs.inj, fun i b hb => by rw [List.length_set]; exact hs.dom i b hb, hs.flt, hs.olt, fun i hi => hs.hole i (hole_set hi), hs.fro⟩, ⟨hle, fun _ => .rfl, fun b' hb' => ⟨rfl, hne b' (fun e => p8 (e ▸ hb')), rfl, fun _ h => h⟩, rfl, rfl, rfl, Nat.le_refl _, fun _ _ => rfl⟩, ?_⟩
 ·intro b' o v hv
  by_cases e1 : b' = b
  ·subst e1
   simp only [Gh.shut, if_true] at hv
   exact ⟨by rw [cell_of_row w b' o arr e (0, 0) p2]; simpa using hv, p4 v (List.mem_of_getElem? hv)⟩
  ·rw [hne b' e1] at hv; exact hs.prot b' o v hv
 ·intro id' s l' hl'
  by_cases e1 : id' = id
  ·subst e1
   rw [List.getElem?_set] at hl'
   simp only [if_true, hidlt, Option.some.injEq, Prod.mk.injEq] at hl'
   obtain ⟨rfl, rfl⟩ := hl'
   exact ⟨b, arr, e, hb, p2, p3.mono hle, p4, fun i v a x y => (p5 i v a x y).keep fun b' o1 o3 o4 => ⟨rfl, o1, hne b' (fun e => o4 id' (e ▸ hb)), o3, o4⟩, fun h => (nomatch h), fun _ i v hv => by simpa [Gh.shut] using hv, p8, p9⟩
  ·rw [List.getElem?_set_ne (fun e => e1 e.symm)] at hl'
   exact (hs.obj id' s l' hl').keep hle (fun b' i1 i2 i3 => ⟨rfl, hne b' (fun e => e1 (hs.inj _ _ _ (e ▸ i1) hb)), i2, i3⟩) (fun b' i i1 i2 i3 => ⟨rfl, i1, hne b' (fun e => i3 id (e ▸ hb)), i2, i3⟩)
 ·intro k a hk
  obtain ⟨v, v1, v2, v3⟩ := hf k a hk
  exact ⟨v, v1, v2.mono hle, v3.keep fun b' o1 o3 o4 => ⟨rfl, o1, hne b' (fun e => o4 id (e ▸ hb)), o3, o4⟩⟩
theorem sound_stores {n : Nat} {a y : Opd} (hs : Sim P g h w) (hf : FrameOk P g w act.tmps fr) (hd : act.defers = []) (hN : act.tmps.size = N) (hc : chkEff P o.op o.dst (.stores n a y) = true) (hw : wop P o.dst (.stores n a y) fr h K) : o.wp P act w (Ok P g w N K) Q := by
 simp only [wop] at hw
 split at hw
 ·next id off av ha hv =>
  split at hw
  ·next l hl =>
   obtain ⟨hfit, hK⟩ := hw
   have hw' : wop P o.dst (.store n a y) fr h (fun fr' h' => fr' = fr ∧ h' = h.set id (some (false, splice l off (cellsOf av)))) := by
    simp only [wop, ha, hv, hl]
    refine ⟨hfit, ?_⟩
    simp
   obtain ⟨b, hb⟩ : ∃ b, g.io id = some b := ⟨_, (hs.obj id false l hl).choose_spec.choose_spec.choose_spec.1⟩
   refine Oper.wp_mono (fun a1 w1 hok => ?_) (sound_store (Q := Q) hs hf hd hN hc hw')
   obtain ⟨g1, fr1, h1, ⟨rfl, rfl⟩, e1, s1, f1, d1, n1⟩ := hok
   obtain ⟨g2, s2, e2, f2⟩ := s1.shut (id := id) (b := b) (by rw [List.getElem?_set_self (List.getElem?_eq_some_iff.1 hl).1]) (e1.le.io _ _ hb) f1
   rw [List.set_set] at s2
   exact ⟨g2, _, _, hK, e1.trans e2, s2, f2, d1, n1⟩
  ·exact hw.elim
 ·exact hw.elim
theorem sound_storeo {a : Opd} {k : Nat} (hs : Sim P g h w) (hf : FrameOk P g w act.tmps fr) (hd : act.defers = []) (hN : act.tmps.size = N) (hc : chkEff P o.op o.dst (.storeo a k) = true) (hw : wop P o.dst (.storeo a k) fr h K) : o.wp P act w (Ok P g w N K) Q := by
 simp only [chkEff, Bool.and_eq_true] at hc
 obtain ⟨hc1, hds⟩ := hc
 have hod : o.dst = none := by simpa using hds
 split at hc1
 ·next t x j hop =>
  simp only [Bool.and_eq_true, beq_iff_eq] at hc1
  obtain ⟨⟨hca, rfl⟩, hsz⟩ := hc1
  obtain ⟨i, hi, hisz⟩ := info_size hsz
  simp only [wop] at hw
  split at hw
  ·next id off e n c ha hk =>
   split at hw
   ·next l hl =>
    obtain ⟨hfit, hK⟩ := hw
    obtain ⟨h1, _⟩ := ev_ok hf hca ha
    generalize hx1 : act.eval x = u1 at h1
    cases h1 with
    | ptr _ _ b hb =>
     obtain ⟨v, v1, v2, v3⟩ := hf j _ hk
     have hv : act.eval (.tmp j) = v := by simp only [Act.eval, Array.getD_eq_getD_getElem?, v1, Option.getD_some]
     obtain ⟨ob, g1, g2⟩ := own_give (x := .cell id off) v3
     obtain ⟨s1, s2⟩ := hs.give (x := .cell id off) g1
     have hone : v.oneCell' = true := by cases v2 <;> rfl
     have hcl : v.cells = #[v] := by cases v2 <;> rfl
     obtain ⟨b', arr, e', p1, p2, p3, p4, p5, p6, p7, p8, p9⟩ := hs.obj id false l hl
     obtain rfl : b = b' := by rw [hb] at p1; simpa using p1
     have hal : arr.toList.length = l.length := p3.length
     have hst := run_storeCells_cells (P := P) b off [v] 0 w (fun j hj => by
       rw [cell_of_row w b _ arr e' (0, 0) p2]
       simp only [Array.length_toList] at hal
       simp at hj
       simp; omega) (fun j hj => by simp [World.frozen?, p2]) (by simpa using hone)
     simp only [Nat.add_zero] at hst
     have hrun : (execOp act.eval o).run P w = .ok .skip (w.setCells b off [v]) := by
      simp [execOp, hop, hx1, hv, Instr.storeAt, Instr.sureAddr, storeVar, sizeOf, typeInfo, hi, hcl, hisz, hst]
     obtain ⟨t1, t2⟩ := s1.store hl hb off [v] [.lst (.own e) n c] (.cons (v2.mono (gle_give _ _ _)) .nil) (by simpa using hone) (fun q v' a' hv' ha' => by
      cases q with
      | zero => simp at hv' ha'; subst hv'; subst ha'; exact g2
      | succ q => simp at hv')
     unfold Oper.wp
     rw [hrun]
     show Ok P g w N K (act.put o.dst undef) _
     rw [hod]
     exact ⟨_, _, _, hK, s2.trans t2, t1, (hf.give (.cell id off) g1).store hb off [v], hd, hN⟩
   ·exact hw.elim
  ·exact hw.elim
 ·cases hc1

theorem Sim.takeCell (hs : Sim P g h w) {id off d : Nat} {l : List AV} {e n : Nat} {c : List AV} (hl : h[id]? = some (some (false, l))) (ha : l[off]? = some (.lst (.own e) n c)) {ob : Option Nat} (ho : ∀ b, ob = some b → g.own b = some (.cell id off) ∧ ¬ g.F b ∧ ∀ i, g.io i ≠ some b) :
  Sim P (g.give ob (.slot d)) (h.set id (some (false, l.set off (.lst .ro n c)))) w ∧ Ev g w (g.give ob (.slot d)) w := by
 have hle := gle_give g ob (.slot d)
 have hidlt : id < h.length := (List.getElem?_eq_some_iff.1 hl).1
 refine ⟨⟨hs.prot, ?_, hs.inj, fun i b hb => by rw [List.length_set]; exact hs.dom i b hb, hs.flt, ?_, fun i hi => hs.hole i (hole_set hi), fro_give hs (fun b e => (ho b e).1)⟩, ⟨hle, fun _ => .rfl, fun b hb => ⟨rfl, fun _ => rfl, ?_, fun _ h => h⟩, rfl, rfl, rfl, Nat.le_refl _, fun _ _ => rfl⟩⟩
 ·intro id' s l' hl'
  by_cases e1 : id' = id
  ·subst e1
   rw [List.getElem?_set] at hl'
   simp only [if_true, hidlt, Option.some.injEq, Prod.mk.injEq] at hl'
   obtain ⟨rfl, rfl⟩ := hl'
   obtain ⟨b, arr, e', p1, p2, p3, p4, p5, p6, p7, p8, p9⟩ := hs.obj id' false l hl
   obtain ⟨v, hv, hr⟩ := p3.get off _ ha
   refine ⟨b, arr, e', p1, p2, (p3.setR off hv (by simpa [deg] using hr.deg)).mono hle, p4, ?_, p6, (fun h => by cases h), p8, ?_⟩
   ·intro i u a hu hb
    rw [List.getElem?_set] at hb
    split at hb
    ·split at hb
     ·simp only [Option.some.injEq] at hb; subst hb; exact Owned.plain rfl
     ·cases hb
    ·next hne =>
     refine (p5 i u a hu hb).keep fun b1 o1 o3 o4 => ⟨rfl, ?_, fun _ => rfl, o3, o4⟩
     simp only [Gh.give]
     rw [if_neg (fun e2 => by rw [(ho b1 e2).1] at o1; simp only [Option.some.injEq, Loc.cell.injEq, true_and] at o1; exact hne o1)]
     exact o1
   ·simp only [Gh.give]; rw [if_neg (fun e2 => (ho b e2).2.2 id' p1)]; exact p9
  ·rw [List.getElem?_set_ne (fun e => e1 e.symm)] at hl'
   refine (hs.obj id' s l' hl').keep hle (fun b hb h8 h9 => ⟨rfl, fun _ => rfl, h8, ?_⟩) (fun b i o1 o3 o4 => ⟨rfl, ?_, fun _ => rfl, o3, o4⟩)
   ·simp only [Gh.give]; rw [if_neg (fun e2 => (ho b e2).2.2 id' hb)]; exact h9
   ·simp only [Gh.give]; rw [if_neg (fun e2 => by rw [(ho b e2).1] at o1; simp only [Option.some.injEq, Loc.cell.injEq] at o1; exact e1 o1.1.symm)]; exact o1
 ·intro b y hb
  simp only [Gh.give] at hb
  split at hb
  ·next e2 => exact hs.olt b _ (ho b e2).1
  ·exact hs.olt b y hb
 ·simp only [Gh.give]; rw [if_neg (fun e2 => (ho b e2).2.1 hb)]
theorem sound_loado {y : Opd} (hs : Sim P g h w) (hf : FrameOk P g w act.tmps fr) (hd : act.defers = []) (hN : act.tmps.size = N) (hdst : ∀ d, o.dst = some d → d < N) (hc : chkEff P o.op o.dst (.loado y) = true) (hw : wop P o.dst (.loado y) fr h K) : o.wp P act w (Ok P g w N K) Q := by
 simp only [chkEff, Bool.and_eq_true] at hc
 obtain ⟨hc1, hds⟩ := hc
 obtain ⟨d, hod⟩ := Option.isSome_iff_exists.1 hds
 split at hc1
 ·next t x hop =>
  simp only [Bool.and_eq_true] at hc1
  obtain ⟨hco, hty⟩ := hc1
  simp only [wop] at hw
  split at hw
  ·next id off ha =>
   split at hw
   ·next l hl =>
    split at hw
    ·next e n c hcell =>
     obtain ⟨h1, _⟩ := ev_ok hf hco ha
     generalize hx1 : act.eval x = u1 at h1
     cases h1 with
     | ptr _ _ b hb =>
      obtain ⟨b', arr, e', p1, p2, p3, p4, p5, p6, p7, p8, p9⟩ := hs.obj id false l hl
      obtain rfl : b = b' := by rw [hb] at p1; simpa using p1
      obtain ⟨v, hv, hr⟩ := p3.get off _ hcell
      have hown := p5 off v _ hv hcell
      have hrun : (execOp act.eval o).run P w = .ok (.value v) w := by
       split at hty
       ·next dd hdd =>
        have hagg : (isAgg t).run P w = .ok false w := by
         simp only [isAgg, Sem.run_bind, run_underlying hdd, Result.andThen_ok]
         cases dd <;> first | rfl | (simp [isAggT] at hty)
        have hcv : w.cell? ⟨b, off, none⟩ = some v := by rw [cell_of_row w b off arr e' (0, 0) p2]; simpa using hv
        simp [execOp, hop, hx1, Instr.loadAt, Instr.sureAddr, loadVar, hagg, hcv]
       ·cases hty
      obtain ⟨ob, g1, g2⟩ : ∃ ob, (∀ b, ob = some b → g.own b = some (.cell id off) ∧ ¬ g.F b ∧ ∀ i, g.io i ≠ some b) ∧ Owned P (g.give ob (.slot d)) w (.slot d) v (.lst (.own e) n c) := by
       obtain ⟨sz, q1, q2, ⟨vs, q3, q4⟩ | q3⟩ := hown
       ·refine ⟨v.ownBlock, fun b hb => ⟨(q4 b hb).1, (q4 b hb).2.2⟩, sz, q1, q2, .inl ⟨vs, q3, fun b hb => ⟨?_, (q4 b hb).2⟩⟩⟩
        simp only [Gh.give]; rw [if_pos hb]
       ·exact ⟨none, fun b hb => (by cases hb), sz, q1, q2, .inr q3⟩
      obtain ⟨s1, s2⟩ := hs.takeCell (d := d) hl hcell g1
      have hf' : FrameOk P (g.give ob (.slot d)) w act.tmps fr := hf.keep (gle_give _ _ _) (fun b1 k o1 o3 o4 => ⟨rfl, by
       simp only [Gh.give]; rw [if_neg (fun e2 => by rw [(g1 b1 e2).1] at o1; cases o1)]; exact o1, fun _ => rfl, o3, o4⟩)
      refine wp_value hrun (ok_put hN hd hdst s2 s1 hf' (hr.mono (gle_give _ _ _)) (fun k hk => ?_) hw)
      rw [hod] at hk
      simp only [Option.some.injEq] at hk
      subst hk
      exact g2
    ·exact hw.elim
   ·exact hw.elim
  ·exact hw.elim
 ·cases hc1

theorem sound_grow {e sz n m : Nat} {xs news : List Value} {l l' : List AV} {v v' : Value} {w' : World} {k : Nat} (hs : Sim P g h w) (hf : FrameOk P g w act.tmps fr) (hd : act.defers = []) (hN : act.tmps.size = N) (hdst : ∀ d, o.dst = some d → d < N) (hds : o.dst.isSome = true) (hi : (P.info? e).map (·.size) = some sz)
  (hx : (execOp act.eval o).run P w = .ok (.value v') w') (hown : w.ownsRow 0 e sz v n xs) (hown' : w'.ownsRow 0 e sz v' m (xs ++ news)) (hgr : Grew w w' v v') (hr : RepL g xs l) (hr' : RepL g news l') (h1 : ∀ v ∈ xs ++ news, v.oneCell' = true) (hp : plains (l ++ l'))
  (hv : ∀ b, v.ownBlock = some b → g.own b = some (.slot k) ∧ (∀ o, xs.length ≤ o → g.C b o = none) ∧ ¬ g.F b ∧ ∀ id, g.io id ≠ some b)
  (hK : K (put o.dst (.lst (.own e) m (l ++ l')) (degr k fr)) h) : o.wp P act w (Ok P g w N K) Q := by
 obtain ⟨d, hod⟩ := Option.isSome_iff_exists.1 hds
 obtain ⟨f1, f2, f3⟩ := row_facts hs hown hown' hgr hv
 obtain ⟨r1, r2, r3⟩ := Sim.row hs hown hown' hgr h1 d hv
 have hfr := hf.row hs hown hown' hgr h1 d hv
 refine wp_value hx (ok_put hN hd hdst r2 r1 hfr (rep_row hown' ((hr.append hr').mono r3) hp) (fun k' hk' => ?_) hK)
 rw [hod] at hk'
 simp only [Option.some.injEq] at hk'
 subst hk'
 have hlen : (xs ++ news).length = (l ++ l').length := (hr.append hr').length
 refine owned_row hi hown' hlen (fun b o' hb ho => ?_) (fun b hb => ⟨(f2 b hb).1, (f2 b hb).2.1⟩)
 rcases hgr.way with ⟨q1, _⟩ | ⟨q1, _⟩
 ·rw [q1] at hb
  refine (hv b hb).2.1 o' ?_
  have := hr.length
  rw [List.length_append] at ho
  omega
 ·rw [q1] at hb
  simp only [Option.some.injEq] at hb
  exact hs.cnew (by omega) o'

theorem row_of {v : Value} {f : Fl} {m : Nat} {l : List AV} (hs : Sim P g h w) (hr : Rep g v (.lst f m l)) : ∃ a c vs, v = .slice a m c ∧ RowOf w a vs ∧ RepL g vs l ∧ (∀ u ∈ vs, u.oneCell' = true) ∧ plains l ∧ (f = .clip → c = m) ∧ (a = none → m = 0 ∧ vs = []) := by
 cases hr with
 | lst b off n c f vs l q1 q2 q3 q4 q5 =>
  obtain ⟨r1, r2⟩ := hs.cellsAt q1
  exact ⟨_, _, vs, rfl, .inr ⟨b, off, rfl, r1⟩, q5, r2, q2, q4, fun h => by cases h⟩
 | lst0 a c f q => exact ⟨_, _, [], rfl, .inl rfl, .nil, by simp, by intro a ha; simp at ha, q, fun _ => ⟨rfl, rfl⟩⟩

theorem exec_append {x x' : Operand} {t t' : TypeId} {c : Call} (hop : o.op = .call c) (h1 : c.callee = .builtin .append) (h2 : c.args.toList = [x, x']) (h3 : c.argTypes.toList = [t, t']) {v : Value} {w' : World} (hr : (Builtin.append_ #[t, t'] o.type #[act.eval x, act.eval x']).run P w = .ok v w') : (execOp act.eval o).run P w = .ok (.value v) w' := by
 simp [execOp, hop, resolve, invoke, builtin, h1, of_toList2 h2, of_toList2 h3, hr]

theorem app_type {t t' ty e e' : TypeId} (ht : P.underlying t = some (.slice e)) (ht' : P.underlying t' = some (.slice e')) (u v : Value) : (Builtin.append_ #[t, t'] ty #[u, v]).run P w = (Builtin.append_ #[t, t] ty #[u, v]).run P w := by
 cases u <;> simp [Builtin.append_, run_underlying ht, run_underlying ht']
theorem exec_append' {x x' : Operand} {t t' e e' : TypeId} {c : Call} (ht : P.underlying t = some (.slice e)) (ht' : P.underlying t' = some (.slice e')) (hop : o.op = .call c) (h1 : c.callee = .builtin .append) (h2 : c.args.toList = [x, x']) (h3 : c.argTypes.toList = [t, t']) {v : Value} {w' : World} (hr : (Builtin.append_ #[t, t] o.type #[act.eval x, act.eval x']).run P w = .ok v w') : (execOp act.eval o).run P w = .ok (.value v) w' :=
 exec_append hop h1 h2 h3 (by rw [app_type ht ht']; exact hr)

theorem sound_clip0 {e sz bytes n m : Nat} {l l' : List AV} {x x' : Operand} {t t' : TypeId} {c : Call} {sa : Option Addr} {xs : List Value} (k : Option Nat) (hs : Sim P g h w) (hf : FrameOk P g w act.tmps fr) (hd : act.defers = []) (hN : act.tmps.size = N) (hdst : ∀ d, o.dst = some d → d < N) (hds : o.dst.isSome = true)
  (hop : o.op = .call c) (h1 : c.callee = .builtin .append) (h2 : c.args.toList = [x, x']) (h3 : c.argTypes.toList = [t, t']) (ht : P.underlying t = some (.slice e)) (ht' : P.underlying t' = some (.slice e)) (he : elemOk P e sz bytes = true)
  (hv : act.eval x = .slice sa n n) (hrow : RowOf w sa xs) (hrx : RepL g xs l) (hox : ∀ u ∈ xs, u.oneCell' = true) (hpl : plains l) (hrl : Rep g (.slice sa n n) (.lst (.own e) n l)) (hl : l.length = n * sz) {a : Option Addr} {c' : Nat} {news : List Value} (hx' : act.eval x' = .slice a m c') (hrow' : RowOf w a news) (hrn : RepL g news l') (hon : ∀ u ∈ news, u.oneCell' = true) (hpl' : plains l') (hl' : l'.length = m * sz) (h63 : n + m ≤ 9223372036854775807) (hby : (n + m) * bytes ≤ 140737488355328)
  (hfk : ∀ g' w', FrameOk P g' w' act.tmps fr → FrameOk P g' w' act.tmps (k.elim fr (degr · fr))) (hK : K (put o.dst (.lst (.own e) (n + m) (l ++ l')) (k.elim fr (degr · fr))) h) : o.wp P act w (Ok P g w N K) Q := by
 obtain ⟨i, z, hi, hz, rfl, rfl, hzs, hpos⟩ := elem_of he
 rcases Nat.eq_zero_or_pos m with rfl | hm
 ·have hl0 : l' = [] := List.eq_nil_of_length_eq_zero (by simpa using hl')
  subst hl0
  have hr := run_app_none (P := P) w t o.type e i ht hi sa n n c' (Nat.le_refl _) a
  rw [← hv, ← hx'] at hr
  refine wp_value (exec_append' ht ht' hop h1 h2 h3 hr) (ok_put (a := .lst (.own e) (n + 0) (l ++ [])) hN hd hdst (.refl g w) hs (hfk g w hf) (by rw [hv]; simpa using hrl) (fun k _ => ⟨i.size, by simp [hi], by simpa using hl, .inr ⟨sa, hv⟩⟩) hK)
 ·obtain ⟨c2, w', hr, hown', hgr⟩ := run_app_clip (P := P) w t o.type e i z i.size i.bytes ht hi hz rfl rfl hzs hpos sa n xs (by rw [hrx.length]; exact hl) hrow a m c' news (by rw [hrn.length]; exact hl') hrow' hm (by unfold maxLen; omega) hby
  rw [← hv, ← hx'] at hr
  refine sound_row (K := K) (fr := k.elim fr (degr · fr)) hs (hfk g w hf) hd hN hdst hds (by simp [hi]) (exec_append' ht ht' hop h1 h2 h3 hr) hown' hgr (hrx.append hrn) (fun u hu => (List.mem_append.1 hu).elim (hox u) (hon u)) (fun u hu => (List.mem_append.1 hu).elim (hpl u) (hpl' u)) hK

theorem sound_clip {e sz bytes n m : Nat} {l l' : List AV} {x x' : Operand} {t t' : TypeId} {c : Call} {sa : Option Addr} {xs : List Value} (k : Option Nat) (hs : Sim P g h w) (hf : FrameOk P g w act.tmps fr) (hd : act.defers = []) (hN : act.tmps.size = N) (hdst : ∀ d, o.dst = some d → d < N) (hds : o.dst.isSome = true)
  (hop : o.op = .call c) (h1 : c.callee = .builtin .append) (h2 : c.args.toList = [x, x']) (h3 : c.argTypes.toList = [t, t']) (ht : P.underlying t = some (.slice e)) (ht' : P.underlying t' = some (.slice e)) (he : elemOk P e sz bytes = true)
  (hv : act.eval x = .slice sa n n) (hrow : RowOf w sa xs) (hrx : RepL g xs l) (hox : ∀ u ∈ xs, u.oneCell' = true) (hpl : plains l) (hrl : Rep g (.slice sa n n) (.lst (.own e) n l)) (hl : l.length = n * sz) {f : Fl} (hy : Rep g (act.eval x') (.lst f m l')) (hl' : l'.length = m * sz) (h63 : n + m ≤ 9223372036854775807) (hby : (n + m) * bytes ≤ 140737488355328)
  (hfk : ∀ g' w', FrameOk P g' w' act.tmps fr → FrameOk P g' w' act.tmps (k.elim fr (degr · fr))) (hK : K (put o.dst (.lst (.own e) (n + m) (l ++ l')) (k.elim fr (degr · fr))) h) : o.wp P act w (Ok P g w N K) Q := by
 obtain ⟨a, c', news, hx', hrow', hrn, hon, hpl', _, hnil⟩ := row_of hs hy
 exact sound_clip0 k hs hf hd hN hdst hds hop h1 h2 h3 ht ht' he hv hrow hrx hox hpl hrl hl hx' hrow' hrn hon hpl' hl' h63 hby hfk hK

theorem sound_app {e sz bytes : Nat} {y z : Opd} (hs : Sim P g h w) (hf : FrameOk P g w act.tmps fr) (hd : act.defers = []) (hN : act.tmps.size = N) (hdst : ∀ d, o.dst = some d → d < N) (hc : chkEff P o.op o.dst (.app e sz bytes y z) = true) (hw : wop P o.dst (.app e sz bytes y z) fr h K) : o.wp P act w (Ok P g w N K) Q := by
 simp only [chkEff, Bool.and_eq_true] at hc
 obtain ⟨⟨hc1, he⟩, hds⟩ := hc
 split at hc1
 ·next c hop =>
  split at hc1
  ·next x x' t t' q1 q2 q3 =>
   simp only [Bool.and_eq_true] at hc1
   obtain ⟨⟨⟨ht, ht'⟩, hcx⟩, hcx'⟩ := hc1
   simp only [wop] at hw
   split at hw
   ·next n l f m l' ha hb =>
    obtain ⟨⟨hl, hl', h63, hby⟩, hK⟩ := hw
    obtain ⟨h1, _⟩ := ev_ok hf hcx ha
    obtain ⟨h2, _⟩ := ev_ok hf hcx' hb
    obtain ⟨a, c', xs, hv, hrow, hrx, hox, hpl, hcl, _⟩ := row_of hs h1
    obtain rfl := hcl rfl
    have hrl := (rep_up (e := e) h1).1
    rw [hv] at hrl
    exact sound_clip none hs hf hd hN hdst hds hop q1 q2 q3 (isSlice_of ht) (isSlice_of ht') he hv hrow hrx hox hpl hrl hl h2 hl' h63 hby (fun _ _ h => h) hK
   ·exact hw.elim
  ·cases hc1
 ·cases hc1

theorem sound_aph {e sz bytes : Nat} {y z : Opd} (hs : Sim P g h w) (hf : FrameOk P g w act.tmps fr) (hd : act.defers = []) (hN : act.tmps.size = N) (hdst : ∀ d, o.dst = some d → d < N) (hc : chkEff P o.op o.dst (.aph e sz bytes y z) = true) (hw : wop P o.dst (.aph e sz bytes y z) fr h K) : o.wp P act w (Ok P g w N K) Q := by
 simp only [chkEff, Bool.and_eq_true] at hc
 obtain ⟨⟨hc1, he⟩, hds⟩ := hc
 split at hc1
 ·next c hop =>
  split at hc1
  ·next x x' t t' q1 q2 q3 =>
   simp only [Bool.and_eq_true] at hc1
   obtain ⟨⟨⟨ht, ht'⟩, hcx⟩, hcx'⟩ := hc1
   simp only [wop] at hw
   split at hw
   ·next n l id m ha hb =>
    split at hw
    ·next sl l' hl' =>
     obtain ⟨⟨hl, hlm, h63, hby⟩, hK⟩ := hw
     obtain ⟨h1, _⟩ := ev_ok hf hcx ha
     obtain ⟨h2, _⟩ := ev_ok hf hcx' hb
     obtain ⟨a, c', xs, hv, hrow, hrx, hox, hpl, hcl, _⟩ := row_of hs h1
     obtain rfl := hcl rfl
     have hrl := (rep_up (e := e) h1).1
     rw [hv] at hrl
     generalize hx' : act.eval x' = u' at h2
     cases h2 with
     | hs _ b _ c1 hbb hn =>
      obtain ⟨b', arr, e', p1, p2, p3, p4, p5, p6, p7, p8, p9⟩ := hs.obj id sl l' hl'
      obtain rfl : b = b' := by rw [hbb] at p1; simpa using p1
      have hrow' : RowOf w (some ⟨b, 0, none⟩) (arr.toList.take (m * sz)) := by
       refine .inr ⟨b, 0, rfl, fun j v hj => ?_⟩
       rw [List.getElem?_take] at hj
       split at hj
       ·rw [cell_of_row w b _ arr e' (0, 0) p2]; simpa using hj
       ·cases hj
      have hrn : RepL g (arr.toList.take (m * sz)) ((l'.take (m * sz)).map deg) := (p3.take _).deg
      exact sound_clip0 none hs hf hd hN hdst hds hop q1 q2 q3 (isSlice_of ht) (isSlice_of ht') he hv hrow hrx hox hpl hrl hl hx' hrow' hrn (fun u hu => p4 u (List.mem_of_mem_take hu)) (by intro u hu; obtain ⟨q, _, rfl⟩ := List.mem_map.1 hu; exact plain_deg q) (by rw [List.length_map, List.length_take, Nat.min_eq_left hlm]) h63 hby (fun _ _ h => h) hK
    ·exact hw.elim
   ·exact hw.elim
  ·cases hc1
 ·cases hc1

theorem made_ok {z : Array Value} {zero : List AV} {sz : Nat} (r1 : RepL g z.toList zero) (r2 : plains zero) (r3 : ∀ v ∈ z.toList, v.oneCell' = true) (hzs : z.size = sz) (hpos : 0 < sz) (n : Nat) :
  RepL g (madeCells z n).toList (zrow zero sz n) ∧ (∀ v ∈ (madeCells z n).toList, v.oneCell' = true) ∧ plains (zrow zero sz n) := by
 have hzl : zero.length = sz := by rw [← r1.length]; simpa using hzs
 have hcell : ∀ j v, (madeCells z n).toList[j]? = some v → z.toList[j % sz]? = some v := by
  intro j v hj
  simp only [madeCells, Array.toList_map, Array.toList_range, List.getElem?_map] at hj
  cases hr : (List.range n)[j]? with
  | none => rw [hr] at hj; cases hj
  | some q =>
   rw [hr] at hj
   simp only [Option.map_some, Option.some.injEq] at hj
   have hq : q = j := by
    have := List.getElem?_range (n := n) (i := j)
    by_cases hlt : j < n
    ·rw [this hlt] at hr; simpa using hr.symm
    ·rw [List.getElem?_eq_none (by simp; omega)] at hr; cases hr
   subst hq
   have hm : q % sz < z.size := by rw [hzs]; exact Nat.mod_lt _ hpos
   rw [← hj, hzs, getElem!_pos z _ hm]
   simp [hm]
 refine ⟨RepL.mk (by simp [madeCells, zrow]) (fun j v a hv ha => ?_), fun v hv => ?_, fun a ha => ?_⟩
 ·have hz' := hcell j v hv
  simp only [zrow] at ha
  rw [List.getElem?_map] at ha
  cases hr : (List.range n)[j]? with
  | none => rw [hr] at ha; cases ha
  | some q =>
   rw [hr] at ha
   simp only [Option.map_some, Option.some.injEq] at ha
   have hq : q = j := by
    have := List.getElem?_range (n := n) (i := j)
    by_cases hlt : j < n
    ·rw [this hlt] at hr; simpa using hr.symm
    ·rw [List.getElem?_eq_none (by simp; omega)] at hr; cases hr
   subst hq
   have hm : q % sz < zero.length := by rw [hzl]; exact Nat.mod_lt _ hpos
   obtain ⟨u, hu1, hu2⟩ := r1.get (q % sz) (zero[q % sz]) (by simp [hm])
   rw [hz'] at hu1
   simp only [Option.some.injEq] at hu1
   subst hu1
   rw [← ha]
   simpa [hm] using hu2
 ·obtain ⟨j, hj, e'⟩ := List.mem_iff_getElem.1 hv
  exact r3 v (List.mem_of_getElem? (hcell j v (by simp only [List.getElem?_eq_getElem hj, e'])))
 ·obtain ⟨j, hj, rfl⟩ := List.mem_map.1 ha
  have hm : j % sz < zero.length := by rw [hzl]; exact Nat.mod_lt _ hpos
  simp only [List.getD_eq_getElem?_getD, List.getElem?_eq_getElem hm, Option.getD_some]
  exact r2 _ (List.getElem_mem hm)
theorem sound_apx {e n m k : Nat} {zero l l' : List AV} {xs news : List Value} {z : Value} {i : TypeInfo} (hs : Sim P g h w) (hf : FrameOk P g w act.tmps fr) (hd : act.defers = []) (hN : act.tmps.size = N) (hdst : ∀ d, o.dst = some d → d < N)
  (r1 : RepL g z.cells.toList zero) (r2 : plains zero) (r3 : ∀ v ∈ z.cells.toList, v.oneCell' = true) (hzs : z.cells.size = i.size) (hpos : 0 < i.size)
  (hx : (execOp act.eval o).run P w = .ok (.value (.slice (some ⟨w.heap.size, 0, none⟩) (n + m) (n + m + k))) (w.drew.alloc (.cells (xs.toArray ++ news.toArray ++ Builtin.zeroCells z.cells k) e)))
  (hrx : RepL g xs l) (hox : ∀ u ∈ xs, u.oneCell' = true) (hpl : plains l) (hrn : RepL g news l') (hon : ∀ u ∈ news, u.oneCell' = true) (hpl' : plains l')
  (hK : K (put o.dst (.hsc h.length (n + m) (n + m + k)) fr) (h ++ [some (false, (l ++ l') ++ zrow zero i.size (k * i.size))])) : o.wp P act w (Ok P g w N K) Q := by
 obtain ⟨m1, m2, m3⟩ := made_ok r1 r2 r3 hzs hpos (k * i.size)
 have hzc : Builtin.zeroCells z.cells k = madeCells z.cells (k * i.size) := by simp only [Builtin.zeroCells, madeCells, hzs]
 rw [hzc] at hx
 have harr : (xs.toArray ++ news.toArray ++ madeCells z.cells (k * i.size)).toList = (xs ++ news) ++ (madeCells z.cells (k * i.size)).toList := by simp
 have hsd : Sim P g h w.drew := hs.drewN 1
 have hfd : FrameOk P g w.drew act.tmps fr := hf.drewN 1
 obtain ⟨s1, s2⟩ := hsd.alloc (xs.toArray ++ news.toArray ++ madeCells z.cells (k * i.size)) e ((l ++ l') ++ zrow zero i.size (k * i.size)) (by rw [harr]; exact (hrx.append hrn).append m1) (by
  rw [harr]
  intro v hv
  rcases List.mem_append.1 hv with h | h
  ·exact (List.mem_append.1 h).elim (hox v) (hon v)
  ·exact m2 v h) (fun j v a _ ha => Owned.plain (by
  rcases List.mem_append.1 (List.mem_of_getElem? ha) with h | h
  ·exact (List.mem_append.1 h).elim (hpl a) (hpl' a)
  ·exact m3 a h))
 exact wp_value hx (ok_put hN hd hdst ((Ev.drew g w 1).trans s2) s1 (hfd.alloc hsd _) (a := .hsc h.length (n + m) (n + m + k)) (.hsc h.length w.heap.size _ _ (show (g.obj h.length w.heap.size).io h.length = some w.heap.size by simp [Gh.obj]) (Nat.le_add_right _ _)) (fun _ _ => trivial) hK)
theorem sound_apc {e sz bytes : Nat} {zero : List AV} {y z : Opd} (hs : Sim P g h w) (hf : FrameOk P g w act.tmps fr) (hd : act.defers = []) (hN : act.tmps.size = N) (hdst : ∀ d, o.dst = some d → d < N) (hc : chkEff P o.op o.dst (.apc e sz bytes zero y z) = true) (hw : wop P o.dst (.apc e sz bytes zero y z) fr h K) : o.wp P act w (Ok P g w N K) Q := by
 simp only [chkEff, Bool.and_eq_true] at hc
 obtain ⟨⟨⟨hc1, he⟩, hcz⟩, hds⟩ := hc
 obtain ⟨i, zv, hi, hz, rfl, rfl, hzs, hpos⟩ := elem_of he
 rw [hi] at hcz
 simp only [hz] at hcz
 obtain ⟨r1, r2, r3⟩ := chkVs_ok g hcz
 split at hc1
 ·next c hop =>
  split at hc1
  ·next x x' t t' q1 q2 q3 =>
   simp only [Bool.and_eq_true] at hc1
   obtain ⟨⟨⟨ht, ht'⟩, hcx⟩, hcx'⟩ := hc1
   have rowy : ∀ {m : Nat} {l' : List AV}, (ev fr z).bind (rowA h i.size) = some (m, l') → ∃ (a2 : Option Addr) (c2 : Nat) (news : List Value), act.eval x' = .slice a2 m c2 ∧ RowOf w a2 news ∧ RepL g news l' ∧ (∀ u ∈ news, u.oneCell' = true) ∧ plains l' := by
    intro m l' hb
    cases hey : ev fr z with
    | none => rw [hey] at hb; cases hb
    | some av =>
     rw [hey] at hb
     simp only [Option.bind_some] at hb
     obtain ⟨h2, _⟩ := ev_ok hf hcx' hey
     generalize hx' : act.eval x' = u' at h2
     cases av with
     | lst f m2 l2 =>
      simp only [rowA, Option.some.injEq, Prod.mk.injEq] at hb
      obtain ⟨rfl, rfl⟩ := hb
      obtain ⟨a2, c2, news, p1, p2, p3, p4, p5, _, _⟩ := row_of hs h2
      exact ⟨a2, c2, news, p1, p2, p3, p4, p5⟩
     | hs id m2 =>
      simp only [rowA] at hb
      split at hb
      ·next sl l2 hl2 =>
       split at hb
       ·next hlm =>
        simp only [Option.some.injEq, Prod.mk.injEq] at hb
        obtain ⟨rfl, rfl⟩ := hb
        cases h2 with
        | hs _ b _ c1 hbb hn =>
         obtain ⟨b', arr, e', p1, p2, p3, p4, p5, p6, p7, p8, p9⟩ := hs.obj id sl l2 hl2
         obtain rfl : b = b' := by rw [hbb] at p1; simpa using p1
         refine ⟨_, c1, arr.toList.take (m2 * i.size), rfl, .inr ⟨b, 0, rfl, fun j v hj => ?_⟩, (p3.take _).deg, fun u hu => p4 u (List.mem_of_mem_take hu), ?_⟩
         ·rw [List.getElem?_take] at hj
          split at hj
          ·rw [cell_of_row w b _ arr e' (0, 0) p2]; simpa using hj
          ·cases hj
         ·intro u hu; obtain ⟨q, _, rfl⟩ := List.mem_map.1 hu; exact plain_deg q
       ·cases hb
      ·cases hb
     | _ => simp only [rowA] at hb; cases hb
   simp only [wop] at hw
   split at hw
   ·next n l m l' ha hb =>
    obtain ⟨⟨hl, hl', hm, h63, hby⟩, hK⟩ := hw
    obtain ⟨h1, _⟩ := ev_ok hf hcx ha
    obtain ⟨a, c', xs, hv, hrow, hrx, hox, hpl, hcl, _⟩ := row_of hs h1
    obtain rfl := hcl rfl
    obtain ⟨a2, c2, news, hx', hrow', hrn, hon, hpl'⟩ := rowy hb
    obtain ⟨k, hr⟩ := run_app_new (P := P) w t o.type e i zv i.size i.bytes (isSlice_of ht) hi hz rfl rfl hpos a _ xs (by rw [hrx.length]; exact hl) hrow a2 m c2 news (by rw [hrn.length]; exact hl') hrow' hm (by unfold maxLen; omega) hby
    rw [← hv, ← hx'] at hr
    exact sound_apx hs hf hd hN hdst r1 r2 r3 hzs hpos (exec_append' (o := o) (isSlice_of ht) (isSlice_of ht') hop q1 q2 q3 hr) hrx hox hpl hrn hon hpl' (hK k)
   ·next id n c m l' ha hb =>
    split at hw
    ·next l hl hyl =>
     obtain ⟨⟨hlc, hl', hm, hnc, h63, hby⟩, hK1, hK2⟩ := hw
     obtain ⟨h1, _⟩ := ev_ok hf hcx ha
     obtain ⟨a2, c2, news, hx', hrow', hrn, hon, hpl'⟩ := rowy hb
     generalize hxx : act.eval x = u at h1
     cases h1 with
     | hsc _ b _ _ hbb hn =>
      obtain ⟨b', arr, e', p1, p2, p3, p4, p5, p6, p7, p8, p9⟩ := hs.obj id false l hl
      obtain rfl : b = b' := by rw [hbb] at p1; simpa using p1
      have hal : arr.size = l.length := by rw [← p3.length]; simp
      have hnl : news.length = m * i.size := by rw [hrn.length]; exact hl'
      have hne : news ≠ [] := fun h => by rw [h] at hnl; have := Nat.mul_pos hm hpos; simp at hnl; omega
      obtain ⟨b2, o2, e2, hcell2⟩ := hrow'.resolve_left hne
      subst e2
      have hnews : ∀ j u, news[j]? = some u → w.cell? ((⟨b2, o2, none⟩ : Addr).add j) = some u := fun j u hu => by rw [add_none]; exact hcell2 j u hu
      by_cases hroom : n + m ≤ c
      ·have hfit : n * i.size + news.length ≤ arr.size := by rw [hal, hlc, hnl, ← Nat.add_mul]; exact Nat.mul_le_mul_right _ hroom
       have hfc := run_firstCells_some (P := P) w i.size m ⟨b2, o2, none⟩ m c2 news hnl hnews
       have hst := run_storeCells_cells (P := P) b (n * i.size) news 0 w (fun j hj => by
        rw [cell_of_row w b _ arr e' (0, 0) p2]
        simp; omega) (fun j hj => by simp [World.frozen?, p2]) hon
       simp only [Nat.add_zero] at hst
       have hrun : (Builtin.append_ #[t, t] o.type #[.slice (some ⟨b, 0, none⟩) n c, .slice (some ⟨b2, o2, none⟩) m c2]).run P w = .ok (.slice (some ⟨b, 0, none⟩) (n + m) c) (w.setCells b (n * i.size) news) := by
        simp [Builtin.append_, run_underlying (isSlice_of ht), sizeOf, typeInfo, hi, Builtin.lenOf, hroom, hfc, Addr.add_lit, hst]
       rw [← hxx, ← hx'] at hrun
       obtain ⟨s1, s2⟩ := hs.store hl hbb (n * i.size) news l' hrn hon (fun j v' a' _ ha' => Owned.plain (hpl' a' (List.mem_of_getElem? ha')))
       exact wp_value (exec_append' (o := o) (isSlice_of ht) (isSlice_of ht') hop q1 q2 q3 hrun) (ok_put hN hd hdst s2 s1 (hf.store hbb _ _) (.hsc id b (n + m) c hbb hroom) (fun _ _ => trivial) (hK1 hroom))
      ·have holds : ∀ j u, (arr.toList.take (n * i.size))[j]? = some u → w.cell? ((⟨b, 0, none⟩ : Addr).add j) = some u := fun j u hu => by
        rw [add_none, cell_of_row w b _ arr e' (0, 0) p2]
        rw [List.getElem?_take] at hu
        split at hu
        ·simpa using hu
        ·cases hu
       have hol : (arr.toList.take (n * i.size)).length = n * i.size := by
        rw [List.length_take, Array.length_toList, hal, hlc]; exact Nat.min_eq_left (Nat.mul_le_mul_right _ hnc)
       have hr := run_append_grow (P := P) w t o.type e i zv (isSlice_of ht) hi hz ⟨b, 0, none⟩ n c (arr.toList.take (n * i.size)) hol holds ⟨b2, o2, none⟩ m c2 news hnl hnews (by omega) (by omega) (growslice_fits (by omega) hby)
       have hg := grownCap_ge w (n + m) c e
       obtain ⟨k, hk⟩ : ∃ k, grownCap w (n + m) c e = n + m + k := ⟨grownCap w (n + m) c e - (n + m), by omega⟩
       rw [hk, show n + m + k - (n + m) = k by omega] at hr
       rw [← hxx, ← hx'] at hr
       exact sound_apx hs hf hd hN hdst r1 r2 r3 hzs hpos (exec_append' (o := o) (isSlice_of ht) (isSlice_of ht') hop q1 q2 q3 hr) (p3.take _).deg (fun u hu => p4 u (List.mem_of_mem_take hu)) (by intro u hu; obtain ⟨q, _, rfl⟩ := List.mem_map.1 hu; exact plain_deg q) hrn hon hpl' (hK2 (by omega) k)
    ·exact hw.elim
   ·exact hw.elim
  ·cases hc1
 ·cases hc1

theorem FrameOk.degr {tmps : Array Value} (k : Nat) (hf : FrameOk P g w tmps fr) : FrameOk P g w tmps (degr k fr) := by
 intro j a hj
 rw [lk_degr] at hj
 by_cases e : j = k
 ·subst e
  rw [if_pos rfl] at hj
  cases hl : lk fr j with
  | none => rw [hl] at hj; cases hj
  | some a' =>
   rw [hl] at hj
   simp only [Option.map_some, Option.some.injEq] at hj
   subst hj
   obtain ⟨v, h1, h2, h3⟩ := hf j a' hl
   exact ⟨v, h1, h2.deg, Owned.plain (plain_deg a')⟩
 ·rw [if_neg e] at hj
  exact hf j a hj

theorem own_cases {v : Value} {k e n : Nat} {l : List AV} (hs : Sim P g h w) (hr : Rep g v (.lst (.own e) n l)) (ho : Owned P g w (.slot k) v (.lst (.own e) n l)) :
  ∃ sz, (P.info? e).map (·.size) = some sz ∧ l.length = n * sz ∧ ((∃ xs, w.ownsRow 0 e sz v n xs ∧ RepL g xs l ∧ (∀ u ∈ xs, u.oneCell' = true) ∧ ∀ b, v.ownBlock = some b → g.own b = some (.slot k) ∧ (∀ o, xs.length ≤ o → g.C b o = none) ∧ ¬ g.F b ∧ ∀ id, g.io id ≠ some b) ∨
   ∃ a xs, v = .slice a n n ∧ RowOf w a xs ∧ RepL g xs l ∧ ∀ u ∈ xs, u.oneCell' = true) := by
 obtain ⟨sz, h1, h2, h3⟩ := ho
 obtain ⟨a, c, xs, hv, hrow, hrx, hox, hpl, _, hnil⟩ := row_of hs hr
 refine ⟨sz, h1, h2, ?_⟩
 rcases h3 with ⟨vs, h3, h4⟩ | ⟨a', h3⟩
 ·left
  have hxl : xs.length = vs.length := by rw [hrx.length, h2, h3.1]
  have hvx : vs = xs := by
   rcases h3.2 with ⟨e1, e2⟩ | ⟨b, cc, cur, e1, _, hb, hnc, _, hcs, ht⟩
   ·have : vs = [] := List.eq_nil_of_length_eq_zero (by rw [h3.1, e2]; simp)
    subst this
    exact (List.eq_nil_of_length_eq_zero (by simpa using hxl)).symm
   ·rw [hv] at e1
    simp only [Value.slice.injEq] at e1
    obtain ⟨rfl, _, rfl⟩ := e1
    rcases hrow with rfl | ⟨b', off, e3, hcell⟩
    ·exact List.eq_nil_of_length_eq_zero (by simpa using hxl.symm)
    ·simp only [Option.some.injEq, Addr.mk.injEq, and_true] at e3
     obtain ⟨rfl, rfl⟩ := e3
     apply List.ext_getElem?
     intro j
     by_cases hj : j < xs.length
     ·have c1 := hcell j xs[j] (by simp [hj])
      rw [Nat.zero_add, cell_of_row w b j cur e (0, 0) hb] at c1
      rw [← ht, List.getElem?_take, if_pos (by rw [← h3.1, ← hxl]; exact hj), List.getElem?_eq_getElem hj]
      simpa using c1
     ·rw [List.getElem?_eq_none (by omega), List.getElem?_eq_none (by omega)]
  subst hvx
  refine ⟨vs, h3, hrx, hox, fun b hb => ⟨(h4 b hb).1, fun o ho => (h4 b hb).2.1 o (by rw [← hrx.length]; exact ho), (h4 b hb).2.2⟩⟩
 ·right
  rw [hv] at h3
  simp only [Value.slice.injEq, true_and] at h3
  obtain ⟨rfl, rfl⟩ := h3
  exact ⟨a, xs, hv, hrow, hrx, hox⟩

theorem sound_appo {e sz bytes k : Nat} {z : Opd} (hs : Sim P g h w) (hf : FrameOk P g w act.tmps fr) (hd : act.defers = []) (hN : act.tmps.size = N) (hdst : ∀ d, o.dst = some d → d < N) (hc : chkEff P o.op o.dst (.appo e sz bytes k z) = true) (hw : wop P o.dst (.appo e sz bytes k z) fr h K) : o.wp P act w (Ok P g w N K) Q := by
 simp only [chkEff, Bool.and_eq_true] at hc
 obtain ⟨⟨hc1, he⟩, hds⟩ := hc
 split at hc1
 ·next c hop =>
  split at hc1
  ·next j x' t t' q1 q2 q3 =>
   simp only [Bool.and_eq_true, beq_iff_eq] at hc1
   obtain ⟨⟨⟨ht, ht'⟩, rfl⟩, hcx'⟩ := hc1
   have ht := isSlice_of ht
   have ht' := isSlice_of ht'
   simp only [wop] at hw
   split at hw
   ·next e' n l f m l' ha hb =>
    obtain ⟨⟨rfl, hl', h63, hby⟩, hK⟩ := hw
    obtain ⟨v, v1, v2, v3⟩ := hf j _ ha
    have hv : act.eval (.tmp j) = v := by simp only [Act.eval, Array.getD_eq_getD_getElem?, v1, Option.getD_some]
    obtain ⟨h2, _⟩ := ev_ok hf hcx' hb
    obtain ⟨i, zz, hi, hz, rfl, rfl, hzs, hpos⟩ := elem_of he
    obtain ⟨sz, o1, o2, ⟨xs, o3, o4, o5, o6⟩ | ⟨sa, xs, o3, o4, o5, o6⟩⟩ := own_cases hs v2 v3
    ·have hsz : sz = i.size := by rw [hi] at o1; simpa using o1.symm
     subst hsz
     obtain ⟨a, c', news, hx', hrow', hrn, hon, hpl', _, hnil⟩ := row_of hs h2
     have hpl : plains l := by cases v2 with | lst _ _ _ _ _ _ _ _ hp _ _ _ => exact hp | lst0 => intro a ha; simp at ha
     cases a with
     | none =>
      obtain ⟨rfl, rfl⟩ := hnil rfl
      have hl0 : l' = [] := List.eq_nil_of_length_eq_zero (by simpa using hl')
      subst hl0
      obtain ⟨sa, cap, rfl, hcap⟩ := owns_form o3
      have hnc : n ≤ cap := by
       rcases o3.2 with ⟨e1, _⟩ | ⟨_, _, _, e1, _, _, hnc, _⟩
       ·simp only [Value.slice.injEq] at e1; omega
       ·simp only [Value.slice.injEq] at e1; omega
      have hr := run_app_none (P := P) w t o.type e' i ht hi sa n cap c' hnc none
      rw [← hv, ← hx'] at hr
      have hown2 : w.ownsRow 0 e' i.size (.slice sa n cap) (n + 0) (xs ++ []) := by simpa using o3
      exact sound_grow (k := j) hs hf hd hN hdst hds o1 (by rw [← hv]; exact exec_append' ht ht' hop q1 q2 q3 hr) o3 hown2 ⟨rfl, rfl, rfl, Nat.le_refl _, .inl ⟨rfl, fun _ _ _ => rfl⟩⟩ o4 .nil (by simpa using o5) (by simpa using hpl) o6 hK
     | some ad =>
      obtain ⟨v', w', hr, hown', hgr⟩ := run_app (P := P) w t o.type e' i zz i.size i.bytes ht hi hz rfl rfl hzs hpos v n xs o3 (some ad) m c' news (by rw [hrn.length]; exact hl') hrow' (fun h => by cases h) hon (by unfold maxLen; omega) hby
      rw [← hv, ← hx'] at hr
      exact sound_grow (k := j) hs hf hd hN hdst hds o1 (exec_append' ht ht' hop q1 q2 q3 hr) o3 hown' hgr o4 hrn (fun u hu => (List.mem_append.1 hu).elim (o5 u) (hon u)) (fun u hu => (List.mem_append.1 hu).elim (hpl u) (hpl' u)) o6 hK
    ·have hsz : sz = i.size := by rw [hi] at o1; simpa using o1.symm
     subst hsz
     have hpl : plains l := by cases v2 with | lst _ _ _ _ _ _ _ _ hp _ _ _ => exact hp | lst0 => intro a ha; simp at ha
     rw [o3] at v2 hv
     exact sound_clip (some j) hs hf hd hN hdst hds hop q1 q2 q3 ht ht' he hv o4 o5 o6 hpl v2 o2 h2 hl' h63 hby (fun _ _ h => h.degr j) hK
   ·exact hw.elim
  ·cases hc1
 ·cases hc1

theorem repl_bytes (g : Gh) (s : ByteArray) : RepL g (strCells s) (s.data.toList.map fun b => AV.int .u8 b.toNat) := by
 unfold strCells
 generalize s.data.toList = l
 induction l with
 | nil => exact .nil
 | cons b l ih => exact .cons (.int _ _) ih
theorem run_apps_none (t u ty e : TypeId) (i : TypeInfo) (ht : P.underlying t = some (.slice e)) (hu : P.underlying u = some .string) (hi : P.info? e = some i) (sa : Option Addr) (n k : Nat) (hk : n ≤ k) (s : ByteArray) (h0 : s.size = 0) :
  (Builtin.append_ #[t, u] ty #[.slice sa n k, .string s]).run P w = .ok (.slice sa n k) w := by
 have he : (s.extract 0 0).data = #[] := by apply Array.ext'; simp
 cases sa <;> simp [Builtin.append_, run_underlying ht, run_underlying hu, sizeOf, typeInfo, hi, Builtin.lenOf, Builtin.firstCells, hk, storeCells, h0]
theorem run_apps_clip (t u ty e : TypeId) (i : TypeInfo) (ht : P.underlying t = some (.slice e)) (hu : P.underlying u = some .string) (hi : P.info? e = some i) (hz : i.zero = some (.int .u8 0)) (hsize : i.size = 1) (hby : i.bytes = 1)
  (sa : Option Addr) (n : Nat) (xs : List Value) (hx : xs.length = n) (hxs : RowOf w sa xs) (s : ByteArray) (hm : 0 < s.size) (hbytes : n + s.size ≤ 140737488355328) :
  ∃ c' w', (Builtin.append_ #[t, u] ty #[.slice sa n n, .string s]).run P w = .ok (.slice (some ⟨w.heap.size, 0, none⟩) (n + s.size) c') w' ∧ w'.ownsRow 0 e 1 (.slice (some ⟨w.heap.size, 0, none⟩) (n + s.size) c') (n + s.size) (xs ++ strCells s) ∧ Grew w w' (.slice none 0 0) (.slice (some ⟨w.heap.size, 0, none⟩) (n + s.size) c') := by
 have h63 : n + s.size ≤ maxLen := by unfold maxLen; omega
 cases sa with
 | none =>
  have hx0 : xs = [] := by
   rcases hxs with h | ⟨_, _, h, _⟩
   ·exact h
   ·cases h
  subst hx0
  simp at hx
  subst hx
  have hr := run_append_nil_string (P := P) w t u ty e i (.int .u8 0) ht hu hi hz s hm (by omega) (by rw [hby]; omega)
  have e1 : (s.data.map fun b => Value.int .u8 b.toNat) = (strCells s).toArray := by
   apply Array.ext'
   simp [strCells]
  rw [e1] at hr
  have hgr := grown_row w e (.int .u8 0) 1 rfl 0 s.size [] (strCells s) (by simp) (by simp [strCells_length]) h63 0 (.slice none 0 0)
  simp only [Nat.zero_add, List.nil_append, Array.empty_append] at hgr ⊢
  exact ⟨_, _, hr, hgr⟩
 | some ad =>
  have holds : ∀ j u, xs[j]? = some u → w.cell? (ad.add j) = some u := fun j u hu => by
   rcases hxs with h | ⟨b, off, h, hcell⟩
   ·rw [h] at hu; simp at hu
   ·injection h with h; subst h; rw [add_none]; exact hcell j u hu
  have hr := run_append_grow_string (P := P) w t u ty e i (.int .u8 0) ht hu hi hz ad n n xs (by rw [hsize]; simpa using hx) holds s (by omega) (by omega) (by rw [hby]; exact growslice_fits (by omega) (by omega))
  exact ⟨_, _, hr, grown_row w e (.int .u8 0) 1 rfl n s.size xs (strCells s) (by simpa using hx) (by simp [strCells_length]) h63 n _⟩
theorem sound_appso {e k : Nat} {z : Opd} (hs : Sim P g h w) (hf : FrameOk P g w act.tmps fr) (hd : act.defers = []) (hN : act.tmps.size = N) (hdst : ∀ d, o.dst = some d → d < N) (hc : chkEff P o.op o.dst (.appso e k z) = true) (hw : wop P o.dst (.appso e k z) fr h K) : o.wp P act w (Ok P g w N K) Q := by
 simp only [chkEff, Bool.and_eq_true] at hc
 obtain ⟨⟨⟨hc1, he⟩, hz0⟩, hds⟩ := hc
 obtain ⟨i, zz, hi, hz, hsz1, hby1, hzs, hpos⟩ := elem_of he
 have hz8 : i.zero = some (.int .u8 0) := by
  rw [hi] at hz0
  simp only at hz0
  split at hz0
  ·next q => exact q
  ·cases hz0
 split at hc1
 ·next c hop =>
  split at hc1
  ·next j x' t u q1 q2 q3 =>
   simp only [Bool.and_eq_true, beq_iff_eq] at hc1
   obtain ⟨⟨⟨ht, rfl⟩, hcx'⟩, hu⟩ := hc1
   have ht := isSlice_of ht
   split at hu
   ·next hu' =>
    simp only [wop] at hw
    split at hw
    ·next e' n l s ha hb =>
     obtain ⟨⟨rfl, hby⟩, hK⟩ := hw
     obtain ⟨v, v1, v2, v3⟩ := hf j _ ha
     have hv : act.eval (.tmp j) = v := by simp only [Act.eval, Array.getD_eq_getD_getElem?, v1, Option.getD_some]
     obtain ⟨h2, _⟩ := ev_ok hf hcx' hb
     generalize hx' : act.eval x' = u2 at h2
     cases h2
     have hpl : plains l := by cases v2 with | lst _ _ _ _ _ _ _ _ hp _ _ _ => exact hp | lst0 => intro a ha; simp at ha
     have hpl' : plains (s.data.toList.map fun b => AV.int .u8 b.toNat) := by intro a ha; obtain ⟨b, _, rfl⟩ := List.mem_map.1 ha; rfl
     obtain ⟨sz, o1, o2, ⟨xs, o3, o4, o5, o6⟩ | ⟨sa, xs, o3, o4, o5, o6⟩⟩ := own_cases hs v2 v3
     ·have hsz : sz = 1 := by rw [hi] at o1; simp only [Option.map_some, Option.some.injEq] at o1; rw [← o1]; exact hsz1
      subst hsz
      obtain ⟨v', w', hr, hown', hgr⟩ := run_apps (P := P) w t u o.type e' i ht hu' hi hz8 hsz1 hby1 v n xs o3 s (by unfold maxLen; omega) hby
      rw [← hv, ← hx'] at hr
      exact sound_grow (k := j) hs hf hd hN hdst hds o1 (exec_append hop q1 q2 q3 hr) o3 hown' hgr o4 (repl_bytes g s) (fun u hu => (List.mem_append.1 hu).elim (o5 u) (strCells_oneCell s u)) (fun u hu => (List.mem_append.1 hu).elim (hpl u) (hpl' u)) o6 hK
     ·have hsz : sz = 1 := by rw [hi] at o1; simp only [Option.map_some, Option.some.injEq] at o1; rw [← o1]; exact hsz1
      subst hsz
      rw [o3] at v2 hv
      rcases Nat.eq_zero_or_pos s.size with h0 | hm
      ·have hl0 : s.data.toList = [] := List.eq_nil_of_length_eq_zero (by simpa using h0)
       have hr := run_apps_none (w := w) t u o.type e' i ht hu' hi sa n n (Nat.le_refl _) s h0
       rw [← hv, ← hx'] at hr
       refine wp_value (exec_append hop q1 q2 q3 hr) (ok_put (a := .lst (.own e') (n + s.size) (l ++ s.data.toList.map fun b => AV.int .u8 b.toNat)) hN hd hdst (.refl g w) hs (hf.degr j) (by rw [hv, h0, hl0]; simpa using v2) (fun k _ => ⟨1, o1, by rw [h0, hl0]; simpa using o2, .inr ⟨sa, by rw [hv, h0]; rfl⟩⟩) hK)
      ·obtain ⟨c2, w', hr, hown', hgr⟩ := run_apps_clip (w := w) t u o.type e' i ht hu' hi hz8 hsz1 hby1 sa n xs (by rw [o5.length, o2]; simp) o4 s hm hby
       rw [← hv, ← hx'] at hr
       exact sound_row (K := K) (fr := degr j fr) hs (hf.degr j) hd hN hdst hds o1 (exec_append hop q1 q2 q3 hr) hown' hgr (o5.append (repl_bytes g s)) (fun u hu => (List.mem_append.1 hu).elim (o6 u) (strCells_oneCell s u)) (fun u hu => (List.mem_append.1 hu).elim (hpl u) (hpl' u)) hK
    ·exact hw.elim
   ·cases hu
  ·cases hc1
 ·cases hc1

def Gh.hide (g : Gh) : Gh :=
  { g with F := fun b => g.F b ∨ ∃ k, g.own b = some (.slot k), own := fun b => match g.own b with
    | some (.slot _) => none
    | x => x }
theorem hide_slot (g : Gh) (b k : Nat) : g.hide.own b ≠ some (.slot k) := by
 simp only [Gh.hide]
 intro h
 split at h
 ·cases h
 ·next hx => exact hx k h
theorem hide_cell {g : Gh} {b id i : Nat} (h : g.own b = some (.cell id i)) : g.hide.own b = some (.cell id i) := by simp only [Gh.hide, h]
theorem Sim.hide (hs : Sim P g h w) : Sim P g.hide h w := by
 have hle : GLe g g.hide := ⟨fun _ _ _ h => h, fun _ _ h => h, fun _ _ h => h⟩
 refine ⟨hs.prot, ?_, hs.inj, hs.dom, ?_, ?_, hs.hole, fun b o hx => by obtain ⟨q1, q2, q3⟩ := hs.fro b o hx; exact ⟨q1, by simp only [Gh.hide, q2], q3⟩⟩
 ·intro id s l hl
  refine (hs.obj id s l hl).keep hle (fun b hb h8 h9 => ⟨rfl, fun _ => rfl, ?_, by simp only [Gh.hide, h9]⟩) (fun b i o1 o3 o4 => ⟨rfl, hide_cell o1, fun _ => rfl, ?_, o4⟩)
  ·rintro (hf | ⟨k, hk⟩)
   ·exact h8 hf
   ·rw [h9] at hk; cases hk
  ·rintro (hf | ⟨k, hk⟩)
   ·exact o3 hf
   ·rw [o1] at hk; cases hk
 ·rintro b (hf | ⟨k, hk⟩)
  ·exact hs.flt b hf
  ·exact hs.olt b _ hk
 ·intro b x hb
  simp only [Gh.hide] at hb
  split at hb
  ·cases hb
  ·exact hs.olt b x hb
def Gh.back (g g1 : Gh) : Gh := { g1 with F := g.F, own := fun b => match g.own b with
  | some (.slot k) => some (.slot k)
  | _ => g1.own b }
theorem Sim.back {g1 : Gh} {h1 : Hp} {w1 : World} (hs : Sim P g h w) (hev : Ev g.hide w g1 w1) (hs1 : Sim P g1 h1 w1) (hns : ∀ b k, g1.own b ≠ some (.slot k)) : Sim P (g.back g1) h1 w1 ∧ Ev g w (g.back g1) w1 := by
 have hle : GLe g1 (g.back g1) := ⟨fun _ _ _ h => h, fun _ _ h => h, fun _ _ h => h⟩
 have hF : ∀ b, ¬ g1.F b → ¬ g.F b ∧ ∀ k, g.own b ≠ some (.slot k) := fun b hb => ⟨fun hf => hb ((hev.F b).2 (.inl hf)), fun k hk => hb ((hev.F b).2 (.inr ⟨k, hk⟩))⟩
 have hown : ∀ b, ¬ g1.F b → (g.back g1).own b = g1.own b := fun b hb => by
  simp only [Gh.back]
  split
  ·next k hk => exact absurd hk ((hF b hb).2 k)
  ·rfl
 refine ⟨⟨hs1.prot, ?_, hs1.inj, hs1.dom, fun b hb => hs1.flt b ((hev.F b).2 (.inl hb)), ?_, hs1.hole, ?_⟩, ⟨⟨fun b o v hc => hev.le.C b o v hc, fun i b hi => hev.le.io i b hi, fun b o hx => hev.le.X b o hx⟩, fun _ => .rfl, ?_, hev.os, hev.tape, hev.output, hev.size, fun b hb => hev.Fx b (.inl hb)⟩⟩
 ·intro id s l hl
  exact (hs1.obj id s l hl).keep hle (fun b hb h8 h9 => ⟨rfl, fun _ => rfl, (hF b h8).1, by rw [hown b h8]; exact h9⟩) (fun b i o1 o3 o4 => ⟨rfl, by rw [hown b o3]; exact o1, fun _ => rfl, (hF b o3).1, o4⟩)
 ·intro b x hb
  simp only [Gh.back] at hb
  split at hb
  ·next k hk => have := hs.olt b _ hk; have := hev.size; omega
  ·exact hs1.olt b x hb
 ·intro b o hx
  obtain ⟨q1, q2, q3⟩ := hs1.fro b o hx
  refine ⟨q1, ?_, q3⟩
  simp only [Gh.back]
  split
  ·next k hk =>
   have hx2 : g1.X b = g.X b := hev.Fx b (.inr ⟨k, hk⟩)
   have hx3 : g.X b = some o := by rw [← hx2]; exact hx
   have := (hs.fro b o hx3).2.1
   rw [hk] at this; cases this
  ·exact q2
 ·intro b hb
  obtain ⟨q1, q2, q3, q4⟩ := hev.Fb b (.inl hb)
  refine ⟨q1, q2, ?_, q4⟩
  simp only [Gh.back]
  split
  ·next k hk => exact hk.symm
  ·next hx =>
   rw [q3]
   simp only [Gh.hide]
theorem FrameOk.back {tmps : Array Value} {g1 : Gh} {w1 : World} (hf : FrameOk P g w tmps fr) (hev : Ev g.hide w g1 w1) : FrameOk P (g.back g1) w1 tmps fr := by
 refine hf.keep ⟨fun b o v hc => hev.le.C b o v hc, fun i b hi => hev.le.io i b hi, fun b o hx => hev.le.X b o hx⟩ (fun b k o1 o3 o4 => ?_)
 obtain ⟨q1, q2, q3, q4⟩ := hev.Fb b (.inr ⟨k, o1⟩)
 exact ⟨q1, by simp only [Gh.back, o1], q2, o3, fun j hj => o4 j (q4 j hj)⟩

theorem run_callFunc {f : FuncId} {args : Array Value} (h : entersB P f = true) : (callFunc f args).run P w = .ok (.enter f args) w := by
 unfold entersB at h
 split at h
 ·next fn hfn =>
  simp only [Bool.and_eq_true, Bool.not_eq_true'] at h
  obtain ⟨h1, h2⟩ := h
  have h3 : fn.body.isNone = false := by cases hb : fn.body <;> simp_all
  simp only [callFunc, Sem.run_bind, run_program, Result.andThen_ok, hfn, h1, Bool.false_eq_true, if_false, h3]
  rfl
 ·cases h

theorem sound_call {f : Opd} {args : List Opd} (hs : Sim P g h w) (hf : FrameOk P g w act.tmps fr) (hd : act.defers = []) (hN : act.tmps.size = N) (hdst : ∀ d, o.dst = some d → d < N) (hc : chkEff P o.op o.dst (.call f args) = true) (hw : wop P o.dst (.call f args) fr h K) : o.wp P act w (Ok P g w N K) Q := by
 simp only [chkEff] at hc
 split at hc
 ·next c hop =>
  split at hc
  ·next x q1 =>
   simp only [Bool.and_eq_true] at hc
   obtain ⟨hc1, hc2⟩ := hc
   simp only [wop] at hw
   split at hw
   ·next f' caps l ha hb =>
    obtain ⟨h1, _⟩ := ev_ok hf hc1 ha
    obtain ⟨h2, h3⟩ := evs_ok hf hc2 hb
    generalize hx : act.eval x = u at h1
    cases h1 with
    | fn _ vs _ p1 p2 =>
     obtain ⟨hent, hcall⟩ := hw
     have hargs : c.args.map act.eval = (c.args.toList.map act.eval).toArray := by cases c.args; simp
     have hrun : (execOp act.eval o).run P w = .ok (.enter f' (c.args.toList.map act.eval ++ vs).toArray) w := by
      simp only [execOp, hop, resolve, q1, hx, Deferred.ofValue, invoke, hargs, pure_bind, Array.empty_append]
      rw [run_callFunc hent]
      simp
     unfold Oper.wp
     rw [hrun]
     refine (hcall g.hide w _ hs.hide (hide_slot g) (RepL.mono (show GLe g g.hide from ⟨fun _ _ _ h => h, fun _ _ h => h, fun _ _ h => h⟩) (h2.append p2)) (fun a ha => (List.mem_append.1 ha).elim (h3 a) (p1 a))).mono ?_
     rintro e w1 ⟨v, a, h1', g1, rfl, r1, r2, r3, r4, r5, r6⟩
     obtain ⟨s1, s2⟩ := hs.back r1 r2 r3
     exact ok_put hN hd hdst s2 s1 (hf.back r1) (Rep.mono (show GLe g1 (g.back g1) from ⟨fun _ _ _ h => h, fun _ _ h => h, fun _ _ h => h⟩) r4) (fun _ _ => Owned.plain r5) r6
   ·next f' bnd l ha hb =>
    obtain ⟨h1, _⟩ := ev_ok hf hc1 ha
    obtain ⟨h2, h3⟩ := evs_ok hf hc2 hb
    generalize hx : act.eval x = u at h1
    cases h1 with
    | fnb _ vs _ p1 p2 =>
     obtain ⟨hent, hcall⟩ := hw
     have hargs : c.args.map act.eval = (c.args.toList.map act.eval).toArray := by cases c.args; simp
     have hrun : (execOp act.eval o).run P w = .ok (.enter f' (vs ++ c.args.toList.map act.eval).toArray) w := by
      simp only [execOp, hop, resolve, q1, hx, Deferred.ofValue, invoke, hargs, pure_bind, Array.append_empty]
      rw [run_callFunc hent]
      simp
     unfold Oper.wp
     rw [hrun]
     refine (hcall g.hide w _ hs.hide (hide_slot g) (RepL.mono (show GLe g g.hide from ⟨fun _ _ _ h => h, fun _ _ h => h, fun _ _ h => h⟩) (p2.append h2)) (fun a ha => (List.mem_append.1 ha).elim (p1 a) (h3 a))).mono ?_
     rintro e w1 ⟨v, a, h1', g1, rfl, r1, r2, r3, r4, r5, r6⟩
     obtain ⟨s1, s2⟩ := hs.back r1 r2 r3
     exact ok_put hN hd hdst s2 s1 (hf.back r1) (Rep.mono (show GLe g1 (g.back g1) from ⟨fun _ _ _ h => h, fun _ _ h => h, fun _ _ h => h⟩) r4) (fun _ _ => Owned.plain r5) r6
   ·exact hw.elim
  ·cases hc
 ·cases hc

theorem sound_snil {neg : Bool} {y : Opd} (hs : Sim P g h w) (hf : FrameOk P g w act.tmps fr) (hd : act.defers = []) (hN : act.tmps.size = N) (hdst : ∀ d, o.dst = some d → d < N) (hc : chkEff P o.op o.dst (.snil neg y) = true) (hw : wop P o.dst (.snil neg y) fr h K) : o.wp P act w (Ok P g w N K) Q := by
 simp only [chkEff] at hc
 split at hc
 ·next op' t x y' _ hop =>
  simp only [Bool.and_eq_true, decide_eq_true_eq] at hc
  obtain ⟨⟨⟨rfl, hc1⟩, hc2⟩, hty⟩ := hc
  have hy : act.eval y' = .slice none 0 0 := by
   unfold chkOpd at hc2
   split at hc2
   ·next e => cases e
   ·next v a e e' =>
    injection e' with e'
    subst e'
    unfold chkV at hc2
    split at hc2 <;> first | (simp_all; done) | skip
    all_goals simp_all [Act.eval]
   ·next e => cases e
   ·cases hc2
  split at hty
  ·next e ht =>
   have run : ∀ (a : Option Addr) (n c : Nat), (execOp act.eval o).run P w = .ok (.value (.bool (if neg then !a.isNone else a.isNone))) w ∨ act.eval x ≠ .slice a n c := by
    intro a n c
    by_cases hx : act.eval x = .slice a n c
    ·left
     have heq := run_equal_slice_nil (P := P) w t e a n c ht
     cases neg <;> simp [execOp, hop, hx, hy, eqGuard, binOp, heq]
    ·exact .inr hx
   have fin : ∀ (b : Bool), (execOp act.eval o).run P w = .ok (.value (.bool b)) w → K (put o.dst (.bool b) fr) h → o.wp P act w (Ok P g w N K) Q := fun b hr hk =>
    wp_value hr (ok_put hN hd hdst (.refl g w) hs hf (.bool b) (fun _ _ => trivial) hk)
   simp only [wop] at hw
   split at hw
   ·next f n l he =>
    obtain ⟨h1, _⟩ := ev_ok hf hc1 he
    generalize hu : act.eval x = u at h1
    cases h1 with
    | lst b off _ c _ vs _ q1 q2 q3 q4 q5 =>
     rcases run (some ⟨b, off, none⟩) n c with hr | hr
     ·exact fin neg (by rw [hr]; cases neg <;> rfl) hw.1
     ·exact absurd hu hr
    | lst0 a c _ q =>
     rcases run a 0 c with hr | hr
     ·cases a with
      | none => exact fin (!neg) (by rw [hr]; cases neg <;> rfl) (hw.2 rfl)
      | some ad => exact fin neg (by rw [hr]; cases neg <;> rfl) hw.1
     ·exact absurd hu hr
   ·next id n he =>
    obtain ⟨h1, _⟩ := ev_ok hf hc1 he
    generalize hu : act.eval x = u at h1
    cases h1 with
    | hs _ b _ c q1 q2 =>
     rcases run (some ⟨b, 0, none⟩) n c with hr | hr
     ·exact fin neg (by rw [hr]; cases neg <;> rfl) hw
     ·exact absurd hu hr
   ·next id n c he =>
    obtain ⟨h1, _⟩ := ev_ok hf hc1 he
    generalize hu : act.eval x = u at h1
    cases h1 with
    | hsc _ b _ _ q1 q2 =>
     rcases run (some ⟨b, 0, none⟩) n c with hr | hr
     ·exact fin neg (by rw [hr]; cases neg <;> rfl) hw
     ·exact absurd hu hr
   ·exact hw.elim
  ·cases hty
 ·cases hc
theorem Sim.iter (hs : Sim P g h w) (s : ByteArray) (d : Nat) : Sim P (g.give (some w.heap.size) (.slot d)) h (w.alloc (.stringIter s 0)) ∧ Ev g w (g.give (some w.heap.size) (.slot d)) (w.alloc (.stringIter s 0)) := by
 have hle := gle_give g (some w.heap.size) (.slot d)
 have hown : ∀ b, b < w.heap.size → (g.give (some w.heap.size) (.slot d)).own b = g.own b := fun b hb => by
  simp only [Gh.give]; rw [if_neg (fun e => by simp only [Option.some.injEq] at e; omega)]
 refine ⟨⟨fun b o v hc => ?_, fun id s l hl => ?_, hs.inj, fun i b hi => ?_, fun b hb => ?_, fun b x hb => ?_, hs.hole, fun b o hx => by obtain ⟨q1, q2, q3⟩ := hs.fro b o hx; exact ⟨(Below.heap_alloc _ _ _ (lt_of_block q1)).trans q1, (hown b (lt_of_block q1)).trans q2, q3⟩⟩, hle, fun _ => .rfl, fun b hb => ⟨Below.heap_alloc _ _ _ (hs.flt b hb), fun _ => rfl, hown b (hs.flt b hb), fun _ h => h⟩, rfl, rfl, rfl, by simp, fun _ _ => rfl⟩
 ·have hc' := hs.prot b o v hc
  exact ⟨cell_alloc hc'.1 _, hc'.2⟩
 ·refine (hs.obj id s l hl).keep hle (fun b hb h8 h9 => ⟨Below.heap_alloc _ _ _ (hs.dom id b hb).2, fun _ => rfl, h8, (hown b (hs.dom id b hb).2).trans h9⟩)
   (fun b i o1 o3 o4 => ⟨Below.heap_alloc _ _ _ (hs.olt b _ o1), (hown b (hs.olt b _ o1)).trans o1, fun _ => rfl, o3, o4⟩)
 ·have := hs.dom i b hi; exact ⟨this.1, by simp; omega⟩
 ·have := hs.flt b hb; simp; omega
 ·simp only [Gh.give] at hb
  split at hb
  ·next e => simp only [Option.some.injEq] at e; subst e; simp
  ·have := hs.olt b x hb; simp; omega
theorem Sim.fresh (hs : Sim P g h w) (ob : Obj) (d : Nat) : Sim P (g.give (some w.heap.size) (.slot d)) h (w.alloc ob) ∧ Ev g w (g.give (some w.heap.size) (.slot d)) (w.alloc ob) := by
 have hle := gle_give g (some w.heap.size) (.slot d)
 have hown : ∀ b, b < w.heap.size → (g.give (some w.heap.size) (.slot d)).own b = g.own b := fun b hb => by
  simp only [Gh.give]; rw [if_neg (fun e => by simp only [Option.some.injEq] at e; omega)]
 refine ⟨⟨fun b o v hc => ?_, fun id s l hl => ?_, hs.inj, fun i b hi => ?_, fun b hb => ?_, fun b x hb => ?_, hs.hole, fun b o hx => by obtain ⟨q1, q2, q3⟩ := hs.fro b o hx; exact ⟨(Below.heap_alloc _ _ _ (lt_of_block q1)).trans q1, (hown b (lt_of_block q1)).trans q2, q3⟩⟩, hle, fun _ => .rfl, fun b hb => ⟨Below.heap_alloc _ _ _ (hs.flt b hb), fun _ => rfl, hown b (hs.flt b hb), fun _ h => h⟩, rfl, rfl, rfl, by simp, fun _ _ => rfl⟩
 ·have hc' := hs.prot b o v hc
  exact ⟨cell_alloc hc'.1 _, hc'.2⟩
 ·refine (hs.obj id s l hl).keep hle (fun b hb h8 h9 => ⟨Below.heap_alloc _ _ _ (hs.dom id b hb).2, fun _ => rfl, h8, (hown b (hs.dom id b hb).2).trans h9⟩)
   (fun b i o1 o3 o4 => ⟨Below.heap_alloc _ _ _ (hs.olt b _ o1), (hown b (hs.olt b _ o1)).trans o1, fun _ => rfl, o3, o4⟩)
 ·have := hs.dom i b hi; exact ⟨this.1, by simp; omega⟩
 ·have := hs.flt b hb; simp; omega
 ·simp only [Gh.give] at hb
  split at hb
  ·next e => simp only [Option.some.injEq] at e; subst e; simp
  ·have := hs.olt b x hb; simp; omega

theorem sound_mmk (hs : Sim P g h w) (hf : FrameOk P g w act.tmps fr) (hd : act.defers = []) (hN : act.tmps.size = N) (hdst : ∀ d, o.dst = some d → d < N) (hc : chkEff P o.op o.dst .mmk = true) (hw : wop P o.dst .mmk fr h K) : o.wp P act w (Ok P g w N K) Q := by
 simp only [chkEff, Bool.and_eq_true] at hc
 obtain ⟨hc, hc0⟩ := hc
 obtain ⟨d, hod⟩ := Option.isSome_iff_exists.1 hc0
 split at hc
 ·next t hop =>
  simp only [wop] at hw
  have hx : (execOp act.eval o).run P w = .ok (.value (.map (some w.heap.size))) (w.alloc (.map #[] 0)) := by
   simp [execOp, hop, Instr.makeMap]
  obtain ⟨s1, s2⟩ := hs.fresh (.map #[] 0) d
  have hown : ∀ b, b < w.heap.size → (g.give (some w.heap.size) (.slot d)).own b = g.own b := fun b hb => by
   simp only [Gh.give]; rw [if_neg (fun e => by simp only [Option.some.injEq] at e; omega)]
  have f1 : FrameOk P (g.give (some w.heap.size) (.slot d)) (w.alloc (.map #[] 0)) act.tmps fr :=
   hf.keep (gle_give _ _ _) (fun b k o1 o3 o4 => ⟨Below.heap_alloc _ _ _ (hs.olt b _ o1), (hown b (hs.olt b _ o1)).trans o1, fun _ => rfl, o3, o4⟩)
  refine wp_value hx (ok_put hN hd hdst s2 s1 f1 (.omp w.heap.size [] []) (fun k hk => ?_) (hw w.heap.size))
  rw [hod] at hk
  simp only [Option.some.injEq] at hk
  subst hk
  exact ⟨w.heap.size, rfl, ⟨#[], 0, heap_new w _, rfl, rfl⟩, by simp [Gh.give], fun o => hs.cnew (Nat.le_refl _) o, fun hF => by have := hs.flt _ hF; omega, fun id hid => by have := (hs.dom _ _ hid).2; omega⟩
 ·cases hc
theorem Sim.change (hs : Sim P g h w) {b k : Nat} (ob : Obj) (h4 : g.own b = some (.slot k)) (h5 : ∀ o, g.C b o = none) (h6 : ¬ g.F b) (h7 : ∀ id, g.io id ≠ some b) :
  Sim P g h { w with heap := w.heap.setIfInBounds b ob } ∧ Ev g w g { w with heap := w.heap.setIfInBounds b ob } ∧ ({ w with heap := w.heap.setIfInBounds b ob } : World).heap[b]? = some ob ∧
  ∀ b', b' ≠ b → ({ w with heap := w.heap.setIfInBounds b ob } : World).heap[b']? = w.heap[b']? := by
 have hb : b < w.heap.size := hs.olt b _ h4
 have hne : ∀ b', b' ≠ b → ({ w with heap := w.heap.setIfInBounds b ob } : World).heap[b']? = w.heap[b']? := fun b' e => Array.getElem?_setIfInBounds_ne (fun e' => e e'.symm)
 have heq : ({ w with heap := w.heap.setIfInBounds b ob } : World).heap[b]? = some ob := by
  simp [hb]
 have hsz : ({ w with heap := w.heap.setIfInBounds b ob } : World).heap.size = w.heap.size := by simp
 generalize hw' : ({ w with heap := w.heap.setIfInBounds b ob } : World) = w' at hne heq hsz
 have hos : w'.os = w.os ∧ w'.tape = w.tape ∧ w'.output = w.output := by subst hw'; exact ⟨rfl, rfl, rfl⟩
 refine ⟨?_, ⟨.refl g, fun _ => .rfl, fun b' hb' => ⟨hne b' (fun e => by subst e; exact h6 hb'), fun _ => rfl, rfl, fun _ h => h⟩, hos.1, hos.2.1, hos.2.2, by rw [hsz]; exact Nat.le_refl _, fun _ _ => rfl⟩, heq, hne⟩
 refine ⟨fun b' o' u hc => ?_, fun id s l hl => ?_, hs.inj, fun i b' hi => ?_, fun b' hb' => ?_, fun b' x hb' => ?_, hs.hole, fun b' o hx => by obtain ⟨q1, q2, q3⟩ := hs.fro b' o hx; exact ⟨(hne b' (fun e => by subst e; rw [h4] at q2; cases q2)).trans q1, q2, q3⟩⟩
 ·have hc' := hs.prot b' o' u hc
  have e : b' ≠ b := fun e => by subst e; rw [h5 o'] at hc; cases hc
  exact ⟨by rw [World.cell?_of_block (w := w) (hne b' e)]; exact hc'.1, hc'.2⟩
 ·refine (hs.obj id s l hl).keep (.refl g) (fun b' hb' h8 h9 => ⟨hne b' (fun e => h7 id (by rw [← e]; exact hb')), fun _ => rfl, h8, h9⟩)
   (fun b' i o1 o3 o4 => ⟨hne b' (fun e => by subst e; rw [h4] at o1; cases o1), o1, fun _ => rfl, o3, o4⟩)
 ·have := hs.dom i b' hi; rw [hsz]; exact this
 ·rw [hsz]; exact hs.flt b' hb'
 ·rw [hsz]; exact hs.olt b' x hb'
theorem pvs_snoc : ∀ {l : List AV} {vs : List Value} {a : AV} {v : Value}, pvs l = some vs → pv a = some v → pvs (l ++ [a]) = some (vs ++ [v])
 | [], vs, a, v, h, hv => by simp only [pvs, Option.some.injEq] at h; subst h; simp [pvs, hv]
 | b :: l, vs, a, v, h, hv => by
  simp only [pvs] at h
  split at h
  ·next u us h1 h2 =>
   simp only [Option.some.injEq] at h
   subst h
   simp [pvs, h1, pvs_snoc h2 hv]
  ·cases h
theorem pvs_set : ∀ {l : List AV} {vs : List Value} {a : AV} {v : Value} (i : Nat), pvs l = some vs → pv a = some v → pvs (l.set i a) = some (vs.set i v)
 | [], vs, a, v, i, h, hv => by simp only [pvs, Option.some.injEq] at h; subst h; simp [pvs]
 | b :: l, vs, a, v, i, h, hv => by
  simp only [pvs] at h
  split at h
  ·next u us h1 h2 =>
   simp only [Option.some.injEq] at h
   subst h
   cases i with
   | zero => simp [pvs, hv, h2]
   | succ i => simp [pvs, h1, pvs_set i h2 hv]
  ·cases h
theorem sameBits_key {str : Bool} {key : AV} {kv : Value} (hk : isKey str key = true) (hkv : pv key = some kv) : Instr.sameBits 10000 kv kv = true := by
 rw [show (10000 : Nat) = 9999 + 1 from rfl]
 cases key <;> simp [isKey] at hk
 ·simp only [pv, Option.some.injEq] at hkv
  subst hkv
  simp [Instr.sameBits]
 ·simp only [pv, Option.some.injEq] at hkv
  subst hkv
  simpa [Instr.sameBits] using ba_refl
theorem run_mapUpdate {str : Bool} {t kt et : TypeId} {d : TypeDesc} (ht : P.underlying t = some (.map kt et)) (hu : P.underlying kt = some d) (hd : kdOk str d = true) {key x : AV} {kv xv : Value} (hk : isKey str key = true) (hkv : pv key = some kv) (hxv : pv x = some xv)
    {b : Nat} {ks vs : List AV} (hM : MapIs w.heap[b]? ks vs) (hall : ks.all (kSame key) = true) :
    ∃ ob, (Instr.mapUpdate t (.map (some b)) kv xv).run P w = .ok () { w with heap := w.heap.setIfInBounds b ob } ∧ MapIs (some ob) (mKeys key ks) (mVals key x ks vs) := by
  obtain ⟨es, clock, hb, hks, hvs⟩ := hM
  obtain ⟨r, h1, h2⟩ := run_findKey (w := w) hu hd hk hkv hks hall
  have hck := run_checkKey (P := P) (w := w) hu hd false kv
  cases hm : mFind key ks 0 with
  | some j =>
    rw [hm] at h2
    obtain ⟨e, h3, rfl, h4⟩ := h2
    have h3' : es[j]? = some e := by simpa using h3
    have hkk : ((es[j]?).map (·.key)).getD kv = kv := by rw [h3']; simp [h4]
    have hst : (Instr.keyThatStays kv kv).run P w = .ok kv w := by simp [Instr.keyThatStays, sameBits_key hk hkv]
    refine ⟨.map (es.modify j fun e => { e with key := kv, val := xv }) clock, ?_, _, _, rfl, ?_, ?_⟩
    · simp [Instr.mapUpdate, run_underlying ht, getObj, setObj, Sem.run, Result.andThen, hb, hck, h1, hkk, hst]
    · simp only [mKeys, hm]
      rw [hks]
      congr 1
      apply List.ext_getElem?
      intro i
      simp only [List.getElem?_map, Array.toList_modify, List.getElem?_modify]
      by_cases e' : j = i
      · subst e'; simp [h3, h4]
      · simp [e']
    · simp only [mVals, hm]
      rw [pvs_set j hvs hxv]
      congr 1
      apply List.ext_getElem?
      intro i
      simp only [List.getElem?_map, Array.toList_modify, List.getElem?_modify, List.getElem?_set, List.length_map]
      by_cases e' : j = i
      · subst e'; simp [h3]; exact (List.getElem?_eq_some_iff.1 h3).1
      · simp [e']
  | none =>
    rw [hm] at h2
    subst h2
    refine ⟨.map (es.push { key := kv, val := xv, born := clock }) (clock + 1), ?_, _, _, rfl, ?_, ?_⟩
    · simp [Instr.mapUpdate, run_underlying ht, getObj, setObj, Sem.run, Result.andThen, hb, hck, h1]
    · simp only [mKeys, hm]; rw [pvs_snoc hks hkv]; simp
    · simp only [mVals, hm]; rw [pvs_snoc hvs hxv]; simp
theorem sound_mup {str : Bool} {k : Nat} {q y z : Opd} (hs : Sim P g h w) (hf : FrameOk P g w act.tmps fr) (hd : act.defers = []) (hN : act.tmps.size = N) (hdst : ∀ d, o.dst = some d → d < N) (hc : chkEff P o.op o.dst (.mup str k q y z) = true) (hw : wop P o.dst (.mup str k q y z) fr h K) : o.wp P act w (Ok P g w N K) Q := by
 simp only [chkEff, Bool.and_eq_true] at hc
 obtain ⟨hc, hc0⟩ := hc
 have hod : o.dst = none := by simpa using hc0
 split at hc
 ·next t m kx vx hop =>
  simp only [Bool.and_eq_true] at hc
  obtain ⟨⟨⟨hcm, hck⟩, hcv⟩, hty⟩ := hc
  split at hty
  ·next kt et ht =>
   split at hty
   ·next d hud =>
    simp only [wop] at hw
    split at hw
    ·next b0 ks vs b1 a x he hq ha hx =>
     obtain ⟨⟨rfl, hcond⟩, hw⟩ := hw
     simp only [Bool.and_eq_true] at hcond
     obtain ⟨⟨hk, hall⟩, hps⟩ := hcond
     obtain ⟨v, h1, h2, b, rfl, h3, h4, h5, h6, h7⟩ := hf k _ he
     obtain rfl : b1 = b := by cases h2; rfl
     obtain ⟨r0, _⟩ := ev_ok hf hcm hq
     generalize hev : act.eval m = u0 at r0
     cases r0
     obtain ⟨r1, _⟩ := ev_ok hf hck ha
     obtain ⟨r2, _⟩ := ev_ok hf hcv hx
     generalize hu : act.eval kx = u at r1
     generalize hu' : act.eval vx = u' at r2
     have hkv : ∃ kv, pv a = some kv := by cases a <;> simp [isKey] at hk <;> exact ⟨_, rfl⟩
     obtain ⟨kv, hkv⟩ := hkv
     obtain rfl := pv_eq hkv r1
     obtain ⟨xv, hxv⟩ := Option.isSome_iff_exists.1 hps
     obtain rfl := pv_eq hxv r2
     obtain ⟨ob, q1, q2⟩ := run_mapUpdate (w := w) ht hud hty hk hkv hxv h3 hall
     obtain ⟨s1, s2, heq, hne⟩ := hs.change ob h4 h5 h6 h7
     have hrun : (execOp act.eval o).run P w = .ok .skip { w with heap := w.heap.setIfInBounds b1 ob } := by
      simp only [execOp, hop, hev, hu, hu', Sem.run_bind, q1]; simp
     unfold Oper.wp
     rw [hrun]
     show Ok P g w N K (act.put o.dst undef) _
     rw [hod]
     refine ⟨g, (k, .omp b1 (mKeys a ks) (mVals a x ks vs)) :: fr, h, hw, s2, s1, ?_, hd, hN⟩
     intro j a' hj
     rw [lk_cons] at hj
     split at hj
     ·next e =>
      subst e
      simp only [Option.some.injEq] at hj
      subst hj
      exact ⟨_, h1, .omp b1 _ _, b1, rfl, by rw [heq]; exact q2, h4, h5, h6, h7⟩
     ·next e =>
      obtain ⟨u, u1, u2, u3⟩ := hf j a' hj
      exact ⟨u, u1, u2, u3.keep fun b' o1 o3 o4 => ⟨hne b' (fun e' => by subst e'; rw [h4] at o1; simp only [Option.some.injEq, Loc.slot.injEq] at o1; exact e o1), o1, fun _ => rfl, o3, o4⟩⟩
    ·exact hw.elim
   ·cases hty
  ·cases hty
 ·cases hc
theorem sound_mmv {k : Nat} (hs : Sim P g h w) (hf : FrameOk P g w act.tmps fr) (hd : act.defers = []) (hN : act.tmps.size = N) (hdst : ∀ d, o.dst = some d → d < N) (hc : chkEff P o.op o.dst (.mmv k) = true) (hw : wop P o.dst (.mmv k) fr h K) : o.wp P act w (Ok P g w N K) Q := by
 simp only [chkEff, Bool.and_eq_true] at hc
 obtain ⟨hc1, hc2⟩ := hc
 simp only [wop] at hw
 split at hw
 ·next b0 ks vs he =>
  have hx : (execOp act.eval o).run P w = .ok (.value (act.eval (.tmp k))) w := by
   split at hc1
   ·next j hop => obtain rfl := eq_of_beq hc1; simp [execOp, hop]
   ·next j hop => obtain rfl := eq_of_beq hc1; simp [execOp, hop]
   ·cases hc1
  obtain ⟨v, h1, h2, b, rfl, h3, h4, h5, h6, h7⟩ := hf k _ he
  obtain rfl : b0 = b := by cases h2; rfl
  have hv : act.eval (.tmp k) = .map (some b0) := by simp only [Act.eval, Array.getD_eq_getD_getElem?, h1, Option.getD_some]
  rw [hv] at hx
  obtain ⟨d, hod⟩ := Option.isSome_iff_exists.1 hc2
  have q1 : ∀ b, some b0 = some b → g.own b = some (.slot k) ∧ ¬ g.F b ∧ ∀ id, g.io id ≠ some b := fun b e => by
   simp only [Option.some.injEq] at e; subst e; exact ⟨h4, h6, h7⟩
  obtain ⟨r1, r2⟩ := hs.give (x := .slot d) q1
  refine wp_value hx (ok_put hN hd hdst r2 r1 (hf.give (.slot d) q1) (.omp b0 ks vs) (fun k' hk' => ?_) hw)
  rw [hod] at hk'
  simp only [Option.some.injEq] at hk'
  subst hk'
  exact ⟨b0, rfl, h3, by simp [Gh.give], h5, h6, h7⟩
 ·exact hw.elim
theorem sound_mra {k : Nat} (hs : Sim P g h w) (hf : FrameOk P g w act.tmps fr) (hd : act.defers = []) (hN : act.tmps.size = N) (hdst : ∀ d, o.dst = some d → d < N) (hc : chkEff P o.op o.dst (.mra k) = true) (hw : wop P o.dst (.mra k) fr h K) : o.wp P act w (Ok P g w N K) Q := by
 simp only [chkEff, Bool.and_eq_true] at hc
 obtain ⟨hc1, hc2⟩ := hc
 simp only [wop] at hw
 split at hw
 ·next b0 ks vs he =>
  have hx : (execOp act.eval o).run P w = .ok (.value (act.eval (.tmp k))) w := by
   split at hc1
   ·next j hop => obtain rfl := eq_of_beq hc1; simp [execOp, hop]
   ·next j hop => obtain rfl := eq_of_beq hc1; simp [execOp, hop]
   ·cases hc1
  obtain ⟨v, h1, h2, b, rfl, h3, h4, h5, h6, h7⟩ := hf k _ he
  obtain rfl : b0 = b := by cases h2; rfl
  have hv : act.eval (.tmp k) = .map (some b0) := by simp only [Act.eval, Array.getD_eq_getD_getElem?, h1, Option.getD_some]
  rw [hv] at hx
  exact wp_value hx (ok_put hN hd hdst (.refl g w) hs hf (.mp b0) (fun _ _ => trivial) hw)
 ·exact hw.elim
theorem exec_copy {x x' : Operand} {t t' : TypeId} {c : Call} (hop : o.op = .call c) (h1 : c.callee = .builtin .copy) (h2 : c.args.toList = [x, x']) (h3 : c.argTypes.toList = [t, t']) {v : Value} {w' : World} (hr : (Builtin.copy_ #[t, t'] o.type #[act.eval x, act.eval x']).run P w = .ok v w') : (execOp act.eval o).run P w = .ok (.value v) w' := by
 simp [execOp, hop, resolve, invoke, builtin, h1, of_toList2 h2, of_toList2 h3, hr]
theorem sound_cpy {sz : Nat} {y z : Opd} (hs : Sim P g h w) (hf : FrameOk P g w act.tmps fr) (hd : act.defers = []) (hN : act.tmps.size = N) (hdst : ∀ d, o.dst = some d → d < N) (hc : chkEff P o.op o.dst (.cpy sz y z) = true) (hw : wop P o.dst (.cpy sz y z) fr h K) : o.wp P act w (Ok P g w N K) Q := by
 simp only [chkEff] at hc
 split at hc
 ·next c hop =>
  split at hc
  ·next x x' t t' q1 q2 q3 =>
   simp only [Bool.and_eq_true] at hc
   obtain ⟨⟨hty, hcx⟩, hcx'⟩ := hc
   split at hty
   ·next e ht =>
    obtain ⟨i, hi, rfl⟩ := info_size (eq_of_beq hty)
    simp only [wop] at hw
    split at hw
    ·next id n f m l' ha hb =>
     split at hw
     ·next l hl =>
      obtain ⟨⟨hlen, hfit⟩, hK⟩ := hw
      obtain ⟨h1, _⟩ := ev_ok hf hcx ha
      obtain ⟨h2, _⟩ := ev_ok hf hcx' hb
      generalize hx1 : act.eval x = u1 at h1
      cases h1 with
      | hs _ b _ c1 hb hn =>
       obtain ⟨a', c', us, hv, hrow, hrx, hox, hpl, _, hnil⟩ := row_of hs h2
       obtain ⟨b', arr, e', p1, p2, p3, p4, p5, p6, p7, p8, p9⟩ := hs.obj id false l hl
       obtain rfl : b = b' := by rw [hb] at p1; simpa using p1
       have hal : arr.toList.length = l.length := p3.length
       have hul : us.length = m * i.size := by rw [hrx.length]; exact hlen
       have hmn : min m n * i.size ≤ l.length := Nat.le_trans (Nat.mul_le_mul_right _ (Nat.min_le_right _ _)) hfit
       have htk : (us.take (min m n * i.size)).length = min m n * i.size := by
        rw [List.length_take, hul]; exact Nat.min_eq_left (Nat.mul_le_mul_right _ (Nat.min_le_left _ _))
       have hst := run_storeCells_cells (P := P) b 0 (us.take (min m n * i.size)) 0 w (fun j hj => by
         rw [cell_of_row w b _ arr e' (0, 0) p2]
         simp only [Array.length_toList] at hal
         rw [htk] at hj
         simp; omega) (fun j hj => by simp [World.frozen?, p2]) (fun v hv => hox v (List.mem_of_mem_take hv))
       simp only [Nat.add_zero] at hst
       have hfc : (Builtin.firstCells i.size (min m n) (.slice a' m c')).run P w = .ok (us.take (min m n * i.size)).toArray w := by
        cases a' with
        | none =>
         obtain ⟨_, rfl⟩ := hnil rfl
         simpa using run_firstCells_none (P := P) w i.size (min m n) m c'
        | some ad =>
         refine run_firstCells_some (P := P) w i.size (min m n) ad m c' _ htk (fun j v hj => ?_)
         rcases hrow with hh | ⟨b2, o2, e2, hcell⟩
         ·subst hh; simp at hj
         ·simp only [Option.some.injEq] at e2
          subst e2
          have hj' : us[j]? = some v := by
           rw [List.getElem?_take] at hj
           split at hj
           ·exact hj
           ·cases hj
          have := hcell j v hj'
          rw [add_none]; exact this
       have hrun : (Builtin.copy_ #[t, t'] o.type #[act.eval x, act.eval x']).run P w = .ok (.int .i64 ((min m n : Nat) : Int)) (w.setCells b 0 (us.take (min m n * i.size))) := by
        rw [hx1, hv]
        have hln : (Builtin.lenOf (.slice a' m c')).run P w = .ok m w := by simp [Builtin.lenOf]
        have hmm : Nat.min m n = min m n := rfl
        simp [Builtin.copy_, run_underlying ht, sizeOf, typeInfo, hi, hln, hmm, hfc, hst, goInt]
       obtain ⟨s1, s2⟩ := hs.store hl hb 0 (us.take (min m n * i.size)) (l'.take (min m n * i.size)) (hrx.take _) (fun v hv => hox v (List.mem_of_mem_take hv)) (fun j v' a' _ ha' => Owned.plain (hpl a' (List.mem_of_mem_take (List.mem_of_getElem? ha'))))
       exact wp_value (exec_copy hop q1 q2 q3 hrun) (ok_put hN hd hdst s2 s1 (hf.store hb 0 _) (.int _ _) (fun _ _ => trivial) hK)
     ·exact hw.elim
    ·exact hw.elim
   ·cases hty
  ·cases hc
 ·cases hc
def Gh.mapIce (g : Gh) (b : Nat) (ob : Obj) : Gh := { g with own := fun b' => if b' = b then none else g.own b', X := fun b' => if b' = b then some ob else g.X b' }
theorem Sim.mapIce (hs : Sim P g h w) {b k : Nat} {ob : Obj} (hb : w.heap[b]? = some ob) (h4 : g.own b = some (.slot k)) (h6 : ¬ g.F b) (h7 : ∀ id, g.io id ≠ some b) :
  Sim P (g.mapIce b ob) h w ∧ Ev g w (g.mapIce b ob) w := by
 have hX : ∀ b' o', g.X b' = some o' → (g.mapIce b ob).X b' = some o' := fun b' o' hx => by
  obtain ⟨_, q2, _⟩ := hs.fro b' o' hx
  simp only [Gh.mapIce]
  rw [if_neg (fun e => by subst e; rw [h4] at q2; cases q2)]
  exact hx
 have hle : GLe g (g.mapIce b ob) := ⟨fun _ _ _ h => h, fun _ _ h => h, hX⟩
 have hown : ∀ b', b' ≠ b → (g.mapIce b ob).own b' = g.own b' := fun b' e => by simp only [Gh.mapIce]; rw [if_neg e]
 refine ⟨⟨hs.prot, fun id s l hl => ?_, hs.inj, hs.dom, hs.flt, fun b' x hb' => ?_, hs.hole, fun b' o hx => ?_⟩, ⟨hle, fun _ => .rfl, fun b' hb' => ⟨rfl, fun _ => rfl, hown b' (fun e => by subst e; exact h6 hb'), fun _ h => h⟩, rfl, rfl, rfl, Nat.le_refl _, fun b' hb' => ?_⟩⟩
 ·refine (hs.obj id s l hl).keep hle (fun b' hb' h8 h9 => ⟨rfl, fun _ => rfl, h8, ?_⟩) (fun b' i o1 o3 o4 => ⟨rfl, ?_, fun _ => rfl, o3, o4⟩)
  ·rw [hown b' (fun e => by subst e; rw [h4] at h9; cases h9)]; exact h9
  ·rw [hown b' (fun e => by subst e; rw [h4] at o1; cases o1)]; exact o1
 ·simp only [Gh.mapIce] at hb'
  split at hb'
  ·cases hb'
  ·exact hs.olt b' x hb'
 ·by_cases e : b' = b
  ·subst e
   simp only [Gh.mapIce, if_true] at hx
   simp only [Option.some.injEq] at hx
   subst hx
   exact ⟨hb, by simp [Gh.mapIce], h7⟩
  ·have hx' : g.X b' = some o := by simp only [Gh.mapIce] at hx; rw [if_neg e] at hx; exact hx
   obtain ⟨q1, q2, q3⟩ := hs.fro b' o hx'
   exact ⟨q1, (hown b' e).trans q2, q3⟩
 ·simp only [Gh.mapIce]; rw [if_neg (fun e => by subst e; exact h6 hb')]
theorem sound_mfz {k : Nat} (hs : Sim P g h w) (hf : FrameOk P g w act.tmps fr) (hd : act.defers = []) (hN : act.tmps.size = N) (hdst : ∀ d, o.dst = some d → d < N) (hc : chkEff P o.op o.dst (.mfz k) = true) (hw : wop P o.dst (.mfz k) fr h K) : o.wp P act w (Ok P g w N K) Q := by
 simp only [chkEff, Bool.and_eq_true] at hc
 obtain ⟨hc1, hc2⟩ := hc
 simp only [wop] at hw
 split at hw
 ·next b0 ks vs he =>
  have hx : (execOp act.eval o).run P w = .ok (.value (act.eval (.tmp k))) w := by
   split at hc1
   ·next j hop => obtain rfl := eq_of_beq hc1; simp [execOp, hop]
   ·next j hop => obtain rfl := eq_of_beq hc1; simp [execOp, hop]
   ·cases hc1
  obtain ⟨v, h1, h2, b, rfl, h3, h4, h5, h6, h7⟩ := hf k _ he
  have hv : act.eval (.tmp k) = .map (some b) := by simp only [Act.eval, Array.getD_eq_getD_getElem?, h1, Option.getD_some]
  rw [hv] at hx
  obtain ⟨es, clock, hb, hks, hvs⟩ := h3
  obtain ⟨s1, s2⟩ := hs.mapIce hb h4 h6 h7
  have f1 : FrameOk P (g.mapIce b (.map es clock)) w act.tmps (degr k fr) := by
   intro j a hj
   rw [lk_degr] at hj
   by_cases e : j = k
   ·subst e
    rw [if_pos rfl] at hj
    cases hl : lk fr j with
    | none => rw [hl] at hj; cases hj
    | some a' =>
     rw [hl] at hj
     simp only [Option.map_some, Option.some.injEq] at hj
     subst hj
     obtain ⟨v, h1, h2, h3⟩ := hf j a' hl
     exact ⟨v, h1, (h2.mono s2.le).deg, Owned.plain (plain_deg a')⟩
   ·rw [if_neg e] at hj
    obtain ⟨v, h1, h2, h3⟩ := hf j a hj
    refine ⟨v, h1, h2.mono s2.le, h3.keep fun b' o1 o3 o4 => ⟨rfl, ?_, fun _ => rfl, o3, o4⟩⟩
    simp only [Gh.mapIce]
    rw [if_neg (fun e' => by subst e'; rw [h4] at o1; simp only [Option.some.injEq, Loc.slot.injEq] at o1; exact e o1.symm)]
    exact o1
  refine wp_value hx (ok_put hN hd hdst s2 s1 f1 (.fmp b (.map es clock) ks vs (by simp [Gh.mapIce]) ⟨es, clock, rfl, hks, hvs⟩) (fun k' hk' => trivial) hw)
 ·exact hw.elim

theorem sound_rngs {y : Opd} (hs : Sim P g h w) (hf : FrameOk P g w act.tmps fr) (hd : act.defers = []) (hN : act.tmps.size = N) (hdst : ∀ d, o.dst = some d → d < N) (hc : chkEff P o.op o.dst (.rngs y) = true) (hw : wop P o.dst (.rngs y) fr h K) : o.wp P act w (Ok P g w N K) Q := by
 simp only [chkEff, Bool.and_eq_true] at hc
 obtain ⟨hc0, hc⟩ := hc
 obtain ⟨d, hod⟩ := Option.isSome_iff_exists.1 hc0
 split at hc
 ·next t x hop =>
  simp only [Bool.and_eq_true] at hc
  obtain ⟨hco, hty⟩ := hc
  simp only [wop] at hw
  split at hw
  ·next s he =>
   obtain ⟨h1, _⟩ := ev_ok hf hco he
   split at hty
   ·next hu =>
    have hx : (execOp act.eval o).run P w = .ok (.value (.pointer (some ⟨w.heap.size, 0, none⟩))) (w.alloc (.stringIter s 0)) := by
     generalize hv : act.eval x = v at h1
     cases h1
     have := run_range_string w t s hu
     simp only [World.iter] at this
     simp [execOp, hop, hv, this]
    obtain ⟨s1, s2⟩ := hs.iter s d
    have hown : ∀ b, b < w.heap.size → (g.give (some w.heap.size) (.slot d)).own b = g.own b := fun b hb => by
     simp only [Gh.give]; rw [if_neg (fun e => by simp only [Option.some.injEq] at e; omega)]
    have f1 : FrameOk P (g.give (some w.heap.size) (.slot d)) (w.alloc (.stringIter s 0)) act.tmps fr :=
     hf.keep (gle_give _ _ _) (fun b k o1 o3 o4 => ⟨Below.heap_alloc _ _ _ (hs.olt b _ o1), (hown b (hs.olt b _ o1)).trans o1, fun _ => rfl, o3, o4⟩)
    refine wp_value hx (ok_put hN hd hdst s2 s1 f1 (.itr w.heap.size s 0) (fun k hk => ?_) hw)
    rw [hod] at hk
    simp only [Option.some.injEq] at hk
    subst hk
    exact ⟨w.heap.size, rfl, heap_new w _, by simp [Gh.give], fun o => hs.cnew (Nat.le_refl _) o, fun hF => by have := hs.flt _ hF; omega, fun id hid => by have := (hs.dom _ _ hid).2; omega⟩
   ·cases hty
  ·exact hw.elim
 ·cases hc
theorem sound_nxt {k : Nat} (hs : Sim P g h w) (hf : FrameOk P g w act.tmps fr) (hd : act.defers = []) (hN : act.tmps.size = N) (hdst : ∀ d, o.dst = some d → d < N) (hc : chkEff P o.op o.dst (.nxt k) = true) (hw : wop P o.dst (.nxt k) fr h K) : o.wp P act w (Ok P g w N K) Q := by
 simp only [chkEff] at hc
 split at hc
 ·next k' hop =>
  obtain rfl := eq_of_beq hc
  simp only [wop] at hw
  split at hw
  ·next s pos he =>
   obtain ⟨v, h1, h2, b, rfl, h3, h4, h5, h6, h7⟩ := hf k _ he
   have hev : act.eval (.tmp k) = .pointer (some ⟨b, 0, none⟩) := by simp only [Act.eval, Array.getD_eq_getD_getElem?, h1, Option.getD_some]
   have hb : b < w.heap.size := hs.olt b _ h4
   split at hw
   ·next hlt =>
    have hx : (execOp act.eval o).run P w = .ok (.value (.tuple #[.bool true, .int .i64 pos, .int .i32 (Utf8.decode s pos).1])) { w with heap := w.heap.setIfInBounds b (.stringIter s (pos + (Utf8.decode s pos).2)) } := by
     simp [execOp, hop, hev, Instr.next, getObj, setObj, h3, hlt, goInt, Sem.run, Result.andThen]
    have hne : ∀ b', b' ≠ b → ({ w with heap := w.heap.setIfInBounds b (.stringIter s (pos + (Utf8.decode s pos).2)) } : World).heap[b']? = w.heap[b']? := fun b' e => Array.getElem?_setIfInBounds_ne (fun e' => e e'.symm)
    have heq : ({ w with heap := w.heap.setIfInBounds b (.stringIter s (pos + (Utf8.decode s pos).2)) } : World).heap[b]? = some (.stringIter s (pos + (Utf8.decode s pos).2)) := by
     simp [hb]
    have hsz : ({ w with heap := w.heap.setIfInBounds b (.stringIter s (pos + (Utf8.decode s pos).2)) } : World).heap.size = w.heap.size := by simp
    generalize hw' : ({ w with heap := w.heap.setIfInBounds b (.stringIter s (pos + (Utf8.decode s pos).2)) } : World) = w' at hx hne heq hsz
    have hos : w'.os = w.os ∧ w'.tape = w.tape ∧ w'.output = w.output := by subst hw'; exact ⟨rfl, rfl, rfl⟩
    have s1 : Sim P g h w' := by
     refine ⟨fun b' o' u hc => ?_, fun id s l hl => ?_, hs.inj, fun i b' hi => ?_, fun b' hb' => ?_, fun b' x hb' => ?_, hs.hole, fun b' o hx => by obtain ⟨q1, q2, q3⟩ := hs.fro b' o hx; exact ⟨(hne b' (fun e => by subst e; rw [h4] at q2; cases q2)).trans q1, q2, q3⟩⟩
     ·have hc' := hs.prot b' o' u hc
      have e : b' ≠ b := fun e => by subst e; rw [h5 o'] at hc; cases hc
      exact ⟨by rw [World.cell?_of_block (w := w) (hne b' e)]; exact hc'.1, hc'.2⟩
     ·refine (hs.obj id s l hl).keep (.refl g) (fun b' hb' h8 h9 => ⟨hne b' (fun e => h7 id (by rw [← e]; exact hb')), fun _ => rfl, h8, h9⟩)
       (fun b' i o1 o3 o4 => ⟨hne b' (fun e => by subst e; rw [h4] at o1; cases o1), o1, fun _ => rfl, o3, o4⟩)
     ·have := hs.dom i b' hi; rw [hsz]; exact this
     ·rw [hsz]; exact hs.flt b' hb'
     ·rw [hsz]; exact hs.olt b' x hb'
    have s2 : Ev g w g w' := ⟨.refl g, fun _ => .rfl, fun b' hb' => ⟨hne b' (fun e => by subst e; exact h6 hb'), fun _ => rfl, rfl, fun _ h => h⟩, hos.1, hos.2.1, hos.2.2, by rw [hsz]; exact Nat.le_refl _, fun _ _ => rfl⟩
    have f1 : FrameOk P g w' act.tmps ((k, .itr s (pos + (Utf8.decode s pos).2)) :: fr) := by
     intro j a hj
     rw [lk_cons] at hj
     split at hj
     ·next e =>
      subst e
      simp only [Option.some.injEq] at hj
      subst hj
      exact ⟨_, h1, .itr b _ _, b, rfl, heq, h4, h5, h6, h7⟩
     ·next e =>
      obtain ⟨u, u1, u2, u3⟩ := hf j a hj
      exact ⟨u, u1, u2, u3.keep fun b' o1 o3 o4 => ⟨hne b' (fun e' => by subst e'; rw [h4] at o1; simp only [Option.some.injEq, Loc.slot.injEq] at o1; exact e o1), o1, fun _ => rfl, o3, o4⟩⟩
    exact wp_value hx (ok_put hN hd hdst s2 s1 f1 (.tup [.bool true, .int .i64 pos, .int .i32 (Utf8.decode s pos).1] _ (by intro a ha; simp at ha; rcases ha with rfl | rfl | rfl <;> rfl) (.cons (.bool _) (.cons (.int _ _) (.cons (.int _ _) .nil)))) (fun _ _ => trivial) hw)
   ·next hge =>
    have hx : (execOp act.eval o).run P w = .ok (.value (.tuple #[.bool false])) w := by
     simp [execOp, hop, hev, Instr.next, getObj, h3, hge, Sem.run]
    exact wp_value hx (ok_put hN hd hdst (.refl g w) hs hf (.tup [.bool false] _ (by intro a ha; simp at ha; subst ha; rfl) (.cons (.bool _) .nil)) (fun _ _ => trivial) hw)
  ·exact hw.elim
 ·cases hc
theorem Sim.takeG (hs : Sim P g h w) {id off d : Nat} {l : List AV} {a0 a1 : AV} (hl : h[id]? = some (some (false, l))) (ha : l[off]? = some a0) (hp : plain a1 = true) (hr1 : ∀ v, Rep g v a0 → Rep g v a1) {ob : Option Nat} (ho : ∀ b, ob = some b → g.own b = some (.cell id off) ∧ ¬ g.F b ∧ ∀ i, g.io i ≠ some b) :
  Sim P (g.give ob (.slot d)) (h.set id (some (false, l.set off a1))) w ∧ Ev g w (g.give ob (.slot d)) w := by
 have hle := gle_give g ob (.slot d)
 have hidlt : id < h.length := (List.getElem?_eq_some_iff.1 hl).1
 refine ⟨⟨hs.prot, ?_, hs.inj, fun i b hb => by rw [List.length_set]; exact hs.dom i b hb, hs.flt, ?_, fun i hi => hs.hole i (hole_set hi), fro_give hs (fun b e => (ho b e).1)⟩, ⟨hle, fun _ => .rfl, fun b hb => ⟨rfl, fun _ => rfl, ?_, fun _ h => h⟩, rfl, rfl, rfl, Nat.le_refl _, fun _ _ => rfl⟩⟩
 ·intro id' s l' hl'
  by_cases e1 : id' = id
  ·subst e1
   rw [List.getElem?_set] at hl'
   simp only [if_true, hidlt, Option.some.injEq, Prod.mk.injEq] at hl'
   obtain ⟨rfl, rfl⟩ := hl'
   obtain ⟨b, arr, e', p1, p2, p3, p4, p5, p6, p7, p8, p9⟩ := hs.obj id' false l hl
   obtain ⟨v, hv, hr⟩ := p3.get off _ ha
   refine ⟨b, arr, e', p1, p2, (p3.setR off hv (hr1 v hr)).mono hle, p4, ?_, p6, (fun h => by cases h), p8, ?_⟩
   ·intro i u a hu hb
    rw [List.getElem?_set] at hb
    split at hb
    ·split at hb
     ·simp only [Option.some.injEq] at hb; subst hb; exact Owned.plain hp
     ·cases hb
    ·next hne =>
     refine (p5 i u a hu hb).keep fun b1 o1 o3 o4 => ⟨rfl, ?_, fun _ => rfl, o3, o4⟩
     simp only [Gh.give]
     rw [if_neg (fun e2 => by rw [(ho b1 e2).1] at o1; simp only [Option.some.injEq, Loc.cell.injEq, true_and] at o1; exact hne o1)]
     exact o1
   ·simp only [Gh.give]; rw [if_neg (fun e2 => (ho b e2).2.2 id' p1)]; exact p9
  ·rw [List.getElem?_set_ne (fun e => e1 e.symm)] at hl'
   refine (hs.obj id' s l' hl').keep hle (fun b hb h8 h9 => ⟨rfl, fun _ => rfl, h8, ?_⟩) (fun b i o1 o3 o4 => ⟨rfl, ?_, fun _ => rfl, o3, o4⟩)
   ·simp only [Gh.give]; rw [if_neg (fun e2 => (ho b e2).2.2 id' hb)]; exact h9
   ·simp only [Gh.give]; rw [if_neg (fun e2 => by rw [(ho b e2).1] at o1; simp only [Option.some.injEq, Loc.cell.injEq] at o1; exact e1 o1.1.symm)]; exact o1
 ·intro b y hb
  simp only [Gh.give] at hb
  split at hb
  ·next e2 => exact hs.olt b _ (ho b e2).1
  ·exact hs.olt b y hb
 ·simp only [Gh.give]; rw [if_neg (fun e2 => (ho b e2).2.1 hb)]
theorem stk_give {x y : Loc} {v : Value} {e : TypeId} {u : Option Value} {l : List Int} (ho : Owned P g w y v (.stk e u l)) :
  ∃ ob, (∀ b, ob = some b → g.own b = some y ∧ ¬ g.F b ∧ ∀ id, g.io id ≠ some b) ∧ Owned P (g.give ob x) w x v (.stk e u l) := by
 obtain ⟨h1, ⟨h3, h4⟩ | h3⟩ := ho
 ·refine ⟨v.ownBlock, fun b hb => ⟨(h4 b hb).1, (h4 b hb).2.2⟩, h1, .inl ⟨h3, fun b hb => ⟨?_, (h4 b hb).2⟩⟩⟩
  simp only [Gh.give]; rw [if_pos hb]
 ·exact ⟨none, fun b hb => (by cases hb), h1, .inr h3⟩
theorem stk_slice {v : Value} {e : TypeId} {u : Option Value} {l : List Int} (h : Rep g v (.stk e u l)) : ∃ a c, v = .slice a l.length c ∧ (c = 0 ∨ ∃ b, a = some ⟨b, 0, none⟩) ∧ l.length ≤ c ∧ ∀ x, u = some x → x = .slice a l.length c := by
 cases h with
 | stk a c e o l h1 h2 h3 => exact ⟨a, c, rfl, h1, h2, h3⟩
theorem stk_cell {x : Loc} {v : Value} {e : TypeId} {u : Option Value} {l : List Int} {b n c i : Nat} (ho : Owned P g w x v (.stk e u l)) (hv : v = .slice (some ⟨b, 0, none⟩) n c) (hi : i < l.length) : w.cell? ⟨b, i, none⟩ = some (.int .i64 (l.getD i 0)) := by
 obtain ⟨_, ⟨h3, _⟩ | ⟨_, h3⟩⟩ := ho
 ·have := h3.cells (g := b) (by rw [hv]; rfl) i (.int .i64 (l.getD i 0)) (by simp [List.getD_eq_getElem?_getD, hi])
  rw [add_none, Nat.zero_add] at this
  exact this
 ·subst h3; simp at hi
theorem run_load1 {t : TypeId} {x : Operand} {b off : Nat} {u : Value} (hop : o.op = .load t x) (hx : act.eval x = .pointer (some ⟨b, off, none⟩)) (ht : oneT P t = true) (hcv : w.cell? ⟨b, off, none⟩ = some u) : (execOp act.eval o).run P w = .ok (.value u) w := by
 unfold oneT at ht
 split at ht
 ·next dd hdd =>
  have hagg : (isAgg t).run P w = .ok false w := by
   simp only [isAgg, Sem.run_bind, run_underlying hdd, Result.andThen_ok]
   cases dd <;> first | rfl | (simp [isAggT] at ht)
  simp [execOp, hop, hx, Instr.loadAt, Instr.sureAddr, loadVar, hagg, hcv]
 ·cases ht
theorem run_cut {t : TypeId} {x m : Operand} {a : Option Addr} {n c : Nat} {k : IntKind} {j : Int} (hop : o.op = .slice t x none (some m) none) (hx : act.eval x = .slice a n c) (hm : act.eval m = .int k j) (ht : intSlice P t = true) (h0 : 0 ≤ j) (h1 : j ≤ n) (hn : n ≤ c) (ha : c = 0 ∨ ∃ b, a = some ⟨b, 0, none⟩) :
  (execOp act.eval o).run P w = .ok (.value (.slice a j.toNat c)) w := by
 unfold intSlice at ht
 split at ht
 ·next e hu =>
  have hr := slice_in (w := w) t e a n c none (some (.int k j)) none 0 j c 1 hu (eq_of_beq ht) (.inl ⟨rfl, rfl⟩) (.inr ⟨k, rfl⟩) (.inl ⟨rfl, rfl⟩) (Int.le_refl 0) h0 (by omega) (Int.le_refl _)
  have e1 : (if ((c : Int)).toNat = (0 : Int).toNat then a else a.map (·.add ((0 : Int).toNat * 1))) = a := by
   rcases ha with rfl | ⟨b, rfl⟩
   ·simp
   ·split
    ·rfl
    ·simp [add_none]
  rw [e1] at hr
  simp only [Int.toNat_zero, Nat.sub_zero, Int.toNat_natCast] at hr
  simp [execOp, hop, hx, hm, hr]
 ·cases ht
theorem stk_cut {x : Loc} {a : Option Addr} {n c : Nat} {e : TypeId} {u u' : Option Value} {l : List Int} {m : Nat} (ho : Owned P g w x (.slice a n c) (.stk e u l)) (hn : n = l.length) (hm : m ≤ l.length) : Owned P g w x (.slice a m c) (.stk e u' (l.take m)) := by
 subst hn
 obtain ⟨h1, ⟨h3, h4⟩ | ⟨⟨a', h3⟩, h5⟩⟩ := ho
 ·refine ⟨h1, .inl ⟨⟨by simp, ?_⟩, fun b hb => h4 b (by cases a with | none => simp [Value.ownBlock] at hb | some y => simpa [Value.ownBlock] using hb)⟩⟩
  rcases h3.2 with ⟨e1, e2⟩ | ⟨g1, cap, cur, e1, hb, hg, hnc, hcm, hcs, ht⟩
  ·simp only [Value.slice.injEq] at e1
   obtain ⟨rfl, _, rfl⟩ := e1
   have : m = 0 := by omega
   subst this
   exact .inl ⟨rfl, by simp⟩
  ·simp only [Value.slice.injEq, true_and] at e1
   obtain ⟨rfl, rfl⟩ := e1
   refine .inr ⟨g1, c, cur, by rw [List.length_take, Nat.min_eq_left hm], hb, hg, by rw [List.length_take]; omega, hcm, hcs, ?_⟩
   rw [List.map_take, ← ht, List.take_take, List.length_take]
   congr 1
   omega
 ·subst h5
  simp only [Value.slice.injEq] at h3
  obtain ⟨rfl, _, rfl⟩ := h3
  have : m = 0 := by simpa using hm
  subst this
  exact ⟨h1, .inr ⟨⟨a, rfl⟩, by simp⟩⟩
theorem kset_ok {id : Nat} {vs : List Value} : ∀ {ks : List (Nat × Nat)} {l : List AV} {K : List AV → Prop}, (ks.all fun u => (P.info? u.2).map (·.size) == some 1) = true → RepL g vs l → (∀ (i : Nat) v a, vs[i]? = some v → l[i]? = some a → Owned P g w (.cell id i) v a) → ksetK ks l K →
  ∃ l', RepL g vs l' ∧ (∀ (i : Nat) v a, vs[i]? = some v → l'[i]? = some a → Owned P g w (.cell id i) v a) ∧ K l'
 | [], l, K, _, h1, h2, h3 => ⟨l, h1, h2, h3⟩
 | (i, e) :: r, l, K, hu, h1, h2, h3 => by
  simp only [List.all_cons, Bool.and_eq_true, beq_iff_eq] at hu
  simp only [ksetK] at h3
  split at h3
  ·next hl =>
   obtain ⟨v, hv, hr⟩ := h1.get i _ hl
   obtain ⟨_, a, r2⟩ := rep_up (e := e) hr
   have hst : Rep g v (.stk e none []) := by rw [r2]; exact .stk a 0 e none [] (.inl rfl) (Nat.le_refl _) (fun v h => by cases h)
   refine kset_ok (ks := r) hu.2 (h1.setR i hv hst) (fun j u b hu' hb => ?_) h3
   rw [List.getElem?_set] at hb
   split at hb
   ·next hij =>
    subst hij
    split at hb
    ·simp only [Option.some.injEq] at hb
     subst hb
     rw [hv] at hu'
     simp only [Option.some.injEq] at hu'
     subst hu'
     exact ⟨hu.1, .inr ⟨⟨a, r2⟩, rfl⟩⟩
    ·cases hb
   ·exact h2 j u b hu' hb
  ·exact h3.elim
theorem sound_kmk {e : Nat} {y : Opd} (hs : Sim P g h w) (hf : FrameOk P g w act.tmps fr) (hd : act.defers = []) (hN : act.tmps.size = N) (hdst : ∀ d, o.dst = some d → d < N) (hc : kchk P o.op o.dst (.mk e y) = true) (hw : kF (.mk e y) fr h (fun a h' => K (put o.dst a (ktk (.mk e y) fr)) h')) : o.wp P act w (Ok P g w N K) Q := by
 simp only [kchk, Bool.and_eq_true, beq_iff_eq] at hc
 obtain ⟨⟨hc1, hc2⟩, _⟩ := hc
 simp only [kF, ktk] at hw
 split at hw
 ·next he =>
  obtain ⟨x, hx, hco⟩ : ∃ x, (execOp act.eval o).run P w = .ok (.value (act.eval x)) w ∧ chkOpd x y = true := by
   split at hc1
   ·next x hop => exact ⟨x, by simp [execOp, hop], hc1⟩
   ·next x hop => exact ⟨x, by simp [execOp, hop], hc1⟩
   ·cases hc1
  obtain ⟨h1, _⟩ := ev_ok hf hco he
  obtain ⟨_, a, hv⟩ := rep_up (e := e) h1
  refine wp_value hx (ok_put (a := .stk e none []) hN hd hdst (.refl g w) hs hf (by rw [hv]; exact .stk a 0 e none [] (.inl rfl) (Nat.le_refl _) (fun v h => by cases h)) (fun _ _ => ⟨hc2, .inr ⟨⟨a, hv⟩, rfl⟩⟩) hw)
 ·exact hw.elim
theorem sound_kmv {k : Nat} (hs : Sim P g h w) (hf : FrameOk P g w act.tmps fr) (hd : act.defers = []) (hN : act.tmps.size = N) (hdst : ∀ d, o.dst = some d → d < N) (hc : kchk P o.op o.dst (.mv k) = true) (hw : kF (.mv k) fr h (fun a h' => K (put o.dst a (ktk (.mv k) fr)) h')) : o.wp P act w (Ok P g w N K) Q := by
 simp only [kchk, Bool.and_eq_true] at hc
 obtain ⟨hc1, hc2⟩ := hc
 simp only [kF, ktk] at hw
 split at hw
 ·next e u l he =>
  have hx : (execOp act.eval o).run P w = .ok (.value (act.eval (.tmp k))) w := by
   split at hc1
   ·next j hop => obtain rfl := eq_of_beq hc1; simp [execOp, hop]
   ·next j hop => obtain rfl := eq_of_beq hc1; simp [execOp, hop]
   ·cases hc1
  obtain ⟨v, h1, h2, h3⟩ := hf k _ he
  have hv : act.eval (.tmp k) = v := by simp only [Act.eval, Array.getD_eq_getD_getElem?, h1, Option.getD_some]
  rw [hv] at hx
  obtain ⟨d, hod⟩ := Option.isSome_iff_exists.1 hc2
  obtain ⟨ob, q1, q2⟩ := stk_give (x := .slot d) h3
  obtain ⟨r1, r2⟩ := hs.give (x := .slot d) q1
  refine wp_value hx (ok_put hN hd hdst r2 r1 (hf.give (.slot d) q1) (h2.mono (gle_give _ _ _)) (fun k' hk' => ?_) hw)
  rw [hod] at hk'
  simp only [Option.some.injEq] at hk'
  subst hk'
  exact q2
 ·exact hw.elim
theorem sound_kld {y : Opd} (hs : Sim P g h w) (hf : FrameOk P g w act.tmps fr) (hd : act.defers = []) (hN : act.tmps.size = N) (hdst : ∀ d, o.dst = some d → d < N) (hc : kchk P o.op o.dst (.ld y) = true) (hw : kF (.ld y) fr h (fun a h' => K (put o.dst a (ktk (.ld y) fr)) h')) : o.wp P act w (Ok P g w N K) Q := by
 simp only [kchk, Bool.and_eq_true] at hc
 obtain ⟨hc1, hds⟩ := hc
 obtain ⟨d, hod⟩ := Option.isSome_iff_exists.1 hds
 split at hc1
 ·next t x hop =>
  simp only [Bool.and_eq_true] at hc1
  obtain ⟨hco, hty⟩ := hc1
  simp only [kF, ktk] at hw
  split at hw
  ·next id off ha =>
   split at hw
   ·next l hl =>
    split at hw
    ·next e u c hcell =>
     obtain ⟨h1, _⟩ := ev_ok hf hco ha
     generalize hx1 : act.eval x = u1 at h1
     cases h1 with
     | ptr _ _ b hb =>
      obtain ⟨b', arr, e', p1, p2, p3, p4, p5, p6, p7, p8, p9⟩ := hs.obj id false l hl
      obtain rfl : b = b' := by rw [hb] at p1; simpa using p1
      obtain ⟨v, hv, hr⟩ := p3.get off _ hcell
      have hown := p5 off v _ hv hcell
      have hcv : w.cell? ⟨b, off, none⟩ = some v := by rw [cell_of_row w b off arr e' (0, 0) p2]; simpa using hv
      have hrun := run_load1 hop hx1 hty hcv
      obtain ⟨ob, g1, g2⟩ := stk_give (x := .slot d) hown
      obtain ⟨s1, s2⟩ := hs.takeG (d := d) hl hcell (a1 := .opq) rfl (fun v hr => by
       obtain ⟨a, c, rfl, _⟩ := stk_slice hr
       exact .opq _ rfl (fun h => by cases h)) g1
      have hf' : FrameOk P (g.give ob (.slot d)) w act.tmps fr := hf.keep (gle_give _ _ _) (fun b1 k o1 o3 o4 => ⟨rfl, by
       simp only [Gh.give]; rw [if_neg (fun e2 => by rw [(g1 b1 e2).1] at o1; cases o1)]; exact o1, fun _ => rfl, o3, o4⟩)
      refine wp_value hrun (ok_put hN hd hdst s2 s1 hf' (hr.mono (gle_give _ _ _)) (fun k hk => ?_) hw)
      rw [hod] at hk
      simp only [Option.some.injEq] at hk
      subst hk
      exact g2
    ·exact hw.elim
   ·exact hw.elim
  ·exact hw.elim
 ·cases hc1
theorem sound_kst {a : Opd} {k : Nat} (hs : Sim P g h w) (hf : FrameOk P g w act.tmps fr) (hd : act.defers = []) (hN : act.tmps.size = N) (hc : kchk P o.op o.dst (.st a k) = true) (hw : kF (.st a k) fr h (fun b h' => K (put o.dst b (ktk (.st a k) fr)) h')) : o.wp P act w (Ok P g w N K) Q := by
 simp only [kchk, Bool.and_eq_true] at hc
 obtain ⟨hc1, hds⟩ := hc
 have hod : o.dst = none := by simpa using hds
 split at hc1
 ·next t x j hop =>
  simp only [Bool.and_eq_true, beq_iff_eq] at hc1
  obtain ⟨⟨hca, rfl⟩, hsz⟩ := hc1
  obtain ⟨i, hi, hisz⟩ := info_size hsz
  simp only [kF, ktk] at hw
  split at hw
  ·next id off e u c ha hk =>
   split at hw
   ·next l hl =>
    obtain ⟨hfit, hK⟩ := hw
    rw [hod] at hK
    obtain ⟨h1, _⟩ := ev_ok hf hca ha
    generalize hx1 : act.eval x = u1 at h1
    cases h1 with
    | ptr _ _ b hb =>
     obtain ⟨v, v1, v2, v3⟩ := hf j _ hk
     have hv : act.eval (.tmp j) = v := by simp only [Act.eval, Array.getD_eq_getD_getElem?, v1, Option.getD_some]
     obtain ⟨ob, g1, g2⟩ := stk_give (x := .cell id off) v3
     obtain ⟨s1, s2⟩ := hs.give (x := .cell id off) g1
     obtain ⟨sa, sc, hvs, _⟩ := stk_slice v2
     have hone : v.oneCell' = true := by rw [hvs]; rfl
     have hcl : v.cells = #[v] := by rw [hvs]; rfl
     obtain ⟨b', arr, e', p1, p2, p3, p4, p5, p6, p7, p8, p9⟩ := hs.obj id false l hl
     obtain rfl : b = b' := by rw [hb] at p1; simpa using p1
     have hal : arr.toList.length = l.length := p3.length
     have hst := run_storeCells_cells (P := P) b off [v] 0 w (fun j hj => by
       rw [cell_of_row w b _ arr e' (0, 0) p2]
       simp only [Array.length_toList] at hal
       simp at hj
       simp; omega) (fun j hj => by simp [World.frozen?, p2]) (by simpa using hone)
     simp only [Nat.add_zero] at hst
     have hrun : (execOp act.eval o).run P w = .ok .skip (w.setCells b off [v]) := by
      simp [execOp, hop, hx1, hv, Instr.storeAt, Instr.sureAddr, storeVar, sizeOf, typeInfo, hi, hcl, hisz, hst]
     obtain ⟨t1, t2⟩ := s1.store hl hb off [v] [.stk e u c] (.cons (v2.mono (gle_give _ _ _)) .nil) (by simpa using hone) (fun q v' a' hv' ha' => by
      cases q with
      | zero => simp at hv' ha'; subst hv'; subst ha'; exact g2
      | succ q => simp at hv')
     unfold Oper.wp
     rw [hrun]
     show Ok P g w N K (act.put o.dst undef) _
     rw [hod]
     exact ⟨_, _, _, hK, s2.trans t2, t1, (hf.give (.cell id off) g1).store hb off [v], hd, hN⟩
   ·exact hw.elim
  ·exact hw.elim
 ·cases hc1
theorem sound_kcut {k : Nat} {y : Opd} (hs : Sim P g h w) (hf : FrameOk P g w act.tmps fr) (hd : act.defers = []) (hN : act.tmps.size = N) (hdst : ∀ d, o.dst = some d → d < N) (hc : kchk P o.op o.dst (.cut k y) = true) (hw : kF (.cut k y) fr h (fun a h' => K (put o.dst a (ktk (.cut k y) fr)) h')) : o.wp P act w (Ok P g w N K) Q := by
 simp only [kchk, Bool.and_eq_true] at hc
 obtain ⟨hc1, hds⟩ := hc
 obtain ⟨d, hod⟩ := Option.isSome_iff_exists.1 hds
 split at hc1
 ·next t q m hop =>
  simp only [Bool.and_eq_true, beq_iff_eq] at hc1
  obtain ⟨⟨rfl, hcm⟩, hty⟩ := hc1
  simp only [kF, ktk] at hw
  split at hw
  ·next e u l kk j he hj =>
   obtain ⟨⟨j0, j1⟩, hK⟩ := hw
   obtain ⟨v, v1, v2, v3⟩ := hf q _ he
   have hv : act.eval (.tmp q) = v := by simp only [Act.eval, Array.getD_eq_getD_getElem?, v1, Option.getD_some]
   obtain ⟨h2, _⟩ := ev_ok hf hcm hj
   generalize hm : act.eval m = um at h2
   cases h2
   obtain ⟨a, c, rfl, hac, hlc, _⟩ := stk_slice v2
   have hrun := run_cut (w := w) hop hv hm hty j0 j1 hlc hac
   have hlt : (l.take j.toNat).length = j.toNat := by rw [List.length_take]; omega
   have v4 : Owned P g w (.slot q) (.slice a j.toNat c) (.stk e none (l.take j.toNat)) := stk_cut v3 rfl (by omega)
   obtain ⟨ob, q1, q2⟩ := stk_give (x := .slot d) v4
   obtain ⟨r1, r2⟩ := hs.give (x := .slot d) q1
   have hrep : Rep (g.give ob (.slot d)) (.slice a j.toNat c) (.stk e none (l.take j.toNat)) := by
    have := Rep.stk (g := g.give ob (.slot d)) a c e none (l.take j.toNat) hac (by omega) (fun v h => by cases h)
    rwa [hlt] at this
   refine wp_value hrun (ok_put hN hd hdst r2 r1 (hf.give (.slot d) q1) hrep (fun k' hk' => ?_) hK)
   rw [hod] at hk'
   simp only [Option.some.injEq] at hk'
   subst hk'
   exact q2
  ·exact hw.elim
 ·cases hc1
theorem sound_kpop {a y : Opd} (hs : Sim P g h w) (hf : FrameOk P g w act.tmps fr) (hd : act.defers = []) (hN : act.tmps.size = N) (hc : kchk P o.op o.dst (.pop a y) = true) (hw : kF (.pop a y) fr h (fun b h' => K (put o.dst b (ktk (.pop a y) fr)) h')) : o.wp P act w (Ok P g w N K) Q := by
 simp only [kchk, Bool.and_eq_true] at hc
 obtain ⟨hc1, hds⟩ := hc
 have hod : o.dst = none := by simpa using hds
 split at hc1
 ·next t x v hop =>
  simp only [Bool.and_eq_true, beq_iff_eq] at hc1
  obtain ⟨⟨hca, hcv⟩, hsz⟩ := hc1
  obtain ⟨i, hi, hisz⟩ := info_size hsz
  simp only [kF, ktk] at hw
  split at hw
  ·next id off vr n ha hy =>
   split at hw
   ·next l hl =>
    split at hw
    ·next e u c hcell =>
     obtain ⟨⟨hn, hvr⟩, hK⟩ := hw
     rw [hod] at hK
     obtain ⟨h1, _⟩ := ev_ok hf hca ha
     obtain ⟨h2, _⟩ := ev_ok hf hcv hy
     generalize hx1 : act.eval x = u1 at h1
     generalize hx2 : act.eval v = u2 at h2
     cases h1 with
     | ptr _ _ b hb =>
      cases h2 with
      | raw ra _ rc r1 r2 =>
       obtain ⟨b', arr, e', p1, p2, p3, p4, p5, p6, p7, p8, p9⟩ := hs.obj id false l hl
       obtain rfl : b = b' := by rw [hb] at p1; simpa using p1
       obtain ⟨v0, hv0, hr0⟩ := p3.get off _ hcell
       have hown := p5 off v0 _ hv0 hcell
       obtain ⟨sa, sc, rfl, hac, hlc, hu⟩ := stk_slice hr0
       have hu := hu u rfl
       subst hu
       simp only [cutV, Value.slice.injEq] at hvr
       obtain ⟨rfl, _, rfl⟩ := hvr
       have hal : arr.toList.length = l.length := p3.length
       have hoff : off < l.length := (List.getElem?_eq_some_iff.1 hcell).1
       have hst := run_storeCells_cells (P := P) b off [.slice ra n rc] 0 w (fun j hj => by
         rw [cell_of_row w b _ arr e' (0, 0) p2]
         simp only [Array.length_toList] at hal
         simp at hj
         simp; omega) (fun j hj => by simp [World.frozen?, p2]) (by simp [Value.oneCell'])
       simp only [Nat.add_zero] at hst
       have hrun : (execOp act.eval o).run P w = .ok .skip (w.setCells b off [.slice ra n rc]) := by
        simp [execOp, hop, hx1, hx2, Instr.storeAt, Instr.sureAddr, storeVar, sizeOf, typeInfo, hi, Value.cells, hisz, hst]
       have hlt : (c.take n).length = n := by rw [List.length_take]; omega
       have hrep : Rep g (.slice ra n rc) (.stk e (some (.slice ra n rc)) (c.take n)) := by
        have := Rep.stk (g := g) ra rc e (some (.slice ra n rc)) (c.take n) hac (by omega) (fun v h => by rw [hlt]; injection h with h; exact h.symm)
        rwa [hlt] at this
       obtain ⟨t1, t2⟩ := hs.store hl hb off [.slice ra n rc] [.stk e (some (.slice ra n rc)) (c.take n)] (.cons hrep .nil) (by simp [Value.oneCell']) (fun q v' a' hv' ha' => by
        cases q with
        | zero => simp at hv' ha'; subst hv'; subst ha'; exact stk_cut hown rfl hn
        | succ q => simp at hv')
       unfold Oper.wp
       rw [hrun]
       show Ok P g w N K (act.put o.dst undef) _
       rw [hod]
       exact ⟨_, _, _, hK, t2, t1, hf.store hb off _, hd, hN⟩
    ·exact hw.elim
   ·exact hw.elim
  ·exact hw.elim
 ·cases hc1
theorem sound_kpk {k : Nat} {y : Opd} (hs : Sim P g h w) (hf : FrameOk P g w act.tmps fr) (hd : act.defers = []) (hN : act.tmps.size = N) (hdst : ∀ d, o.dst = some d → d < N) (hc : kchk P o.op o.dst (.pk k y) = true) (hw : kF (.pk k y) fr h (fun a h' => K (put o.dst a (ktk (.pk k y) fr)) h')) : o.wp P act w (Ok P g w N K) Q := by
 simp only [kchk] at hc
 split at hc
 ·next t x hop =>
  simp only [Bool.and_eq_true] at hc
  obtain ⟨hco, hty⟩ := hc
  simp only [kF, ktk] at hw
  split at hw
  ·next e u l vr i he hy =>
   obtain ⟨⟨rfl, hi⟩, hK⟩ := hw
   obtain ⟨v, v1, v2, v3⟩ := hf k _ he
   obtain ⟨h1, _⟩ := ev_ok hf hco hy
   generalize hx1 : act.eval x = u1 at h1
   obtain ⟨a, c, rfl, hac, hlc, hu⟩ := stk_slice v2
   have hu := hu vr rfl
   cases h1 with
   | rawp b _ n c' =>
    have hcell := stk_cell (i := i) v3 hu.symm hi
    exact wp_value (run_load1 hop hx1 hty hcell) (ok_put hN hd hdst (.refl g w) hs hf (.int _ _) (fun _ _ => Owned.plain rfl) hK)
  ·exact hw.elim
 ·cases hc
theorem sound_kpo {a y : Opd} (hs : Sim P g h w) (hf : FrameOk P g w act.tmps fr) (hd : act.defers = []) (hN : act.tmps.size = N) (hdst : ∀ d, o.dst = some d → d < N) (hc : kchk P o.op o.dst (.po a y) = true) (hw : kF (.po a y) fr h (fun b h' => K (put o.dst b (ktk (.po a y) fr)) h')) : o.wp P act w (Ok P g w N K) Q := by
 simp only [kchk] at hc
 split at hc
 ·next t x hop =>
  simp only [Bool.and_eq_true] at hc
  obtain ⟨hco, hty⟩ := hc
  simp only [kF, ktk] at hw
  split at hw
  ·next id off vr i ha hy =>
   split at hw
   ·next l hl =>
    split at hw
    ·next e u c hcell =>
     obtain ⟨⟨rfl, hi⟩, hK⟩ := hw
     obtain ⟨b', arr, e', p1, p2, p3, p4, p5, p6, p7, p8, p9⟩ := hs.obj id false l hl
     obtain ⟨v0, hv0, hr0⟩ := p3.get off _ hcell
     have hown := p5 off v0 _ hv0 hcell
     obtain ⟨h1, _⟩ := ev_ok hf hco hy
     generalize hx1 : act.eval x = u1 at h1
     obtain ⟨sa, sc, rfl, hac, hlc, hu⟩ := stk_slice hr0
     have hu := hu vr rfl
     cases h1 with
     | rawp b _ n c' =>
      have hcl := stk_cell (i := i) hown hu.symm hi
      exact wp_value (run_load1 hop hx1 hty hcl) (ok_put hN hd hdst (.refl g w) hs hf (.int _ _) (fun _ _ => Owned.plain rfl) hK)
    ·exact hw.elim
   ·exact hw.elim
  ·exact hw.elim
 ·cases hc
theorem sound_klen {y : Opd} (hs : Sim P g h w) (hf : FrameOk P g w act.tmps fr) (hd : act.defers = []) (hN : act.tmps.size = N) (hdst : ∀ d, o.dst = some d → d < N) (hc : kchk P o.op o.dst (.len y) = true) (hw : kF (.len y) fr h (fun a h' => K (put o.dst a (ktk (.len y) fr)) h')) : o.wp P act w (Ok P g w N K) Q := by
 simp only [kchk] at hc
 split at hc
 ·next c hop =>
  split at hc
  ·next x t h1 h2 h3 =>
   simp only [Bool.and_eq_true] at hc
   obtain ⟨hc1, hc2⟩ := hc
   split at hc2
   ·next e ht =>
    simp only [kF, ktk] at hw
    split at hw
    ·next vr n he =>
     obtain ⟨q1, _⟩ := ev_ok hf hc1 he
     generalize hx1 : act.eval x = u1 at q1
     cases q1 with
     | raw a _ c' r1 r2 =>
      have hex : execOp act.eval o = (do pure (.value (← Builtin.len_ #[t] o.type #[act.eval x]))) := by
       simp [execOp, hop, resolve, invoke, builtin, h1, of_toList1 h2, of_toList1 h3]
      obtain ⟨v, b, t1, t2, t3, t4⟩ : OpTells P g w act o (fun b => K (put o.dst b fr) h) := OpTells.of hex ⟨_, _, by rw [hx1]; simp [Builtin.len_, run_underlying ht]; rfl, .int _ _, rfl, hw⟩
      exact wp_value t1 (ok_put hN hd hdst (.refl g w) hs hf t2 (fun _ _ => Owned.plain t3) t4)
    ·exact hw.elim
   ·cases hc2
  ·cases hc
 ·cases hc
theorem sound_ksl {y z : Opd} (hs : Sim P g h w) (hf : FrameOk P g w act.tmps fr) (hd : act.defers = []) (hN : act.tmps.size = N) (hdst : ∀ d, o.dst = some d → d < N) (hc : kchk P o.op o.dst (.sl y z) = true) (hw : kF (.sl y z) fr h (fun a h' => K (put o.dst a (ktk (.sl y z) fr)) h')) : o.wp P act w (Ok P g w N K) Q := by
 simp only [kchk] at hc
 split at hc
 ·next t x m hop =>
  simp only [Bool.and_eq_true] at hc
  obtain ⟨⟨hc1, hc2⟩, hty⟩ := hc
  simp only [kF, ktk] at hw
  split at hw
  ·next vr n kk j he hj =>
   obtain ⟨⟨j0, j1⟩, hK⟩ := hw
   obtain ⟨q1, _⟩ := ev_ok hf hc1 he
   obtain ⟨q2, _⟩ := ev_ok hf hc2 hj
   generalize hx1 : act.eval x = u1 at q1
   generalize hx2 : act.eval m = u2 at q2
   cases q2
   cases q1 with
   | raw a _ c' r1 r2 =>
    have hrun := run_cut (w := w) hop hx1 hx2 hty j0 j1 r2 r1
    exact wp_value hrun (ok_put (a := .raw (.slice a j.toNat c') j.toNat) hN hd hdst (.refl g w) hs hf (.raw a j.toNat c' r1 (by omega)) (fun _ _ => Owned.plain rfl) hK)
  ·exact hw.elim
 ·cases hc
theorem sound_kix {y z : Opd} (hs : Sim P g h w) (hf : FrameOk P g w act.tmps fr) (hd : act.defers = []) (hN : act.tmps.size = N) (hdst : ∀ d, o.dst = some d → d < N) (hc : kchk P o.op o.dst (.ix y z) = true) (hw : kF (.ix y z) fr h (fun a h' => K (put o.dst a (ktk (.ix y z) fr)) h')) : o.wp P act w (Ok P g w N K) Q := by
 simp only [kchk] at hc
 split at hc
 ·next t x m hop =>
  simp only [Bool.and_eq_true] at hc
  obtain ⟨⟨hc1, hc2⟩, hty⟩ := hc
  simp only [kF, ktk] at hw
  split at hw
  ·next vr n kk j he hj =>
   obtain ⟨⟨j0, j1⟩, hK⟩ := hw
   obtain ⟨q1, _⟩ := ev_ok hf hc1 he
   obtain ⟨q2, _⟩ := ev_ok hf hc2 hj
   generalize hx1 : act.eval x = u1 at q1
   generalize hx2 : act.eval m = u2 at q2
   cases q2
   cases q1 with
   | raw a _ c' r1 r2 =>
    rcases r1 with rfl | ⟨b, rfl⟩
    ·exfalso; omega
    unfold intSlice at hty
    split at hty
    ·next e ht =>
     obtain ⟨inf, hinf, hsz⟩ := info_size (eq_of_beq hty)
     have hrun : (execOp act.eval o).run P w = .ok (.value (.pointer (some ⟨b, j.toNat, none⟩))) w := by
      simp [execOp, hop, hx1, hx2, Instr.indexAt, run_underlying ht, asIntOf, j0, j1, sizeOf, typeInfo, hinf, add_none, hsz]
     exact wp_value hrun (ok_put hN hd hdst (.refl g w) hs hf (.rawp b j.toNat n c') (fun _ _ => Owned.plain rfl) hK)
    ·cases hty
  ·exact hw.elim
 ·cases hc
theorem sound_knew {l : List AV} {ups : List (Nat × Nat × Nat)} {ks : List (Nat × Nat)} (hs : Sim P g h w) (hf : FrameOk P g w act.tmps fr) (hd : act.defers = []) (hN : act.tmps.size = N) (hdst : ∀ d, o.dst = some d → d < N) (hc : kchk P o.op o.dst (.new l ups ks) = true) (hw : kF (.new l ups ks) fr h (fun a h' => K (put o.dst a (ktk (.new l ups ks) fr)) h')) : o.wp P act w (Ok P g w N K) Q := by
 simp only [kchk, Bool.and_eq_true] at hc
 obtain ⟨⟨hc1, hc2⟩, hc3⟩ := hc
 simp only [kF, ktk] at hw
 split at hc1
 ·next t hop =>
  split at hc1
  ·next i hi =>
   split at hc1
   ·next z hz =>
    obtain ⟨r1, r2, r3⟩ := chkVs_ok g hc1
    have hx : (execOp act.eval o).run P w = .ok (.value (.pointer (some ⟨w.heap.size, 0, none⟩))) (w.alloc (.cells z.cells.toList.toArray t)) := by
     simp [execOp, hop, Instr.alloc, zeroValue, typeInfo, hi, hz, newVar, newRow]
    obtain ⟨l1, q1, q2, q3⟩ := upg_ok (w := w) (id := h.length) hc2 r1 (fun i v a _ ha => Owned.plain (r2 a (List.mem_of_getElem? ha))) hw
    obtain ⟨l2, s1, s2, s3⟩ := kset_ok hc3 q1 q2 q3
    obtain ⟨t1, t2⟩ := hs.alloc z.cells.toList.toArray t l2 s1 r3 s2
    exact wp_value hx (ok_put hN hd hdst t2 t1 (FrameOk.alloc hs hf _) (.ptr h.length 0 w.heap.size (by simp [Gh.obj])) (fun _ _ => trivial) s3)
   ·cases hc1
  ·cases hc1
 ·cases hc1
theorem sound_kap {e bytes k : Nat} {z : Opd} (hs : Sim P g h w) (hf : FrameOk P g w act.tmps fr) (hd : act.defers = []) (hN : act.tmps.size = N) (hdst : ∀ d, o.dst = some d → d < N) (hc : kchk P o.op o.dst (.ap e bytes k z) = true) (hw : kF (.ap e bytes k z) fr h (fun a h' => K (put o.dst a (ktk (.ap e bytes k z) fr)) h')) : o.wp P act w (Ok P g w N K) Q := by
 simp only [kchk, Bool.and_eq_true] at hc
 obtain ⟨⟨hc1, he⟩, hds⟩ := hc
 obtain ⟨d, hod⟩ := Option.isSome_iff_exists.1 hds
 split at hc1
 ·next c hop =>
  split at hc1
  ·next j x' t t' q1 q2 q3 =>
   simp only [Bool.and_eq_true, beq_iff_eq] at hc1
   obtain ⟨⟨⟨ht, ht'⟩, rfl⟩, hcx'⟩ := hc1
   have ht := isSlice_of ht
   have ht' := isSlice_of ht'
   simp only [kF, ktk] at hw
   split at hw
   ·next e' u l f x ha hb =>
    obtain ⟨⟨rfl, h63, hby⟩, hK⟩ := hw
    obtain ⟨v, v1, v2, v3⟩ := hf j _ ha
    have hv : act.eval (.tmp j) = v := by simp only [Act.eval, Array.getD_eq_getD_getElem?, v1, Option.getD_some]
    obtain ⟨h2, _⟩ := ev_ok hf hcx' hb
    obtain ⟨i, zz, hi, hz, hi1, rfl, hzs, hpos⟩ := elem_of he
    obtain ⟨a, c', news, hx', hrow', hrn, hon, hpl', _, hnil⟩ := row_of hs h2
    have hnews : news = [.int .i64 x] := by
     cases hrn with
     | cons h0 hl => cases hl; cases h0; rfl
    subst hnews
    have key : ∀ {u0 v' : Value} {w' : World}, w.ownsRow 0 e' 1 u0 l.length (l.map (Value.int .i64)) → (∀ b, u0.ownBlock = some b → g.own b = some (.slot j) ∧ (∀ o, g.C b o = none) ∧ ¬ g.F b ∧ ∀ id, g.io id ≠ some b) →
      (execOp act.eval o).run P w = .ok (.value v') w' → w'.ownsRow 0 e' 1 v' (l.length + 1) (l.map (Value.int .i64) ++ [.int .i64 x]) → Grew w w' u0 v' → o.wp P act w (Ok P g w N K) Q := by
     intro u0 v' w' k1 k2 hrun k3 k4
     obtain ⟨s1, s2, s3⟩ := Sim.grew hs k1 k3 k4 (.slot d) k2
     have hfr := hf.grew hs k1 k3 k4 (.slot d) k2
     have e1 : l.map (Value.int .i64) ++ [.int .i64 x] = (l ++ [x]).map (Value.int .i64) := by simp
     have e2 : l.length + 1 = (l ++ [x]).length := by simp
     rw [e1, e2] at k3
     have hrep : Rep (g.give v'.ownBlock (.slot d)) v' (.stk e' none (l ++ [x])) := by
      rcases k3.2 with ⟨z1, z2⟩ | ⟨g1, cap, cur, rfl, _, _, hnc, _⟩
      ·simp at z2
      ·exact .stk _ cap e' none (l ++ [x]) (.inr ⟨g1, rfl⟩) hnc (fun v h => by cases h)
     refine wp_value hrun (ok_put hN hd hdst s2 s1 hfr hrep (fun k' hk' => ?_) hK)
     rw [hod] at hk'
     simp only [Option.some.injEq] at hk'
     subst hk'
     refine ⟨v3.1, .inl ⟨k3, fun b hb => ⟨by simp only [Gh.give]; rw [if_pos hb], (s3 b hb).1, (s3 b hb).2.1, (s3 b hb).2.2.1⟩⟩⟩
    have hane : a ≠ none := fun h0 => by have := (hnil h0).1; omega
    obtain ⟨ad, rfl⟩ : ∃ ad, a = some ad := by cases a with
     | none => exact absurd rfl hane
     | some ad => exact ⟨ad, rfl⟩
    obtain ⟨o1, ⟨o3, o6⟩ | ⟨⟨sa, o3⟩, o4⟩⟩ := v3
    ·obtain ⟨v', w', hr, hown', hgr⟩ := run_app (P := P) w t o.type e' i zz 1 i.bytes ht hi hz hi1 rfl hzs Nat.one_pos v l.length _ o3 (some ad) 1 c' [.int .i64 x] rfl hrow' (fun h => by cases h) hon (by unfold maxLen; omega) hby
     rw [← hv, ← hx'] at hr
     exact key o3 o6 (exec_append' ht ht' hop q1 q2 q3 hr) hown' hgr
    ·subst o4
     obtain ⟨c2, w', hr, hown', hgr⟩ := run_app_clip (P := P) w t o.type e' i zz 1 i.bytes ht hi hz hi1 rfl hzs Nat.one_pos sa 0 [] (by simp) (.inl rfl) (some ad) 1 c' [.int .i64 x] rfl hrow' Nat.one_pos (by unfold maxLen; omega) hby
     rw [← o3, ← hv, ← hx'] at hr
     exact key (World.ownsRow_nil w 0 e' 1) (fun b hb => by cases hb) (exec_append' ht ht' hop q1 q2 q3 hr) hown' hgr
   ·exact hw.elim
  ·cases hc1
 ·cases hc1
theorem sound_k {a : KOp} (hs : Sim P g h w) (hf : FrameOk P g w act.tmps fr) (hd : act.defers = []) (hN : act.tmps.size = N) (hdst : ∀ d, o.dst = some d → d < N) (hc : kchk P o.op o.dst a = true) (hw : kF a fr h (fun b h' => K (put o.dst b (ktk a fr)) h')) : o.wp P act w (Ok P g w N K) Q := by
 cases a with
 | mk e x => exact sound_kmk hs hf hd hN hdst hc hw
 | mv k => exact sound_kmv hs hf hd hN hdst hc hw
 | ld x => exact sound_kld hs hf hd hN hdst hc hw
 | st a k => exact sound_kst hs hf hd hN hc hw
 | ap e b k y => exact sound_kap hs hf hd hN hdst hc hw
 | cut k j => exact sound_kcut hs hf hd hN hdst hc hw
 | pop a x => exact sound_kpop hs hf hd hN hc hw
 | pk k x => exact sound_kpk hs hf hd hN hdst hc hw
 | po a x => exact sound_kpo hs hf hd hN hdst hc hw
 | len x => exact sound_klen hs hf hd hN hdst hc hw
 | sl x j => exact sound_ksl hs hf hd hN hdst hc hw
 | ix x i => exact sound_kix hs hf hd hN hdst hc hw
 | new l u ks => exact sound_knew hs hf hd hN hdst hc hw

theorem call_of {d : Option Nat} {f : Opd} {args : List Opd} (hw : match ev fr f, evs fr args with
  | some (.fn f' caps), some l => ACalls P f' (l ++ caps) h (kcall d fr K)
  | _, _ => False) : wop P d (.call f args) fr h K := by
 simp only [wop]
 split at hw
 ·next h1 h2 => simp only [h1, h2]; exact hw
 ·exact hw.elim
theorem wop_sound {a : AOp} (hs : Sim P g h w) (hf : FrameOk P g w act.tmps fr) (hd : act.defers = []) (hN : act.tmps.size = N) (hdst : ∀ d, o.dst = some d → d < N) (hc : chkEff P o.op o.dst a = true) (hw : wop P o.dst a fr h K) : o.wp P act w (Ok P g w N K) Q := by
 cases a with
 | mvu e s x => exact sound_mvu hs hf hd hN hdst hc hw
 | mvo k => exact sound_mvo hs hf hd hN hdst hc hw
 | new l u => exact sound_new hs hf hd hN hdst hc hw
 | box x u => exact sound_box hs hf hd hN hdst hc hw
 | bsl e s n t p => exact sound_bsl hs hf hd hN hdst hc hw
 | bsh e s n t p => exact sound_bsh hs hf hd hN hdst hc hw
 | bar s t p => exact sound_bar hs hf hd hN hdst hc hw
 | mk0 e s b c => exact sound_mk0 hs hf hd hN hdst hc hw
 | mkn e s b z c => exact sound_mkn hs hf hd hN hdst hc hw
 | loado x => exact sound_loado hs hf hd hN hdst hc hw
 | store n a x => exact sound_store hs hf hd hN hc hw
 | stores n a x => exact sound_stores hs hf hd hN hc hw
 | storeo a k => exact sound_storeo hs hf hd hN hc hw
 | app e s b x y => exact sound_app hs hf hd hN hdst hc hw
 | appo e s b k y => exact sound_appo hs hf hd hN hdst hc hw
 | appso e k y => exact sound_appso hs hf hd hN hdst hc hw
 | call f l => exact sound_call hs hf hd hN hdst hc hw
 | calli f l => exact sound_call hs hf hd hN hdst hc (call_of (by simp only [wop] at hw; exact hw))
 | snil n x => exact sound_snil hs hf hd hN hdst hc hw
 | storeu n u a x => exact sound_storeu hs hf hd hN hc hw
 | rngs x => exact sound_rngs hs hf hd hN hdst hc hw
 | nxt k => exact sound_nxt hs hf hd hN hdst hc hw
 | mmk => exact sound_mmk hs hf hd hN hdst hc hw
 | mup s k m x y => exact sound_mup hs hf hd hN hdst hc hw
 | aph e s b x y => exact sound_aph hs hf hd hN hdst hc hw
 | apc e s b z x y => exact sound_apc hs hf hd hN hdst hc hw
 | mmv k => exact sound_mmv hs hf hd hN hdst hc hw
 | mra k => exact sound_mra hs hf hd hN hdst hc hw
 | cpy s x y => exact sound_cpy hs hf hd hN hdst hc hw
 | mfz k => exact sound_mfz hs hf hd hN hdst hc hw
 | k a => exact sound_k hs hf hd hN hdst hc hw
 | callr f l => exact sound_call hs hf hd hN hdst hc (call_of (by simp only [wop] at hw; exact hw))
 | _ => simp only [chkEff] at hc; simp only [wop] at hw; exact sound_val hs hf hd hN hdst hc hw

end
inductive FB where
  | s (k : Nat)
  | h (k : Nat)
structure AStm where
  dst : Option Nat
  gd : Option (Nat × Bool)
  op : AOp
  ft : Option (FB × List Nat)

def Zm (d s : Nat) : AStm := ⟨some d,none,.mv (.t s),none⟩
def Zo (d : Nat) (x : AOp) : AStm := ⟨some d,none,x,none⟩
theorem Zm_eq (d s : Nat) : Zm d s = ⟨some d,none,.mv (.t s),none⟩ := id rfl
theorem Zo_eq (d : Nat) (x : AOp) : Zo d x = ⟨some d,none,x,none⟩ := id rfl
theorem z {a b : Prop} (x : a) (y : b) : a ∧ b := And.intro x y
inductive ACode where
  | skip
  | ops (l : List AStm)
  | draw (vars : List Nat) (l : List AStm)
  | seq (a b : ACode)
  | cond (c : Opd) (a b : ACode)
  | block (id : Nat) (a : ACode)
  | loop (vars : List Nat) (a : ACode)
  | exit (id : Nat)
  | ret
  | keep (l : List Nat) (a : ACode)
  | holes (m : Nat) (a : ACode)
  | scope (a : ACode)
  | dead
  | nms (k : Nat) (a : ACode)
  | nmo (k off : Nat) (a : ACode)

def restr : List Nat → Fr → Fr
 | [], _ => []
 | k :: r, fr => match lk fr k with
  | some a => (k, a) :: restr r fr
  | none => restr r fr

def free : AV → Bool
 | .ptr _ _ | .hs _ _ | .hsc _ _ _ => false
 | .fp l | .lst _ _ l | .agg l | .tup l | .fn _ l | .fnb _ l => frees l
 | _ => true
where frees : List AV → Bool
  | [] => true
  | a :: l => free a && frees l

def PCalls (P : Program) (f : FuncId) (args : List AV) (v : AV) : Prop :=
 free.frees args = true ∧ free v = true ∧ ACalls P f args [] (fun a h' => a = v ∧ h' = [])

def WOps (P : Program) : List AStm → Fr → Hp → (Fr → Hp → Prop) → Prop
 | [], fr, h, K => K fr h
 | s :: r, fr, h, K => match s.gd with
  | none => wop P s.dst s.op fr h (fun fr h => WOps P r fr h K)
  | some (q, want) => match lk fr q with
   | some (.bool p) => (p = want → wop P s.dst s.op ((q, .bool want) :: fr) h (fun fr h => WOps P r fr h K)) ∧ (p = !want → WOps P r (put s.dst (.tup []) ((q, .bool (!want)) :: fr)) h K)
   | some (.tup []) => WOps P r (put s.dst (.tup []) fr) h K
   | _ => False
def kops (P : Program) (r : List AStm) (K : Fr → Hp → Prop) (fr : Fr) (h : Hp) : Prop := WOps P r fr h K
def tk (o : AOp) (fr : Fr) : Fr :=
 match o with
 | .mvo k | .storeo _ k | .appo _ _ _ k _ | .appso _ k _ | .nxt k | .mup _ k _ _ _ | .mfz k | .mmv k => degr k fr
 | .k o => ktk o fr
 | _ => fr
def kobj (h : Hp) (R : AV → Hp → Prop) (l : List AV) : Prop := R (.ptr h.length 0) (h ++ [some (false, l)])
def krow (e n : Nat) (h : Hp) (R : AV → Hp → Prop) (l : List AV) : Prop := R (.lst (.own e) n l) h
def kv (h : Hp) (R : AV → Hp → Prop) (a : AV) : Prop := R a h
def SealEq (h h' : Hp) : Prop := ∀ (id : Nat) (l : List AV), h[id]? = some (some (true, l)) ↔ h'[id]? = some (some (true, l))
def unf : AV → AV
 | .lst (.own _) n l => .lst .ro n l
 | a => a
def unfO : Option (Bool × List AV) → Option (Bool × List AV)
 | some (s, l) => some (s, l.map unf)
 | none => none
def SameU (h h' : Hp) : Prop := h.map unfO = h'.map unfO
def eff (P : Program) (o : AOp) (fr : Fr) (h : Hp) (R : AV → Hp → Prop) : Prop :=
 match o with
 | .mvu e sz x => match ev fr x with
  | some (.lst .clip n l) => l.length = n * sz ∧ R (.lst (.own e) n l) h
  | _ => False
 | .mvo k => match lk fr k with
  | some (.lst (.own e) n l) => R (.lst (.own e) n l) h
  | _ => False
 | .new l ups => upgK ups l (kobj h R)
 | .box x ups => match ev fr x with
  | some a => isTup a = false ∧ upgK ups (cellsOf a) (kobj h R)
  | none => False
 | .bsl e _ n tmpl parts => buildK fr tmpl parts (krow e n h R)
 | .bsh _ _ _ _ _ | .bar _ _ _ | .mmk | .mup _ _ _ _ _ | .mfz _ | .mmv _ | .mra _ | .aph _ _ _ _ _ | .apc _ _ _ _ _ _ => False
 | .cpy sz x y => match ev fr x, ev fr y with
  | some (.hs id n), some (.lst _ m l') => (match h[id]? with
   | some (some (false, l)) => (l'.length = m * sz ∧ n * sz ≤ l.length) ∧ R (.int .i64 (min m n : Nat)) (h.set id (some (false, splice l 0 (l'.take (min m n * sz)))))
   | _ => False)
  | _, _ => False
 | .mk0 e _ bytes c => match ev fr c with
  | some (.int _ n) => (0 ≤ n ∧ bytes * n ≤ 140737488355328 ∧ n ≤ 9223372036854775807) ∧ R (.lst (.own e) 0 []) h
  | _ => False
 | .mkn _ sz bytes zero n => match ev fr n with
  | some (.int _ n) => (0 ≤ n ∧ bytes * n ≤ 140737488355328 ∧ n ≤ 9223372036854775807) ∧ R (.hs h.length n.toNat) (h ++ [some (false, (List.range (n.toNat * sz)).map fun i => zero.getD (i % sz) .nilp)])
  | _ => False
 | .loado x => match ev fr x with
  | some (.ptr id off) => (match h[id]? with
   | some (some (false, l)) => (match l[off]? with
    | some (.lst (.own e) n c) => R (.lst (.own e) n c) (h.set id (some (false, l.set off (.lst .ro n c))))
    | _ => False)
   | _ => False)
  | _ => False
 | .store n a x => match ev fr a, ev fr x with
  | some (.ptr id off), some v => (match h[id]? with
   | some (some (false, l)) => (isTup v = false ∧ (cellsOf v).length = n ∧ off + n ≤ l.length) ∧ R .nilp (h.set id (some (false, splice l off (cellsOf v))))
   | _ => False)
  | _, _ => False
 | .stores n a x => match ev fr a, ev fr x with
  | some (.ptr id off), some v => (match h[id]? with
   | some (some (false, l)) => (isTup v = false ∧ (cellsOf v).length = n ∧ off + n ≤ l.length) ∧ R .nilp (h.set id (some (true, splice l off (cellsOf v))))
   | _ => False)
  | _, _ => False
 | .storeo a k => match ev fr a, lk fr k with
  | some (.ptr id off), some (.lst (.own e) n c) => (match h[id]? with
   | some (some (false, l)) => off < l.length ∧ R .nilp (h.set id (some (false, l.set off (.lst (.own e) n c))))
   | _ => False)
  | _, _ => False
 | .app e sz bytes x y => match ev fr x, ev fr y with
  | some (.lst .clip n l), some (.lst _ m l') => (l.length = n * sz ∧ l'.length = m * sz ∧ n + m ≤ 9223372036854775807 ∧ (n + m) * bytes ≤ 140737488355328) ∧ R (.lst (.own e) (n + m) (l ++ l')) h
  | _, _ => False
 | .appo e sz bytes k y => match lk fr k, ev fr y with
  | some (.lst (.own e') n l), some (.lst _ m l') => (e' = e ∧ l'.length = m * sz ∧ n + m ≤ 9223372036854775807 ∧ (n + m) * bytes ≤ 140737488355328) ∧ R (.lst (.own e) (n + m) (l ++ l')) h
  | _, _ => False
 | .appso e k y => match lk fr k, ev fr y with
  | some (.lst (.own e') n l), some (.str s) => (e' = e ∧ n + s.size ≤ 140737488355328) ∧ R (.lst (.own e) (n + s.size) (l ++ s.data.toList.map fun b => AV.int .u8 b.toNat)) h
  | _, _ => False
 | .call f args => match ev fr f, evs fr args with
  | some (.fn f' caps), some l => ∃ v, PCalls P f' (l ++ caps) v ∧ R v h
  | _, _ => False
 | .calli f args => match ev fr f, evs fr args with
  | some (.fn f' caps), some l => ∃ v hv, ACalls P f' (l ++ caps) h (fun a h' => a = v ∧ h' = hv) ∧ SealEq h hv ∧ R v hv
  | _, _ => False
 | .snil neg x => match ev fr x with
  | some (.lst _ n _) => n ≠ 0 ∧ R (.bool neg) h
  | some (.hs _ _) => R (.bool neg) h
  | some (.hsc _ _ _) => R (.bool neg) h
  | _ => False
 | .k o => kF o fr h R
 | .callr f args => match ev fr f, evs fr args with
  | some (.fn f' caps), some l => ∃ v, (∀ h0 : Hp, SameU h0 h → ACalls P f' (l ++ caps) h0 (fun a h' => a = v ∧ h' = h0)) ∧ R v h
  | _, _ => False
 | o => val fr h o (kv h R)

def ptrId : Option AV → Option Nat
 | some (.ptr id _) => some id
 | some (.hs id _) => some id
 | some (.hsc id _ _) => some id
 | _ => none
def sameId (x : Option AV) (i : Option Nat) : Prop :=
 match ptrId x, i with
 | some a, some b => a = b
 | _, _ => False
def fbId (b : FB) (fr : Fr) (h : Hp) : Option Nat :=
 match b with
 | .s k => ptrId (lk fr k)
 | .h k => if k < h.length then some (h.length - 1 - k) else none
def apart (fr : Fr) (i : Option Nat) : List Nat → Prop
 | [] => True
 | p :: r => (match i, ptrId (lk fr p) with
  | some a, some b => a ≠ b
  | _, _ => False) ∧ apart fr i r
def effF (P : Program) (b : FB) (o : AOp) (fr : Fr) (h : Hp) (R : AV → Hp → Prop) : Prop :=
 match o with
 | .load s x => sameId (ev fr x) (fbId b fr h) ∧ eff P (.load s x) fr h R
 | .loado x => sameId (ev fr x) (fbId b fr h) ∧ eff P (.loado x) fr h R
 | .store n a x => sameId (ev fr a) (fbId b fr h) ∧ eff P (.store n a x) fr h R
 | .stores n a x => sameId (ev fr a) (fbId b fr h) ∧ eff P (.stores n a x) fr h R
 | .storeo a k => sameId (ev fr a) (fbId b fr h) ∧ eff P (.storeo a k) fr h R
 | .k (.ld x) => sameId (ev fr x) (fbId b fr h) ∧ kF (.ld x) fr h R
 | .calli f args => match ev fr f, evs fr args, fbId b fr h with
  | some (.fn f' caps), some l, some id => ∃ v l0 l1, h[id]? = some (some (false, l0)) ∧ (∀ h0 : Hp, h0[id]? = some (some (false, l0)) → ACalls P f' (l ++ caps) h0 (fun a h' => a = v ∧ h' = h0.set id (some (false, l1)))) ∧ R v (h.set id (some (false, l1)))
  | _, _, _ => False
 | .new l ups => match fbId b fr h with
  | some id => h[id]? = some none ∧ upgK ups l (fun l' => R (.ptr id 0) (h.set id (some (false, l'))))
  | none => False
 | .box x ups => match fbId b fr h, ev fr x with
  | some id, some a => h[id]? = some none ∧ isTup a = false ∧ upgK ups (cellsOf a) (fun l' => R (.ptr id 0) (h.set id (some (false, l'))))
  | _, _ => False
 | .mkn _ sz bytes zero n => match fbId b fr h, ev fr n with
  | some id, some (.int _ n) => h[id]? = some none ∧ (0 ≤ n ∧ bytes * n ≤ 140737488355328 ∧ n ≤ 9223372036854775807) ∧ R (.hs id n.toNat) (h.set id (some (false, (List.range (n.toNat * sz)).map fun i => zero.getD (i % sz) .nilp)))
  | _, _ => False
 | _ => False
def effA (P : Program) (f : Option (FB × List Nat)) (o : AOp) (fr : Fr) (h : Hp) (R : AV → Hp → Prop) : Prop :=
 match f with
 | none => eff P o fr h R
 | some (b, ps) => apart fr (fbId b fr h) ps ∧ effF P b o fr h R

def kput (d : Option Nat) (o : AOp) (fr : Fr) (K : Fr → Hp → Prop) (a : AV) (h : Hp) : Prop := K (put d a (tk o fr)) h
def VOps (P : Program) : List AStm → Fr → Hp → (Fr → Hp → Prop) → Prop
 | [], fr, h, K => K fr h
 | s :: r, fr, h, K => match s.gd with
  | none => effA P s.ft s.op fr h (kput s.dst s.op fr (fun fr h => VOps P r fr h K))
  | some (q, want) => match lk fr q with
   | some (.bool p) => (p = want → effA P s.ft s.op ((q, .bool want) :: fr) h (kput s.dst s.op ((q, .bool want) :: fr) (fun fr h => VOps P r fr h K))) ∧ (p = !want → VOps P r (put s.dst (.tup []) ((q, .bool (!want)) :: fr)) h K)
   | some (.tup []) => VOps P r (put s.dst (.tup []) fr) h K
   | _ => False
def kvops (P : Program) (r : List AStm) (K : Fr → Hp → Prop) (fr : Fr) (h : Hp) : Prop := VOps P r fr h K
def kdraw (vars : List Nat) (Q : Exit → Fr → Hp → Prop) (fr : Fr) (h : Hp) : Prop := Q .normal (restr vars fr) h
def W (P : Program) : ACode → Fr → Hp → (Exit → Fr → Hp → Prop) → Prop
 | .skip, fr, h, Q => Q .normal fr h
 | .ops l, fr, h, Q => WOps P l fr h (Q .normal)
 | .draw vars l, fr, h, Q => VOps P l fr h (kdraw vars Q)
 | .seq a b, fr, h, Q => W P a fr h (fun e fr h => match e with
  | .normal => W P b fr h Q
  | e => Q e fr h)
 | .cond c a b, fr, h, Q => match ev fr c with
  | some (.bool p) => (p = true → W P a fr h Q) ∧ (p = false → W P b fr h Q)
  | _ => False
 | .block id a, fr, h, Q => W P a fr h (fun e fr h => match e with
  | .exit i => if i = id then Q .normal fr h else Q (.exit i) fr h
  | e => Q e fr h)
 | .loop vars a, fr, h, Q => ∃ I : Nat → Fr → Hp → Prop, (∃ n, I n (restr vars fr) h) ∧ ∀ n fr h, I n fr h → W P a fr h (fun e fr' h' => match e with
  | .normal => ∃ m, m < n ∧ I m (restr vars fr') h'
  | e => Q e fr' h')
 | .exit id, fr, h, Q => Q (.exit id) fr h
 | .ret, fr, h, Q => Q .ret fr h
 | .keep l a, fr, h, Q => W P a (restr l fr) h Q
 | .holes m a, fr, h, Q => W P a fr (h ++ List.replicate m none) Q
 | .scope a, fr, h, Q => W P a fr h (fun e fr h => match e with
  | .goto _ => False
  | e => Q e fr h)
 | .dead, _, _, _ => False
 | .nms k a, fr, h, Q => match lk fr k with
  | some (.stk e none l) => ∀ v, W P a ((k, .stk e (some v) l) :: fr) h Q
  | _ => W P a fr h Q
 | .nmo k off a, fr, h, Q => match lk fr k with
  | some (.ptr id _) => (match h[id]? with
   | some (some (false, c)) => (match c[off]? with
    | some (.stk e none l) => ∀ v, W P a fr (h.set id (some (false, c.set off (.stk e (some v) l)))) Q
    | _ => W P a fr h Q)
   | _ => W P a fr h Q)
  | _ => W P a fr h Q

def kseq (P : Program) (b : ACode) (Q : Exit → Fr → Hp → Prop) : Exit → Fr → Hp → Prop := fun e fr h => match e with
 | .normal => W P b fr h Q
 | e => Q e fr h
def kblock (id : Nat) (Q : Exit → Fr → Hp → Prop) : Exit → Fr → Hp → Prop := fun e fr h => match e with
 | .exit i => if i = id then Q .normal fr h else Q (.exit i) fr h
 | e => Q e fr h
def kloop (vars : List Nat) (I : Nat → Fr → Hp → Prop) (n : Nat) (Q : Exit → Fr → Hp → Prop) : Exit → Fr → Hp → Prop := fun e fr' h' => match e with
 | .normal => ∃ m, m < n ∧ I m (restr vars fr') h'
 | e => Q e fr' h'

def kscope (Q : Exit → Fr → Hp → Prop) : Exit → Fr → Hp → Prop := fun e fr h => match e with
 | .goto _ => False
 | e => Q e fr h

inductive RV where
  | t (k : Nat)
  | c (k : Nat) (sz : Option Nat)
structure AFn where
  N : Nat
  rs : List RV
  code : ACode
def resL (fr : Fr) (h : Hp) : List RV → (List AV → Prop) → Prop
 | [], K => K []
 | .t k :: r, K => match ev fr (.t k) with
  | some a => resL fr h r (fun l => K (a :: l))
  | none => False
 | .c k sz :: r, K => val fr h (.load sz (.t k)) (fun a => resL fr h r (fun l => K (a :: l)))
def res1 (K : AV → Prop) (l : List AV) : Prop :=
 match l with
 | [a] => K a
 | l => K (.tup l)
def kret (rs : List RV) (R : AV → Hp → Prop) : Exit → Fr → Hp → Prop := fun e fr h => match e with
 | .normal => resL fr h rs (res1 (fun a => R a h))
 | .ret => resL fr h rs (res1 (fun a => R a h))
 | _ => False
def args0 : Nat → List AV → Fr
 | _, [] => []
 | k, a :: l => (k, a) :: args0 (k + 1) l

def dstOf (ops : Array Oper) (j : Nat) : Option Nat := (ops[j]?).bind (·.dst)
def chkGd (ops : Array Oper) : Option (Nat × Bool) → Option (Nat × Bool) → Bool
 | none, none => true
 | some (j, b), some (q, b') => decide (dstOf ops j = some q) && b == b'
 | _, _ => false
def chkStm (P : Program) (ops : Array Oper) (N : Nat) (o : Oper) (s : AStm) : Bool :=
 decide (o.dst = s.dst) && (match s.dst with
  | some d => decide (d < N)
  | none => true) && chkGd ops o.guard s.gd && chkEff P o.op o.dst s.op
def chkStms (P : Program) (ops : Array Oper) (N : Nat) : List Oper → List AStm → Bool
 | [], [] => true
 | o :: r, s :: r' => chkStm P ops N o s && chkStms P ops N r r'
 | _, _ => false

section
variable {P : Program} {g : Gh} {h : Hp} {w : World} {fr : Fr} {act : Act} {N : Nat}

theorem lk_restr : ∀ (l : List Nat) (fr : Fr) (k : Nat) (a : AV), lk (restr l fr) k = some a → lk fr k = some a
 | [], fr, k, a, h => by simp [restr, lk] at h
 | j :: r, fr, k, a, h => by
  simp only [restr] at h
  split at h
  ·next b hb =>
   rw [lk_cons] at h
   split at h
   ·next e => subst e; rw [hb]; exact h
   ·exact lk_restr r fr k a h
  ·exact lk_restr r fr k a h
theorem FrameOk.restr {tmps : Array Value} (hf : FrameOk P g w tmps fr) (l : List Nat) : FrameOk P g w tmps (restr l fr) := fun k a hk => hf k a (lk_restr l fr k a hk)
theorem FrameOk.same {tmps : Array Value} {q : Nat} {a b : AV} (hf : FrameOk P g w tmps fr) (hq : lk fr q = some a) (e : a = b) : FrameOk P g w tmps ((q, b) :: fr) := by
 subst e
 intro k c hk
 rw [lk_cons] at hk
 split at hk
 ·next e => subst e; simp only [Option.some.injEq] at hk; subst hk; exact hf _ _ hq
 ·exact hf k c hk

theorem yielded_of {ops : Array Oper} {tmps : Array Value} {j q : Nat} (hd : dstOf ops j = some q) {v : Value} (hv : tmps[q]? = some v) : yielded ops tmps j = match v with | .bool b => some b | _ => none := by
 unfold yielded
 unfold dstOf at hd
 rw [hd]
 simp only [Option.bind_some, hv]
 cases v <;> rfl

theorem wanted_of {ops : Array Oper} {o : Oper} {s : AStm} {q : Nat} {want : Bool} (hg : chkGd ops o.guard s.gd = true) (hs : s.gd = some (q, want)) (hf : FrameOk P g w act.tmps fr) :
  (∀ p, lk fr q = some (.bool p) → Region.wanted o (yielded ops act.tmps) = (p == want)) ∧ (lk fr q = some (.tup []) → Region.wanted o (yielded ops act.tmps) = false) := by
 rw [hs] at hg
 unfold chkGd at hg
 split at hg
 ·next e => cases e
 ·next j b q' b' hog e =>
  simp only [Option.some.injEq, Prod.mk.injEq] at e
  obtain ⟨rfl, rfl⟩ := e
  simp only [Bool.and_eq_true, decide_eq_true_eq, beq_iff_eq] at hg
  obtain ⟨hd, rfl⟩ := hg
  refine ⟨fun p hp => ?_, fun hp => ?_⟩
  ·obtain ⟨v, h1, h2, _⟩ := hf _ _ hp
   cases h2
   simp only [Region.wanted, hog, yielded_of hd h1]
   cases p <;> cases b <;> rfl
  ·obtain ⟨v, h1, h2, _⟩ := hf _ _ hp
   cases h2
   simp only [Region.wanted, hog, yielded_of hd h1]
   rfl
 ·cases hg
theorem wanted_none {ops : Array Oper} {o : Oper} {s : AStm} (hg : chkGd ops o.guard s.gd = true) (hs : s.gd = none) (y : Nat → Option Bool) : Region.wanted o y = true := by
 rw [hs] at hg
 unfold chkGd at hg
 split at hg
 ·next h _ => simp [Region.wanted, h]
 ·next e => cases e
 ·cases hg

theorem ok_skip {o : Oper} {s : AStm} {g0 : Gh} {w0 : World} (hd : act.defers = []) (hN : act.tmps.size = N) (hdst : o.dst = s.dst) (hlt : ∀ d, s.dst = some d → d < N) (hf : FrameOk P g w act.tmps fr) :
  FrameOk P g w (act.put o.dst undef).tmps (put s.dst (.tup []) fr) ∧ (act.put o.dst undef).defers = [] ∧ (act.put o.dst undef).tmps.size = N := by
 obtain ⟨p1, p2⟩ := put_size act o.dst undef
 refine ⟨?_, by rw [p2, hd], by rw [p1, hN]⟩
 rw [hdst]
 cases hsd : s.dst with
 | none => exact hf
 | some d => exact hf.put (by rw [hN]; exact hlt d hsd) (.tup [] [] (by intro a ha; simp at ha) .nil) trivial

theorem wops_sound {ops : Array Oper} {Q : Exit → Act → World → Prop} {g0 : Gh} {w0 : World} {K : Fr → Hp → Prop} (hQ : ∀ a w, Ok P g0 w0 N K a w → Q .normal a w) :
  ∀ (l : List Oper) (ls : List AStm), chkStms P ops N l ls = true → ∀ {g : Gh} {h : Hp} {w : World} {fr : Fr} {act : Act}, Ev g0 w0 g w → Sim P g h w → FrameOk P g w act.tmps fr → act.defers = [] → act.tmps.size = N → WOps P ls fr h K → wpList P ops Q l act w
 | [], [], _, g, h, w, fr, act, hev, hs, hf, hd, hN, hw => hQ _ _ ⟨g, fr, h, hw, hev, hs, hf, hd, hN⟩
 | [], _ :: _, hc, _, _, _, _, _, _, _, _, _, _, _ => by simp [chkStms] at hc
 | _ :: _, [], hc, _, _, _, _, _, _, _, _, _, _, _ => by simp [chkStms] at hc
 | o :: l, s :: ls, hc, g, h, w, fr, act, hev, hs, hf, hd, hN, hw => by
  simp only [chkStms, chkStm, Bool.and_eq_true, decide_eq_true_eq] at hc
  obtain ⟨⟨⟨⟨hc1, hc2⟩, hc3⟩, hc4⟩, hcr⟩ := hc
  have hlt : ∀ d, s.dst = some d → d < N := fun d hd' => by rw [hd'] at hc2; simpa using hc2
  have hlto : ∀ d, o.dst = some d → d < N := fun d hd' => hlt d (by rw [← hc1]; exact hd')
  -- the operation comes up
  have key : ∀ fr', FrameOk P g w act.tmps fr' → wop P s.dst s.op fr' h (fun fr h => WOps P ls fr h K) → o.wp P act w (wpList P ops Q l) Q := by
   intro fr' hf' hw'
   rw [← hc1] at hw'
   refine Oper.wp_mono (fun a1 w1 h1 => ?_) (wop_sound (Q := Q) hs hf' hd hN hlto hc4 hw')
   obtain ⟨g1, fr1, h1', q1, q2, q3, q4, q5, q6⟩ := h1
   exact wops_sound hQ l ls hcr (hev.trans q2) q3 q4 q5 q6 q1
  have skip : ∀ fr', FrameOk P g w act.tmps fr' → WOps P ls (put s.dst (.tup []) fr') h K → wpList P ops Q l (act.put o.dst undef) w := by
   intro fr' hf' hw'
   obtain ⟨r1, r2, r3⟩ := ok_skip (g0 := g) (w0 := w) (s := s) hd hN hc1 hlt hf'
   exact wops_sound hQ l ls hcr hev hs r1 r2 r3 hw'
  unfold wpList
  cases hgd : s.gd with
  | none =>
   rw [if_pos (wanted_none hc3 hgd _)]
   simp only [WOps, hgd] at hw
   exact .inl (key fr hf hw)
  | some qw =>
   obtain ⟨q, want⟩ := qw
   obtain ⟨w1, w2⟩ := wanted_of hc3 hgd hf
   simp only [WOps, hgd] at hw
   split at hw
   ·next p hp =>
    rw [w1 p hp]
    by_cases e : p = want
    ·subst e
     simp only [beq_self_eq_true, if_true]
     exact .inl (key _ (hf.same hp rfl) (hw.1 rfl))
    ·have e' : p = !want := by cases p <;> cases want <;> simp_all
     have e2 : (p == want) = false := by simpa using e
     rw [e2]
     simp only [Bool.false_eq_true, if_false]
     exact skip _ (hf.same hp (by rw [e'])) (hw.2 e')
   ·next hp =>
    rw [w2 hp]
    simp only [Bool.false_eq_true, if_false]
    exact skip fr hf hw
   ·exact hw.elim
end
section
variable {P : Program} {g : Gh} {h : Hp} {w : World}

mutual
theorem Rep.free {g g' : Gh} (hC : ∀ b o v, g.C b o = some v → g'.C b o = some v) (hX : ∀ b o, g.X b = some o → g'.X b = some o) : ∀ {v : Value} {a : AV}, Rep g v a → free a = true → Rep g' v a
  | _, _, .bool b, _ => .bool b
  | _, _, .int k n, _ => .int k n
  | _, _, .str s, _ => .str s
  | _, _, .nilp, _ => .nilp
  | _, _, .ptr id off b h, hf => by simp [Go.Proofs.YtedaffmkpljlnaaGreat.free] at hf
  | _, _, .fp b off vs l h hp hl, hf => .fp b off vs l (fun i v x => hC _ _ _ (h i v x)) hp (RepL.free hC hX hl (by simpa [Go.Proofs.YtedaffmkpljlnaaGreat.free] using hf))
  | _, _, .lst b off n c f vs l h hp h1 h2 hl, hf => .lst b off n c f vs l (fun i v x => hC _ _ _ (h i v x)) hp h1 h2 (RepL.free hC hX hl (by simpa [Go.Proofs.YtedaffmkpljlnaaGreat.free] using hf))
  | _, _, .lst0 a c f h, _ => .lst0 a c f h
  | _, _, .hs id b n c h h1, hf => by simp [Go.Proofs.YtedaffmkpljlnaaGreat.free] at hf
  | _, _, .hsc id b n c h h1, hf => by simp [Go.Proofs.YtedaffmkpljlnaaGreat.free] at hf
  | _, _, .agg vs l h hp hl, hf => .agg vs l h hp (RepL.free hC hX hl (by simpa [Go.Proofs.YtedaffmkpljlnaaGreat.free] using hf))
  | _, _, .tup vs l hp hl, hf => .tup vs l hp (RepL.free hC hX hl (by simpa [Go.Proofs.YtedaffmkpljlnaaGreat.free] using hf))
  | _, _, .fn f vs l hp hl, hf => .fn f vs l hp (RepL.free hC hX hl (by simpa [Go.Proofs.YtedaffmkpljlnaaGreat.free] using hf))
  | _, _, .fnb f vs l hp hl, hf => .fnb f vs l hp (RepL.free hC hX hl (by simpa [Go.Proofs.YtedaffmkpljlnaaGreat.free] using hf))
  | _, _, .nilf, _ => .nilf
  | _, _, .opq v h h', _ => .opq v h h'
  | _, _, .itr b s p, _ => .itr b s p
  | _, _, .omp b ks vs, _ => .omp b ks vs
  | _, _, .mp b, _ => .mp b
  | _, _, .fmp b obj ks vs h1 h2, _ => .fmp b obj ks vs (hX _ _ h1) h2
  | _, _, .stk a c e o l h1 h2 h3, _ => .stk a c e o l h1 h2 h3
  | _, _, .raw a n c h1 h2, _ => .raw a n c h1 h2
  | _, _, .rawp b i n c, _ => .rawp b i n c
  | _, _, .frn v Q S W0 h1 h2 h3 h4, _ => .frn v Q S W0 h1 h2 h3 (fun j hj => by obtain ⟨o, x, y⟩ := h4 j hj; exact ⟨o, x, hX _ _ y⟩)
theorem RepL.free {g g' : Gh} (hC : ∀ b o v, g.C b o = some v → g'.C b o = some v) (hX : ∀ b o, g.X b = some o → g'.X b = some o) : ∀ {vs : List Value} {l : List AV}, RepL g vs l → free.frees l = true → RepL g' vs l
  | _, _, .nil, _ => .nil
  | _, _, .cons h hl, hf => by
    simp only [free.frees, Bool.and_eq_true] at hf
    exact .cons (Rep.free hC hX h hf.1) (RepL.free hC hX hl hf.2)
end

def Gh.bare (g : Gh) : Gh :=
  { C := g.C, io := fun _ => none, F := fun b => g.F b ∨ (∃ i, g.io i = some b) ∨ (∃ x, g.own b = some x), own := fun _ => none, X := g.X }
theorem Sim.bare (hs : Sim P g h w) : Sim P g.bare [] w :=
 ⟨hs.prot, (fun id s l hl => by simp at hl), (fun i j b hi => by cases hi), (fun i b hi => by cases hi), by
  rintro b (hf | ⟨i, hi⟩ | ⟨x, hx⟩)
  ·exact hs.flt b hf
  ·exact (hs.dom i b hi).2
  ·exact hs.olt b x hx, (fun b x hx => by cases hx), (fun i hi => by simp at hi), fun b o hx => ⟨(hs.fro b o hx).1, rfl, fun i hi => by cases hi⟩⟩
def Gh.more (g g1 : Gh) : Gh := { g with C := g1.C, X := g1.X }
theorem Sim.more {g1 : Gh} {w1 : World} {h1 : Hp} (hs : Sim P g h w) (hev : Ev g.bare w g1 w1) (hs1 : Sim P g1 h1 w1) : Sim P (g.more g1) h w1 ∧ Ev g w (g.more g1) w1 := by
 have hle : GLe g (g.more g1) := ⟨fun b o v hc => hev.le.C b o v hc, fun _ _ h => h, fun b o hx => hev.le.X b o hx⟩
 refine ⟨⟨hs1.prot, ?_, hs.inj, fun i b hi => ⟨(hs.dom i b hi).1, Nat.lt_of_lt_of_le (hs.dom i b hi).2 hev.size⟩, fun b hb => Nat.lt_of_lt_of_le (hs.flt b hb) hev.size, fun b x hx => Nat.lt_of_lt_of_le (hs.olt b x hx) hev.size, hs.hole, fun b o hx => ?_⟩, ⟨hle, fun _ => .rfl, fun b hb => ?_, hev.os, hev.tape, hev.output, hev.size, fun b hb => hev.Fx b (.inl hb)⟩⟩
 ·intro id s l hl
  refine (hs.obj id s l hl).keep hle (fun b hb h8 h9 => ?_) (fun b i o1 o3 o4 => ?_)
  ·obtain ⟨q1, q2, _⟩ := hev.Fb b (.inr (.inl ⟨id, hb⟩))
   exact ⟨q1, q2, h8, h9⟩
  ·obtain ⟨q1, q2, _⟩ := hev.Fb b (.inr (.inr ⟨_, o1⟩))
   exact ⟨q1, o1, q2, o3, o4⟩
 ·have hbk : (∃ i, g.io i = some b) ∨ (∃ x, g.own b = some x) → g.X b = some o := fun hh => by
   have := hev.Fx b (.inr hh)
   rw [show g.bare.X b = g.X b from rfl] at this
   rw [← this]; exact hx
  refine ⟨(hs1.fro b o hx).1, ?_, fun i hi => ?_⟩
  ·cases ho : g.own b with
   | none => exact ho
   | some x => exact absurd (hs.fro b o (hbk (.inr ⟨x, ho⟩))).2.1 (by rw [ho]; simp)
  ·exact (hs.fro b o (hbk (.inl ⟨i, hi⟩))).2.2 i hi
 ·obtain ⟨q1, q2, _⟩ := hev.Fb b (.inl hb)
  exact ⟨q1, q2, rfl, fun _ h => h⟩
theorem PCalls.acalls {f : FuncId} {args : List AV} {v : AV} (hp : PCalls P f args v) (h : Hp) : ACalls P f args h (fun a h' => a = v ∧ h' = h) := by
 obtain ⟨hfa, hfv, hent, hc⟩ := hp
 refine ⟨hent, fun g w vargs hs hns hr hpl => ?_⟩
 refine (hc g.bare w vargs hs.bare (fun b k h => by cases h) (RepL.free (g := g) (g' := g.bare) (fun _ _ _ h => h) (fun _ _ h => h) hr hfa) hpl).mono ?_
 rintro e w1 ⟨x, a, h1, g1, rfl, r1, r2, r3, r4, r5, rfl, rfl⟩
 obtain ⟨s1, s2⟩ := hs.more r1 r2
 exact ⟨x, a, h, g.more g1, rfl, s2, s1, hns, Rep.free (g := g1) (g' := g.more g1) (fun _ _ _ h => h) (fun _ _ h => h) r4 hfv, r5, rfl, rfl⟩
theorem PCalls.use {f : FuncId} {args : List AV} {v : AV} (hp : PCalls P f args v) {h : Hp} {R : AV → Hp → Prop} (hR : R v h) : ACalls P f args h R :=
 (hp.acalls h).mono fun _ _ ⟨e1, e2⟩ => by subst e1; subst e2; exact hR

def Gh.drop (g : Gh) : Gh := { g with io := fun _ => none }
theorem Sim.drop (hs : Sim P g h w) : Sim P g.drop [] w :=
 ⟨hs.prot, (fun id s l hl => by simp at hl), (fun i j b hi => by cases hi), (fun i b hi => by cases hi), hs.flt, hs.olt, (fun i hi => by simp at hi), fun b o hx => ⟨(hs.fro b o hx).1, (hs.fro b o hx).2.1, fun i hi => by cases hi⟩⟩

theorem pcalls_of {f : FuncId} {args : List AV} {v : AV} (ha : free.frees args = true) (hv : free v = true) (hc : ACalls P f args [] (fun a _ => a = v)) : PCalls P f args v := by
 refine ⟨ha, hv, hc.1, fun g w vargs hs hns hr hpl => ?_⟩
 refine (hc.2 g w vargs hs hns hr hpl).mono ?_
 rintro e w1 ⟨x, a, h1, g1, rfl, r1, r2, r3, r4, r5, rfl⟩
 refine ⟨x, a, [], g1.drop, rfl, ⟨⟨r1.le.C, fun i b hi => ?_, r1.le.X⟩, r1.F, fun b hb => ?_, r1.os, r1.tape, r1.output, r1.size, r1.Fx⟩, r2.drop, r3, Rep.free (g := g1) (g' := g1.drop) (fun _ _ _ h => h) (fun _ _ h => h) r4 hv, r5, rfl, rfl⟩
 ·exact absurd (hs.dom i b hi).1 (by simp)
 ·obtain ⟨q1, q2, q3, q4⟩ := r1.Fb b hb
  exact ⟨q1, q2, q3, fun i hi => by cases hi⟩

end
def opdR : Opd → List Nat
 | .t k => [k]
 | _ => []
def opdsR (l : List Opd) : List Nat := l.flatMap opdR
def partsR (l : List (Nat × Nat × Opd)) : List Nat := l.flatMap fun p => opdR p.2.2
def optR : Option Opd → List Nat
 | some x => opdR x
 | none => []
def kR : KOp → List Nat
 | .mk _ x | .ld x | .len x => opdR x
 | .mv k => [k]
 | .st a k => k :: opdR a
 | .ap _ _ k y => k :: opdR y
 | .cut k j => k :: opdR j
 | .pop a x | .po a x | .sl a x | .ix a x => opdR a ++ opdR x
 | .pk k x => k :: opdR x
 | .new _ _ _ => []
def kT : KOp → List Nat
 | .mv k | .st _ k | .ap _ _ k _ | .cut k _ => [k]
 | _ => []
def opR : AOp → List Nat
 | .ex _ l => opdsR l
 | .mv x | .load _ x | .lds _ x | .nilck x | .pnil _ x | .not x | .conv _ x | .cstr x | .b2s x | .fld _ x | .ext _ x | .lens x | .lenl x | .mvu _ _ x | .box x _ | .mk0 _ _ _ x | .mkn _ _ _ _ x | .loado x => opdR x
 | .pick c a b => opdR c ++ opdR a ++ opdR b
 | .mmk => []
 | .mup _ k m x y => k :: (opdR m ++ (opdR x ++ opdR y))
 | .mfz k | .mmv k | .mra k => [k]
 | .build _ ps | .bsl _ _ _ _ ps | .bsh _ _ _ _ ps | .bar _ _ ps => partsR ps
 | .bin _ x y | .bbin _ x y | .idxa _ x y | .idxs x y | .mn x y | .mx x y | .store _ x y | .stores _ x y | .app _ _ _ x y | .storeu _ _ x y | .cpy _ x y | .aph _ _ _ x y | .apc _ _ _ _ x y => opdR x ++ opdR y
 | .slcs x lo hi => opdR x ++ optR lo ++ optR hi
 | .slcl _ x lo hi mx => opdR x ++ optR lo ++ optR hi ++ optR mx
 | .slch _ x j => opdR x ++ opdR j
 | .mkfn _ l => opdsR l
 | .mvo k => [k]
 | .new _ _ => []
 | .storeo a k => k :: opdR a
 | .appo _ _ _ k y | .appso _ k y => k :: opdR y
 | .call f l | .calli f l | .callr f l => opdR f ++ opdsR l
 | .k o => kR o
 | .snil _ x => opdR x
 | .rngs x => opdR x
 | .nxt k => [k]
def opT : AOp → List Nat
 | .mvo k | .storeo _ k | .appo _ _ _ k _ | .appso _ k _ => [k]
 | .nxt k => [k]
 | .mup _ k _ _ _ => [k]
 | .mfz k | .mmv k => [k]
 | .k o => kT o
 | _ => []

def Agree (l : List Nat) (fr fr' : Fr) : Prop := ∀ k ∈ l, lk fr' k = lk fr k
theorem Agree.left {a b : List Nat} {fr fr' : Fr} (h : Agree (a ++ b) fr fr') : Agree a fr fr' := fun k hk => h k (by simp [hk])
theorem Agree.right {a b : List Nat} {fr fr' : Fr} (h : Agree (a ++ b) fr fr') : Agree b fr fr' := fun k hk => h k (by simp [hk])

section
variable {fr fr' : Fr} {h : Hp}
theorem ev_congr {x : Opd} (ha : Agree (opdR x) fr fr') : ev fr' x = ev fr x := by
 cases x with
 | t k => simp only [ev, ha k (by simp [opdR])]
 | _ => rfl
theorem evs_congr : ∀ {l : List Opd}, Agree (opdsR l) fr fr' → evs fr' l = evs fr l
 | [], _ => rfl
 | x :: r, ha => by
  have h1 : Agree (opdR x) fr fr' := fun k hk => ha k (by simp [opdsR, hk])
  have h2 : Agree (opdsR r) fr fr' := fun k hk => ha k (by simp only [opdsR, List.flatMap_cons, List.mem_append]; exact .inr hk)
  simp only [evs, ev_congr h1, evs_congr h2]
theorem evD_congr {d : AV} {x : Option Opd} (ha : Agree (optR x) fr fr') : evD fr' d x = evD fr d x := by
 cases x with
 | none => rfl
 | some x => exact ev_congr ha
theorem buildK_congr {K : List AV → Prop} : ∀ {l : List (Nat × Nat × Opd)} {t : List AV}, Agree (partsR l) fr fr' → buildK fr' t l K = buildK fr t l K
 | [], _, _ => rfl
 | (o, s, x) :: r, t, ha => by
  have h1 : Agree (opdR x) fr fr' := fun k hk => ha k (by simp [partsR, hk])
  have h2 : Agree (partsR r) fr fr' := fun k hk => ha k (by simp only [partsR, List.flatMap_cons, List.mem_append]; exact .inr hk)
  simp only [buildK, ev_congr h1]
  cases ev fr x with
  | none => rfl
  | some a => simp only [buildK_congr h2]
theorem val_congr {o : AOp} {K : AV → Prop} (ha : Agree (opR o) fr fr') : val fr' h o K = val fr h o K := by
 cases o with
 | build t ps => exact buildK_congr ha
 | pick c a b => simp only [val, ev_congr ha.left.left, ev_congr ha.left.right, ev_congr ha.right]
 | bin op x y => simp only [val, ev_congr ha.left, ev_congr ha.right]
 | bbin op x y => simp only [val, ev_congr ha.left, ev_congr ha.right]
 | idxa s x y => simp only [val, ev_congr ha.left, ev_congr ha.right]
 | idxs x y => simp only [val, ev_congr ha.left, ev_congr ha.right]
 | mn x y => simp only [val, ev_congr ha.left, ev_congr ha.right]
 | mx x y => simp only [val, ev_congr ha.left, ev_congr ha.right]
 | slcs x lo hi => simp only [val, ev_congr ha.left.left, evD_congr ha.left.right, evD_congr ha.right]
 | slcl s x lo hi mx =>
  cases mx with
  | none => simp only [val, ev_congr ha.left.left.left, evD_congr ha.left.left.right, evD_congr ha.left.right]
  | some m =>
   have hm : ev fr' m = ev fr m := ev_congr ha.right
   simp only [val, ev_congr ha.left.left.left, evD_congr ha.left.left.right, evD_congr ha.left.right, hm]
 | mkfn f l => simp only [val, evs_congr ha]
 | ex e l => simp only [val, evs_congr ha]
 | mv x => simp only [val, ev_congr ha]
 | load s x => simp only [val, ev_congr ha]
 | lds s x => simp only [val, ev_congr ha]
 | nilck x => simp only [val, ev_congr ha]
 | pnil n x => simp only [val, ev_congr ha]
 | not x => simp only [val, ev_congr ha]
 | conv k x => simp only [val, ev_congr ha]
 | cstr x => simp only [val, ev_congr ha]
 | b2s x => simp only [val, ev_congr ha]
 | fld o x => simp only [val, ev_congr ha]
 | ext i x => simp only [val, ev_congr ha]
 | lens x => simp only [val, ev_congr ha]
 | lenl x => simp only [val, ev_congr ha]
 | slch s x j => simp only [val, ev_congr ha.left, ev_congr ha.right]
 | _ => rfl
theorem kF_congr {o : KOp} {R : AV → Hp → Prop} (ha : Agree (kR o) fr fr') : kF o fr' h R = kF o fr h R := by
 cases o with
 | mk e x => simp only [kF, ev_congr (x := x) ha]
 | ld x => simp only [kF, ev_congr (x := x) ha]
 | len x => simp only [kF, ev_congr (x := x) ha]
 | mv k => simp only [kF, ha k (by simp [kR])]
 | st a k =>
  have h2 : Agree (opdR a) fr fr' := fun j hj => ha j (by simp [kR, hj])
  simp only [kF, ev_congr h2, ha k (by simp [kR])]
 | ap e b k y =>
  have h2 : Agree (opdR y) fr fr' := fun j hj => ha j (by simp [kR, hj])
  simp only [kF, ev_congr h2, ha k (by simp [kR])]
 | cut k y =>
  have h2 : Agree (opdR y) fr fr' := fun j hj => ha j (by simp [kR, hj])
  simp only [kF, ev_congr h2, ha k (by simp [kR])]
 | pk k y =>
  have h2 : Agree (opdR y) fr fr' := fun j hj => ha j (by simp [kR, hj])
  simp only [kF, ev_congr h2, ha k (by simp [kR])]
 | pop a x => simp only [kF, ev_congr (x := a) ha.left, ev_congr (x := x) ha.right]
 | po a x => simp only [kF, ev_congr (x := a) ha.left, ev_congr (x := x) ha.right]
 | sl a x => simp only [kF, ev_congr (x := a) ha.left, ev_congr (x := x) ha.right]
 | ix a x => simp only [kF, ev_congr (x := a) ha.left, ev_congr (x := x) ha.right]
 | new l u ks => rfl
theorem eff_congr {P : Program} {o : AOp} {R : AV → Hp → Prop} (ha : Agree (opR o) fr fr') : eff P o fr' h R = eff P o fr h R := by
 cases o with
 | mvu e s x => simp only [eff, ev_congr ha]
 | mvo k => simp only [eff, ha k (by simp [opR])]
 | new l u => rfl
 | box x u => simp only [eff, ev_congr ha]
 | bsl e s n t p => exact buildK_congr ha
 | bsh e s n t p => rfl
 | bar s t p => rfl
 | mmk => rfl
 | mup s k m x y => rfl
 | mfz k => rfl
 | mmv k => rfl
 | mra k => rfl
 | aph e s b x y => rfl
 | apc e s b z x y => rfl
 | cpy s x y => simp only [eff, ev_congr ha.left, ev_congr ha.right]
 | mk0 e s b c => simp only [eff, ev_congr ha]
 | mkn e s b z c => simp only [eff, ev_congr ha]
 | loado x => simp only [eff, ev_congr ha]
 | store n a x => simp only [eff, ev_congr ha.left, ev_congr ha.right]
 | stores n a x => simp only [eff, ev_congr ha.left, ev_congr ha.right]
 | storeo a k =>
  have h2 : Agree (opdR a) fr fr' := fun j hj => ha j (by simp [opR, hj])
  simp only [eff, ev_congr h2, ha k (by simp [opR])]
 | app e s b x y => simp only [eff, ev_congr ha.left, ev_congr ha.right]
 | appo e s b k y =>
  have h2 : Agree (opdR y) fr fr' := fun j hj => ha j (by simp [opR, hj])
  simp only [eff, ev_congr h2, ha k (by simp [opR])]
 | appso e k y =>
  have h2 : Agree (opdR y) fr fr' := fun j hj => ha j (by simp [opR, hj])
  simp only [eff, ev_congr h2, ha k (by simp [opR])]
 | call f l => simp only [eff, ev_congr ha.left, evs_congr ha.right]
 | calli f l => simp only [eff, ev_congr ha.left, evs_congr ha.right]
 | callr f l => simp only [eff, ev_congr ha.left, evs_congr ha.right]
 | k o => exact kF_congr ha
 | snil n x => simp only [eff, ev_congr (x := x) ha]
 | _ => simp only [eff]; exact val_congr ha

def Det {α : Type} (F : (α → Prop) → Prop) : Prop := ∀ K, F K → ∃ a, (∀ K' : α → Prop, K' a → F K') ∧ K a
theorem buildK_det : ∀ (l : List (Nat × Nat × Opd)) (t : List AV), Det (fun K => buildK fr t l K)
 | [], t => fun K hK => ⟨t, fun _ h => h, hK⟩
 | (o, s, x) :: r, t => fun K hK => by
  simp only [buildK] at hK ⊢
  split at hK
  ·next a ha =>
   obtain ⟨l, h1, h2⟩ := buildK_det r _ K hK.2
   exact ⟨l, fun K' h => ⟨hK.1, h1 K' h⟩, h2⟩
  ·exact hK.elim
theorem upgK_det : ∀ (u : List (Nat × Nat × Nat)) (l : List AV), Det (fun K => upgK u l K)
 | [], l => fun K hK => ⟨l, fun _ h => h, hK⟩
 | (i, e, s) :: r, l => fun K hK => by
  simp only [upgK] at hK ⊢
  split at hK
  ·next n c hl =>
   obtain ⟨l', h1, h2⟩ := upgK_det r _ K hK.2
   exact ⟨l', fun K' h => ⟨hK.1, h1 K' h⟩, h2⟩
  ·exact hK.elim
theorem arith_det (k : IntKind) (z : Int) : Det (arith k z) := fun K hK => by
 unfold arith at hK ⊢
 split at hK
 ·exact ⟨_, fun _ h => ⟨hK.1, h⟩, hK.2⟩
 ·next hk => exact ⟨_, fun _ h => by cases k <;> first | exact absurd rfl hk | exact h, hK⟩
theorem ibin_det (op : BinOp) (k : IntKind) (a b : Int) : Det (ibin op k a b) := fun K hK => by
 cases op <;> simp only [ibin] at hK ⊢ <;> first | exact arith_det _ _ K hK | (obtain ⟨c, h1, h2⟩ := arith_det _ _ K hK.2; exact ⟨c, fun K' h => ⟨hK.1, h1 K' h⟩, h2⟩) | exact ⟨_, fun _ h => ⟨hK.1, h⟩, hK.2⟩ | exact ⟨_, fun _ h => h, hK⟩ | exact hK.elim
theorem sbin_det (op : BinOp) (a b : ByteArray) : Det (sbin op a b) := fun K hK => by
 cases op <;> simp only [sbin] at hK ⊢ <;> first | exact ⟨_, fun _ h => ⟨hK.1, h⟩, hK.2⟩ | exact ⟨_, fun _ h => h, hK⟩ | exact hK.elim
theorem bin2_det (op : BinOp) (a b : AV) : Det (bin2 op a b) := fun K hK => by
 unfold bin2 at hK ⊢
 split at hK
 ·split at hK
  ·exact ⟨_, fun _ h => ⟨hK.1, h⟩, hK.2⟩
  ·exact ⟨_, fun _ h => ⟨hK.1, h⟩, hK.2⟩
  ·obtain ⟨c, h1, h2⟩ := ibin_det _ _ _ _ K hK.2
   exact ⟨c, fun K' h => ⟨hK.1, h1 K' h⟩, h2⟩
 ·exact sbin_det _ _ _ K hK
 ·exact hK.elim
theorem loadK_det (sz : Option Nat) (l : List AV) : Det (loadK sz l) := fun K hK => by
 unfold loadK at hK ⊢
 split at hK
 ·split at hK
  ·exact ⟨_, fun _ h => h, hK⟩
  ·exact hK.elim
 ·exact ⟨_, fun _ h => ⟨hK.1, h⟩, hK.2⟩
theorem val_det (o : AOp) : Det (val fr h o) := fun K hK => by
 cases o with
 | build t ps =>
  obtain ⟨l, h1, h2⟩ := buildK_det ps t _ hK
  exact ⟨.agg l, fun K' h => h1 (fun l => K' (.agg l)) h, h2⟩
 | pick c a b =>
  simp only [val] at hK ⊢
  split at hK
  ·next p hp =>
   cases p with
   | true =>
    obtain ⟨x, h1, h2⟩ := opt_ev (hK.1 rfl)
    exact ⟨x, fun K' h => ⟨fun _ => by rw [h1]; exact h, fun e => by cases e⟩, h2⟩
   | false =>
    obtain ⟨x, h1, h2⟩ := opt_ev (hK.2 rfl)
    exact ⟨x, fun K' h => ⟨(fun e => by cases e), (fun _ => by rw [h1]; exact h)⟩, h2⟩
  ·exact hK.elim
 | bin op x y =>
  simp only [val] at hK ⊢
  split at hK
  ·exact bin2_det _ _ _ K hK
  ·exact hK.elim
 | lds s x =>
  simp only [val] at hK ⊢
  split at hK
  ·split at hK
   ·exact loadK_det _ _ K hK
   ·exact hK.elim
  ·exact loadK_det _ _ K hK
  ·exact hK.elim
 | load s x =>
  simp only [val] at hK ⊢
  split at hK
  ·split at hK
   ·exact loadK_det _ _ K hK
   ·exact hK.elim
  ·exact loadK_det _ _ K hK
  ·exact hK.elim
 | b2s x =>
  simp only [val] at hK ⊢
  split at hK
  ·obtain ⟨bs, h1, h2, h3⟩ := hK
   exact ⟨_, fun _ h => ⟨bs, h1, h2, h⟩, h3⟩
  ·exact hK.elim
 | idxa s x i =>
  simp only [val] at hK ⊢
  split at hK
  ·exact ⟨_, fun _ h => ⟨hK.1, h⟩, hK.2⟩
  ·exact ⟨_, fun _ h => ⟨hK.1, h⟩, hK.2⟩
  ·exact ⟨_, fun _ h => ⟨hK.1, h⟩, hK.2⟩
  ·exact hK.elim
 | idxs x i =>
  simp only [val] at hK ⊢
  split at hK
  ·exact ⟨_, fun _ h => ⟨hK.1, h⟩, hK.2⟩
  ·exact hK.elim
 | slcs x lo hi =>
  simp only [val] at hK ⊢
  split at hK
  ·split at hK
   ·exact ⟨_, fun _ h => ⟨hK.1, h⟩, hK.2⟩
   ·exact hK.elim
  ·exact hK.elim
 | slcl s x lo hi mx =>
  simp only [val] at hK ⊢
  split at hK
  ·split at hK
   ·cases mx with
    | none => exact ⟨_, fun _ h => ⟨hK.1, h⟩, hK.2⟩
    | some m =>
     simp only at hK ⊢
     obtain ⟨h1, h2⟩ := hK
     split at h2
     ·exact ⟨_, fun _ h => ⟨h1, ⟨h2.1, h⟩⟩, h2.2⟩
     ·exact h2.elim
   ·exact hK.elim
  ·exact hK.elim
 | ext i x =>
  simp only [val] at hK ⊢
  split at hK
  ·split at hK
   ·next a ha => exact ⟨a, fun _ h => h, hK⟩
   ·exact hK.elim
  ·exact hK.elim
 | bbin n x y =>
  simp only [val] at hK ⊢
  split at hK
  ·exact ⟨_, fun _ h => h, hK⟩
  ·exact hK.elim
 | mn x y =>
  simp only [val] at hK ⊢
  split at hK
  ·exact ⟨_, fun _ h => h, hK⟩
  ·exact hK.elim
 | mx x y =>
  simp only [val] at hK ⊢
  split at hK
  ·exact ⟨_, fun _ h => h, hK⟩
  ·exact hK.elim
 | mkfn f l =>
  simp only [val] at hK ⊢
  split at hK
  ·exact ⟨_, fun _ h => h, hK⟩
  ·exact hK.elim
 | ex e l =>
  simp only [val] at hK ⊢
  split at hK
  ·split at hK
   ·exact ⟨_, fun _ h => h, hK⟩
   ·exact hK.elim
  ·exact hK.elim
 | mv x => simp only [val] at hK ⊢; split at hK <;> first | exact ⟨_, fun _ h => h, hK⟩ | exact hK.elim
 | nilck x => simp only [val] at hK ⊢; split at hK <;> first | exact ⟨_, fun _ h => h, hK⟩ | exact hK.elim
 | pnil n x => simp only [val] at hK ⊢; split at hK <;> first | exact ⟨_, fun _ h => h, hK⟩ | exact hK.elim
 | not x => simp only [val] at hK ⊢; split at hK <;> first | exact ⟨_, fun _ h => h, hK⟩ | exact hK.elim
 | conv k x => simp only [val] at hK ⊢; split at hK <;> first | exact ⟨_, fun _ h => h, hK⟩ | exact hK.elim
 | cstr x => simp only [val] at hK ⊢; split at hK <;> first | exact ⟨_, fun _ h => h, hK⟩ | exact hK.elim
 | fld o x => simp only [val] at hK ⊢; split at hK <;> first | exact ⟨_, fun _ h => h, hK⟩ | exact ⟨_, fun _ h => ⟨hK.1, h⟩, hK.2⟩ | exact hK.elim
 | lens x => simp only [val] at hK ⊢; split at hK <;> first | exact ⟨_, fun _ h => h, hK⟩ | exact hK.elim
 | lenl x => simp only [val] at hK ⊢; split at hK <;> first | exact ⟨_, fun _ h => h, hK⟩ | exact hK.elim
 | slch s x j => simp only [val] at hK ⊢; split at hK <;> first | exact ⟨_, fun _ h => ⟨hK.1, h⟩, hK.2⟩ | exact hK.elim
 | _ => exact hK.elim
theorem ksetK_det : ∀ (u : List (Nat × Nat)) (l : List AV), Det (fun K => ksetK u l K)
 | [], l => fun K hK => ⟨l, fun _ h => h, hK⟩
 | (i, e) :: r, l => fun K hK => by
  simp only [ksetK] at hK ⊢
  split at hK
  ·exact ksetK_det r _ K hK
  ·exact hK.elim
theorem kF_det {o : KOp} {R : AV → Hp → Prop} (hR : kF o fr h R) : ∃ a h', (∀ R' : AV → Hp → Prop, R' a h' → kF o fr h R') ∧ R a h' := by
 cases o with
 | new l u ks =>
  obtain ⟨x, h1, h2⟩ := upgK_det u l _ hR
  obtain ⟨y, h3, h4⟩ := ksetK_det ks x _ h2
  exact ⟨_, _, fun R' hr => h1 _ (h3 _ hr), h4⟩
 | mk e x => simp only [kF] at hR ⊢; split at hR <;> first | exact ⟨_, _, fun _ h => h, hR⟩ | exact hR.elim
 | mv k => simp only [kF] at hR ⊢; split at hR <;> first | exact ⟨_, _, fun _ h => h, hR⟩ | exact hR.elim
 | len x => simp only [kF] at hR ⊢; split at hR <;> first | exact ⟨_, _, fun _ h => h, hR⟩ | exact hR.elim
 | ap e b k y => simp only [kF] at hR ⊢; split at hR <;> first | exact ⟨_, _, fun _ h => ⟨hR.1, h⟩, hR.2⟩ | exact hR.elim
 | cut k y => simp only [kF] at hR ⊢; split at hR <;> first | exact ⟨_, _, fun _ h => ⟨hR.1, h⟩, hR.2⟩ | exact hR.elim
 | pk k y => simp only [kF] at hR ⊢; split at hR <;> first | exact ⟨_, _, fun _ h => ⟨hR.1, h⟩, hR.2⟩ | exact hR.elim
 | sl a x => simp only [kF] at hR ⊢; split at hR <;> first | exact ⟨_, _, fun _ h => ⟨hR.1, h⟩, hR.2⟩ | exact hR.elim
 | ix a x => simp only [kF] at hR ⊢; split at hR <;> first | exact ⟨_, _, fun _ h => ⟨hR.1, h⟩, hR.2⟩ | exact hR.elim
 | ld x =>
  simp only [kF] at hR ⊢
  split at hR
  ·split at hR
   ·split at hR
    ·exact ⟨_, _, fun _ h => h, hR⟩
    ·exact hR.elim
   ·exact hR.elim
  ·exact hR.elim
 | st a k =>
  simp only [kF] at hR ⊢
  split at hR
  ·split at hR
   ·exact ⟨_, _, fun _ h => ⟨hR.1, h⟩, hR.2⟩
   ·exact hR.elim
  ·exact hR.elim
 | pop a x =>
  simp only [kF] at hR ⊢
  split at hR
  ·split at hR
   ·split at hR
    ·exact ⟨_, _, fun _ h => ⟨hR.1, h⟩, hR.2⟩
    ·exact hR.elim
   ·exact hR.elim
  ·exact hR.elim
 | po a x =>
  simp only [kF] at hR ⊢
  split at hR
  ·split at hR
   ·split at hR
    ·exact ⟨_, _, fun _ h => ⟨hR.1, h⟩, hR.2⟩
    ·exact hR.elim
   ·exact hR.elim
  ·exact hR.elim
def Eff1 (P : Program) (o : AOp) (fr : Fr) (h : Hp) (a : AV) (h' : Hp) : Prop := eff P o fr h (fun x y => x = a ∧ y = h')
theorem eff_det {P : Program} {o : AOp} {R : AV → Hp → Prop} (hR : eff P o fr h R) : ∃ a h', Eff1 P o fr h a h' ∧ R a h' := by
 unfold Eff1
 cases o with
 | mvu e s x => simp only [eff] at hR ⊢; split at hR <;> first | exact ⟨_, _, ⟨hR.1, rfl, rfl⟩, hR.2⟩ | exact hR.elim
 | mvo k => simp only [eff] at hR ⊢; split at hR <;> first | exact ⟨_, _, ⟨rfl, rfl⟩, hR⟩ | exact hR.elim
 | new l u =>
  obtain ⟨x, h1, h2⟩ := upgK_det u l _ hR
  exact ⟨_, _, h1 _ ⟨rfl, rfl⟩, h2⟩
 | box x u =>
  simp only [eff] at hR ⊢
  split at hR
  ·obtain ⟨x, h1, h2⟩ := upgK_det u _ _ hR.2
   exact ⟨_, _, ⟨hR.1, h1 _ ⟨rfl, rfl⟩⟩, h2⟩
  ·exact hR.elim
 | bsl e s n t p =>
  obtain ⟨x, h1, h2⟩ := buildK_det p t _ hR
  exact ⟨_, _, h1 _ ⟨rfl, rfl⟩, h2⟩
 | bsh e s n t p => exact hR.elim
 | bar s t p => exact hR.elim
 | mmk => exact hR.elim
 | mup s k m x y => exact hR.elim
 | mfz k => exact hR.elim
 | mmv k => exact hR.elim
 | mra k => exact hR.elim
 | aph e s b x y => exact hR.elim
 | apc e s b z x y => exact hR.elim
 | cpy s x y =>
  simp only [eff] at hR ⊢
  split at hR
  ·split at hR
   ·exact ⟨_, _, ⟨hR.1, rfl, rfl⟩, hR.2⟩
   ·exact hR.elim
  ·exact hR.elim
 | mk0 e s b c => simp only [eff] at hR ⊢; split at hR <;> first | exact ⟨_, _, ⟨hR.1, rfl, rfl⟩, hR.2⟩ | exact hR.elim
 | mkn e s b z c => simp only [eff] at hR ⊢; split at hR <;> first | exact ⟨_, _, ⟨hR.1, rfl, rfl⟩, hR.2⟩ | exact hR.elim
 | loado x =>
  simp only [eff] at hR ⊢
  split at hR
  ·split at hR
   ·split at hR
    ·exact ⟨_, _, ⟨rfl, rfl⟩, hR⟩
    ·exact hR.elim
   ·exact hR.elim
  ·exact hR.elim
 | store n a x =>
  simp only [eff] at hR ⊢
  split at hR
  ·split at hR
   ·exact ⟨_, _, ⟨hR.1, rfl, rfl⟩, hR.2⟩
   ·exact hR.elim
  ·exact hR.elim
 | stores n a x =>
  simp only [eff] at hR ⊢
  split at hR
  ·split at hR
   ·exact ⟨_, _, ⟨hR.1, rfl, rfl⟩, hR.2⟩
   ·exact hR.elim
  ·exact hR.elim
 | storeo a k =>
  simp only [eff] at hR ⊢
  split at hR
  ·split at hR
   ·exact ⟨_, _, ⟨hR.1, rfl, rfl⟩, hR.2⟩
   ·exact hR.elim
  ·exact hR.elim
 | app e s b x y => simp only [eff] at hR ⊢; split at hR <;> first | exact ⟨_, _, ⟨hR.1, rfl, rfl⟩, hR.2⟩ | exact hR.elim
 | appo e s b k y => simp only [eff] at hR ⊢; split at hR <;> first | exact ⟨_, _, ⟨hR.1, rfl, rfl⟩, hR.2⟩ | exact hR.elim
 | appso e k y => simp only [eff] at hR ⊢; split at hR <;> first | exact ⟨_, _, ⟨hR.1, rfl, rfl⟩, hR.2⟩ | exact hR.elim
 | calli f l =>
  simp only [eff] at hR ⊢
  split at hR
  ·obtain ⟨v, hv, h1, h2, h3⟩ := hR
   exact ⟨v, hv, ⟨v, hv, h1, h2, rfl, rfl⟩, h3⟩
  ·exact hR.elim
 | call f l =>
  simp only [eff] at hR ⊢
  split at hR
  ·obtain ⟨v, h1, h2⟩ := hR
   exact ⟨v, h, ⟨v, h1, rfl, rfl⟩, h2⟩
  ·exact hR.elim
 | storeu n u a x => exact hR.elim
 | rngs x => exact hR.elim
 | nxt k => exact hR.elim
 | k o =>
  obtain ⟨a, h', h1, h2⟩ := kF_det hR
  exact ⟨a, h', h1 (fun x y => x = a ∧ y = h') ⟨rfl, rfl⟩, h2⟩
 | callr f l =>
  simp only [eff] at hR ⊢
  split at hR
  ·obtain ⟨v, h1, h2⟩ := hR
   exact ⟨v, h, ⟨v, h1, rfl, rfl⟩, h2⟩
  ·exact hR.elim
 | snil n x =>
  simp only [eff] at hR ⊢
  split at hR
  ·exact ⟨_, _, ⟨hR.1, rfl, rfl⟩, hR.2⟩
  ·exact ⟨_, _, ⟨rfl, rfl⟩, hR⟩
  ·exact ⟨_, _, ⟨rfl, rfl⟩, hR⟩
  ·exact hR.elim
 | _ =>
  simp only [eff] at hR ⊢
  obtain ⟨a, h1, h2⟩ := val_det _ _ hR
  exact ⟨a, h, h1 _ ⟨rfl, rfl⟩, h2⟩
def fbR : FB → List Nat
 | .s k => [k]
 | .h _ => []
def ftR : Option (FB × List Nat) → List Nat
 | none => []
 | some (b, ps) => fbR b ++ ps
theorem apart_congr {i : Option Nat} : ∀ {ps : List Nat}, Agree ps fr fr' → apart fr' i ps = apart fr i ps
 | [], _ => rfl
 | p :: r, ha => by
  have h1 : lk fr' p = lk fr p := ha p (by simp)
  have h2 : Agree r fr fr' := fun k hk => ha k (by simp [hk])
  simp only [apart, h1, apart_congr h2]
theorem fbId_congr {b : FB} (hb : Agree (fbR b) fr fr') : fbId b fr' h = fbId b fr h := by
 cases b with
 | s k => simp only [fbId, hb k (by simp [fbR])]
 | h k => rfl
theorem effF_congr {P : Program} {b : FB} {o : AOp} {R : AV → Hp → Prop} (ha : Agree (opR o) fr fr') (hb : fbId b fr' h = fbId b fr h) : effF P b o fr' h R = effF P b o fr h R := by
 cases o with
 | load s x => simp only [effF, eff_congr ha, hb, ev_congr (x := x) ha]
 | loado x => simp only [effF, eff_congr ha, hb, ev_congr (x := x) ha]
 | store n a x => simp only [effF, eff_congr ha, hb, ev_congr (x := a) ha.left]
 | stores n a x => simp only [effF, eff_congr ha, hb, ev_congr (x := a) ha.left]
 | storeo a k =>
  have h2 : Agree (opdR a) fr fr' := fun j hj => ha j (by simp [opR, hj])
  simp only [effF, eff_congr ha, hb, ev_congr h2]
 | calli f l => simp only [effF, ev_congr (x := f) ha.left, evs_congr (l := l) ha.right, hb]
 | new l u => simp only [effF, hb]
 | k o => cases o with
  | ld x => simp only [effF, kF_congr (o := .ld x) ha, hb, ev_congr (x := x) ha]
  | _ => rfl
 | box x u => simp only [effF, hb, ev_congr (x := x) ha]
 | mkn e s y z c => simp only [effF, hb, ev_congr (x := c) ha]
 | _ => rfl
theorem effA_congr {P : Program} {f : Option (FB × List Nat)} {o : AOp} {R : AV → Hp → Prop} (ha : Agree (opR o) fr fr') (hf : Agree (ftR f) fr fr') : effA P f o fr' h R = effA P f o fr h R := by
 cases f with
 | none => exact eff_congr ha
 | some q =>
  obtain ⟨b, ps⟩ := q
  have hb : fbId b fr' h = fbId b fr h := fbId_congr hf.left
  have hp : Agree ps fr fr' := hf.right
  simp only [effA, hb, apart_congr hp, effF_congr ha hb]
def Eff1A (P : Program) (f : Option (FB × List Nat)) (o : AOp) (fr : Fr) (h : Hp) (a : AV) (h' : Hp) : Prop := effA P f o fr h (fun x y => x = a ∧ y = h')
theorem effA_det {P : Program} {f : Option (FB × List Nat)} {o : AOp} {R : AV → Hp → Prop} (hR : effA P f o fr h R) : ∃ a h', Eff1A P f o fr h a h' ∧ R a h' := by
 cases f with
 | none => exact eff_det hR
 | some q =>
  obtain ⟨b, ps⟩ := q
  obtain ⟨h1, hR⟩ := hR
  have key : ∃ a h', effF P b o fr h (fun x y => x = a ∧ y = h') ∧ R a h' := by
   cases o with
   | load s x => obtain ⟨q, hR⟩ := hR; obtain ⟨a, h', e, r⟩ := eff_det hR; exact ⟨a, h', ⟨q, e⟩, r⟩
   | loado x => obtain ⟨q, hR⟩ := hR; obtain ⟨a, h', e, r⟩ := eff_det hR; exact ⟨a, h', ⟨q, e⟩, r⟩
   | store n a x => obtain ⟨q, hR⟩ := hR; obtain ⟨a, h', e, r⟩ := eff_det hR; exact ⟨a, h', ⟨q, e⟩, r⟩
   | stores n a x => obtain ⟨q, hR⟩ := hR; obtain ⟨a, h', e, r⟩ := eff_det hR; exact ⟨a, h', ⟨q, e⟩, r⟩
   | storeo a k => obtain ⟨q, hR⟩ := hR; obtain ⟨a, h', e, r⟩ := eff_det hR; exact ⟨a, h', ⟨q, e⟩, r⟩
   | k o => cases o with
    | ld x => obtain ⟨q, hR⟩ := hR; obtain ⟨a, h', e, r⟩ := kF_det hR; exact ⟨a, h', ⟨q, e _ ⟨rfl, rfl⟩⟩, r⟩
    | _ => exact hR.elim
   | calli f l =>
    simp only [effF] at hR ⊢
    split at hR
    ·obtain ⟨v, l0, l1, q1, q2, q3⟩ := hR
     exact ⟨v, _, ⟨v, l0, l1, q1, q2, rfl, rfl⟩, q3⟩
    ·exact hR.elim
   | new l u =>
    simp only [effF] at hR ⊢
    split at hR
    ·obtain ⟨q, hR⟩ := hR
     obtain ⟨x, e1, e2⟩ := upgK_det u l _ hR
     exact ⟨_, _, ⟨q, e1 _ ⟨rfl, rfl⟩⟩, e2⟩
    ·exact hR.elim
   | box x u =>
    simp only [effF] at hR ⊢
    split at hR
    ·obtain ⟨q, hR⟩ := hR
     obtain ⟨x, e1, e2⟩ := upgK_det u _ _ hR.2
     exact ⟨_, _, ⟨q, hR.1, e1 _ ⟨rfl, rfl⟩⟩, e2⟩
    ·exact hR.elim
   | mkn e s y z c =>
    simp only [effF] at hR ⊢
    split at hR
    ·exact ⟨_, _, ⟨hR.1, hR.2.1, rfl, rfl⟩, hR.2.2⟩
    ·exact hR.elim
   | _ => exact hR.elim
  obtain ⟨a, h', e, r⟩ := key
  exact ⟨a, h', ⟨h1, e⟩, r⟩
end
def isP : AOp → Bool
 | .load _ _ | .lds _ _ | .new _ _ | .box _ _ | .mkn _ _ _ _ _ | .loado _ | .store _ _ _ | .stores _ _ _ | .storeo _ _ | .storeu _ _ _ _ | .calli _ _ | .rngs _ | .nxt _ | .callr _ _ | .bsh _ _ _ _ _ | .bar _ _ _ | .mmk | .mup _ _ _ _ _ | .mfz _ | .mmv _ | .mra _ | .cpy _ _ _ | .aph _ _ _ _ _ | .apc _ _ _ _ _ _ => false
 | .k (.ld _) | .k (.st _ _) | .k (.pop _ _) | .k (.po _ _) | .k (.new _ _ _) => false
 | _ => true
def isR : AOp → Bool
 | .callr _ _ => true
 | _ => false
def isF : AOp → Bool
 | .loado _ => true
 | _ => false
def isA : AOp → Bool
 | .new _ _ | .box _ _ | .mkn _ _ _ _ _ => true
 | _ => false
def isL : AOp → Bool
 | .load _ _ | .lds _ _ => true
 | _ => false
def isS : AOp → Bool
 | .lds _ _ => true
 | _ => false
def isC : AOp → Bool
 | .calli _ _ => true
 | _ => false
def rd (s : AStm) : List Nat := opR s.op ++ (ftR s.ft ++ (s.gd.map (·.1)).toList)
def wr (s : AStm) : List Nat := s.dst.toList ++ opT s.op
def disj (a b : List Nat) : Bool := a.all fun k => !b.contains k
def isP' (s : AStm) : Bool := s.ft.isNone && isP s.op
def touch : Option (FB × List Nat) → Option (FB × List Nat) → Bool
 | some (.h k, _), some (.h k', _) => k != k'
 | some (.s k, ps), some (.s k', ps') => ps'.contains k || ps.contains k'
 | some (.s k, _), some (.h _, ps') => ps'.contains k
 | some (.h _, ps), some (.s k', _) => ps.contains k'
 | _, _ => false
def isO : AOp → Bool
 | .calli _ _ | .loado _ | .store _ _ _ | .storeo _ _ => true
 | _ => false
def isO' : AOp → Bool
 | .calli _ _ | .loado _ | .store _ _ _ | .storeo _ _ | .stores _ _ _ => true
 | _ => false
def commB (s t : AStm) : Bool := disj (wr s) (rd t) && disj (wr s) (wr t) && disj (wr t) (rd s) && (isP' s || isP' t || (isL s.op && isL t.op) || (isL s.op && isA t.op && s.ft.isNone && t.ft.isNone) || (isL s.op && isA t.op && t.ft.isSome) || (s.ft.isNone && isS s.op && isO' t.op) || (isO s.op && t.ft.isNone && isS t.op) || touch s.ft t.ft || ((isR s.op || isL s.op) && (isR t.op || isL t.op)) || (isF s.op && isR t.op) || (isR s.op && isF t.op))

section
variable {P : Program} {fr fr' : Fr} {h : Hp}

theorem kF_P {o : KOp} {a : AV} {h' : Hp} (hp : isP (.k o) = true) (he : kF o fr h (fun x y => x = a ∧ y = h')) : h' = h ∧ ∀ h2, kF o fr h2 (fun x y => x = a ∧ y = h2) := by
 cases o with
 | ld x => simp [isP] at hp
 | st a k => simp [isP] at hp
 | pop a x => simp [isP] at hp
 | po a x => simp [isP] at hp
 | new l u ks => simp [isP] at hp
 | mk e x => simp only [kF] at he ⊢; split at he <;> first | exact he.elim | exact ⟨he.2.symm, fun h2 => ⟨he.1, trivial⟩⟩ | exact ⟨he.2.symm, fun h2 => ⟨he.1, rfl⟩⟩
 | mv k => simp only [kF] at he ⊢; split at he <;> first | exact he.elim | exact ⟨he.2.symm, fun h2 => ⟨he.1, trivial⟩⟩ | exact ⟨he.2.symm, fun h2 => ⟨he.1, rfl⟩⟩
 | len x => simp only [kF] at he ⊢; split at he <;> first | exact he.elim | exact ⟨he.2.symm, fun h2 => ⟨he.1, trivial⟩⟩ | exact ⟨he.2.symm, fun h2 => ⟨he.1, rfl⟩⟩
 | ap e b k y => simp only [kF] at he ⊢; split at he <;> first | exact he.elim | exact ⟨he.2.2.symm, fun h2 => ⟨he.1, he.2.1, trivial⟩⟩ | exact ⟨he.2.2.symm, fun h2 => ⟨he.1, he.2.1, rfl⟩⟩
 | cut k y => simp only [kF] at he ⊢; split at he <;> first | exact he.elim | exact ⟨he.2.2.symm, fun h2 => ⟨he.1, he.2.1, trivial⟩⟩ | exact ⟨he.2.2.symm, fun h2 => ⟨he.1, he.2.1, rfl⟩⟩
 | pk k y => simp only [kF] at he ⊢; split at he <;> first | exact he.elim | exact ⟨he.2.2.symm, fun h2 => ⟨he.1, he.2.1, trivial⟩⟩ | exact ⟨he.2.2.symm, fun h2 => ⟨he.1, he.2.1, rfl⟩⟩
 | sl y x => simp only [kF] at he ⊢; split at he <;> first | exact he.elim | exact ⟨he.2.2.symm, fun h2 => ⟨he.1, he.2.1, trivial⟩⟩ | exact ⟨he.2.2.symm, fun h2 => ⟨he.1, he.2.1, rfl⟩⟩
 | ix y x => simp only [kF] at he ⊢; split at he <;> first | exact he.elim | exact ⟨he.2.2.symm, fun h2 => ⟨he.1, he.2.1, trivial⟩⟩ | exact ⟨he.2.2.symm, fun h2 => ⟨he.1, he.2.1, rfl⟩⟩
theorem eff1_P {o : AOp} {a : AV} {h' : Hp} (hp : isP o = true) (he : Eff1 P o fr h a h') : h' = h ∧ ∀ h2, Eff1 P o fr h2 a h2 := by
 unfold Eff1 at *
 cases o with
 | call f l =>
  simp only [eff] at he ⊢
  split at he
  ·obtain ⟨v, h1, rfl, rfl⟩ := he
   exact ⟨rfl, fun h2 => ⟨_, h1, rfl, trivial⟩⟩
  ·exact he.elim
 | load s x => simp [isP] at hp
 | lds s x => simp [isP] at hp
 | stores n a x => simp [isP] at hp
 | cpy s x y => simp [isP] at hp
 | calli f l => simp [isP] at hp
 | callr f l => simp [isP] at hp
 | k o => exact kF_P hp he
 | snil n x =>
  simp only [eff] at he ⊢
  split at he
  ·obtain ⟨hn, rfl, rfl⟩ := he; exact ⟨rfl, fun h2 => ⟨hn, rfl, trivial⟩⟩
  ·obtain ⟨rfl, rfl⟩ := he; exact ⟨rfl, fun h2 => ⟨rfl, trivial⟩⟩
  ·obtain ⟨rfl, rfl⟩ := he; exact ⟨rfl, fun h2 => ⟨rfl, trivial⟩⟩
  ·exact he.elim
 | mvu e s x => simp only [eff] at he ⊢; split at he <;> first | exact he.elim | exact ⟨he.2.2.symm, fun h2 => ⟨he.1, he.2.1, trivial⟩⟩
 | mvo k => simp only [eff] at he ⊢; split at he <;> first | exact he.elim | exact ⟨he.2.symm, fun h2 => ⟨he.1, trivial⟩⟩
 | bsl e s n t p =>
  obtain ⟨x, h1, h2⟩ := buildK_det p t _ he
  exact ⟨h2.2.symm, fun h3 => h1 (krow e n h3 fun x y => x = a ∧ y = h3) ⟨h2.1, rfl⟩⟩
 | bsh e s n t p => exact he.elim
 | bar s t p => exact he.elim
 | mmk => exact he.elim
 | mup s k m x y => exact he.elim
 | mfz k => exact he.elim
 | mmv k => exact he.elim
 | mra k => exact he.elim
 | aph e s b x y => exact he.elim
 | apc e s b z x y => exact he.elim
 | mk0 e s b c => simp only [eff] at he ⊢; split at he <;> first | exact he.elim | exact ⟨he.2.2.symm, fun h2 => ⟨he.1, he.2.1, trivial⟩⟩
 | app e s b x y => simp only [eff] at he ⊢; split at he <;> first | exact he.elim | exact ⟨he.2.2.symm, fun h2 => ⟨he.1, he.2.1, trivial⟩⟩
 | appo e s b k y => simp only [eff] at he ⊢; split at he <;> first | exact he.elim | exact ⟨he.2.2.symm, fun h2 => ⟨he.1, he.2.1, trivial⟩⟩
 | appso e k y => simp only [eff] at he ⊢; split at he <;> first | exact he.elim | exact ⟨he.2.2.symm, fun h2 => ⟨he.1, he.2.1, trivial⟩⟩
 | new l u => simp [isP] at hp
 | box x u => simp [isP] at hp
 | mkn e s b z c => simp [isP] at hp
 | loado x => simp [isP] at hp
 | store n a x => simp [isP] at hp
 | storeo a k => simp [isP] at hp
 | storeu n u a x => simp [isP] at hp
 | rngs x => simp [isP] at hp
 | nxt k => simp [isP] at hp
 | _ =>
  simp only [eff] at he ⊢
  obtain ⟨b, h1, h2⟩ := val_det _ _ he
  obtain ⟨rfl, rfl⟩ := h2
  exact ⟨rfl, fun h2 => h1 (kv h2 fun x y => x = b ∧ y = h2) ⟨rfl, rfl⟩⟩
theorem eff1_L {o : AOp} {a : AV} {h' : Hp} (hp : isL o = true) (he : Eff1 P o fr h a h') : h' = h := by
 unfold Eff1 at *
 cases o with
 | load s x =>
  simp only [eff] at he
  obtain ⟨b, h1, h2⟩ := val_det _ _ he
  exact h2.2.symm
 | lds s x =>
  simp only [eff] at he
  obtain ⟨b, h1, h2⟩ := val_det _ _ he
  exact h2.2.symm
 | _ => simp [isL] at hp

theorem eff1_A {o : AOp} {a : AV} {h' : Hp} (hp : isA o = true) (he : Eff1 P o fr h a h') : ∃ x, h' = h ++ [x] := by
 unfold Eff1 at *
 cases o with
 | new l u =>
  obtain ⟨x, h1, h2⟩ := upgK_det u l _ he
  exact ⟨_, h2.2.symm⟩
 | box x u =>
  simp only [eff] at he
  split at he
  ·obtain ⟨x, h1, h2⟩ := upgK_det u _ _ he.2
   exact ⟨_, h2.2.symm⟩
  ·exact he.elim
 | mkn e s b z c =>
  simp only [eff] at he
  split at he <;> first | exact he.elim | exact ⟨_, he.2.2.symm⟩
 | _ => simp [isA] at hp
theorem eff1_LA {o : AOp} {a : AV} (hp : isL o = true) (he : Eff1 P o fr h a h) (x : Option (Bool × List AV)) : Eff1 P o fr (h ++ [x]) a (h ++ [x]) := by
 unfold Eff1 at *
 cases o with
 | load s y =>
  simp only [eff, val] at he ⊢
  split at he
  ·split at he
   ·next id off hev s' l hl =>
    have hlt := (List.getElem?_eq_some_iff.1 hl).1
    rw [List.getElem?_append_left hlt, hl]
    obtain ⟨b, h1, h2⟩ := loadK_det _ _ _ he
    exact h1 _ ⟨h2.1, rfl⟩
   ·exact he.elim
  ·obtain ⟨b, h1, h2⟩ := loadK_det _ _ _ he
   exact h1 _ ⟨h2.1, rfl⟩
  ·exact he.elim
 | lds s y =>
  simp only [eff, val] at he ⊢
  split at he
  ·split at he
   ·next id off hev l hl =>
    have hlt := (List.getElem?_eq_some_iff.1 hl).1
    rw [List.getElem?_append_left hlt, hl]
    obtain ⟨b, h1, h2⟩ := loadK_det _ _ _ he
    exact h1 _ ⟨h2.1, rfl⟩
   ·exact he.elim
  ·obtain ⟨b, h1, h2⟩ := loadK_det _ _ _ he
   exact h1 _ ⟨h2.1, rfl⟩
  ·exact he.elim
 | _ => simp [isL] at hp
def SealLe (h h' : Hp) : Prop := ∀ (id : Nat) (l : List AV), h[id]? = some (some (true, l)) → h'[id]? = some (some (true, l))
theorem eff1_S {o : AOp} {a : AV} (hp : isS o = true) (he : Eff1 P o fr h a h) {h2 : Hp} (hq : SealLe h h2) : Eff1 P o fr h2 a h2 := by
 unfold Eff1 at *
 cases o with
 | lds s y =>
  simp only [eff, val] at he ⊢
  split at he
  ·split at he
   ·next id off hev l hl =>
    rw [hq _ _ hl]
    obtain ⟨b, h1, h2⟩ := loadK_det _ _ _ he
    exact h1 _ ⟨h2.1, rfl⟩
   ·exact he.elim
  ·obtain ⟨b, h1, h2⟩ := loadK_det _ _ _ he
   exact h1 _ ⟨h2.1, rfl⟩
  ·exact he.elim
 | _ => simp [isS] at hp
theorem effA_eff {f : Option (FB × List Nat)} {o : AOp} {a : AV} {h' : Hp} (hc : isC o = false) (ha : isA o = false) (he : Eff1A P f o fr h a h') : Eff1 P o fr h a h' := by
 cases f with
 | none => exact he
 | some q =>
  obtain ⟨b, ps⟩ := q
  obtain ⟨_, he⟩ := he
  cases o with
  | calli f l => simp [isC] at hc
  | new l u => simp [isA] at ha
  | box x u => simp [isA] at ha
  | mkn e s y z c => simp [isA] at ha
  | load s x => exact he.2
  | loado x => exact he.2
  | store n a x => exact he.2
  | stores n a x => exact he.2
  | storeo a k => exact he.2
  | k o => cases o with
   | ld x => exact he.2
   | _ => exact he.elim
  | _ => exact he.elim
theorem isL_C {o : AOp} (h : isL o = true) : isC o = false ∧ isA o = false := by cases o <;> first | exact ⟨rfl, rfl⟩ | cases h
theorem sealEq_set {id : Nat} {l0 l1 : List AV} (hl : h[id]? = some (some (false, l0))) : SealEq h (h.set id (some (false, l1))) := fun j l => by
 rw [List.getElem?_set]
 split
 ·next e =>
  subst e
  rw [hl]
  split
  ·simp
  ·simp
 ·exact .rfl
theorem sealLe_set {id : Nat} {l0 : List AV} {x : Option (Bool × List AV)} (hl : h[id]? = some (some (false, l0))) : SealLe h (h.set id x) := fun j l hj => by
 rw [List.getElem?_set]
 split
 ·next e => subst e; rw [hl] at hj; simp at hj
 ·exact hj
theorem sealEq_le {h2 : Hp} (hq : SealEq h h2) : SealLe h h2 := fun i l => (hq i l).1
theorem eff1_O {o : AOp} {a : AV} {h' : Hp} (hp : isO o = true) (he : Eff1 P o fr h a h') : SealEq h h' := by
 unfold Eff1 at *
 cases o with
 | calli f l =>
  simp only [eff] at he
  split at he
  ·obtain ⟨v, hv, _, h1, rfl, rfl⟩ := he
   exact h1
  ·exact he.elim
 | loado x =>
  simp only [eff] at he
  split at he
  ·split at he
   ·next hl =>
    split at he
    ·obtain ⟨rfl, rfl⟩ := he; exact sealEq_set hl
    ·exact he.elim
   ·exact he.elim
  ·exact he.elim
 | store n a x =>
  simp only [eff] at he
  split at he
  ·split at he
   ·next hl => obtain ⟨_, rfl, rfl⟩ := he; exact sealEq_set hl
   ·exact he.elim
  ·exact he.elim
 | storeo a k =>
  simp only [eff] at he
  split at he
  ·split at he
   ·next hl => obtain ⟨_, rfl, rfl⟩ := he; exact sealEq_set hl
   ·exact he.elim
  ·exact he.elim
 | _ => simp [isO] at hp
theorem eff1A_O {f : Option (FB × List Nat)} {o : AOp} {a : AV} {h' : Hp} (hp : isO o = true) (he : Eff1A P f o fr h a h') : SealEq h h' := by
 cases f with
 | none => exact eff1_O hp he
 | some q =>
  obtain ⟨b, ps⟩ := q
  obtain ⟨_, he⟩ := he
  cases o with
  | calli f l =>
   simp only [effF] at he
   split at he
   ·obtain ⟨v, l0, l1, q1, q2, rfl, rfl⟩ := he
    exact sealEq_set q1
   ·exact he.elim
  | loado x => exact eff1_O hp he.2
  | store n a x => exact eff1_O hp he.2
  | storeo a k => exact eff1_O hp he.2
  | _ => simp [isO] at hp
theorem eff1A_O' {f : Option (FB × List Nat)} {o : AOp} {a : AV} {h' : Hp} (hp : isO' o = true) (he : Eff1A P f o fr h a h') : SealLe h h' := by
 cases o with
 | stores n a x =>
  have he := effA_eff rfl rfl he
  unfold Eff1 at he
  simp only [eff] at he
  split at he
  ·split at he
   ·next hl => obtain ⟨_, rfl, rfl⟩ := he; exact sealLe_set hl
   ·exact he.elim
  ·exact he.elim
 | calli f l => exact sealEq_le (eff1A_O rfl he)
 | loado x => exact sealEq_le (eff1A_O rfl he)
 | store n a x => exact sealEq_le (eff1A_O rfl he)
 | storeo a k => exact sealEq_le (eff1A_O rfl he)
 | _ => simp [isO'] at hp
theorem apart_mem {i : Option Nat} {p : Nat} : ∀ {ps : List Nat}, apart fr i ps → p ∈ ps → ∃ a b, i = some a ∧ ptrId (lk fr p) = some b ∧ a ≠ b
 | [], _, hm => by simp at hm
 | q :: r, hq, hm => by
  obtain ⟨h1, h2⟩ := hq
  rcases List.mem_cons.1 hm with rfl | hm
  ·split at h1
   ·next a b e => exact ⟨_, _, rfl, e, h1⟩
   ·exact h1.elim
  ·exact apart_mem h2 hm
theorem set_same {id : Nat} {o : Option (Bool × List AV)} (hl : h[id]? = some o) : h.set id o = h := by
 apply List.ext_getElem?
 intro j
 rw [List.getElem?_set]
 split
 ·next e =>
  subst e
  have := (List.getElem?_eq_some_iff.1 hl).1
  rw [if_pos this, hl]
 ·rfl
theorem sameId_of {x : Option AV} {y : Option Nat} {i : Nat} (hx : ptrId x = some i) (hs : sameId x y) : y = some i := by
 unfold sameId at hs
 rw [hx] at hs
 split at hs
 ·next e => simp only [Option.some.injEq] at e; subst e; rw [hs]
 ·exact hs.elim
theorem fbId_len {b : FB} {h0 : Hp} (hl : h0.length = h.length) : fbId b fr h0 = fbId b fr h := by
 cases b with
 | s k => rfl
 | h k => simp only [fbId, hl]
theorem eff1A_T {b : FB} {ps : List Nat} {o : AOp} {a : AV} {h' : Hp} (he : Eff1A P (some (b, ps)) o fr h a h') :
  apart fr (fbId b fr h) ps ∧ ∃ id x0 x1, fbId b fr h = some id ∧ h[id]? = some x0 ∧ h' = h.set id x1 ∧ ∀ h0 : Hp, h0.length = h.length → h0[id]? = some x0 → Eff1A P (some (b, ps)) o fr h0 a (h0.set id x1) := by
 obtain ⟨h1, he⟩ := he
 refine ⟨h1, ?_⟩
 have ap : ∀ {h0 : Hp}, h0.length = h.length → apart fr (fbId b fr h0) ps := fun hl => by rw [fbId_len hl]; exact h1
 cases o with
 | calli f l =>
  simp only [effF] at he
  split at he
  ·next q1' q2' q3' =>
   obtain ⟨v, l0, l1, q1, q2, rfl, rfl⟩ := he
   refine ⟨_, _, _, q3', q1, rfl, fun h0 hh hi => ⟨ap hh, ?_⟩⟩
   simp only [effF, q1', q2', fbId_len hh, q3']
   exact ⟨_, l0, l1, hi, q2, rfl, rfl⟩
  ·exact he.elim
 | load s x =>
  obtain ⟨hid, he⟩ := he
  have hid0 := hid
  simp only [eff, val] at he
  split at he
  ·next id off hev =>
   split at he
   ·next c l hl =>
    obtain ⟨r, e1, e2⟩ := loadK_det _ _ _ he
    obtain ⟨rfl, rfl⟩ := e2
    refine ⟨id, _, _, sameId_of (by rw [hev]; rfl) hid, hl, (set_same hl).symm, fun h0 hh hi => ⟨ap hh, by rw [fbId_len hh]; exact hid0, ?_⟩⟩
    simp only [eff, val, hev, hi]
    exact e1 _ ⟨rfl, (set_same hi).symm⟩
   ·exact he.elim
  ·next hev => rw [hev] at hid; exact hid.elim
  ·exact he.elim
 | loado x =>
  obtain ⟨hid, he⟩ := he
  have hid0 := hid
  simp only [eff] at he
  split at he
  ·next id off hev =>
   split at he
   ·next l hl =>
    split at he
    ·next e n c hc =>
     obtain ⟨rfl, rfl⟩ := he
     refine ⟨id, _, _, sameId_of (by rw [hev]; rfl) hid, hl, rfl, fun h0 hh hi => ⟨ap hh, by rw [fbId_len hh]; exact hid0, ?_⟩⟩
     simp only [eff, hev, hi, hc]
     first | exact ⟨rfl, rfl⟩ | exact ⟨trivial, trivial⟩
    ·exact he.elim
   ·exact he.elim
  ·exact he.elim
 | store n a x =>
  obtain ⟨hid, he⟩ := he
  have hid0 := hid
  simp only [eff] at he
  split at he
  ·next id off v hev hev' =>
   split at he
   ·next l hl =>
    obtain ⟨hc, rfl, rfl⟩ := he
    refine ⟨id, _, _, sameId_of (by rw [hev]; rfl) hid, hl, rfl, fun h0 hh hi => ⟨ap hh, by rw [fbId_len hh]; exact hid0, ?_⟩⟩
    simp only [eff, hev, hev', hi]
    first | exact ⟨hc, rfl, rfl⟩ | exact ⟨hc, trivial, trivial⟩
   ·exact he.elim
  ·exact he.elim
 | stores n a x =>
  obtain ⟨hid, he⟩ := he
  have hid0 := hid
  simp only [eff] at he
  split at he
  ·next id off v hev hev' =>
   split at he
   ·next l hl =>
    obtain ⟨hc, rfl, rfl⟩ := he
    refine ⟨id, _, _, sameId_of (by rw [hev]; rfl) hid, hl, rfl, fun h0 hh hi => ⟨ap hh, by rw [fbId_len hh]; exact hid0, ?_⟩⟩
    simp only [eff, hev, hev', hi]
    first | exact ⟨hc, rfl, rfl⟩ | exact ⟨hc, trivial, trivial⟩
   ·exact he.elim
  ·exact he.elim
 | storeo a k =>
  obtain ⟨hid, he⟩ := he
  have hid0 := hid
  simp only [eff] at he
  split at he
  ·next id off e n c hev hev' =>
   split at he
   ·next l hl =>
    obtain ⟨hc, rfl, rfl⟩ := he
    refine ⟨id, _, _, sameId_of (by rw [hev]; rfl) hid, hl, rfl, fun h0 hh hi => ⟨ap hh, by rw [fbId_len hh]; exact hid0, ?_⟩⟩
    simp only [eff, hev, hev', hi]
    first | exact ⟨hc, rfl, rfl⟩ | exact ⟨hc, trivial, trivial⟩
   ·exact he.elim
  ·exact he.elim
 | k o => cases o with
  | ld x =>
   obtain ⟨hid, he⟩ := he
   have hid0 := hid
   simp only [kF] at he
   split at he
   ·next id off hev =>
    split at he
    ·next l hl =>
     split at he
     ·next e u c hc =>
      obtain ⟨rfl, rfl⟩ := he
      refine ⟨id, _, _, sameId_of (by rw [hev]; rfl) hid, hl, rfl, fun h0 hh hi => ⟨ap hh, by rw [fbId_len hh]; exact hid0, ?_⟩⟩
      simp only [kF, hev, hi, hc]
      first | exact ⟨rfl, rfl⟩ | exact ⟨trivial, trivial⟩
     ·exact he.elim
    ·exact he.elim
   ·exact he.elim
  | _ => exact he.elim
 | new l u =>
  simp only [effF] at he
  split at he
  ·next id hb =>
   obtain ⟨hn, he⟩ := he
   obtain ⟨x, e1, e2⟩ := upgK_det u l _ he
   obtain ⟨rfl, rfl⟩ := e2
   refine ⟨id, _, _, hb, hn, rfl, fun h0 hh hi => ⟨ap hh, ?_⟩⟩
   simp only [effF, fbId_len hh, hb]
   exact ⟨hi, e1 _ (by simp)⟩
  ·exact he.elim
 | box y u =>
  simp only [effF] at he
  split at he
  ·next id v hb hv =>
   obtain ⟨hn, ht, he⟩ := he
   obtain ⟨x, e1, e2⟩ := upgK_det u _ _ he
   obtain ⟨rfl, rfl⟩ := e2
   refine ⟨id, _, _, hb, hn, rfl, fun h0 hh hi => ⟨ap hh, ?_⟩⟩
   simp only [effF, fbId_len hh, hb, hv]
   exact ⟨hi, ht, e1 _ (by simp)⟩
  ·exact he.elim
 | mkn e s y z c =>
  simp only [effF] at he
  split at he
  ·next id k n hb hv =>
   obtain ⟨hn, ht, rfl, rfl⟩ := he
   refine ⟨id, _, _, hb, hn, rfl, fun h0 hh hi => ⟨ap hh, ?_⟩⟩
   simp only [effF, fbId_len hh, hb, hv]
   exact ⟨hi, ht, by simp⟩
  ·exact he.elim
 | _ => exact he.elim
theorem eff1A_H {f : FB × List Nat} {o : AOp} {a : AV} {h' : Hp} (hp : isA o = true) (he : Eff1A P (some f) o fr h a h') : ∃ id x, h[id]? = some none ∧ h' = h.set id x := by
 obtain ⟨b, ps⟩ := f
 obtain ⟨_, he⟩ := he
 cases o with
 | new l u =>
  simp only [effF] at he
  split at he
  ·obtain ⟨hn, he⟩ := he
   obtain ⟨x, e1, e2⟩ := upgK_det u l _ he
   exact ⟨_, _, hn, e2.2.symm⟩
  ·exact he.elim
 | box y u =>
  simp only [effF] at he
  split at he
  ·obtain ⟨hn, ht, he⟩ := he
   obtain ⟨x, e1, e2⟩ := upgK_det u _ _ he
   exact ⟨_, _, hn, e2.2.symm⟩
  ·exact he.elim
 | mkn e s y z c =>
  simp only [effF] at he
  split at he
  ·obtain ⟨hn, ht, _, e2⟩ := he
   exact ⟨_, _, hn, e2.symm⟩
  ·exact he.elim
 | _ => simp [isA] at hp
theorem eff1_LH {o : AOp} {a : AV} (hp : isL o = true) (he : Eff1 P o fr h a h) {id : Nat} {x : Option (Bool × List AV)} (hn : h[id]? = some none) : Eff1 P o fr (h.set id x) a (h.set id x) := by
 unfold Eff1 at *
 have key : ∀ (i : Nat) (y : Bool × List AV), h[i]? = some (some y) → (h.set id x)[i]? = some (some y) := fun i y hi => by
  rw [List.getElem?_set_ne (fun e => by rw [e, hi] at hn; simp at hn)]; exact hi
 cases o with
 | load s y =>
  simp only [eff, val] at he ⊢
  split at he
  ·split at he
   ·next id' off hev s' l hl =>
    rw [key _ _ hl]
    obtain ⟨b, h1, h2⟩ := loadK_det _ _ _ he
    exact h1 _ ⟨h2.1, rfl⟩
   ·exact he.elim
  ·obtain ⟨b, h1, h2⟩ := loadK_det _ _ _ he
   exact h1 _ ⟨h2.1, rfl⟩
  ·exact he.elim
 | lds s y =>
  simp only [eff, val] at he ⊢
  split at he
  ·split at he
   ·next id' off hev l hl =>
    rw [key _ _ hl]
    obtain ⟨b, h1, h2⟩ := loadK_det _ _ _ he
    exact h1 _ ⟨h2.1, rfl⟩
   ·exact he.elim
  ·obtain ⟨b, h1, h2⟩ := loadK_det _ _ _ he
   exact h1 _ ⟨h2.1, rfl⟩
  ·exact he.elim
 | _ => simp [isL] at hp
theorem eff1A_LH {f : Option (FB × List Nat)} {o : AOp} {a : AV} (hp : isL o = true) (he : Eff1A P f o fr h a h) {id : Nat} {x : Option (Bool × List AV)} (hn : h[id]? = some none) : Eff1A P f o fr (h.set id x) a (h.set id x) := by
 cases f with
 | none => exact eff1_LH hp he hn
 | some q =>
  obtain ⟨b, ps⟩ := q
  obtain ⟨h1, he⟩ := he
  have hl : (h.set id x).length = h.length := List.length_set
  refine ⟨by rw [fbId_len hl]; exact h1, ?_⟩
  cases o with
  | load s y => exact ⟨by rw [fbId_len hl]; exact he.1, eff1_LH hp he.2 hn⟩
  | lds s y => exact he.elim
  | _ => simp [isL] at hp

inductive VStep (P : Program) (s : AStm) (fr : Fr) (h : Hp) : Fr → Hp → Prop where
  | run (a : AV) (h' : Hp) : (s.gd = none ∨ ∃ q want, s.gd = some (q, want) ∧ lk fr q = some (.bool want)) → Eff1A P s.ft s.op fr h a h' → VStep P s fr h (put s.dst a (tk s.op fr)) h'
  | skip : (∃ q want, s.gd = some (q, want) ∧ (lk fr q = some (.bool (!want)) ∨ lk fr q = some (.tup []))) → VStep P s fr h (put s.dst (.tup []) fr) h

theorem lk_put (d : Option Nat) (a : AV) (fr : Fr) (k : Nat) : lk (put d a fr) k = if d = some k then some a else lk fr k := by
 cases d with
 | none => simp [put]
 | some j => simp only [put, lk_cons, Option.some.injEq]
theorem lk_tk (o : AOp) (fr : Fr) (k : Nat) : lk (tk o fr) k = if k ∈ opT o then (lk fr k).map deg else lk fr k := by
 cases o with
 | k o => cases o <;> simp only [tk, ktk, opT, kT, List.mem_singleton, List.not_mem_nil, if_false, lk_degr]
 | _ => simp only [tk, opT, List.mem_singleton, List.not_mem_nil, if_false, lk_degr]
theorem opT_R {o : AOp} {k : Nat} (h : k ∈ opT o) : k ∈ opR o := by
 cases o with
 | k o => cases o <;> simp_all [opT, opR, kT, kR]
 | _ => simp_all [opT, opR]
theorem vstep_foot {s : AStm} {fr1 : Fr} {h1 : Hp} (hv : VStep P s fr h fr1 h1) : (∀ k, k ∉ wr s → lk fr1 k = lk fr k) ∧
  ∀ fr', Agree (rd s) fr fr' → ∃ fr1', VStep P s fr' h fr1' h1 ∧ (∀ k, k ∈ wr s → lk fr1' k = lk fr1 k) ∧ (∀ k, k ∉ wr s → lk fr1' k = lk fr' k) := by
 have hgd : ∀ {fr' : Fr}, Agree (rd s) fr fr' → ∀ q want, s.gd = some (q, want) → lk fr' q = lk fr q := fun ha q want hq => ha q (by simp [rd, hq])
 cases hv with
 | run a h' hg he =>
  refine ⟨fun k hk => ?_, fun fr' ha => ⟨put s.dst a (tk s.op fr'), .run a _ ?_ ?_, fun k hk => ?_, fun k hk => ?_⟩⟩
  ·simp only [wr, List.mem_append, not_or, Option.mem_toList] at hk
   rw [lk_put, if_neg hk.1, lk_tk, if_neg hk.2]
  ·rcases hg with hg | ⟨q, want, hq, hl⟩
   ·exact .inl hg
   ·exact .inr ⟨q, want, hq, by rw [hgd ha q want hq]; exact hl⟩
  ·unfold Eff1A; rw [effA_congr ha.left ha.right.left]; exact he
  ·rw [lk_put, lk_put]
   split
   ·rfl
   ·next hne =>
    simp only [wr, List.mem_append, Option.mem_toList] at hk
    have hk' := hk.resolve_left hne
    rw [lk_tk, lk_tk, if_pos hk', if_pos hk', ha k (by simp [rd, opT_R hk'])]
  ·simp only [wr, List.mem_append, not_or, Option.mem_toList] at hk
   rw [lk_put, if_neg hk.1, lk_tk, if_neg hk.2]
 | skip hg =>
  refine ⟨fun k hk => ?_, fun fr' ha => ⟨put s.dst (.tup []) fr', .skip ?_, fun k hk => ?_, fun k hk => ?_⟩⟩
  ·simp only [wr, List.mem_append, not_or, Option.mem_toList] at hk
   rw [lk_put, if_neg hk.1]
  ·obtain ⟨q, want, hq, hl⟩ := hg
   exact ⟨q, want, hq, by rw [hgd ha q want hq]; exact hl⟩
  ·rw [lk_put, lk_put]
   split
   ·rfl
   ·next hne =>
    simp only [wr, List.mem_append, Option.mem_toList] at hk
    have hk' := hk.resolve_left hne
    exact ha k (by simp [rd, opT_R hk'])
  ·simp only [wr, List.mem_append, not_or, Option.mem_toList] at hk
   rw [lk_put, if_neg hk.1]
theorem isP_ft {s : AStm} (hp : isP' s = true) : s.ft = none ∧ isP s.op = true := by
 simp only [isP', Bool.and_eq_true, Option.isNone_iff_eq_none] at hp
 exact hp
theorem vstep_P {s : AStm} {fr1 : Fr} {h1 : Hp} (hp : isP' s = true) (hv : VStep P s fr h fr1 h1) : h1 = h ∧ ∀ h2, VStep P s fr h2 fr1 h2 := by
 cases hv with
 | run a h' hg he =>
  obtain ⟨hn, hp⟩ := isP_ft hp
  rw [hn] at he
  obtain ⟨rfl, q⟩ := eff1_P hp he
  exact ⟨rfl, fun h2 => .run a h2 hg (by rw [hn]; exact q h2)⟩
 | skip hg => exact ⟨rfl, fun h2 => .skip hg⟩
theorem vstep_L {s : AStm} {fr1 : Fr} {h1 : Hp} (hp : isL s.op = true) (hv : VStep P s fr h fr1 h1) : h1 = h := by
 cases hv with
 | run a h' hg he => exact eff1_L hp (effA_eff (isL_C hp).1 (isL_C hp).2 he)
 | skip hg => rfl

theorem vstep_A {s : AStm} {fr1 : Fr} {h1 : Hp} (hn : s.ft = none) (hp : isA s.op = true) (hv : VStep P s fr h fr1 h1) : h1 = h ∨ ∃ x, h1 = h ++ [x] := by
 cases hv with
 | run a h' hg he => rw [hn] at he; exact .inr (eff1_A hp he)
 | skip hg => exact .inl rfl
theorem vstep_LA {s : AStm} {fr1 : Fr} (hn : s.ft = none) (hp : isL s.op = true) (hv : VStep P s fr h fr1 h) (x : Option (Bool × List AV)) : VStep P s fr (h ++ [x]) fr1 (h ++ [x]) := by
 cases hv with
 | run a h' hg he => exact .run a _ hg (by rw [hn] at he ⊢; exact eff1_LA hp he x)
 | skip hg => exact .skip hg
theorem vstep_H {s : AStm} {fr1 : Fr} {h1 : Hp} (hn : s.ft.isSome = true) (hp : isA s.op = true) (hv : VStep P s fr h fr1 h1) : h1 = h ∨ ∃ id x, h[id]? = some none ∧ h1 = h.set id x := by
 cases hv with
 | run a h' hg he =>
  cases hf : s.ft with
  | none => rw [hf] at hn; cases hn
  | some f => rw [hf] at he; exact .inr (eff1A_H hp he)
 | skip hg => exact .inl rfl
theorem vstep_LH {s : AStm} {fr1 : Fr} (hp : isL s.op = true) (hv : VStep P s fr h fr1 h) {id : Nat} {x : Option (Bool × List AV)} (hn : h[id]? = some none) : VStep P s fr (h.set id x) fr1 (h.set id x) := by
 cases hv with
 | run a h' hg he => exact .run a _ hg (eff1A_LH hp he hn)
 | skip hg => exact .skip hg
theorem SealEq.refl (h : Hp) : SealEq h h := fun _ _ => .rfl
theorem SealEq.symm {h h2 : Hp} (hq : SealEq h h2) : SealEq h2 h := fun i l => (hq i l).symm
theorem vstep_S {s : AStm} {fr1 : Fr} (hn : s.ft = none) (hp : isS s.op = true) (hv : VStep P s fr h fr1 h) {h2 : Hp} (hq : SealLe h h2) : VStep P s fr h2 fr1 h2 := by
 cases hv with
 | run a h' hg he => exact .run a _ hg (by rw [hn] at he ⊢; exact eff1_S hp he hq)
 | skip hg => exact .skip hg
theorem vstep_O {s : AStm} {fr1 : Fr} {h1 : Hp} (hp : isO s.op = true) (hv : VStep P s fr h fr1 h1) : SealEq h h1 := by
 cases hv with
 | run a h' hg he => exact eff1A_O hp he
 | skip hg => exact .refl _
theorem vstep_O' {s : AStm} {fr1 : Fr} {h1 : Hp} (hp : isO' s.op = true) (hv : VStep P s fr h fr1 h1) : SealLe h h1 := by
 cases hv with
 | run a h' hg he => exact eff1A_O' hp he
 | skip hg => exact sealEq_le (.refl _)
theorem vstep_T {s : AStm} {fr1 : Fr} {h1 : Hp} {b : FB} {ps : List Nat} (hf : s.ft = some (b, ps)) (hv : VStep P s fr h fr1 h1) : (h1 = h ∧ ∀ h2, VStep P s fr h2 fr1 h2) ∨
  (apart fr (fbId b fr h) ps ∧ ∃ id x0 x1, fbId b fr h = some id ∧ h[id]? = some x0 ∧ h1 = h.set id x1 ∧ ∀ h0 : Hp, h0.length = h.length → h0[id]? = some x0 → VStep P s fr h0 fr1 (h0.set id x1)) := by
 cases hv with
 | run a h' hg he =>
  rw [hf] at he
  obtain ⟨q1, id, o0, o1, q2, q3, q4, q5⟩ := eff1A_T he
  exact .inr ⟨q1, id, o0, o1, q2, q3, q4, fun h0 hl hh => .run a _ hg (by rw [hf]; exact q5 h0 hl hh)⟩
 | skip hg => exact .inl ⟨rfl, fun h2 => .skip hg⟩
theorem SameU.refl (h : Hp) : SameU h h := rfl
theorem unfO_set {id off : Nat} {l : List AV} {e : TypeId} {n : Nat} {c : List AV} (hl : h[id]? = some (some (false, l))) (ha : l[off]? = some (.lst (.own e) n c)) : SameU (h.set id (some (false, l.set off (.lst .ro n c)))) h := by
 unfold SameU
 apply List.ext_getElem?
 intro j
 rw [List.getElem?_map, List.getElem?_map, List.getElem?_set]
 split
 ·next e1 =>
  subst e1
  have hlt := (List.getElem?_eq_some_iff.1 hl).1
  rw [if_pos hlt, hl]
  simp only [Option.map_some, unfO, Option.some.injEq, Prod.mk.injEq, true_and]
  apply List.ext_getElem?
  intro i
  rw [List.getElem?_map, List.getElem?_map, List.getElem?_set]
  split
  ·next e2 =>
   subst e2
   have hlt2 := (List.getElem?_eq_some_iff.1 ha).1
   rw [if_pos hlt2, ha]
   rfl
  ·rfl
 ·rfl
theorem vstep_F {s : AStm} {fr1 : Fr} {h1 : Hp} (hp : isF s.op = true) (hv : VStep P s fr h fr1 h1) : SameU h1 h := by
 cases hv with
 | skip hg => exact .refl _
 | run a h' hg he =>
  have he : Eff1 P s.op fr h a h1 := effA_eff (by cases hs : s.op <;> rw [hs] at hp <;> first | rfl | cases hp) (by cases hs : s.op <;> rw [hs] at hp <;> first | rfl | cases hp) he
  unfold Eff1 at he
  cases hs : s.op with
  | loado x =>
   rw [hs] at he
   simp only [eff] at he
   split at he
   ·split at he
    ·next hl =>
     split at he
     ·next hc => obtain ⟨_, rfl⟩ := he; exact unfO_set hl hc
     ·exact he.elim
    ·exact he.elim
   ·exact he.elim
  | _ => rw [hs] at hp; cases hp
theorem effA_R {f : Option (FB × List Nat)} {o : AOp} {a : AV} {h' : Hp} (hp : isR o = true) (he : Eff1A P f o fr h a h') : h' = h ∧ ∀ h2, SameU h2 h → Eff1A P f o fr h2 a h2 := by
 cases o with
 | callr g l =>
  cases f with
  | some q => exact he.2.elim
  | none =>
   have he : eff P (.callr g l) fr h (fun x y => x = a ∧ y = h') := he
   simp only [eff] at he
   split at he
   ·next q1 q2 =>
    obtain ⟨v, e1, rfl, rfl⟩ := he
    refine ⟨rfl, fun h2 hh => ?_⟩
    show eff P (.callr g l) fr h2 (fun x y => x = v ∧ y = h2)
    simp only [eff, q1, q2]
    refine ⟨v, fun h0 h00 => e1 h0 (h00.trans hh), ?_⟩
    first | trivial | exact ⟨rfl, rfl⟩ | simp
   ·exact he.elim
 | _ => cases hp
theorem vstep_R {s : AStm} {fr1 : Fr} {h1 : Hp} (hp : isR s.op = true) (hv : VStep P s fr h fr1 h1) : h1 = h ∧ ∀ h2, SameU h2 h → VStep P s fr h2 fr1 h2 := by
 cases hv with
 | skip hg => exact ⟨rfl, fun h2 _ => .skip hg⟩
 | run a h' hg he =>
  obtain ⟨rfl, q⟩ := effA_R hp he
  exact ⟨rfl, fun h2 hh => .run a h2 hg (q h2 hh)⟩
theorem vstep_RL {s : AStm} {fr1 : Fr} {h1 : Hp} (hp : isR s.op = true ∨ isL s.op = true) (hv : VStep P s fr h fr1 h1) : h1 = h := by
 rcases hp with hp | hp
 ·exact (vstep_R hp hv).1
 ·exact vstep_L hp hv
theorem isS_L {o : AOp} (h : isS o = true) : isL o = true := by cases o <;> first | rfl | cases h
def Feq (fr fr' : Fr) : Prop := ∀ k, lk fr' k = lk fr k
theorem disj_spec {a b : List Nat} (h : disj a b = true) {k : Nat} (hk : k ∈ a) : k ∉ b := by
 have := List.all_eq_true.1 h k hk
 simpa using this
theorem vstep_feq {s : AStm} {fr1 : Fr} {h1 : Hp} (hv : VStep P s fr h fr1 h1) (he : Feq fr fr') : ∃ fr1', VStep P s fr' h fr1' h1 ∧ Feq fr1 fr1' := by
 obtain ⟨f1, f2⟩ := vstep_foot hv
 obtain ⟨fr1', q1, q2, q3⟩ := f2 fr' (fun k _ => he k)
 refine ⟨fr1', q1, fun k => ?_⟩
 by_cases hk : k ∈ wr s
 ·exact q2 k hk
 ·rw [q3 k hk, f1 k hk, he k]
theorem vstep_comm {s t : AStm} {fr1 fr2 : Fr} {h1 h2 : Hp} (hc : commB s t = true) (hs : VStep P s fr h fr1 h1) (ht : VStep P t fr1 h1 fr2 h2) :
  ∃ fr1' h1' fr2', VStep P t fr h fr1' h1' ∧ VStep P s fr1' h1' fr2' h2 ∧ Feq fr2 fr2' := by
 simp only [commB, Bool.and_eq_true] at hc
 obtain ⟨⟨⟨c1, c2⟩, c3⟩, c4⟩ := hc
 obtain ⟨s1, s2⟩ := vstep_foot hs
 obtain ⟨t1, t2⟩ := vstep_foot ht
 obtain ⟨fr1', p1, p2, p3⟩ := t2 fr (fun k hk => (s1 k (fun hw => disj_spec c1 hw hk)).symm)
 obtain ⟨fr2', r1, r2, r3⟩ := s2 fr1' (fun k hk => p3 k (fun hw => disj_spec c3 hw hk))
 refine ⟨fr1', ?_⟩
 have hfeq : Feq fr2 fr2' := fun k => by
  by_cases hks : k ∈ wr s
  ·rw [r2 k hks, t1 k (disj_spec c2 hks)]
  ·rw [r3 k hks]
   by_cases hkt : k ∈ wr t
   ·exact p2 k hkt
   ·rw [p3 k hkt, t1 k hkt, s1 k hks]
 by_cases hps : isP' s = true
 ·obtain ⟨rfl, q⟩ := vstep_P hps hs
  obtain ⟨_, q'⟩ := vstep_P hps r1
  exact ⟨h2, fr2', p1, q' h2, hfeq⟩
 ·by_cases hpt : isP' t = true
  ·obtain ⟨rfl, _⟩ := vstep_P hpt ht
   obtain ⟨_, q'⟩ := vstep_P hpt p1
   exact ⟨h, fr2', q' h, r1, hfeq⟩
  ·have hps' : isP' s = false := by simpa using hps
   have hpt' : isP' t = false := by simpa using hpt
   rw [hps', hpt'] at c4
   simp only [Bool.or_self, Bool.false_or, Bool.or_eq_true, Bool.and_eq_true] at c4
   rcases c4 with ((((((((c4 | c4) | c4) | c4) | c4)) | c4) | c4) | c4) | c4
   ·obtain rfl := vstep_L c4.1 hs
    obtain rfl := vstep_L c4.2 ht
    exact ⟨_, fr2', p1, r1, hfeq⟩
   ·have n1 : s.ft = none := by simpa using c4.1.2
    have n2 : t.ft = none := by simpa using c4.2
    obtain rfl := vstep_L c4.1.1.1 hs
    rcases vstep_A n2 c4.1.1.2 ht with rfl | ⟨x, rfl⟩
    ·exact ⟨_, fr2', p1, r1, hfeq⟩
    ·exact ⟨_, fr2', p1, vstep_LA n1 c4.1.1.1 r1 x, hfeq⟩
   ·obtain rfl := vstep_L c4.1.1 hs
    rcases vstep_H c4.2 c4.1.2 ht with rfl | ⟨id, x, hn, rfl⟩
    ·exact ⟨_, fr2', p1, r1, hfeq⟩
    ·exact ⟨_, fr2', p1, vstep_LH c4.1.1 r1 hn, hfeq⟩
   ·obtain rfl := vstep_L (isS_L c4.1.2) hs
    exact ⟨_, fr2', p1, vstep_S (by simpa using c4.1.1) c4.1.2 r1 (vstep_O' c4.2 ht), hfeq⟩
   ·obtain rfl := vstep_L (isS_L c4.2) ht
    exact ⟨_, fr2', vstep_S (by simpa using c4.1.2) c4.2 p1 (sealEq_le (vstep_O c4.1.1 hs).symm), r1, hfeq⟩
   ·cases hfs : s.ft with
    | none => rw [hfs] at c4; simp [touch] at c4
    | some qs =>
    cases hft : t.ft with
    | none => rw [hfs, hft] at c4; simp [touch] at c4
    | some qt =>
    obtain ⟨b, ps⟩ := qs
    obtain ⟨b', ps'⟩ := qt
    rw [hfs, hft] at c4
    rcases vstep_T hfs r1 with ⟨rfl, q⟩ | ⟨a1, i, o0, o1, i1, i2, i3, i4⟩
    ·exact ⟨h2, fr2', p1, q h2, hfeq⟩
    ·rcases vstep_T hft p1 with ⟨rfl, q⟩ | ⟨a2, j, u0, u1, j1, j2, j3, j4⟩
     ·exact ⟨h, fr2', q h, r1, hfeq⟩
     · -- the frames agree on what names the objects
      have rdb : ∀ k ∈ fbR b ++ ps, lk fr1' k = lk fr k := fun k hk => p3 k (fun hw => disj_spec c3 hw (by simp only [rd, hfs, ftR, List.mem_append] at hk ⊢; exact .inr (.inl hk)))
      have hlen : h1.length = h.length := by rw [i3, List.length_set]
      have i1' : fbId b fr h = some i := by rw [← i1]; exact (fbId_congr (fun k hk => rdb k (by simp [hk]))).symm
      have j1' : fbId b' fr h = some j := by rw [← j1]; exact (fbId_len hlen).symm
      have a1' : apart fr (some i) ps := by rw [← i1, ← apart_congr (fr := fr) (fr' := fr1') (fun k hk => rdb k (by simp [hk]))]; exact a1
      have a2' : apart fr (some j) ps' := by rw [← j1]; exact a2
      have hij : i ≠ j := by
       have m1 : ∀ k', b' = .s k' → k' ∈ ps → i ≠ j := fun k' e hk => by
        obtain ⟨x, y, e1, e2, e3⟩ := apart_mem a1' hk
        subst e
        simp only [fbId] at j1'
        rw [j1'] at e2
        simp only [Option.some.injEq] at e1 e2
        subst e1; subst e2
        exact e3
       have m2 : ∀ k, b = .s k → k ∈ ps' → i ≠ j := fun k e hk => by
        obtain ⟨x, y, e1, e2, e3⟩ := apart_mem a2' hk
        subst e
        simp only [fbId] at i1'
        rw [i1'] at e2
        simp only [Option.some.injEq] at e1 e2
        subst e1; subst e2
        exact fun e => e3 e.symm
       cases b with
       | s k =>
        cases b' with
        | s k' =>
         simp only [touch, Bool.or_eq_true, List.contains_iff_mem] at c4
         rcases c4 with c4 | c4
         ·exact m2 k rfl c4
         ·exact m1 k' rfl c4
        | h k' => simp only [touch, List.contains_iff_mem] at c4; exact m2 k rfl c4
       | h k =>
        cases b' with
        | s k' => simp only [touch, List.contains_iff_mem] at c4; exact m1 k' rfl c4
        | h k' =>
         simp only [touch, bne_iff_ne, ne_eq] at c4
         simp only [fbId] at i1' j1'
         split at i1'
         ·split at j1'
          ·simp only [Option.some.injEq] at i1' j1'; omega
          ·cases j1'
         ·cases i1'
      have hj : h[j]? = some u0 := by rw [i3, List.getElem?_set_ne hij] at j2; exact j2
      have hi : (h.set j u1)[i]? = some o0 := by rw [List.getElem?_set_ne (fun e => hij e.symm)]; exact i2
      have hr := i4 _ List.length_set hi
      refine ⟨_, fr2', j4 h hlen.symm hj, ?_, hfeq⟩
      rw [j3, i3, List.set_comm _ _ hij]
      exact hr
   ·obtain rfl := vstep_RL c4.1 hs
    obtain rfl := vstep_RL c4.2 ht
    exact ⟨_, fr2', p1, r1, hfeq⟩
   ·have hu := vstep_F c4.1 hs
    obtain ⟨rfl, q⟩ := vstep_R c4.2 ht
    obtain ⟨_, q2⟩ := vstep_R c4.2 p1
    exact ⟨h, fr2', q2 h hu.symm, r1, hfeq⟩
   ·obtain ⟨rfl, _⟩ := vstep_R c4.1 hs
    have hu := vstep_F c4.2 p1
    obtain ⟨_, q2⟩ := vstep_R c4.1 r1
    exact ⟨h2, fr2', p1, q2 h2 hu, hfeq⟩

def VRun (P : Program) : List AStm → Fr → Hp → Fr → Hp → Prop
 | [], fr, h, fr', h' => fr' = fr ∧ h' = h
 | s :: r, fr, h, fr', h' => ∃ fr1 h1, VStep P s fr h fr1 h1 ∧ VRun P r fr1 h1 fr' h'
theorem vrun_feq : ∀ {l : List AStm} {fr fr' fr1 : Fr} {h h1 : Hp}, VRun P l fr h fr1 h1 → Feq fr fr' → ∃ fr1', VRun P l fr' h fr1' h1 ∧ Feq fr1 fr1'
 | [], fr, fr', fr1, h, h1, ⟨e1, e2⟩, he => ⟨fr', ⟨rfl, e2⟩, by rw [e1]; exact he⟩
 | s :: r, fr, fr', fr1, h, h1, ⟨fr2, h2, a, b⟩, he => by
  obtain ⟨fr2', q1, q2⟩ := vstep_feq a he
  obtain ⟨fr1', q3, q4⟩ := vrun_feq b q2
  exact ⟨fr1', ⟨fr2', h2, q1, q3⟩, q4⟩
theorem vrun_front {t : AStm} {post : List AStm} : ∀ {pre : List AStm} {fr fr1 : Fr} {h h1 : Hp}, (∀ s ∈ pre, commB s t = true) → VRun P (pre ++ t :: post) fr h fr1 h1 → ∃ fr1', VRun P (t :: (pre ++ post)) fr h fr1' h1 ∧ Feq fr1 fr1'
 | [], fr, fr1, h, h1, _, hr => ⟨fr1, hr, fun _ => rfl⟩
 | s :: pre, fr, fr1, h, h1, hc, ⟨fr2, h2, a, b⟩ => by
  obtain ⟨fr1', ⟨fr3, h3, q1, q2⟩, q3⟩ := vrun_front (fun x hx => hc x (by simp [hx])) b
  obtain ⟨fra, ha, frb, p1, p2, p3⟩ := vstep_comm (hc s (by simp)) a q1
  obtain ⟨fr4, p4, p5⟩ := vrun_feq q2 p3
  exact ⟨fr4, ⟨fra, ha, p1, frb, h3, p2, p4⟩, fun k => by rw [p5 k, q3 k]⟩

theorem feq_same {q : Nat} {a b : AV} (hq : lk fr q = some a) (e : a = b) : Feq ((q, b) :: fr) fr := fun k => by
 subst e
 rw [lk_cons]
 split
 ·next e => subst e; exact hq
 ·rfl
theorem vrun_of : ∀ {l : List AStm} {fr : Fr} {h : Hp} {K : Fr → Hp → Prop}, (∀ fr fr' h, Feq fr fr' → K fr h → K fr' h) → VOps P l fr h K → ∃ fr' h', VRun P l fr h fr' h' ∧ K fr' h'
 | [], fr, h, K, _, hv => ⟨fr, h, ⟨rfl, rfl⟩, hv⟩
 | s :: r, fr, h, K, hK, hv => by
  have back : ∀ {fr0 fr1 fr2 : Fr} {h1 h2 : Hp}, Feq fr0 fr → VStep P s fr0 h fr1 h1 → VRun P r fr1 h1 fr2 h2 → K fr2 h2 → ∃ fr' h', VRun P (s :: r) fr h fr' h' ∧ K fr' h' := by
   intro fr0 fr1 fr2 h1 h2 hfe hst hru hk
   obtain ⟨fr1', q1, q2⟩ := vstep_feq hst hfe
   obtain ⟨fr2', q3, q4⟩ := vrun_feq hru q2
   exact ⟨fr2', h2, ⟨fr1', h1, q1, q3⟩, hK _ _ _ q4 hk⟩
  simp only [VOps] at hv
  split at hv
  ·next hgd =>
   obtain ⟨a, h1, he, hk⟩ := effA_det hv
   obtain ⟨fr2, h2, r1, r2⟩ := vrun_of hK hk
   exact back (fun _ => rfl) (.run a h1 (.inl hgd) he) r1 r2
  ·next q want hgd =>
   split at hv
   ·next p hp =>
    by_cases e : p = want
    ·obtain ⟨a, h1, he, hk⟩ := effA_det (hv.1 e)
     obtain ⟨fr2, h2, r1, r2⟩ := vrun_of hK hk
     exact back (feq_same hp (by rw [e])) (.run a h1 (.inr ⟨q, want, hgd, by simp [lk_cons]⟩) he) r1 r2
    ·have e' : p = !want := by cases p <;> cases want <;> simp_all
     obtain ⟨fr2, h2, r1, r2⟩ := vrun_of hK (hv.2 e')
     exact back (feq_same hp (by rw [e'])) (.skip ⟨q, want, hgd, .inl (by simp [lk_cons])⟩) r1 r2
   ·next hp =>
    obtain ⟨fr2, h2, r1, r2⟩ := vrun_of hK hv
    exact back (fun _ => rfl) (.skip ⟨q, want, hgd, .inr hp⟩) r1 r2
   ·exact hv.elim

theorem wop_of_eff {o : Oper} {d : Option Nat} {a : AOp} {v : AV} {h' : Hp} (hc : chkEff P o.op d a = true) (he : Eff1 P a fr h v h') : wop P d a fr h (fun f hh => f = put d v (tk a fr) ∧ hh = h') := by
 unfold Eff1 at he
 cases a with
 | mvu e s x => simp only [eff] at he; simp only [wop]; split at he <;> first | exact he.elim | (rename_i heq; rw [heq]; exact ⟨he.1, by rw [he.2.1]; rfl, he.2.2⟩)
 | mvo k => simp only [eff] at he; simp only [wop]; split at he <;> first | exact he.elim | (rename_i heq; rw [heq]; exact ⟨by rw [he.1]; rfl, he.2⟩)
 | new l u =>
  obtain ⟨x, h1, h2⟩ := upgK_det u l _ he
  exact h1 _ ⟨by rw [← h2.1]; rfl, h2.2⟩
 | box x u =>
  simp only [eff] at he; simp only [wop]
  split at he
  ·next heq =>
   obtain ⟨x, h1, h2⟩ := upgK_det u _ _ he.2
   rw [heq]
   exact ⟨he.1, h1 _ ⟨by rw [← h2.1]; rfl, h2.2⟩⟩
  ·exact he.elim
 | bsl e s n t p =>
  obtain ⟨x, h1, h2⟩ := buildK_det p t _ he
  exact h1 _ ⟨by rw [← h2.1]; rfl, h2.2⟩
 | bsh e s n t p => exact he.elim
 | bar s t p => exact he.elim
 | mmk => exact he.elim
 | mup s k m x y => exact he.elim
 | mfz k => exact he.elim
 | mmv k => exact he.elim
 | mra k => exact he.elim
 | aph e s b x y => exact he.elim
 | apc e s b z x y => exact he.elim
 | mk0 e s b c => simp only [eff] at he; simp only [wop]; split at he <;> first | exact he.elim | (rename_i heq; rw [heq]; exact ⟨he.1, by rw [he.2.1]; rfl, he.2.2⟩)
 | mkn e s b z c => simp only [eff] at he; simp only [wop]; split at he <;> first | exact he.elim | (rename_i heq; rw [heq]; exact ⟨he.1, by rw [he.2.1]; rfl, he.2.2⟩)
 | loado x =>
  simp only [eff] at he; simp only [wop]
  split at he
  ·next heq =>
   rw [heq]
   simp only
   split at he
   ·next heq =>
    rw [heq]
    simp only
    split at he
    ·next heq => rw [heq]; exact ⟨by rw [he.1]; rfl, he.2⟩
    ·exact he.elim
   ·exact he.elim
  ·exact he.elim
 | store n a x =>
  have hd : d = none := by simp only [chkEff, Bool.and_eq_true] at hc; simpa using hc.2
  subst hd
  simp only [eff] at he; simp only [wop]
  split at he
  ·next heq heq' =>
   rw [heq, heq']
   simp only
   split at he
   ·next heq => rw [heq]; exact ⟨he.1, rfl, he.2.2⟩
   ·exact he.elim
  ·exact he.elim
 | stores n a x =>
  have hd : d = none := by simp only [chkEff, Bool.and_eq_true] at hc; simpa using hc.2
  subst hd
  simp only [eff] at he; simp only [wop]
  split at he
  ·next heq heq' =>
   rw [heq, heq']
   simp only
   split at he
   ·next heq => rw [heq]; exact ⟨he.1, rfl, he.2.2⟩
   ·exact he.elim
  ·exact he.elim
 | storeo a k =>
  have hd : d = none := by simp only [chkEff, Bool.and_eq_true] at hc; simpa using hc.2
  subst hd
  simp only [eff] at he; simp only [wop]
  split at he
  ·next heq heq' =>
   rw [heq, heq']
   simp only
   split at he
   ·next heq => rw [heq]; exact ⟨he.1, rfl, he.2.2⟩
   ·exact he.elim
  ·exact he.elim
 | app e s b x y => simp only [eff] at he; simp only [wop]; split at he <;> first | exact he.elim | (rename_i heq heq'; rw [heq, heq']; exact ⟨he.1, by rw [he.2.1]; rfl, he.2.2⟩)
 | appo e s b k y => simp only [eff] at he; simp only [wop]; split at he <;> first | exact he.elim | (rename_i heq heq'; rw [heq, heq']; exact ⟨he.1, by rw [he.2.1]; rfl, he.2.2⟩)
 | appso e k y => simp only [eff] at he; simp only [wop]; split at he <;> first | exact he.elim | (rename_i heq heq'; rw [heq, heq']; exact ⟨he.1, by rw [he.2.1]; rfl, he.2.2⟩)
 | calli f l =>
  simp only [eff] at he; simp only [wop]
  split at he
  ·next heq heq' =>
   obtain ⟨v', hv', h1, h2, rfl, rfl⟩ := he
   rw [heq, heq']
   exact h1.mono (by rintro _ _ ⟨rfl, rfl⟩; exact ⟨rfl, rfl⟩)
  ·exact he.elim
 | call f l =>
  simp only [eff] at he; simp only [wop]
  split at he
  ·next heq heq' =>
   obtain ⟨v', h1, rfl, rfl⟩ := he
   rw [heq, heq']
   exact h1.use ⟨rfl, rfl⟩
  ·exact he.elim
 | cpy s x y =>
  simp only [eff] at he; simp only [wop]
  split at he
  ·next heq heq' =>
   rw [heq, heq']
   simp only
   split at he
   ·next heq => rw [heq]; exact ⟨he.1, by rw [he.2.1]; rfl, he.2.2⟩
   ·exact he.elim
  ·exact he.elim
 | storeu n u a x => exact he.elim
 | rngs x => exact he.elim
 | nxt k => exact he.elim
 | k o =>
  obtain ⟨b, h1, q1, q2⟩ := kF_det (o := o) (R := fun x y => x = v ∧ y = h') he
  obtain ⟨rfl, rfl⟩ := q2
  exact q1 (fun x y => put d x (ktk o fr) = _ ∧ y = _) ⟨rfl, rfl⟩
 | callr f l =>
  simp only [eff] at he; simp only [wop]
  split at he
  ·next heq heq' =>
   obtain ⟨v', h1, rfl, rfl⟩ := he
   rw [heq, heq']
   exact (h1 h (.refl h)).mono (by rintro _ _ ⟨rfl, rfl⟩; exact ⟨rfl, rfl⟩)
  ·exact he.elim
 | snil n x =>
  simp only [eff] at he; simp only [wop]
  split at he
  ·next heq => rw [heq]; obtain ⟨hn, rfl, rfl⟩ := he; exact ⟨⟨rfl, rfl⟩, fun h0 => absurd h0 hn⟩
  ·next heq => rw [heq]; obtain ⟨rfl, rfl⟩ := he; exact ⟨rfl, rfl⟩
  ·next heq => rw [heq]; obtain ⟨rfl, rfl⟩ := he; exact ⟨rfl, rfl⟩
  ·exact he.elim
 | _ =>
  simp only [eff] at he; simp only [wop]
  obtain ⟨b, h1, h2⟩ := val_det _ _ he
  exact h1 _ ⟨by rw [← h2.1]; rfl, h2.2⟩
theorem wop_of_effA {o : Oper} {d : Option Nat} {f : Option (FB × List Nat)} {a : AOp} {v : AV} {h' : Hp} (hc : chkEff P o.op d a = true) (hf : f = none ∨ isA a = false) (he : Eff1A P f a fr h v h') : wop P d a fr h (fun f hh => f = put d v (tk a fr) ∧ hh = h') := by
  cases hcc : isC a with
  | false => rcases hf with rfl | hf
             · exact wop_of_eff hc he
             · exact wop_of_eff hc (effA_eff hcc hf he)
  | true =>
    cases f with
    | none => exact wop_of_eff hc he
    | some q =>
      obtain ⟨b, ps⟩ := q
      obtain ⟨_, he⟩ := he
      cases a with
      | calli f l =>
        simp only [effF] at he; simp only [wop]
        split at he
        · next heq heq' _ =>
          obtain ⟨v', l0, l1, q1, q2, rfl, rfl⟩ := he
          rw [heq, heq']
          exact (q2 h q1).mono (by rintro _ _ ⟨rfl, rfl⟩; exact ⟨rfl, rfl⟩)
        · exact he.elim
      | _ => simp [isC] at hcc
theorem effA_sound {g : Gh} {w : World} {act : Act} {N : Nat} {Q : Exit → Act → World → Prop} {o : Oper} {f : Option (FB × List Nat)} {a : AOp} {v : AV} {h' : Hp} (hs : Sim P g h w) (hf : FrameOk P g w act.tmps fr) (hd : act.defers = []) (hN : act.tmps.size = N) (hdst : ∀ d, o.dst = some d → d < N)
  (hc : chkEff P o.op o.dst a = true) (he : Eff1A P f a fr h v h') : o.wp P act w (Ok P g w N (fun f hh => f = put o.dst v (tk a fr) ∧ hh = h')) Q := by
 by_cases hcase : f = none ∨ isA a = false
 ·exact wop_sound hs hf hd hN hdst hc (wop_of_effA hc hcase he)
 ·simp only [not_or, Bool.not_eq_false] at hcase
  obtain ⟨hfn, hA⟩ := hcase
  cases f with
  | none => exact absurd rfl hfn
  | some q =>
   obtain ⟨b, ps⟩ := q
   obtain ⟨_, he⟩ := he
   cases a with
   | new l u =>
    simp only [effF] at he
    split at he
    ·obtain ⟨hn, he⟩ := he
     obtain ⟨x, e1, e2⟩ := upgK_det u l _ he
     obtain ⟨rfl, rfl⟩ := e2
     exact sound_newH hs hn hf hd hN hdst hc (e1 _ ⟨rfl, rfl⟩)
    ·exact he.elim
   | box y u =>
    simp only [effF] at he
    split at he
    ·next hv =>
     obtain ⟨hn, ht, he⟩ := he
     obtain ⟨x, e1, e2⟩ := upgK_det u _ _ he
     obtain ⟨rfl, rfl⟩ := e2
     refine sound_boxH hs hn hf hd hN hdst hc ?_
     rw [hv]
     exact ⟨ht, e1 _ ⟨rfl, rfl⟩⟩
    ·exact he.elim
   | mkn e s y z c =>
    simp only [effF] at he
    split at he
    ·next hv =>
     obtain ⟨hn, ht, rfl, rfl⟩ := he
     refine sound_mknH hs hn hf hd hN hdst hc ?_
     rw [hv]
     exact ⟨ht, rfl, rfl⟩
    ·exact he.elim
   | _ => simp [isA] at hA
end
end Go.Proofs.YtedaffmkpljlnaaGreat
