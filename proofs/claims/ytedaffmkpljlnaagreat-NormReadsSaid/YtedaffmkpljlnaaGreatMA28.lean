/- Texts of one proof, laid together: Nc Nd. -/
import Derived.Test.YtedaffmkpljlnaaGreatMA27
import Derived.Test.YtedaffmkpljlnaaGreatMA18
import Derived.Test.YtedaffmkpljlnaaGreatMA1
import Derived.Test.YtedaffmkpljlnaaGreatMA23
import Derived.Shelf.Strings.OnBuilder
import Derived.Shelf.Strings.BuilderK
import Derived.Test.YtedaffmkpljlnaaGreatMA22
set_option maxRecDepth 100000
set_option maxHeartbeats 16000000

set_option linter.unusedSimpArgs false
set_option linter.unusedVariables false
/- Norm: word.Atoms, in the kit's walk. -/
namespace Go.Proofs.YtedaffmkpljlnaaGreat
open Go.RowKit Go.Lib Go.Shelf

theorem calls_p {P : Program} {f : FuncId} {args : List AV} {v : AV} (hp : PCalls P f args v) (w : World) {vargs : List Value} (hr : RepL (gW w) vargs args) (hpl : plains args) :
  Calls P f vargs.toArray w fun e w' => ∃ x g', e = .returned x ∧ Below w.heap.size w w' ∧ Rep g' x v ∧ Sim P g' [] w' := by
 obtain ⟨_, _, _, hc⟩ := hp
 refine (hc (gW w) w vargs (gW_sim P w) (fun b k h => by cases h) hr hpl).mono ?_
 rintro e w' ⟨x, a, h', g', rfl, ev, hs, _, hx, _, rfl, rfl⟩
 exact ⟨x, g', rfl, ⟨ev.os, ev.tape, ev.output, ev.size, fun k hk => (ev.Fb k hk).1⟩, hx, hs⟩
theorem calls_str {P : Program} {f : FuncId} {args : List AV} {s : ByteArray} (hp : PCalls P f args (.str s)) (w : World) {vargs : List Value} (hr : RepL (gW w) vargs args) (hpl : plains args) :
  Calls P f vargs.toArray w fun e w' => e = .returned (.string s) ∧ Below w.heap.size w w' := by
 refine (calls_p hp w hr hpl).mono ?_
 rintro e w' ⟨x, g', rfl, hb, hx, _⟩
 cases hx
 exact ⟨rfl, hb⟩
theorem calls_int {P : Program} {f : FuncId} {args : List AV} {k : IntKind} {n : Int} (hp : PCalls P f args (.int k n)) (w : World) {vargs : List Value} (hr : RepL (gW w) vargs args) (hpl : plains args) :
  Calls P f vargs.toArray w fun e w' => e = .returned (.int k n) ∧ Below w.heap.size w w' := by
 refine (calls_p hp w hr hpl).mono ?_
 rintro e w' ⟨x, g', rfl, hb, hx, _⟩
 cases hx
 exact ⟨rfl, hb⟩
def atomCs (s : ByteArray) (k : Nat) : List Value := (List.range k).map fun i => .int .u16 (atomAt s i)
theorem atomCs_succ (s : ByteArray) (k : Nat) : atomCs s (k + 1) = atomCs s k ++ [.int .u16 (atomAt s k)] := by simp [atomCs, List.range_succ]
theorem atomCs_len (s : ByteArray) (k : Nat) : (atomCs s k).length = k := by simp [atomCs]
theorem infoAtm : (Tryz.prog.info? 57).map (fun i => (i.zero, i.size, i.bytes)) = some (some (.int .u16 0), 1, 2) := by kernel_rfl
theorem mk_zero (n : Nat) : (madeCells (Value.int .u16 0).cells (n * 1)).toList = List.replicate n (.int .u16 0) := by
 apply List.ext_getElem
 ·simp [madeCells]
 ·intro i h1 h2
  simp [madeCells, Value.cells, Nat.mod_one]
theorem set_step (s : ByteArray) (k z : Nat) (h : k < z) : (atomCs s k ++ List.replicate (z - k) (Value.int .u16 0)).set k (.int .u16 (atomAt s k)) = atomCs s (k + 1) ++ List.replicate (z - (k + 1)) (Value.int .u16 0) := by
 rw [List.set_append_right _ _ (by rw [atomCs_len]; exact Nat.le_refl _), atomCs_len, Nat.sub_self, show z - k = (z - (k + 1)) + 1 by omega, List.replicate_succ, List.set_cons_zero, atomCs_succ, List.append_assoc]
 rfl
theorem watoms_any (s : ByteArray) (z : Nat) (w : World) (hs : Hid (s.size ≤ 1000000)) (hz1 : 2 * z ≤ s.size) (hz2 : s.size ≤ 2 * z + 1) :
  Calls Tryz.prog 67 #[.string s] w fun e w' => ∃ b, e = .returned (.slice (some ⟨b, 0, none⟩) z z) ∧ Below w.heap.size w w' ∧ w'.ownsRow w.heap.size 57 1 (.slice (some ⟨b, 0, none⟩) z z) z (atomCs s z) := by
 have hl := fun w => calls_int (p_wlen s (by have := hs.out; omega)) w (vargs := [.string s]) (.cons (.str _) .nil) (by intro a ha; simp at ha; subst ha; rfl)
 rw [show s.size / 2 = z by omega] at hl
 have HL := Lib.hid hl
 clear hl
 have HA := Lib.hid (fun (i : Nat) (hi : i < z) w => calls_int (p_wat s i (by have := hs.out; omega) (by omega)) w (vargs := [.string s, .int .i64 i]) (.cons (.str _) (.cons (.int .i64 _) .nil)) (by intro a ha; simp at ha; rcases ha with rfl | rfl <;> rfl))
 obtain ⟨i0, hi, hi0, hi1, hi2⟩ := info_parts infoAtm
 go_enter Tryz.func67, Tryz.ntmps67
 go_wp2_with (go_at_call 90; refine (HL.out _).mono ?_; rintro e w1 ⟨rfl, hb1⟩)
 obtain ⟨w2, hr, hown, hgrow⟩ := run_makeSlice_full (P := Tryz.prog) (w := w1) w.heap.size 79 57 i0 (.int .u16 0) 1 Tryz.underlying79 hi hi0 hi1 .i64 .i64 z (by have := hs.out; omega) (by have := hs.out; rw [hi2]; omega) (by have := hs.out; unfold maxLen; omega) hb1.size
 rw [hr]
 rw [mk_zero] at hown
 have hb2 : Below w.heap.size w w2 := hb1.grown hgrow hb1.size (fun k hk => by cases hk)
 have HO := Lib.hid hown
 have HB := Lib.hid hb2
 clear hown hb2 hgrow hr hb1
 generalize w1.heap.size = b at HO
 go_wp2_with fail
 go_loopw [10] (fun t wr => ∃ k : Nat, k ≤ z ∧ t = .int .i64 k ∧ Hid (wr.ownsRow w.heap.size 57 1 (.slice (some ⟨b, 0, none⟩) z z) z (atomCs s k ++ List.replicate (z - k) (.int .u16 0))) ∧ Hid (Below w.heap.size w wr)) (fun t _ => z - (RowKit.intOf t).toNat)
 case atStart => exact ⟨0, Nat.zero_le _, rfl, by simpa [atomCs] using HO, HB⟩
 case round =>
  clear HO HB
  obtain ⟨k, hk, rfl, HO, HB⟩ := hrel
  by_cases hlt : k < z
  ·have hc : ∀ w' : World, Below wr.heap.size wr w' → Hid (w'.ownsRow w.heap.size 57 1 (.slice (some ⟨b, 0, none⟩) z z) z (atomCs s k ++ List.replicate (z - k) (.int .u16 0))) := fun w' hb => HO.out.kept (row := none) ⟨hb.os, hb.tape, hb.output, hb.size, fun k hk _ => hb.block k hk⟩ (.inr (by simp [Value.ownBlock]))
   have hB : ∀ w' : World, Below wr.heap.size wr w' → Hid (Below w.heap.size w w') := fun w' hb => HB.out.trans (hb.mono HB.out.size)
   go_wp2_with (go_at_call 57; refine (HA.out k hlt _).mono ?_; rintro e w3 ⟨rfl, hb3⟩; have HO3 := hc _ hb3; have HB3 := hB _ hb3; have hfz := HO3.out.frozenAt k; have hcl := HO3.out.cellAt k (by omega); rw [List.getElem?_append_right (by rw [atomCs_len]; exact Nat.le_refl _), atomCs_len, Nat.sub_self, List.getElem?_replicate, if_pos (by omega)] at hcl; clear hc hB hb3)
   have h1 := HO3.out.stored k (.int .u16 (atomAt s k))
   rw [set_step s k z hlt] at h1
   have hs' := hs.out
   have hw : wrap64 ((k : Int) + 1) = (k : Int) + 1 := IntWalk.wrap64_in _ (by omega)
   rw [hw]
   refine ⟨⟨k + 1, by omega, by norm_cast, h1.1, HB3.out.grown h1.2 HB3.out.size (fun j hj => by cases hj; exact (HO3.out.lt b rfl).1)⟩, ?_⟩
   simp [RowKit.intOf]; omega
  ·have hkz : k = z := by omega
   subst hkz
   go_wp2_with fail
   go_ret
   refine ⟨b, rfl, HB.out, ?_⟩
   have := HO.out
   rwa [Nat.sub_self, List.replicate_zero, List.append_nil] at this
def rolesTo (l : List Nat) (k : Nat) : Bool := ((l.take k).drop 1).all fun a => decide (a / 8192 = 5)
theorem atomNs_get (s : ByteArray) (k : Nat) (h : k < s.size / 2) : (atomNs s).getD k 0 = atomAt s k := by
 simp [atomNs, List.getD, h]
theorem rolesTo_succ (s : ByteArray) (k : Nat) (h : k < s.size / 2) : rolesTo (atomNs s) (k + 1) = if k = 0 then true else rolesTo (atomNs s) k && decide (atomAt s k / 8192 = 5) := by
 have hl : k < (atomNs s).length := by rw [atomNs_len]; exact h
 unfold rolesTo
 rw [List.take_succ_eq_append_getElem hl]
 by_cases h0 : k = 0
 ·subst h0; simp
 ·rw [if_neg h0, List.drop_append_of_le_length (by rw [List.length_take]; omega), List.all_append]
  simp [atomNs]
theorem txtW_succ (L : Nat → List ByteArray) (s : ByteArray) (k : Nat) (h : k < s.size / 2) : txtW L (atomNs s) (k + 1) = txtW L (atomNs s) k ++ ((if k = 0 then [] else if rolesTo (atomNs s) (k + 1) = true then [32, 97, 115, 32] else [32, 124, 32]) ++ (wordA L (atomAt s k)).data.toList) := by
 unfold txtW
 rw [List.range_succ, List.flatMap_append, List.flatMap_singleton, atomNs_get s k h]
 rfl
theorem wordA_none {L : Nat → List ByteArray} {a : Nat} (h : nameB L a = false) : wordA L a = ⟨#[]⟩ := by
 have h1 : nameS L a = ByteArray.empty := by
  unfold nameS
  rw [if_neg (by rintro rfl; simp [nameB] at h), if_neg (by rw [h]; simp)]
 unfold wordA
 rw [h1]
 have h2 : mayN ByteArray.empty = false := by decide
 have h3 : ¬ ByteArray.empty = (⟨#[68]⟩ : ByteArray) := by decide
 unfold wordT atomWk
 rw [if_pos rfl, h2, if_neg h3]
 simp
theorem noText_yes {L : Nat → List ByteArray} {s : ByteArray} {k : Nat} (hk : k < s.size / 2) (h : wordA L (atomAt s k) = ⟨#[]⟩) : noText L s = true := by
 unfold noText
 rw [List.any_eq_true]
 refine ⟨atomAt s k, ?_, by simp [h]⟩
 simp only [atomNs, List.mem_map, List.mem_range]
 exact ⟨k, hk, rfl⟩
theorem noText_no {L : Nat → List ByteArray} {s : ByteArray} (h : ∀ j, j < s.size / 2 → wordA L (atomAt s j) ≠ ⟨#[]⟩) : noText L s = false := by
 unfold noText
 rw [List.any_eq_false]
 intro a ha
 simp only [atomNs, List.mem_map, List.mem_range] at ha
 obtain ⟨j, hj, rfl⟩ := ha
 simp [h j hj]
theorem txtW_len {L : Nat → List ByteArray} (hn : ∀ a, (nameS L a).size ≤ 1000) (l : List Nat) : ∀ k, (txtW L l k).length ≤ 1010 * k
  | 0 => by simp [txtW]
  | k + 1 => by
    have ih := txtW_len hn l k
    have h1 := wordT_size 1 (nameS L (l.getD k 0)) ((l.getD k 0 : Nat) / 8192)
    have h2 := hn (l.getD k 0)
    have h3 : (sepA l k).length ≤ 4 := by unfold sepA; split; · simp
                                          · split <;> simp
    have h4 : (wordA L (l.getD k 0)).data.toList.length ≤ 1006 := by rw [len_size]; unfold wordA; omega
    unfold txtW at ih ⊢
    rw [List.range_succ, List.flatMap_append, List.flatMap_singleton, List.length_append, List.length_append]
    omega
theorem bld_below {T e : TypeId} {B b : Nat} {bs : List Value} {w w' : World} (h : IsBuilderF T e B b bs w) (hb : Below w.heap.size w w') : IsBuilderF T e B b bs w' := by
 have one : ∀ p, BuilderAtF T e B b p bs w → BuilderAtF T e B b p bs w' := by
  rintro p ⟨hB, v, h1, h2, h3⟩
  refine ⟨hB, v, (hb.block b (lt_of_block h1)).trans h1, h2.kept (row := none) ⟨hb.os, hb.tape, hb.output, hb.size, fun k hk _ => hb.block k hk⟩ ?_, h3⟩
  cases v.ownBlock with
  | none => exact .inl rfl
  | some x => exact .inr (by simp)
 exact h.elim (fun x => .inl (one _ x)) (fun x => .inr (one _ x))
theorem toList_emp : (⟨#[]⟩ : ByteArray).toList = [] := by
 unfold ByteArray.toList
 unfold ByteArray.toList.loop
 simp [ByteArray.size]
theorem not_empty {x : ByteArray} (h : x ≠ ⟨#[]⟩) : x.toList.isEmpty = false := by
 have h1 := str_ne h
 have h2 : (⟨#[]⟩ : ByteArray).toList = [] := toList_emp
 rw [h2] at h1
 cases hl : x.toList with
 | nil => rw [hl] at h1; simp at h1
 | cons a l => rfl
theorem cells_app (l : List UInt8) (x : ByteArray) : byteCells l ++ strCells x = byteCells (l ++ x.data.toList) := by rw [strCells_eq, byteCells, byteCells, byteCells, List.map_append]
theorem wr_lim {l : List UInt8} {x : ByteArray} {k z n : Nat} (hx : x.size ≤ 2000) (hs : n ≤ 1000000) (hz : z = n / 2) (hk : k ≤ z) (hl : l.length ≤ 1010 * k + 1000) : (byteCells l).length + x.size ≤ 140737488355328 := by
 rw [byteCells, List.length_map]; omega
theorem wr_lim3 {l : List UInt8} {k z n : Nat} {x : ByteArray} (hx : x.size ≤ 2000) (hs : n ≤ 1000000) (hz : z = n / 2) (hk : k ≤ z) (hl : l.length ≤ 1010 * k) : (byteCells l).length + x.size ≤ 140737488355328 := wr_lim hx hs hz hk (by omega)
theorem wr_lim4 {l : List UInt8} {k z n : Nat} {x : ByteArray} (hx : x.size ≤ 2000) (hs : n ≤ 1000000) (hz : z = n / 2) (hk : k ≤ z) (hl : l.length ≤ 1010 * k) : (byteCells l).length + x.size ≤ 140737488355328 := wr_lim hx hs hz hk (by omega)
theorem wr_limx {l q : List UInt8} {k z n : Nat} {x : ByteArray} (hq : q.length ≤ 100) (hs : n ≤ 1000000) (hz : z = n / 2) (hk : k ≤ z) (hl : l.length ≤ 1010 * k) (hx : x.size ≤ 1006) : (byteCells (l ++ q)).length + x.size ≤ 140737488355328 := wr_lim (by omega) hs hz hk (by rw [List.length_append]; omega)
def vTok1 (k : Int) (nm : ByteArray) (o : Int) : Value := .agg #[.int .i64 k, .string nm, .int .i64 o, .int .i64 0]
theorem kind_int (a : Nat) : ((a / 8192 : Nat) : Int) = (a : Int) / 8192 := by omega
theorem show_core (L : Nat → List ByteArray) (b z : Nat) (S : Nat → Prop) (s : ByteArray) (w : World) (hT : Hid (Tab w b L S)) (hs : Hid (s.size ≤ 1000000)) (hz : z = s.size / 2) (hat : Hid (∀ i, i < z → atomAt s i < 65536))
  (hnm : Hid (∀ a, (nameS L a).size ≤ 1000)) (res : Value) (hres : Hid (res = if noText L s = true then .tuple #[.string ⟨#[]⟩, .bool false] else .tuple #[.string (ba (showW L s)), .bool true])) :
  Calls Tryz.prog 36 #[.pointer (some ⟨b, 0, none⟩), .string s] w fun e w' => e = .returned res ∧ Below w.heap.size w w' := by
 have HW := Lib.hid (fun (a : Nat) w => calls_str (p_word 1 (nameS L a) ((a / 8192 : Nat) : Int) 0 (by have := hnm.out a; omega)) w (vargs := [vTok1 1 (nameS L a) ((a / 8192 : Nat) : Int)]) (.cons (.agg [_, _, _, _] _ (by intro v hv; simp at hv; rcases hv with rfl | rfl | rfl | rfl <;> rfl) (by intro v hv; simp at hv; rcases hv with rfl | rfl | rfl | rfl <;> rfl) (.cons (.int _ _) (.cons (.str _) (.cons (.int _ _) (.cons (.int _ _) .nil))))) .nil) (by intro a ha; simp at ha; subst ha; rfl))
 go_enter Tryz.func36, Tryz.ntmps36
 go_wp2_with (go_at_call 67; refine (watoms_any s z _ hs (by omega) (by omega)).mono ?_; rintro e w1 ⟨rb, rfl, hb1, hrow⟩)
 have hcur : ∃ cur, w1.heap[rb]? = some (.cells cur 57 (0, 0)) ∧ w.heap.size + 1 ≤ rb := by
  rcases hrow.2 with h | ⟨g, cap, cur, hv, hg, hh, _⟩
  ·exact absurd h.1 (by simp)
  ·simp only [Value.slice.injEq, Option.some.injEq, Addr.mk.injEq, and_true, true_and] at hv
   obtain ⟨rfl, _⟩ := hv
   exact ⟨cur, hh, by simpa using hg⟩
 obtain ⟨cur, hrb, hrbs⟩ := hcur
 have hcell : ∀ i, i < z → w1.cell? ⟨rb, i, none⟩ = some (.int .u16 (atomAt s i)) := fun i hi => by
  rw [hrow.cellAt i (by omega)]
  simp [atomCs, hi]
 have hcells : ∀ wr : World, wr.heap[rb]? = some (.cells cur 57 (0, 0)) → ∀ i, i < z → wr.cell? ⟨rb, i, none⟩ = some (.int .u16 (atomAt s i)) := fun wr hw i hi => by
  rw [World.cell?_of_block (w := w1) (hw.trans hrb.symm)]; exact hcell i hi
 have HC := Lib.hid hcells
 have HRB := Lib.hid hrb
 have hbA : Below w.heap.size w (w.alloc (.cells #[.pointer none, .slice none 0 0] 119)) := (Below.refl _ _).alloc (Nat.le_refl _) _
 have HB := Lib.hid (hbA.trans (hb1.mono (by simp)))
 have HI : Hid (IsBuilderF 119 5 w.heap.size w.heap.size (byteCells (txtW L (atomNs s) 0)) w1) := by
  show IsBuilderF _ _ _ _ _ _
  refine .inl ⟨Nat.le_refl _, .slice none 0 0, (hb1.block w.heap.size (by simp)).trans (heap_alloc_new w _), World.ownsRowF_nil _ _ _ _, by simp [Value.ownBlock]⟩
 clear hb1 hrow hcell hrb hcells hbA
 have hwa : ∀ a : Nat, wordT 1 (nameS L a) ((a / 8192 : Nat) : Int) = wordA L a := fun a => by unfold wordA; rw [kind_int]
 go_loopw [7, 16] (fun ro t wr => ∃ k : Nat, k ≤ z ∧ t = .int .i64 k ∧ ro = .bool (rolesTo (atomNs s) k) ∧ Hid (IsBuilderF 119 5 w.heap.size w.heap.size (byteCells (txtW L (atomNs s) k)) wr) ∧ Hid (Below w.heap.size w wr) ∧ Hid (wr.heap[rb]? = some (.cells cur 57 (0, 0))) ∧ Hid (∀ j, j < k → wordA L (atomAt s j) ≠ ⟨#[]⟩)) (fun _ t _ => z - (RowKit.intOf t).toNat)
 case atStart => exact ⟨0, Nat.zero_le _, rfl, rfl, HI, HB, HRB, fun j hj => by omega⟩
 case round =>
  clear HI HB HRB
  obtain ⟨k, hk, rfl, rfl, HI, HB, HRB, HA⟩ := hrel
  by_cases hlt : k < z
  ·have hx : wr.cell? ⟨rb, k, none⟩ = some (.int .u16 (atomAt s k)) := HC.out wr HRB.out k hlt
   have hT2 : Hid (Tab wr b L S) := hT.out.blocks fun j hj => HB.out.block j (hT.out.lt j hj)
   have ha6 : Hid (atomAt s k < 65536) := hat.out k hlt
   have hbad : Hid (wordA L (atomAt s k) = ⟨#[]⟩ → noText L s = true) := fun h => noText_yes (by omega) h
   by_cases hw : wordA L (atomAt s k) = ⟨#[]⟩
   ·have HY := Lib.hid (hbad.out hw)
    cases hn : nameB L (atomAt s k) with
    | false =>
     generalize atomAt s k = a at hx ha6 hn
     have HN := Lib.hid hn
     clear hn
     go_wp2_with (go_at_call 68; refine (name_any b a L S _ ha6.out hT2.out).mono ?_; rintro e w' ⟨rfl, rfl⟩; rw [HN.out])
     go_ret2
     exact ⟨by rw [hres.out, if_pos HY.out]; rfl, HB.out⟩
    | true =>
     generalize atomAt s k = a at hx ha6 hn hw
     have HN := Lib.hid hn
     have HE := Lib.hid ((hwa a).trans hw)
     clear hn hw
     go_wp2_with (first
      | (go_at_call 68; refine (name_any b a L S _ ha6.out hT2.out).mono ?_; rintro e w' ⟨rfl, rfl⟩; rw [HN.out])
      | (go_at_call 70; refine (kind_any a _ ha6.out).mono ?_; rintro e w' ⟨rfl, rfl⟩)
      | (go_at_call 69; refine (HW.out a _).mono ?_; rintro e w2 ⟨rfl, hb2⟩; rw [HE.out]))
     go_ret2
     exact ⟨by rw [hres.out, if_pos HY.out]; rfl, HB.out.trans (hb2.mono HB.out.size)⟩
   ·have hn : nameB L (atomAt s k) = true := by
     cases h : nameB L (atomAt s k) with
     | true => rfl
     | false => exact absurd (wordA_none h) hw
    have HA2 : Hid (∀ j, j < k + 1 → wordA L (atomAt s j) ≠ ⟨#[]⟩) := fun j hj => by
     by_cases e : j = k
     ·rw [e]; exact hw
     ·exact HA.out j (by omega)
    have hr := rolesTo_succ s k (by omega)
    have ht := txtW_succ L s k (by omega)
    have hlen := txtW_len hnm.out (atomNs s) k
    have hln2 : (wordA L (atomAt s k)).size ≤ 1006 := by
     have h1 := wordT_size 1 (nameS L (atomAt s k)) ((atomAt s k : Nat) / 8192)
     have h2 := hnm.out (atomAt s k)
     unfold wordA; omega
    clear hbad HA
    generalize atomAt s k = a at hx ha6 hn hw hr ht hln2
    have hE := hwa a
    generalize wordA L a = tx at hE hw ht hln2
    have HN := Lib.hid hn
    have HE := Lib.hid hE
    have hxe := not_empty hw
    clear hn hw hE
    by_cases h0 : k = 0
    ·have HR : Hid (rolesTo (atomNs s) (k + 1) = true) := by show _ = _; rw [hr, if_pos h0]
     have HTX : Hid (txtW L (atomNs s) (k + 1) = txtW L (atomNs s) k ++ tx.data.toList) := by show _ = _; rw [ht, if_pos h0]; rfl
     subst h0
     clear hr ht
     go_wp2_with (first
      | (go_at_call 68; refine (name_any b a L S _ ha6.out hT2.out).mono ?_; rintro e w' ⟨rfl, rfl⟩; rw [HN.out])
      | (go_at_call 70; refine (kind_any a _ ha6.out).mono ?_; rintro e w' ⟨rfl, rfl⟩)
      | (go_at_call 69; refine (HW.out a _).mono ?_; rintro e w2 ⟨rfl, hb2⟩; rw [HE.out]))
     have HI2 := bld_below HI.out hb2
     have HB2 := Lib.hid (HB.out.trans (hb2.mono HB.out.size))
     have HRB2 : Hid (w2.heap[rb]? = some (.cells cur 57 (0, 0))) := (hb2.block rb (lt_of_block HRB.out)).trans HRB.out
     refine (Any.Builder_WriteString_k (P := Tryz.prog) { lJoin with } xJoin w.heap.size w.heap.size _ tx _ HI2 (by rw [byteCells, List.length_map]; omega) HB2.out.size).mono ?_
     rintro e w3 ⟨rfl, hI3, hb3, ho3⟩
     have HI3 : Hid (IsBuilderF 119 5 w.heap.size w.heap.size (byteCells (txtW L (atomNs s) (0 + 1))) w3) := by
      show IsBuilderF _ _ _ _ _ _
      rw [HTX.out]
      refine .inr ?_
      have := hI3
      rw [show byteCells (txtW L (atomNs s) 0) ++ strCells tx = byteCells (txtW L (atomNs s) 0 ++ tx.data.toList) by rw [strCells_eq, byteCells, byteCells, byteCells, List.map_append]] at this
      exact this
     have HB3 := Lib.hid (HB2.out.trans hb3)
     have HRB3 : Hid (w3.heap[rb]? = some (.cells cur 57 (0, 0))) := ho3 rb _ HRB2.out (by intro h; injection h with h; omega) (by intro c fz h; injection h with _ h _; revert h; decide)
     clear HI HI2 HB HB2 HRB HRB2 hI3 hb3 ho3 hb2
     go_wp2_with fail
     refine ⟨⟨1, by omega, rfl, by rw [HR.out]; rfl, HI3, HB3, HRB3, HA2⟩, ?_⟩
     simp [RowKit.intOf]; omega
    ·have hk1 : 0 < k := by omega
     rw [if_neg h0] at hr ht
     have hk2 : (0 : Int) < (k : Int) := by omega
     generalize rolesTo (atomNs s) k = r at hr
     cases r with
     | false =>
     have HR : Hid (rolesTo (atomNs s) (k + 1) = false) := by show _ = _; rw [hr]; rfl
     have HTX : Hid (txtW L (atomNs s) (k + 1) = txtW L (atomNs s) k ++ ([32, 124, 32] ++ tx.data.toList)) := by show _ = _; rw [ht, if_neg (by rw [HR.out]; simp)]
     clear hr ht
     go_wp2_with (first
      | (go_at_call 68; refine (name_any b a L S _ ha6.out hT2.out).mono ?_; rintro e w' ⟨rfl, rfl⟩; rw [HN.out])
      | (go_at_call 70; refine (kind_any a _ ha6.out).mono ?_; rintro e w' ⟨rfl, rfl⟩)
      | (go_at_call 69; refine (HW.out a _).mono ?_; rintro e w2 ⟨rfl, hb2⟩; rw [HE.out]))
     have HI2 := bld_below HI.out hb2
     have HB2 := Lib.hid (HB.out.trans (hb2.mono HB.out.size))
     have HRB2 : Hid (w2.heap[rb]? = some (.cells cur 57 (0, 0))) := (hb2.block rb (lt_of_block HRB.out)).trans HRB.out
     refine (Any.Builder_WriteString_k (P := Tryz.prog) { lJoin with } xJoin w.heap.size w.heap.size _ _ _ HI2 (wr_lim3 (by decide) hs.out hz hk hlen) HB2.out.size).mono ?_
     rintro e w3 ⟨rfl, hI, hb, ho⟩
     have HI3 : IsBuilderF 119 5 w.heap.size w.heap.size (byteCells (txtW L (atomNs s) k ++ [32, 124, 32])) w3 := by
      refine .inr ?_
      have := hI
      rw [cells_app] at this
      exact this
     have HB3 := Lib.hid (HB2.out.trans hb)
     have HRB3 : Hid (w3.heap[rb]? = some (.cells cur 57 (0, 0))) := ho rb _ HRB2.out (by intro h; injection h with h; omega) (by intro c fz h; injection h with _ h _; revert h; decide)
     clear hI hb ho
     go_wp2_with fail
     refine (Any.Builder_WriteString_k (P := Tryz.prog) { lJoin with } xJoin w.heap.size w.heap.size _ tx _ HI3 (wr_limx (by decide) hs.out hz hk hlen hln2) HB3.out.size).mono ?_
     rintro e w4 ⟨rfl, hI, hb, ho⟩
     have HI4 : IsBuilderF 119 5 w.heap.size w.heap.size (byteCells (txtW L (atomNs s) (k + 1))) w4 := by
      rw [HTX.out]
      refine .inr ?_
      have := hI
      rw [cells_app, List.append_assoc] at this
      exact this
     have HB4 := Lib.hid (HB3.out.trans hb)
     have HRB4 : Hid (w4.heap[rb]? = some (.cells cur 57 (0, 0))) := ho rb _ HRB3.out (by intro h; injection h with h; omega) (by intro c fz h; injection h with _ h _; revert h; decide)
     clear hI hb ho
     clear HI HI2 HI3 HB HB2 HB3 HRB HRB2 HRB3 hb2
     go_wp2_with fail
     have hw : wrap64 ((k : Int) + 1) = (k : Int) + 1 := IntWalk.wrap64_in _ (by have := hs.out; omega)
     rw [hw]
     refine ⟨⟨k + 1, by omega, by norm_cast, by rw [HR.out], HI4, HB4, HRB4, HA2⟩, ?_⟩
     simp [RowKit.intOf]; omega
     | true =>
     by_cases h5 : a / 8192 = 5
     ·have h5i : (a : Int) / 8192 = 5 := by omega
      have HR : Hid (rolesTo (atomNs s) (k + 1) = true) := by show _ = _; rw [hr]; simp [h5]
      have HTX : Hid (txtW L (atomNs s) (k + 1) = txtW L (atomNs s) k ++ ([32, 97, 115, 32] ++ tx.data.toList)) := by show _ = _; rw [ht, if_pos HR.out]
      clear hr ht
      have H5 := Lib.hid h5
      clear h5 h5i
      go_wp2_with (first
       | (go_at_call 68; refine (name_any b a L S _ ha6.out hT2.out).mono ?_; rintro e w' ⟨rfl, rfl⟩; rw [HN.out])
       | (go_at_call 70; refine (kind_any a _ ha6.out).mono ?_; rintro e w' ⟨rfl, rfl⟩))
      refine (HW.out a _).mono ?_
      rintro e w2 ⟨rfl, hb2⟩
      rw [HE.out]
      have h5 := H5.out
      have h5i : (a : Int) / 8192 = 5 := by omega
      go_wp2_with (go_at_call 70; refine (kind_any a _ ha6.out).mono ?_; rintro e w' ⟨rfl, rfl⟩)
      clear h5 h5i
      have HI2 := bld_below HI.out hb2
      have HB2 := Lib.hid (HB.out.trans (hb2.mono HB.out.size))
      have HRB2 : Hid (w2.heap[rb]? = some (.cells cur 57 (0, 0))) := (hb2.block rb (lt_of_block HRB.out)).trans HRB.out
      refine (Any.Builder_WriteString_k (P := Tryz.prog) { lJoin with } xJoin w.heap.size w.heap.size _ _ _ HI2 (wr_lim4 (by decide) hs.out hz hk hlen) HB2.out.size).mono ?_
      rintro e w3 ⟨rfl, hI, hb, ho⟩
      have HI3 : IsBuilderF 119 5 w.heap.size w.heap.size (byteCells (txtW L (atomNs s) k ++ [32, 97, 115, 32])) w3 := by
       refine .inr ?_
       have := hI
       rw [cells_app] at this
       exact this
      have HB3 := Lib.hid (HB2.out.trans hb)
      have HRB3 : Hid (w3.heap[rb]? = some (.cells cur 57 (0, 0))) := ho rb _ HRB2.out (by intro h; injection h with h; omega) (by intro c fz h; injection h with _ h _; revert h; decide)
      clear hI hb ho
      go_wp2_with fail
      refine (Any.Builder_WriteString_k (P := Tryz.prog) { lJoin with } xJoin w.heap.size w.heap.size _ tx _ HI3 (wr_limx (by decide) hs.out hz hk hlen hln2) HB3.out.size).mono ?_
      rintro e w4 ⟨rfl, hI, hb, ho⟩
      have HI4 : IsBuilderF 119 5 w.heap.size w.heap.size (byteCells (txtW L (atomNs s) (k + 1))) w4 := by
       rw [HTX.out]
       refine .inr ?_
       have := hI
       rw [cells_app, List.append_assoc] at this
       exact this
      have HB4 := Lib.hid (HB3.out.trans hb)
      have HRB4 : Hid (w4.heap[rb]? = some (.cells cur 57 (0, 0))) := ho rb _ HRB3.out (by intro h; injection h with h; omega) (by intro c fz h; injection h with _ h _; revert h; decide)
      clear hI hb ho
      clear HI HI2 HI3 HB HB2 HB3 HRB HRB2 HRB3 hb2
      go_wp2_with fail
      have hw : wrap64 ((k : Int) + 1) = (k : Int) + 1 := IntWalk.wrap64_in _ (by have := hs.out; omega)
      rw [hw]
      refine ⟨⟨k + 1, by omega, by norm_cast, by rw [HR.out], HI4, HB4, HRB4, HA2⟩, ?_⟩
      simp [RowKit.intOf]; omega
     ·have h5i : ¬ (a : Int) / 8192 = 5 := by omega
      have HR : Hid (rolesTo (atomNs s) (k + 1) = false) := by show _ = _; rw [hr]; simp [h5]
      have HTX : Hid (txtW L (atomNs s) (k + 1) = txtW L (atomNs s) k ++ ([32, 124, 32] ++ tx.data.toList)) := by show _ = _; rw [ht, if_neg (by rw [HR.out]; simp)]
      clear hr ht
      have H5 := Lib.hid h5
      clear h5 h5i
      go_wp2_with (first
       | (go_at_call 68; refine (name_any b a L S _ ha6.out hT2.out).mono ?_; rintro e w' ⟨rfl, rfl⟩; rw [HN.out])
       | (go_at_call 70; refine (kind_any a _ ha6.out).mono ?_; rintro e w' ⟨rfl, rfl⟩))
      refine (HW.out a _).mono ?_
      rintro e w2 ⟨rfl, hb2⟩
      rw [HE.out]
      have h5 := H5.out
      have h5i : ¬ (a : Int) / 8192 = 5 := by omega
      go_wp2_with (go_at_call 70; refine (kind_any a _ ha6.out).mono ?_; rintro e w' ⟨rfl, rfl⟩)
      have HI2 := bld_below HI.out hb2
      have HB2 := Lib.hid (HB.out.trans (hb2.mono HB.out.size))
      have HRB2 : Hid (w2.heap[rb]? = some (.cells cur 57 (0, 0))) := (hb2.block rb (lt_of_block HRB.out)).trans HRB.out
      refine (Any.Builder_WriteString_k (P := Tryz.prog) { lJoin with } xJoin w.heap.size w.heap.size _ _ _ HI2 (wr_lim3 (by decide) hs.out hz hk hlen) HB2.out.size).mono ?_
      rintro e w3 ⟨rfl, hI, hb, ho⟩
      have HI3 : IsBuilderF 119 5 w.heap.size w.heap.size (byteCells (txtW L (atomNs s) k ++ [32, 124, 32])) w3 := by
       refine .inr ?_
       have := hI
       rw [cells_app] at this
       exact this
      have HB3 := Lib.hid (HB2.out.trans hb)
      have HRB3 : Hid (w3.heap[rb]? = some (.cells cur 57 (0, 0))) := ho rb _ HRB2.out (by intro h; injection h with h; omega) (by intro c fz h; injection h with _ h _; revert h; decide)
      clear hI hb ho
      go_wp2_with fail
      refine (Any.Builder_WriteString_k (P := Tryz.prog) { lJoin with } xJoin w.heap.size w.heap.size _ tx _ HI3 (wr_limx (by decide) hs.out hz hk hlen hln2) HB3.out.size).mono ?_
      rintro e w4 ⟨rfl, hI, hb, ho⟩
      have HI4 : IsBuilderF 119 5 w.heap.size w.heap.size (byteCells (txtW L (atomNs s) (k + 1))) w4 := by
       rw [HTX.out]
       refine .inr ?_
       have := hI
       rw [cells_app, List.append_assoc] at this
       exact this
      have HB4 := Lib.hid (HB3.out.trans hb)
      have HRB4 : Hid (w4.heap[rb]? = some (.cells cur 57 (0, 0))) := ho rb _ HRB3.out (by intro h; injection h with h; omega) (by intro c fz h; injection h with _ h _; revert h; decide)
      clear hI hb ho
      clear HI HI2 HI3 HB HB2 HB3 HRB HRB2 HRB3 hb2
      go_wp2_with fail
      have hw : wrap64 ((k : Int) + 1) = (k : Int) + 1 := IntWalk.wrap64_in _ (by have := hs.out; omega)
      rw [hw]
      refine ⟨⟨k + 1, by omega, by norm_cast, by rw [HR.out], HI4, HB4, HRB4, HA2⟩, ?_⟩
      simp [RowKit.intOf]; omega
  ·have hkz : k = z := by omega
   subst hkz
   have hno : Hid (noText L s = false) := noText_no (fun j hj => HA.out j (by omega))
   go_wp2_with fail
   refine (Any.Builder_String_any_k (P := Tryz.prog) { lJoin with } xJoin w.heap.size w.heap.size _ _ HI.out HB.out.size).mono ?_
   rintro e w3 ⟨rfl, hI, hb, ho⟩
   go_wp2_with fail
   go_ret2
   refine ⟨?_, HB.out.trans hb⟩
   rw [hres.out, if_neg (by rw [hno.out]; simp)]
   rfl
def showV (L : Nat → List ByteArray) (s : ByteArray) : AV := if noText L s = true then .tup [.str ⟨#[]⟩, .bool false] else .tup [.str (ba (showW L s)), .bool true]
theorem p_show (L : Nat → List ByteArray) (s : ByteArray) (hs : s.size ≤ 1000000) (hnm : ∀ a, (nameS L a).size ≤ 1000) : PCalls Tryz.prog 36 [.frn (TabQ L), .str s] (showV L s) := by
 refine pcalls_calls (by simp [free, free.frees]) (by unfold showV; split <;> rfl) (by unfold showV; split <;> rfl) (by kernel_rfl) ?_
 intro g w vargs hsim hr
 cases hr with
 | cons h1 hr =>
 cases hr with
 | cons h2 hr =>
 cases hr
 cases h2
 obtain ⟨b, S, rfl, hT⟩ := frn_get hsim h1
 refine (show_core L b (s.size / 2) S s w hT hs rfl (fun i hi => atomAt_lt s i) hnm _ rfl).mono ?_
 rintro e w' ⟨rfl, hb⟩
 refine ⟨_, rfl, hb, ?_⟩
 unfold showV
 by_cases h : noText L s = true
 ·rw [if_pos h, if_pos h]
  exact .tup [_, _] _ (by intro a ha; simp at ha; rcases ha with rfl | rfl <;> rfl) (.cons (.str _) (.cons (.bool _) .nil))
 ·rw [if_neg h, if_neg h]
  exact .tup [_, _] _ (by intro a ha; simp at ha; rcases ha with rfl | rfl <;> rfl) (.cons (.str _) (.cons (.bool _) .nil))
end Go.Proofs.YtedaffmkpljlnaaGreat
