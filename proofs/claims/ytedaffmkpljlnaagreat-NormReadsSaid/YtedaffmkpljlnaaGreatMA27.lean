/- Texts of one proof, laid together: Nb. -/
import Derived.Test.YtedaffmkpljlnaaGreatMA14
import Derived.Test.YtedaffmkpljlnaaGreatMA10
import Derived.Test.YtedaffmkpljlnaaGreatMA21
import Derived.Test.YtedaffmkpljlnaaGreatMA18
set_option maxRecDepth 100000
set_option maxHeartbeats 16000000

set_option linter.unusedSimpArgs false
set_option linter.unusedVariables false
/- Norm: tables of names that nobody changes any more, as values: Load, Find and Name of both. -/
namespace Go.Proofs.YtedaffmkpljlnaaGreat
open Go.RowKit Go.Lib

theorem Tab.blocks {w w' : World} {b : Nat} {L : Nat → List ByteArray} {S : Nat → Prop} (h : Tab w b L S) (hb : ∀ j, S j → w'.heap[j]? = w.heap[j]?) : Tab w' b L S := by
 obtain ⟨a, cap, m, h⟩ := h
 refine ⟨a, cap, m, h.sb, fun j hj => lt_of_block ((hb j hj).trans (Array.getElem?_eq_getElem (h.lt j hj))), ?_, ?_, ?_, ?_, h.rowS, h.rowD, h.mapS, h.mapD, h.mapR, h.nils, ?_⟩
 ·intro k hk; rw [World.cell?_of_block (w := w) (hb b h.sb)]; exact h.c1 k hk
 ·intro k hk; rw [World.cell?_of_block (w := w) (hb b h.sb)]; exact h.c2 k hk
 ·intro k; rw [World.frozen?_of_block (w := w) (hb b h.sb)]; exact h.fr k
 ·intro k hk
  obtain ⟨h1, h2⟩ := h.row k hk
  refine ⟨h1, ?_⟩
  rcases h2 with h2 | ⟨g, c, cur, hv, hg, hh, r⟩
  ·exact .inl h2
  ·refine .inr ⟨g, c, cur, hv, hg, ?_, r⟩
   have := h.rowS k hk g (by rw [← ownBlock_slice (a k) (L k).length (cap k), hv]; rfl)
   rw [hb g this.1]; exact hh
 ·intro k hk mb hmb
  obtain ⟨D, ⟨es, clock, he, r⟩, hD⟩ := h.dict k hk mb hmb
  exact ⟨D, ⟨es, clock, by rw [hb mb (h.mapS k hk mb hmb).1]; exact he, r⟩, hD⟩
theorem RTab.blocks {w w' : World} {b : Nat} {L : Nat → List ByteArray} {S : Nat → Prop} (h : RTab w b L S) (hb : ∀ j, S j → w'.heap[j]? = w.heap[j]?) : RTab w' b L S := by
 obtain ⟨a, cap, h⟩ := h
 refine ⟨a, cap, h.sb, fun j hj => lt_of_block ((hb j hj).trans (Array.getElem?_eq_getElem (h.lt j hj))), ?_, ?_, ?_, h.nil, h.rowS⟩
 ·intro k hk; rw [World.cell?_of_block (w := w) (hb b h.sb)]; exact h.c1 k hk
 ·intro k; rw [World.frozen?_of_block (w := w) (hb b h.sb)]; exact h.fr k
 ·intro k hk
  rcases h.row k hk with hr | ⟨bb, off, e, hc⟩
  ·exact .inl hr
  ·refine .inr ⟨bb, off, e, fun j u hj => ?_⟩
   rw [World.cell?_of_block (w := w) (hb bb (h.rowS k hk ⟨bb, off, none⟩ e).1)]; exact hc j u hj
def TabQ (L : Nat → List ByteArray) (w : World) (v : Value) : Prop := ∃ b S, v = .pointer (some ⟨b, 0, none⟩) ∧ Tab w b L S
def RTabQ (L : Nat → List ByteArray) (w : World) (v : Value) : Prop := ∃ b S, v = .pointer (some ⟨b, 0, none⟩) ∧ RTab w b L S
theorem frn_get {P : Program} {g : Gh} {h : Hp} {w : World} {v : Value} {Q : World → Value → Prop} (hs : Sim P g h w) (hr : Rep g v (.frn Q)) : Q w v := by
 cases hr with
 | frn _ _ S W0 h1 h2 h3 h4 =>
  refine h3 w fun j hj => ?_
  obtain ⟨o, h5, h6⟩ := h4 j hj
  rw [h5]; exact (hs.fro j o h6).1
theorem p_tfind (L : Nat → List ByteArray) (kd : Int) (s : ByteArray) (hs : s.size ≤ maxLen) : PCalls Tryz.prog 48 [.frn (TabQ L), .int .i64 kd, .str s] (.tup [.int .u16 (findA L kd s), .bool (findB L kd s)]) := by
 refine pcalls_calls (by simp [free, free.frees]) (by simp [free, free.frees]) (by simp [plain]) (by kernel_rfl) ?_
 intro g w vargs hsim hr
 cases hr with
 | cons h1 hr =>
 cases hr with
 | cons h2 hr =>
 cases hr with
 | cons h3 hr =>
 cases hr
 cases h2
 cases h3
 obtain ⟨b, S, rfl, hT⟩ := frn_get hsim h1
 refine (find_any b kd s L S w hs hT).mono ?_
 rintro e w' ⟨rfl, rfl⟩
 exact ⟨_, rfl, Below.refl _ _, .tup [_, _] _ (by intro a ha; simp at ha; rcases ha with rfl | rfl <;> rfl) (.cons (.int .u16 _) (.cons (.bool _) .nil))⟩
theorem p_trfind (L : Nat → List ByteArray) (kd : Int) (s : ByteArray) (hm : Few L) : PCalls Tryz.prog 31 [.frn (RTabQ L), .int .i64 kd, .str s] (.tup [.int .u16 (findA L kd s), .bool (findB L kd s)]) := by
 refine pcalls_calls (by simp [free, free.frees]) (by simp [free, free.frees]) (by simp [plain]) (by kernel_rfl) ?_
 intro g w vargs hsim hr
 cases hr with
 | cons h1 hr =>
 cases hr with
 | cons h2 hr =>
 cases hr with
 | cons h3 hr =>
 cases hr
 cases h2
 cases h3
 obtain ⟨b, S, rfl, hT⟩ := frn_get hsim h1
 refine (rfind_any b kd s L S w hT hm).mono ?_
 rintro e w' ⟨rfl, rfl⟩
 exact ⟨_, rfl, Below.refl _ _, .tup [_, _] _ (by intro a ha; simp at ha; rcases ha with rfl | rfl <;> rfl) (.cons (.int .u16 _) (.cons (.bool _) .nil))⟩
def vLs (l : List ByteArray) : AV := .lst .ro l.length (l.map .str)
def vNames (ls : Nat → List ByteArray) : AV := .agg [vLs (ls 0), vLs (ls 1), vLs (ls 2), vLs (ls 3), vLs (ls 4), vLs (ls 5)]
def smallN (ls : Nat → List ByteArray) : Prop := ∀ k, k < 6 → (ls k).length ≤ 9223372036854775807 ∧ ∀ s ∈ ls k, s.size ≤ maxLen
theorem names_rep {P : Program} {g : Gh} {h : Hp} {w : World} {v : Value} {ls : Nat → List ByteArray} (hs : Sim P g h w) (hr : Rep g v (vNames ls)) :
  ∃ (a : Nat → Option Addr) (c : Nat → Nat), v = listsVal a ls c ∧ ∀ k, k < 6 → RowOf w (a k) ((ls k).map .string) := by
 cases hr with
 | agg vs _ h1 h2 hl =>
 cases hl with
 | cons x0 hl =>
 cases hl with
 | cons x1 hl =>
 cases hl with
 | cons x2 hl =>
 cases hl with
 | cons x3 hl =>
 cases hl with
 | cons x4 hl =>
 cases hl with
 | cons x5 hl =>
 cases hl
 obtain ⟨a0, c0, rfl, r0⟩ := rep_strs hs x0
 obtain ⟨a1, c1, rfl, r1⟩ := rep_strs hs x1
 obtain ⟨a2, c2, rfl, r2⟩ := rep_strs hs x2
 obtain ⟨a3, c3, rfl, r3⟩ := rep_strs hs x3
 obtain ⟨a4, c4, rfl, r4⟩ := rep_strs hs x4
 obtain ⟨a5, c5, rfl, r5⟩ := rep_strs hs x5
 refine ⟨fun k => if k = 0 then a0 else if k = 1 then a1 else if k = 2 then a2 else if k = 3 then a3 else if k = 4 then a4 else a5, fun k => if k = 0 then c0 else if k = 1 then c1 else if k = 2 then c2 else if k = 3 then c3 else if k = 4 then c4 else c5, rfl, fun k hk => ?_⟩
 rcases (show k = 0 ∨ k = 1 ∨ k = 2 ∨ k = 3 ∨ k = 4 ∨ k = 5 by omega) with rfl | rfl | rfl | rfl | rfl | rfl
 all_goals assumption
theorem frees_names (ls : Nat → List ByteArray) : free.frees [vNames ls] = true := by
 simp [vNames, vLs, free, free.frees, frees_str]
def tabL (ls : Nat → List ByteArray) : Nat → List ByteArray := (loadTo ls 5).1
def tabErr (ls : Nat → List ByteArray) : Int := (loadTo ls 5).2
theorem tab_few (ls : Nat → List ByteArray) : Few (tabL ls) := (loadOk_to ls 5).1
theorem tab_may (ls : Nat → List ByteArray) : AllMay (tabL ls) := (loadOk_to ls 5).2
theorem p_tload (ls : Nat → List ByteArray) (hz : smallN ls) (h0 : tabErr ls = 0) : PCalls Tryz.prog 26 [vNames ls] (.tup [.frn (TabQ (tabL ls)), .int .i64 0]) := by
 refine pcalls_calls (frees_names ls) (by simp [free, free.frees]) (by simp [plain]) (by kernel_rfl) ?_
 intro g w vargs hsim hr
 cases hr with
 | cons h1 hr =>
 cases hr
 obtain ⟨a, c, rfl, hrow⟩ := names_rep hsim h1
 refine (load_any a ls c w hrow (fun k hk => (hz k hk).1) (fun k hk => (hz k hk).2)).mono ?_
 rintro e w' ⟨hb, hok, _⟩
 obtain ⟨rfl, hT⟩ := hok h0
 refine ⟨_, rfl, hb, .tup [_, _] _ (by intro a ha; simp at ha; rcases ha with rfl | rfl <;> rfl) (.cons (.frn _ _ (fun j => w.heap.size + 1 ≤ j ∧ j < w'.heap.size) w' rfl ⟨_, _, rfl⟩ (fun w2 hb2 => ⟨_, _, rfl, Tab.blocks hT hb2⟩) (fun j hj => ⟨_, Array.getElem?_eq_getElem hj.2, ?_⟩)) (.cons (.int .i64 _) .nil))⟩
 simp only [Gh.news]
 rw [if_neg (by omega)]
 exact Array.getElem?_eq_getElem hj.2
theorem p_tload_no (ls : Nat → List ByteArray) (hz : smallN ls) (h0 : tabErr ls ≠ 0) : PCalls Tryz.prog 26 [vNames ls] (.tup [.nilp, .int .i64 (tabErr ls)]) := by
 refine pcalls_calls (frees_names ls) (by simp [free, free.frees]) (by simp [plain]) (by kernel_rfl) ?_
 intro g w vargs hsim hr
 cases hr with
 | cons h1 hr =>
 cases hr
 obtain ⟨a, c, rfl, hrow⟩ := names_rep hsim h1
 refine (load_any a ls c w hrow (fun k hk => (hz k hk).1) (fun k hk => (hz k hk).2)).mono ?_
 rintro e w' ⟨hb, _, hno⟩
 obtain rfl := hno h0
 exact ⟨_, rfl, hb, .tup [_, _] _ (by intro a ha; simp at ha; rcases ha with rfl | rfl <;> rfl) (.cons .nilp (.cons (.int .i64 _) .nil))⟩
theorem p_trload (ls : Nat → List ByteArray) (hz : smallN ls) (h0 : tabErr ls = 0) : PCalls Tryz.prog 27 [vNames ls] (.tup [.frn (RTabQ (tabL ls)), .int .i64 0]) := by
 refine pcalls_calls (frees_names ls) (by simp [free, free.frees]) (by simp [plain]) (by kernel_rfl) ?_
 intro g w vargs hsim hr
 cases hr with
 | cons h1 hr =>
 cases hr
 obtain ⟨a, c, rfl, hrow⟩ := names_rep hsim h1
 refine (rload_any a ls c w hrow (fun k hk => (hz k hk).1) (fun k hk => (hz k hk).2)).mono ?_
 rintro e w' ⟨hb, hok, _⟩
 obtain ⟨rfl, hT⟩ := hok h0
 refine ⟨_, rfl, hb, .tup [_, _] _ (by intro a ha; simp at ha; rcases ha with rfl | rfl <;> rfl) (.cons (.frn _ _ (fun j => w.heap.size + 1 ≤ j ∧ j < w'.heap.size) w' rfl ⟨_, _, rfl⟩ (fun w2 hb2 => ⟨_, _, rfl, RTab.blocks hT hb2⟩) (fun j hj => ⟨_, Array.getElem?_eq_getElem hj.2, ?_⟩)) (.cons (.int .i64 _) .nil))⟩
 simp only [Gh.news]
 rw [if_neg (by omega)]
 exact Array.getElem?_eq_getElem hj.2
theorem p_trload_no (ls : Nat → List ByteArray) (hz : smallN ls) (h0 : tabErr ls ≠ 0) : PCalls Tryz.prog 27 [vNames ls] (.tup [.nilp, .int .i64 (tabErr ls)]) := by
 refine pcalls_calls (frees_names ls) (by simp [free, free.frees]) (by simp [plain]) (by kernel_rfl) ?_
 intro g w vargs hsim hr
 cases hr with
 | cons h1 hr =>
 cases hr
 obtain ⟨a, c, rfl, hrow⟩ := names_rep hsim h1
 refine (rload_any a ls c w hrow (fun k hk => (hz k hk).1) (fun k hk => (hz k hk).2)).mono ?_
 rintro e w' ⟨hb, _, hno⟩
 obtain rfl := hno h0
 exact ⟨_, rfl, hb, .tup [_, _] _ (by intro a ha; simp at ha; rcases ha with rfl | rfl <;> rfl) (.cons .nilp (.cons (.int .i64 _) .nil))⟩
end Go.Proofs.YtedaffmkpljlnaaGreat
