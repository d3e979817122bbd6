/- Texts of one proof, laid together: Ab2. -/
import Derived.Test.YtedaffmkpljlnaaGreatMC7
import Derived.Test.YtedaffmkpljlnaaGreatMC8
set_option maxRecDepth 100000
set_option maxHeartbeats 16000000

set_option linter.unusedSimpArgs false
set_option linter.unusedVariables false
/- The abstract layer, third part: append, and who may append. -/
namespace Go.Proofs.YtedaffmkpljlnaaGreat
open Go.RowKit Go.Lib

structure Grew (w w' : World) (v v' : Value) : Prop where
  os : w'.os = w.os
  tape : w'.tape = w.tape
  output : w'.output = w.output
  size : w.heap.size ≤ w'.heap.size
  way : (v'.ownBlock = v.ownBlock ∧ ∀ k, k < w.heap.size → some k ≠ v.ownBlock → w'.heap[k]? = w.heap[k]?) ∨ (v'.ownBlock = some w.heap.size ∧ ∀ k, k < w.heap.size → w'.heap[k]? = w.heap[k]?)

section
variable {P : Program} (w : World)

theorem grown_row (e : TypeId) (z : Value) (size : Nat) (hzs : z.cells.size = size) (n m : Nat) (xs news : List Value) (hx : xs.length = n * size) (hl : news.length = m * size) (h63 : n + m ≤ maxLen) (old : Nat) (v : Value) :
  (w.drew.alloc (.cells (xs.toArray ++ news.toArray ++ Builtin.zeroCells z.cells (grownCap w (n + m) old e - (n + m))) e)).ownsRow 0 e size (.slice (some ⟨w.heap.size, 0, none⟩) (n + m) (grownCap w (n + m) old e)) (n + m) (xs ++ news) ∧
  Grew w (w.drew.alloc (.cells (xs.toArray ++ news.toArray ++ Builtin.zeroCells z.cells (grownCap w (n + m) old e - (n + m))) e)) v (.slice (some ⟨w.heap.size, 0, none⟩) (n + m) (grownCap w (n + m) old e)) := by
 have hge := grownCap_ge w (n + m) old e
 have hcm : grownCap w (n + m) old e ≤ maxLen := grownCap_le_maxLen w (n + m) old e h63
 have hlen : (xs ++ news).length = (n + m) * size := by rw [List.length_append, hx, hl, Nat.add_mul]
 refine ⟨⟨hlen, .inr ⟨w.heap.size, _, _, rfl, Nat.zero_le _, heap_alloc_new w.drew _, hge, hcm, ?_, ?_⟩⟩, ⟨rfl, rfl, rfl, by simp, .inr ⟨rfl, fun k hk => heap_alloc_old (w := w.drew) _ hk⟩⟩⟩
 ·simp only [Array.size_append, List.size_toArray, size_zeroCells, hzs, hx, hl, ← Nat.add_mul]
  congr 1
  omega
 ·simp only [Array.toList_append, List.append_assoc]
  rw [← List.append_assoc, ← hlen]
  exact List.take_left

theorem run_app (t ty e : TypeId) (i : TypeInfo) (z : Value) (size bytes : Nat) (ht : P.underlying t = some (.slice e)) (hi : P.info? e = some i) (hz : i.zero = some z)
  (hsize : i.size = size) (hby : i.bytes = bytes) (hzs : z.cells.size = size) (hsz : 0 < size)
  (v : Value) (n : Nat) (xs : List Value) (hown : w.ownsRow 0 e size v n xs)
  (a : Option Addr) (m c : Nat) (news : List Value) (hl : news.length = m * size) (hrow : RowOf w a news) (hc : a = none → c = 0) (h1 : ∀ u ∈ news, u.oneCell' = true)
  (h63 : n + m ≤ maxLen) (hbytes : (n + m) * bytes ≤ 140737488355328) :
  ∃ v' w', (Builtin.append_ #[t, t] ty #[v, .slice a m c]).run P w = .ok v' w' ∧ w'.ownsRow 0 e size v' (n + m) (xs ++ news) ∧ Grew w w' v v' := by
 cases a with
 | none =>
  have hn : news = [] := by
   rcases hrow with h | ⟨b, off, h, _⟩
   ·exact h
   ·cases h
  subst hn
  have hm : m = 0 := by
   rcases Nat.eq_zero_or_pos m with h | h
   ·exact h
   ·have := Nat.mul_pos h hsz; simp at hl; omega
  subst hm
  obtain rfl := hc rfl
  have hrun := run_append_owned_none (P := P) (w := w) 0 t ty e i size ht hi v n xs hown
  exact ⟨v, w, hrun, by simpa using hown, rfl, rfl, rfl, Nat.le_refl _, .inl ⟨rfl, fun _ _ _ => rfl⟩⟩
 | some ad =>
  have hnews : ∀ j u, news[j]? = some u → w.cell? (ad.add j) = some u := fun j u hu => by
   rcases hrow with h | ⟨b, off, h, hcell⟩
   ·rw [h] at hu; simp at hu
   ·injection h with h; subst h; rw [add_none]; exact hcell j u hu
  subst hsize
  subst hby
  have hsmall : n + m ≤ 9223372036854775807 := by simp only [maxLen] at h63; omega
  have hlen : (xs ++ news).length = (n + m) * i.size := by rw [List.length_append, hown.1, hl, Nat.add_mul]
  rcases hown.2 with ⟨rfl, rfl⟩ | ⟨g, cap, cur, rfl, hbg, hg, hnc, hcm, hcs, htake⟩
  ·have hx : xs = [] := List.eq_nil_of_length_eq_zero (by simpa using hown.1)
   subst hx
   by_cases hm : m = 0
   ·subst hm
    have hn : news = [] := List.eq_nil_of_length_eq_zero (by simpa using hl)
    subst hn
    refine ⟨.slice none 0 0, w, ?_, World.ownsRow_nil w 0 e i.size, ⟨rfl, rfl, rfl, Nat.le_refl _, .inl ⟨rfl, fun _ _ _ => rfl⟩⟩⟩
    simp [Builtin.append_, run_underlying ht, sizeOf, typeInfo, hi, Builtin.lenOf, Builtin.firstCells, loadCells, loadCellsFrom]
   ·have hr := run_append_nil (P := P) w t ty e i z ht hi hz ad m c news hl hnews (by omega) (by omega) (by have hb := hbytes; simp only [Nat.zero_add] at hb; omega)
    have hgr := grown_row w e z i.size hzs 0 m [] news (by simp) hl h63 0 (.slice none 0 0)
    simp only [Nat.zero_add, List.nil_append, Array.empty_append] at hgr ⊢
    exact ⟨_, _, hr, hgr⟩
  ·by_cases hroom : n + m ≤ cap
   ·have hfit : n * i.size + news.length ≤ cur.size := by rw [hl, hcs, ← Nat.add_mul]; exact Nat.mul_le_mul_right _ hroom
    have hr := run_append_room (P := P) w t ty e i ht hi g n cap cur hg ad m c news hl hnews h1 hroom hfit
    refine ⟨_, _, hr, ⟨hlen, .inr ⟨g, cap, _, rfl, hbg, setRow_heap w g cur _ e _ hg, hroom, hcm, ?_, ?_⟩⟩, ⟨rfl, rfl, rfl, by simp, .inl ⟨rfl, fun k _ hk => setRow_other w g k _ (fun e => hk (by simp [Value.ownBlock, e]))⟩⟩⟩
    ·simp only [List.size_toArray, List.length_append, List.length_take, List.length_drop, Array.length_toList]
     omega
    ·rw [htake, ← hlen]
     exact List.take_left
   ·have holds : ∀ j u, xs[j]? = some u → w.cell? ((⟨g, 0, none⟩ : Addr).add j) = some u := hown.cells (g := g) rfl
    have hr := run_append_grow (P := P) w t ty e i z ht hi hz ⟨g, 0, none⟩ n cap xs hown.1 holds ad m c news hl hnews (by omega) (by omega) (growslice_fits (by omega) hbytes)
    exact ⟨_, _, hr, grown_row w e z i.size hzs n m xs news hown.1 hl h63 cap _⟩

theorem run_apps (t u ty e : TypeId) (i : TypeInfo) (ht : P.underlying t = some (.slice e)) (hu : P.underlying u = some .string) (hi : P.info? e = some i) (hz : i.zero = some (.int .u8 0))
  (hsize : i.size = 1) (hby : i.bytes = 1) (v : Value) (n : Nat) (xs : List Value) (hown : w.ownsRow 0 e 1 v n xs) (s : ByteArray)
  (h63 : n + s.size ≤ maxLen) (hbytes : n + s.size ≤ 140737488355328) :
  ∃ v' w', (Builtin.append_ #[t, u] ty #[v, .string s]).run P w = .ok v' w' ∧ w'.ownsRow 0 e 1 v' (n + s.size) (xs ++ strCells s) ∧ Grew w w' v v' := by
 have hsmall : n + s.size ≤ 9223372036854775807 := by simp only [maxLen] at h63; omega
 have hxl : xs.length = n := by simpa using hown.1
 have hlen : (xs ++ strCells s).length = (n + s.size) * 1 := by rw [List.length_append, strCells_length, hxl]; omega
 rcases hown.2 with ⟨rfl, rfl⟩ | ⟨g, cap, cur, rfl, hbg, hg, hnc, hcm, hcs, htake⟩
 ·have hx : xs = [] := List.eq_nil_of_length_eq_zero hxl
  subst hx
  by_cases hm : s.size = 0
  ·obtain ⟨v', w', hr, h2, h3, h4⟩ := run_append_own_string (P := P) w 0 t u ty e i ht hu hi hz hsize hby (.slice none 0 0) 0 [] hown s h63 hbytes (Nat.zero_le _)
   have e1 := h4.2 ⟨rfl, hm⟩
   subst e1
   exact ⟨_, w', hr, h2, h3.os, h3.tape, h3.output, h3.size, .inl ⟨rfl, fun k hk _ => h3.block k hk (by simp [Value.ownBlock])⟩⟩
  ·have hr := run_append_nil_string (P := P) w t u ty e i (.int .u8 0) ht hu hi hz s (by omega) (by omega) (by rw [hby]; omega)
   have e1 : (s.data.map fun b => Value.int .u8 b.toNat) = (strCells s).toArray := by
    apply Array.ext'
    simp [strCells]
   rw [e1] at hr
   have hgr := grown_row w e (.int .u8 0) 1 rfl 0 s.size [] (strCells s) (by simp) (by simp [strCells_length]) h63 0 (.slice none 0 0)
   simp only [Nat.zero_add, List.nil_append, Array.empty_append] at hgr ⊢
   exact ⟨_, _, hr, hgr⟩
 ·by_cases hroom : n + s.size ≤ cap
  ·have hcs' : cur.size = cap := by simpa using hcs
   have hr := run_append_room_string (P := P) w t u ty e i ht hu hi hsize g n cap cur hg s hroom (by omega)
   refine ⟨_, _, hr, ⟨hlen, .inr ⟨g, cap, _, rfl, hbg, setRow_heap w g cur _ e _ hg, hroom, hcm, ?_, ?_⟩⟩, ⟨rfl, rfl, rfl, by simp, .inl ⟨rfl, fun k _ hk => setRow_other w g k _ (fun e => hk (by simp [Value.ownBlock, e]))⟩⟩⟩
   ·simp only [List.size_toArray, List.length_append, List.length_take, List.length_drop, Array.length_toList, strCells_length]
    omega
   ·have ht' : cur.toList.take n = xs := by simpa using htake
    rw [ht', ← hlen]
    exact List.take_left
  ·have holds : ∀ j u, xs[j]? = some u → w.cell? ((⟨g, 0, none⟩ : Addr).add j) = some u := hown.cells (g := g) rfl
   have hr := run_append_grow_string (P := P) w t u ty e i (.int .u8 0) ht hu hi hz ⟨g, 0, none⟩ n cap xs (by rw [hsize]; simpa using hxl) holds s (by omega) (by omega) (by rw [hby]; exact growslice_fits (by omega) (by omega))
   exact ⟨_, _, hr, grown_row w e (.int .u8 0) 1 rfl n s.size xs (strCells s) (by simpa using hxl) (by simp [strCells_length]) h63 cap _⟩

theorem run_app_clip (t ty e : TypeId) (i : TypeInfo) (z : Value) (size bytes : Nat) (ht : P.underlying t = some (.slice e)) (hi : P.info? e = some i) (hz : i.zero = some z)
  (hsize : i.size = size) (hby : i.bytes = bytes) (hzs : z.cells.size = size) (hsz : 0 < size)
  (sa : Option Addr) (n : Nat) (xs : List Value) (hx : xs.length = n * size) (hxs : RowOf w sa xs)
  (a : Option Addr) (m c : Nat) (news : List Value) (hl : news.length = m * size) (hrow : RowOf w a news) (hm : 0 < m)
  (h63 : n + m ≤ maxLen) (hbytes : (n + m) * bytes ≤ 140737488355328) :
  ∃ c' w', (Builtin.append_ #[t, t] ty #[.slice sa n n, .slice a m c]).run P w = .ok (.slice (some ⟨w.heap.size, 0, none⟩) (n + m) c') w' ∧ w'.ownsRow 0 e size (.slice (some ⟨w.heap.size, 0, none⟩) (n + m) c') (n + m) (xs ++ news) ∧ Grew w w' (.slice none 0 0) (.slice (some ⟨w.heap.size, 0, none⟩) (n + m) c') := by
 have hsmall : n + m ≤ 9223372036854775807 := by simp only [maxLen] at h63; omega
 have hne : news ≠ [] := fun h => by rw [h] at hl; have := Nat.mul_pos hm hsz; simp at hl; omega
 obtain ⟨b, off, rfl, hcell⟩ := hrow.resolve_left hne
 have hnews : ∀ j u, news[j]? = some u → w.cell? ((⟨b, off, none⟩ : Addr).add j) = some u := fun j u hu => by rw [add_none]; exact hcell j u hu
 subst hsize
 subst hby
 cases sa with
 | none =>
  have hx0 : xs = [] := by
   rcases hxs with h | ⟨_, _, h, _⟩
   ·exact h
   ·cases h
  subst hx0
  have hn : n = 0 := by
   rcases Nat.eq_zero_or_pos n with h | h
   ·exact h
   ·have := Nat.mul_pos h hsz; simp at hx; omega
  subst hn
  have hr := run_append_nil (P := P) w t ty e i z ht hi hz ⟨b, off, none⟩ m c news hl hnews hm (by omega) (by have hb := hbytes; simp only [Nat.zero_add] at hb; omega)
  have hgr := grown_row w e z i.size hzs 0 m [] news (by simp) hl h63 0 (.slice none 0 0)
  simp only [Nat.zero_add, List.nil_append, Array.empty_append] at hgr ⊢
  exact ⟨_, _, hr, hgr⟩
 | some ad =>
  have holds : ∀ j u, xs[j]? = some u → w.cell? (ad.add j) = some u := fun j u hu => by
   rcases hxs with h | ⟨b, off, h, hcell⟩
   ·rw [h] at hu; simp at hu
   ·injection h with h; subst h; rw [add_none]; exact hcell j u hu
  have hr := run_append_grow (P := P) w t ty e i z ht hi hz ad n n xs hx holds ⟨b, off, none⟩ m c news hl hnews (by omega) (by omega) (growslice_fits (by omega) hbytes)
  exact ⟨_, _, hr, grown_row w e z i.size hzs n m xs news hx hl h63 n _⟩
theorem run_app_new (t ty e : TypeId) (i : TypeInfo) (z : Value) (size bytes : Nat) (ht : P.underlying t = some (.slice e)) (hi : P.info? e = some i) (hz : i.zero = some z)
  (hsize : i.size = size) (hby : i.bytes = bytes) (hsz : 0 < size)
  (sa : Option Addr) (n : Nat) (xs : List Value) (hx : xs.length = n * size) (hxs : RowOf w sa xs)
  (a : Option Addr) (m c : Nat) (news : List Value) (hl : news.length = m * size) (hrow : RowOf w a news) (hm : 0 < m)
  (h63 : n + m ≤ maxLen) (hbytes : (n + m) * bytes ≤ 140737488355328) :
  ∃ k, (Builtin.append_ #[t, t] ty #[.slice sa n n, .slice a m c]).run P w = .ok (.slice (some ⟨w.heap.size, 0, none⟩) (n + m) (n + m + k)) (w.drew.alloc (.cells (xs.toArray ++ news.toArray ++ Builtin.zeroCells z.cells k) e)) := by
 have hsmall : n + m ≤ 9223372036854775807 := by simp only [maxLen] at h63; omega
 have hne : news ≠ [] := fun h => by rw [h] at hl; have := Nat.mul_pos hm hsz; simp at hl; omega
 obtain ⟨b, off, rfl, hcell⟩ := hrow.resolve_left hne
 have hnews : ∀ j u, news[j]? = some u → w.cell? ((⟨b, off, none⟩ : Addr).add j) = some u := fun j u hu => by rw [add_none]; exact hcell j u hu
 subst hsize
 subst hby
 cases sa with
 | none =>
  have hx0 : xs = [] := by
   rcases hxs with h | ⟨_, _, h, _⟩
   ·exact h
   ·cases h
  subst hx0
  have hn : n = 0 := by
   rcases Nat.eq_zero_or_pos n with h | h
   ·exact h
   ·have := Nat.mul_pos h hsz; simp at hx; omega
  subst hn
  have hr := run_append_nil (P := P) w t ty e i z ht hi hz ⟨b, off, none⟩ m c news hl hnews hm (by omega) (by have hb := hbytes; simp only [Nat.zero_add] at hb; omega)
  have hg := grownCap_ge w m 0 e
  refine ⟨grownCap w m 0 e - m, ?_⟩
  rw [hr]
  simp only [Nat.zero_add, Array.empty_append]
  rw [show m + (grownCap w m 0 e - m) = grownCap w m 0 e by omega]
 | some ad =>
  have holds : ∀ j u, xs[j]? = some u → w.cell? (ad.add j) = some u := fun j u hu => by
   rcases hxs with h | ⟨b, off, h, hcell⟩
   ·rw [h] at hu; simp at hu
   ·injection h with h; subst h; rw [add_none]; exact hcell j u hu
  have hr := run_append_grow (P := P) w t ty e i z ht hi hz ad n n xs hx holds ⟨b, off, none⟩ m c news hl hnews (by omega) (by omega) (growslice_fits (by omega) hbytes)
  have hg := grownCap_ge w (n + m) n e
  refine ⟨grownCap w (n + m) n e - (n + m), ?_⟩
  rw [hr]
  rw [show n + m + (grownCap w (n + m) n e - (n + m)) = grownCap w (n + m) n e by omega]
theorem run_app_none (t ty e : TypeId) (i : TypeInfo) (ht : P.underlying t = some (.slice e)) (hi : P.info? e = some i)
  (sa : Option Addr) (n k c : Nat) (hk : n ≤ k) (a : Option Addr) :
  (Builtin.append_ #[t, t] ty #[.slice sa n k, .slice a 0 c]).run P w = .ok (.slice sa n k) w := by
 cases a <;> cases sa <;> simp [Builtin.append_, run_underlying ht, sizeOf, typeInfo, hi, Builtin.lenOf, Builtin.firstCells, loadCells, loadCellsFrom, hk, storeCells]
end

section
variable {P : Program} {g : Gh} {h : Hp} {w : World}

def Gh.give (g : Gh) (ob : Option Nat) (x : Loc) : Gh := { g with own := fun b => if ob = some b then some x else g.own b }
theorem gle_give (g : Gh) (ob : Option Nat) (x : Loc) : GLe g (g.give ob x) := ⟨fun _ _ _ h => h, fun _ _ h => h, fun _ _ h => h⟩
theorem fro_give (hs : Sim P g h w) {ob : Option Nat} {x y : Loc} (ho : ∀ b, ob = some b → g.own b = some y) (b : Nat) (o : Obj) (hx : (g.give ob x).X b = some o) : w.heap[b]? = some o ∧ (g.give ob x).own b = none ∧ ∀ i, (g.give ob x).io i ≠ some b := by
 obtain ⟨q1, q2, q3⟩ := hs.fro b o hx
 refine ⟨q1, ?_, q3⟩
 simp only [Gh.give]
 rw [if_neg (fun e => by rw [ho b e] at q2; cases q2)]
 exact q2
theorem Sim.give (hs : Sim P g h w) {ob : Option Nat} {k : Nat} (x : Loc) (ho : ∀ b, ob = some b → g.own b = some (.slot k) ∧ ¬ g.F b ∧ ∀ id, g.io id ≠ some b) :
  Sim P (g.give ob x) h w ∧ Ev g w (g.give ob x) w := by
 have hle := gle_give g ob x
 refine ⟨⟨hs.prot, ?_, hs.inj, hs.dom, hs.flt, ?_, hs.hole, fro_give hs (fun b e => (ho b e).1)⟩, ⟨hle, fun _ => .rfl, fun b hb => ⟨rfl, fun _ => rfl, ?_, fun _ h => h⟩, rfl, rfl, rfl, Nat.le_refl _, fun _ _ => rfl⟩⟩
 ·intro id s l hl
  refine (hs.obj id s l hl).keep hle (fun b hb h8 h9 => ⟨rfl, fun _ => rfl, h8, ?_⟩) (fun b i o1 o3 o4 => ⟨rfl, ?_, fun _ => rfl, o3, o4⟩)
  ·simp only [Gh.give]; rw [if_neg (fun e => (ho b e).2.2 id hb)]; exact h9
  ·simp only [Gh.give]; rw [if_neg (fun e => by rw [(ho b e).1] at o1; cases o1)]; exact o1
 ·intro b y hb
  simp only [Gh.give] at hb
  split at hb
  ·next e => exact hs.olt b _ (ho b e).1
  ·exact hs.olt b y hb
 ·simp only [Gh.give]; rw [if_neg (fun e => (ho b e).2.1 hb)]

def degr (k : Nat) : Fr → Fr
 | [] => []
 | (j, a) :: r => (j, if j = k then deg a else a) :: degr k r
theorem lk_degr (k j : Nat) : ∀ fr : Fr, lk (degr k fr) j = if j = k then (lk fr j).map deg else lk fr j
 | [] => by simp [degr, lk]
 | (i, a) :: r => by
  simp only [degr, lk, lk_degr k j r]
  by_cases e : i = j
  ·subst e
   simp only [if_true]
   split <;> simp
  ·simp only [e, if_false]
theorem FrameOk.give {tmps : Array Value} {fr : Fr} (hf : FrameOk P g w tmps fr) {ob : Option Nat} {k : Nat} (x : Loc) (ho : ∀ b, ob = some b → g.own b = some (.slot k) ∧ ¬ g.F b ∧ ∀ id, g.io id ≠ some b) :
  FrameOk P (g.give ob x) w tmps (degr k fr) := by
 intro j a hj
 rw [lk_degr] at hj
 by_cases e : j = k
 ·subst e
  rw [if_pos rfl] at hj
  cases hl : lk fr j with
  | none => rw [hl] at hj; cases hj
  | some a' =>
   rw [hl] at hj
   simp only [Option.map_some, Option.some.injEq] at hj
   subst hj
   obtain ⟨v, h1, h2, h3⟩ := hf j a' hl
   exact ⟨v, h1, (h2.mono (gle_give _ _ _)).deg, Owned.plain (plain_deg a')⟩
 ·rw [if_neg e] at hj
  obtain ⟨v, h1, h2, h3⟩ := hf j a hj
  refine ⟨v, h1, h2.mono (gle_give _ _ _), h3.keep fun b o1 o3 o4 => ⟨rfl, ?_, fun _ => rfl, o3, o4⟩⟩
  simp only [Gh.give]
  rw [if_neg (fun e' => by rw [(ho b e').1] at o1; simp only [Option.some.injEq, Loc.slot.injEq] at o1; exact e o1.symm)]
  exact o1

def Gh.row (g : Gh) (ob : Option Nat) (xs : List Value) (x : Loc) : Gh :=
  { g with C := fun b o => if ob = some b ∧ o < xs.length then xs[o]? else g.C b o, own := fun b => if ob = some b then some x else g.own b }

theorem row_facts {w' : World} {v v' : Value} {e : TypeId} {sz n m : Nat} {xs news : List Value} (hs : Sim P g h w) (hown : w.ownsRow 0 e sz v n xs) (hown' : w'.ownsRow 0 e sz v' m (xs ++ news)) (hgr : Grew w w' v v')
    {k : Nat} (hv : ∀ b, v.ownBlock = some b → g.own b = some (.slot k) ∧ (∀ o, xs.length ≤ o → g.C b o = none) ∧ ¬ g.F b ∧ ∀ id, g.io id ≠ some b) :
    (∀ b o u, g.C b o = some u → v'.ownBlock = some b → o < (xs ++ news).length → (xs ++ news)[o]? = some u) ∧
    (∀ b, v'.ownBlock = some b → (¬ g.F b ∧ (∀ id, g.io id ≠ some b) ∧ b < w'.heap.size ∧ (g.own b = none ∨ g.own b = some (.slot k)))) ∧
    (∀ b, b < w.heap.size → v'.ownBlock ≠ some b → (v.ownBlock = some b → v'.ownBlock ≠ v.ownBlock) → w'.heap[b]? = w.heap[b]?) := by
  refine ⟨?_, ?_, ?_⟩
  · intro b o u hc hb ho
    rcases hgr.way with ⟨h1, _⟩ | ⟨h1, _⟩
    · rw [h1] at hb
      have hox : o < xs.length := by
        rcases Nat.lt_or_ge o xs.length with h | h
        · exact h
        · rw [(hv b hb).2.1 o h] at hc; cases hc
      rw [List.getElem?_append_left hox]
      rcases hown.2 with ⟨rfl, _⟩ | ⟨g1, c, cur, rfl, _, hg1, _, _, _, ht⟩
      · cases hb
      · simp only [Value.ownBlock, Option.some.injEq] at hb
        subst hb
        have hp := (hs.prot _ _ _ hc).1
        rw [cell_of_row w g1 o cur e (0, 0) hg1] at hp
        rw [← ht, List.getElem?_take, if_pos (by rw [← hown.1]; exact hox)]
        simpa using hp
    · rw [h1] at hb
      simp only [Option.some.injEq] at hb
      have := hs.clt hc
      omega
  · intro b hb
    rcases hgr.way with ⟨h1, _⟩ | ⟨h1, _⟩
    · have hb' := hb
      rw [h1] at hb'
      have := hown.lt b hb'
      have hz := hgr.size
      exact ⟨(hv b hb').2.2.1, (hv b hb').2.2.2, by omega, .inr (hv b hb').1⟩
    · rw [h1] at hb
      simp only [Option.some.injEq] at hb
      subst hb
      have hlt := (hown'.lt _ h1).2
      refine ⟨fun hf => by have := hs.flt _ hf; omega, fun id hid => by have := (hs.dom _ _ hid).2; omega, hlt, .inl ?_⟩
      cases ho : g.own w.heap.size with
      | none => rfl
      | some x => have := hs.olt _ _ ho; omega
  · intro b hb hne hne2
    rcases hgr.way with ⟨h1, h2⟩ | ⟨h1, h2⟩
    · exact h2 b hb (fun e => hne (h1.trans e.symm))
    · exact h2 b hb

theorem Sim.row {w' : World} {v v' : Value} {e : TypeId} {sz n m : Nat} {xs news : List Value} (hs : Sim P g h w) (hown : w.ownsRow 0 e sz v n xs) (hown' : w'.ownsRow 0 e sz v' m (xs ++ news)) (hgr : Grew w w' v v')
  (h1x : ∀ u ∈ xs ++ news, u.oneCell' = true) {k : Nat} (d : Nat) (hv : ∀ b, v.ownBlock = some b → g.own b = some (.slot k) ∧ (∀ o, xs.length ≤ o → g.C b o = none) ∧ ¬ g.F b ∧ ∀ id, g.io id ≠ some b) :
  Sim P (g.row v'.ownBlock (xs ++ news) (.slot d)) h w' ∧ Ev g w (g.row v'.ownBlock (xs ++ news) (.slot d)) w' ∧ GLe g (g.row v'.ownBlock (xs ++ news) (.slot d)) := by
 obtain ⟨f1, f2, f3⟩ := row_facts hs hown hown' hgr hv
 have hle : GLe g (g.row v'.ownBlock (xs ++ news) (.slot d)) := ⟨fun b o u hc => by
  simp only [Gh.row]
  split
  ·next hh => exact f1 b o u hc hh.1 hh.2
  ·exact hc, fun _ _ h => h, fun _ _ h => h⟩
 have hCne : ∀ b, v'.ownBlock ≠ some b → ∀ o, (g.row v'.ownBlock (xs ++ news) (.slot d)).C b o = g.C b o := fun b hb o => by
  simp only [Gh.row]; rw [if_neg (fun hh => hb hh.1)]
 have hOne : ∀ b, v'.ownBlock ≠ some b → (g.row v'.ownBlock (xs ++ news) (.slot d)).own b = g.own b := fun b hb => by
  simp only [Gh.row]; rw [if_neg hb]
 have hfar : ∀ b, b < w.heap.size → ¬ (g.own b = some (.slot k)) → v'.ownBlock ≠ some b → w'.heap[b]? = w.heap[b]? := fun b hb hn hb' =>
  f3 b hb hb' (fun e => absurd (hv b e).1 hn)
 have hfro : ∀ b o, (g.row v'.ownBlock (xs ++ news) (.slot d)).X b = some o → w'.heap[b]? = some o ∧ (g.row v'.ownBlock (xs ++ news) (.slot d)).own b = none ∧ ∀ i, (g.row v'.ownBlock (xs ++ news) (.slot d)).io i ≠ some b := fun b o hx => by
  obtain ⟨q1, q2, q3⟩ := hs.fro b o hx
  have hb := lt_of_block q1
  have hne : v'.ownBlock ≠ some b := fun e => by
   rcases hgr.way with ⟨h1, _⟩ | ⟨h1, _⟩
   ·rw [h1] at e; rw [(hv b e).1] at q2; cases q2
   ·rw [h1] at e; simp only [Option.some.injEq] at e; omega
  exact ⟨(hfar b hb (by rw [q2]; simp) hne).trans q1, by rw [hOne b hne]; exact q2, q3⟩
 refine ⟨⟨?_, ?_, hs.inj, ?_, ?_, ?_, hs.hole, hfro⟩, ⟨hle, fun _ => .rfl, ?_, hgr.os, hgr.tape, hgr.output, hgr.size, fun _ _ => rfl⟩, hle⟩
 ·intro b o u hc
  simp only [Gh.row] at hc
  split at hc
  ·next hh =>
   refine ⟨?_, h1x u (List.mem_of_getElem? hc)⟩
   rcases hown'.2 with ⟨rfl, _⟩ | ⟨g1, c, cur, rfl, _, hg1, _, _, _, ht⟩
   ·cases hh.1
   ·have hb := hh.1
    simp only [Value.ownBlock, Option.some.injEq] at hb
    subst hb
    rw [cell_of_row w' g1 o cur e (0, 0) hg1]
    rw [← ht, List.getElem?_take] at hc
    split at hc
    ·simpa using hc
    ·cases hc
  ·next hh =>
   have hp := hs.prot b o u hc
   by_cases hb : v'.ownBlock = some b
   · -- a cell that stays behind the row's end: there is none
    exfalso
    have hol : (xs ++ news).length ≤ o := by
     rcases Nat.lt_or_ge o (xs ++ news).length with h | h
     ·exact absurd ⟨hb, h⟩ hh
     ·exact h
    rcases hgr.way with ⟨h1, _⟩ | ⟨h1, _⟩
    ·rw [h1] at hb
     rw [(hv b hb).2.1 o (by rw [List.length_append] at hol; omega)] at hc
     cases hc
    ·rw [h1] at hb
     simp only [Option.some.injEq] at hb
     have := hs.clt hc
     omega
   ·by_cases hvb : v.ownBlock = some b
    ·refine ⟨?_, hp.2⟩
     rw [World.cell?_of_block (w := w) (f3 b (hs.clt hc) hb (fun _ e => hb (e.trans hvb)))]
     exact hp.1
    ·refine ⟨?_, hp.2⟩
     rw [World.cell?_of_block (w := w) (f3 b (hs.clt hc) hb (fun e => absurd e hvb))]
     exact hp.1
 ·intro id s l hl
  refine (hs.obj id s l hl).keep hle (fun b hb h8 h9 => ?_) (fun b i o1 o3 o4 => ?_)
  ·have hne : v'.ownBlock ≠ some b := fun e => (f2 b e).2.1 id hb
   exact ⟨hfar b (hs.dom _ _ hb).2 (by rw [h9]; simp) hne, hCne b hne, h8, by rw [hOne b hne]; exact h9⟩
  ·have hne : v'.ownBlock ≠ some b := fun e => by
    rcases (f2 b e).2.2.2 with h | h
    ·rw [h] at o1; cases o1
    ·rw [h] at o1; cases o1
   exact ⟨hfar b (hs.olt _ _ o1) (by rw [o1]; simp) hne, by rw [hOne b hne]; exact o1, hCne b hne, o3, o4⟩
 ·intro i b hi; have := hs.dom i b hi; have := hgr.size; omega
 ·intro b hb; have := hs.flt b hb; have := hgr.size; omega
 ·intro b x hb
  simp only [Gh.row] at hb
  split at hb
  ·next hh => exact (f2 b hh).2.2.1
  ·have := hs.olt b x hb; have := hgr.size; omega
 ·intro b hb
  have hne : v'.ownBlock ≠ some b := fun e => (f2 b e).1 hb
  refine ⟨f3 b (hs.flt b hb) hne (fun e => absurd hb (hv b e).2.2.1), hCne b hne, hOne b hne, fun _ h => h⟩

theorem FrameOk.row {tmps : Array Value} {fr : Fr} {w' : World} {v v' : Value} {e : TypeId} {sz n m : Nat} {xs news : List Value} (hf : FrameOk P g w tmps fr) (hs : Sim P g h w) (hown : w.ownsRow 0 e sz v n xs) (hown' : w'.ownsRow 0 e sz v' m (xs ++ news)) (hgr : Grew w w' v v')
  (h1x : ∀ u ∈ xs ++ news, u.oneCell' = true) {k : Nat} (d : Nat) (hv : ∀ b, v.ownBlock = some b → g.own b = some (.slot k) ∧ (∀ o, xs.length ≤ o → g.C b o = none) ∧ ¬ g.F b ∧ ∀ id, g.io id ≠ some b) :
  FrameOk P (g.row v'.ownBlock (xs ++ news) (.slot d)) w' tmps (degr k fr) := by
 obtain ⟨f1, f2, f3⟩ := row_facts hs hown hown' hgr hv
 have hle := (Sim.row hs hown hown' hgr h1x d hv).2.2
 intro j a hj
 rw [lk_degr] at hj
 by_cases e : j = k
 ·subst e
  rw [if_pos rfl] at hj
  cases hl : lk fr j with
  | none => rw [hl] at hj; cases hj
  | some a' =>
   rw [hl] at hj
   simp only [Option.map_some, Option.some.injEq] at hj
   subst hj
   obtain ⟨v, h1, h2, h3⟩ := hf j a' hl
   exact ⟨v, h1, (h2.mono hle).deg, Owned.plain (plain_deg a')⟩
 ·rw [if_neg e] at hj
  obtain ⟨u, h1, h2, h3⟩ := hf j a hj
  refine ⟨u, h1, h2.mono hle, h3.keep fun b o1 o3 o4 => ?_⟩
  have hns : g.own b ≠ some (.slot k) := fun e' => by rw [e'] at o1; simp only [Option.some.injEq, Loc.slot.injEq] at o1; exact e o1.symm
  have hne : v'.ownBlock ≠ some b := fun e' => by
   rcases (f2 b e').2.2.2 with h | h
   ·rw [h] at o1; cases o1
   ·exact hns h
  refine ⟨f3 b (hs.olt _ _ o1) hne (fun e' => absurd (hv b e').1 hns), ?_, ?_, o3, o4⟩
  ·simp only [Gh.row]; rw [if_neg hne]; exact o1
  ·intro o; simp only [Gh.row]; rw [if_neg (fun hh => hne hh.1)]

theorem Sim.grew {w' : World} {v v' : Value} {e : TypeId} {sz n m : Nat} {xs news : List Value} (hs : Sim P g h w) (hown : w.ownsRow 0 e sz v n xs) (hown' : w'.ownsRow 0 e sz v' m (xs ++ news)) (hgr : Grew w w' v v')
    {k : Nat} (x : Loc) (hv : ∀ b, v.ownBlock = some b → g.own b = some (.slot k) ∧ (∀ o, g.C b o = none) ∧ ¬ g.F b ∧ ∀ id, g.io id ≠ some b) :
    Sim P (g.give v'.ownBlock x) h w' ∧ Ev g w (g.give v'.ownBlock x) w' ∧ ∀ b, v'.ownBlock = some b → (∀ o, g.C b o = none) ∧ ¬ g.F b ∧ (∀ id, g.io id ≠ some b) ∧ (g.own b = none ∨ g.own b = some (.slot k)) := by
  have hv2 : ∀ b, v.ownBlock = some b → g.own b = some (.slot k) ∧ (∀ o, xs.length ≤ o → g.C b o = none) ∧ ¬ g.F b ∧ ∀ id, g.io id ≠ some b := fun b hb => ⟨(hv b hb).1, fun o _ => (hv b hb).2.1 o, (hv b hb).2.2⟩
  obtain ⟨f1, f2, f3⟩ := row_facts hs hown hown' hgr hv2
  have hle : GLe g (g.give v'.ownBlock x) := gle_give g _ _
  have hC : ∀ b, v'.ownBlock = some b → ∀ o, g.C b o = none := fun b hb o => by
    rcases hgr.way with ⟨h1, _⟩ | ⟨h1, _⟩
    · rw [h1] at hb; exact (hv b hb).2.1 o
    · rw [h1] at hb
      simp only [Option.some.injEq] at hb
      exact hs.cnew (by omega) o
  have hOne : ∀ b, v'.ownBlock ≠ some b → (g.give v'.ownBlock x).own b = g.own b := fun b hb => by
    simp only [Gh.give]; rw [if_neg hb]
  have hfar : ∀ b, b < w.heap.size → ¬ (g.own b = some (.slot k)) → v'.ownBlock ≠ some b → w'.heap[b]? = w.heap[b]? := fun b hb hn hb' =>
    f3 b hb hb' (fun e => absurd (hv b e).1 hn)
  have hfro : ∀ b o, (g.give v'.ownBlock x).X b = some o → w'.heap[b]? = some o ∧ (g.give v'.ownBlock x).own b = none ∧ ∀ i, (g.give v'.ownBlock x).io i ≠ some b := fun b o hx => by
    obtain ⟨q1, q2, q3⟩ := hs.fro b o hx
    have hb := lt_of_block q1
    have hne : v'.ownBlock ≠ some b := fun e => by
      rcases hgr.way with ⟨h1, _⟩ | ⟨h1, _⟩
      · rw [h1] at e; rw [(hv b e).1] at q2; cases q2
      · rw [h1] at e; simp only [Option.some.injEq] at e; omega
    exact ⟨(hfar b hb (by rw [q2]; simp) hne).trans q1, by rw [hOne b hne]; exact q2, q3⟩
  refine ⟨⟨?_, ?_, hs.inj, ?_, ?_, ?_, hs.hole, hfro⟩, ⟨hle, fun _ => .rfl, ?_, hgr.os, hgr.tape, hgr.output, hgr.size, fun _ _ => rfl⟩, fun b hb => ⟨hC b hb, (f2 b hb).1, (f2 b hb).2.1, (f2 b hb).2.2.2⟩⟩
  · intro b o u hc
    have hc : g.C b o = some u := hc
    have hp := hs.prot b o u hc
    refine ⟨?_, hp.2⟩
    have hb : v'.ownBlock ≠ some b := fun e => by rw [hC b e o] at hc; cases hc
    have hb2 : v.ownBlock ≠ some b := fun e => by rw [(hv b e).2.1 o] at hc; cases hc
    rw [World.cell?_of_block (w := w) (f3 b (hs.clt hc) hb (fun e => absurd e hb2))]
    exact hp.1
  · intro id s l hl
    refine (hs.obj id s l hl).keep hle (fun b hb h8 h9 => ?_) (fun b i o1 o3 o4 => ?_)
    · have hne : v'.ownBlock ≠ some b := fun e => (f2 b e).2.1 id hb
      exact ⟨hfar b (hs.dom _ _ hb).2 (by rw [h9]; simp) hne, fun _ => rfl, h8, by rw [hOne b hne]; exact h9⟩
    · have hne : v'.ownBlock ≠ some b := fun e => by
        rcases (f2 b e).2.2.2 with h | h
        · rw [h] at o1; cases o1
        · rw [h] at o1; cases o1
      exact ⟨hfar b (hs.olt _ _ o1) (by rw [o1]; simp) hne, by rw [hOne b hne]; exact o1, fun _ => rfl, o3, o4⟩
  · intro i b hi; have := hs.dom i b hi; have := hgr.size; omega
  · intro b hb; have := hs.flt b hb; have := hgr.size; omega
  · intro b y hb
    simp only [Gh.give] at hb
    split at hb
    · next hh => exact (f2 b hh).2.2.1
    · have := hs.olt b y hb; have := hgr.size; omega
  · intro b hb
    have hne : v'.ownBlock ≠ some b := fun e => (f2 b e).1 hb
    refine ⟨f3 b (hs.flt b hb) hne (fun e => absurd hb (hv b e).2.2.1), fun _ => rfl, hOne b hne, fun _ h => h⟩
theorem FrameOk.grew {tmps : Array Value} {fr : Fr} {w' : World} {v v' : Value} {e : TypeId} {sz n m : Nat} {xs news : List Value} (hf : FrameOk P g w tmps fr) (hs : Sim P g h w) (hown : w.ownsRow 0 e sz v n xs) (hown' : w'.ownsRow 0 e sz v' m (xs ++ news)) (hgr : Grew w w' v v')
    {k : Nat} (x : Loc) (hv : ∀ b, v.ownBlock = some b → g.own b = some (.slot k) ∧ (∀ o, g.C b o = none) ∧ ¬ g.F b ∧ ∀ id, g.io id ≠ some b) :
    FrameOk P (g.give v'.ownBlock x) w' tmps (degr k fr) := by
  have hv2 : ∀ b, v.ownBlock = some b → g.own b = some (.slot k) ∧ (∀ o, xs.length ≤ o → g.C b o = none) ∧ ¬ g.F b ∧ ∀ id, g.io id ≠ some b := fun b hb => ⟨(hv b hb).1, fun o _ => (hv b hb).2.1 o, (hv b hb).2.2⟩
  obtain ⟨f1, f2, f3⟩ := row_facts hs hown hown' hgr hv2
  have hle := gle_give g v'.ownBlock x
  intro j a hj
  rw [lk_degr] at hj
  by_cases e : j = k
  · subst e
    rw [if_pos rfl] at hj
    cases hl : lk fr j with
    | none => rw [hl] at hj; cases hj
    | some a' =>
      rw [hl] at hj
      simp only [Option.map_some, Option.some.injEq] at hj
      subst hj
      obtain ⟨v, h1, h2, h3⟩ := hf j a' hl
      exact ⟨v, h1, (h2.mono hle).deg, Owned.plain (plain_deg a')⟩
  · rw [if_neg e] at hj
    obtain ⟨u, h1, h2, h3⟩ := hf j a hj
    refine ⟨u, h1, h2.mono hle, h3.keep fun b o1 o3 o4 => ?_⟩
    have hns : g.own b ≠ some (.slot k) := fun e' => by rw [e'] at o1; simp only [Option.some.injEq, Loc.slot.injEq] at o1; exact e o1.symm
    have hne : v'.ownBlock ≠ some b := fun e' => by
      rcases (f2 b e').2.2.2 with h | h
      · rw [h] at o1; cases o1
      · exact hns h
    refine ⟨f3 b (hs.olt _ _ o1) hne (fun e' => absurd (hv b e').1 hns), ?_, fun _ => rfl, o3, o4⟩
    simp only [Gh.give]; rw [if_neg hne]; exact o1

end
end Go.Proofs.YtedaffmkpljlnaaGreat
