/- Texts of one proof, laid together: Aw Ax Sa An. -/
import Derived.Test.YtpiofcjkekpboaaMA14
import Derived.Test.YtpiofcjkekpboaaMA10

/- The abstract layer: objects that nobody asks for any more are forgotten; objects that are handed out are only read from then on. -/
namespace Go.Proofs.Ytpiofcjkekpboaa
set_option linter.unusedSimpArgs false
set_option linter.unusedVariables false
open Go.RowKit Go.Lib

def low (n : Nat) : AV → Bool
  | .ptr i _ => decide (i < n)
  | .hs i _ => decide (i < n)
  | .hsc i _ _ => decide (i < n)
  | .fp l | .lst _ _ l | .agg l | .tup l | .fn _ l | .fnb _ l => lows l
  | _ => true
where lows : List AV → Bool
  | [] => true
  | a :: l => low n a && lows l
def Gh.cut (g : Gh) (n : Nat) : Gh := { g with io := fun i => if i < n then g.io i else none }
theorem io_cut {g : Gh} {n i b : Nat} (h : g.io i = some b) (hi : i < n) : (g.cut n).io i = some b := by
  simp only [Gh.cut, if_pos hi]; exact h
mutual
theorem Rep.cut {g : Gh} (n : Nat) : ∀ {v : Value} {a : AV}, Rep g v a → low n a = true → Rep (g.cut n) v a
  | _, _, .bool b, _ => .bool b
  | _, _, .int k m, _ => .int k m
  | _, _, .str s, _ => .str s
  | _, _, .nilp, _ => .nilp
  | _, _, .ptr id off b h, hl => .ptr id off b (io_cut h (by simpa [low] using hl))
  | _, _, .fp b off vs l h hp hr, hl => .fp b off vs l h hp (RepL.cut n hr (by simpa [low] using hl))
  | _, _, .lst b off m c f vs l h hp h1 h2 hr, hl => .lst b off m c f vs l h hp h1 h2 (RepL.cut n hr (by simpa [low] using hl))
  | _, _, .lst0 a c f h, _ => .lst0 a c f h
  | _, _, .hs id b m c h h1, hl => .hs id b m c (io_cut h (by simpa [low] using hl)) h1
  | _, _, .hsc id b m c h h1, hl => .hsc id b m c (io_cut h (by simpa [low] using hl)) h1
  | _, _, .agg vs l h hp hr, hl => .agg vs l h hp (RepL.cut n hr (by simpa [low] using hl))
  | _, _, .tup vs l hp hr, hl => .tup vs l hp (RepL.cut n hr (by simpa [low] using hl))
  | _, _, .fn f vs l hp hr, hl => .fn f vs l hp (RepL.cut n hr (by simpa [low] using hl))
  | _, _, .fnb f vs l hp hr, hl => .fnb f vs l hp (RepL.cut n hr (by simpa [low] using hl))
  | _, _, .nilf, _ => .nilf
  | _, _, .opq v h h', _ => .opq v h h'
  | _, _, .itr b s p, _ => .itr b s p
  | _, _, .omp b ks vs, _ => .omp b ks vs
  | _, _, .mp b, _ => .mp b
  | _, _, .fmp b obj ks vs h1 h2, _ => .fmp b obj ks vs h1 h2
  | _, _, .stk a c e o l h1 h2 h3, _ => .stk a c e o l h1 h2 h3
  | _, _, .raw a m c h1 h2, _ => .raw a m c h1 h2
  | _, _, .rawp b i m c, _ => .rawp b i m c
  | _, _, .frn v Q S W0 h1 h2 h3 h4, _ => .frn v Q S W0 h1 h2 h3 h4
theorem RepL.cut {g : Gh} (n : Nat) : ∀ {vs : List Value} {l : List AV}, RepL g vs l → low.lows n l = true → RepL (g.cut n) vs l
  | _, _, .nil, _ => .nil
  | _, _, .cons h hr, hl => by
    simp only [low.lows, Bool.and_eq_true] at hl
    exact .cons (Rep.cut n h hl.1) (RepL.cut n hr hl.2)
end
mutual
theorem Rep.low {g : Gh} {n : Nat} (hd : ∀ i b, g.io i = some b → i < n) : ∀ {v : Value} {a : AV}, Rep g v a → low n a = true
  | _, _, .bool b => by simp [Go.Proofs.Ytpiofcjkekpboaa.low]
  | _, _, .int k m => by simp [Go.Proofs.Ytpiofcjkekpboaa.low]
  | _, _, .str s => by simp [Go.Proofs.Ytpiofcjkekpboaa.low]
  | _, _, .nilp => by simp [Go.Proofs.Ytpiofcjkekpboaa.low]
  | _, _, .ptr id off b h => by simpa [Go.Proofs.Ytpiofcjkekpboaa.low] using hd id b h
  | _, _, .fp b off vs l h hp hr => by simpa [Go.Proofs.Ytpiofcjkekpboaa.low] using RepL.low hd hr
  | _, _, .lst b off m c f vs l h hp h1 h2 hr => by simpa [Go.Proofs.Ytpiofcjkekpboaa.low] using RepL.low hd hr
  | _, _, .lst0 a c f h => by simp [Go.Proofs.Ytpiofcjkekpboaa.low, low.lows]
  | _, _, .hs id b m c h h1 => by simpa [Go.Proofs.Ytpiofcjkekpboaa.low] using hd id b h
  | _, _, .hsc id b m c h h1 => by simpa [Go.Proofs.Ytpiofcjkekpboaa.low] using hd id b h
  | _, _, .agg vs l h hp hr => by simpa [Go.Proofs.Ytpiofcjkekpboaa.low] using RepL.low hd hr
  | _, _, .tup vs l hp hr => by simpa [Go.Proofs.Ytpiofcjkekpboaa.low] using RepL.low hd hr
  | _, _, .fn f vs l hp hr => by simpa [Go.Proofs.Ytpiofcjkekpboaa.low] using RepL.low hd hr
  | _, _, .fnb f vs l hp hr => by simpa [Go.Proofs.Ytpiofcjkekpboaa.low] using RepL.low hd hr
  | _, _, .nilf => by simp [Go.Proofs.Ytpiofcjkekpboaa.low]
  | _, _, .opq v h h' => by simp [Go.Proofs.Ytpiofcjkekpboaa.low]
  | _, _, .itr b s p => by simp [Go.Proofs.Ytpiofcjkekpboaa.low]
  | _, _, .omp b ks vs => by simp [Go.Proofs.Ytpiofcjkekpboaa.low]
  | _, _, .mp b => by simp [Go.Proofs.Ytpiofcjkekpboaa.low]
  | _, _, .fmp b obj ks vs h1 h2 => by simp [Go.Proofs.Ytpiofcjkekpboaa.low]
  | _, _, .stk a c e o l h1 h2 h3 => by simp [Go.Proofs.Ytpiofcjkekpboaa.low]
  | _, _, .raw a m c h1 h2 => by simp [Go.Proofs.Ytpiofcjkekpboaa.low]
  | _, _, .rawp b i m c => by simp [Go.Proofs.Ytpiofcjkekpboaa.low]
  | _, _, .frn _ _ _ _ _ _ _ _ => by simp [Go.Proofs.Ytpiofcjkekpboaa.low]
theorem RepL.low {g : Gh} {n : Nat} (hd : ∀ i b, g.io i = some b → i < n) : ∀ {vs : List Value} {l : List AV}, RepL g vs l → low.lows n l = true
  | _, _, .nil => by simp [low.lows]
  | _, _, .cons h hr => by simp [low.lows, Rep.low hd h, RepL.low hd hr]
end
mutual
theorem low_free {n : Nat} : ∀ {a : AV}, free a = true → low n a = true
  | .bool _, _ => by simp [low]
  | .int _ _, _ => by simp [low]
  | .str _, _ => by simp [low]
  | .nilp, _ => by simp [low]
  | .nilf, _ => by simp [low]
  | .opq, _ => by simp [low]
  | .itr _ _, _ => by simp [low]
  | .omp _ _ _, _ => by simp [low]
  | .mp _, _ => by simp [low]
  | .fmp _ _, _ => by simp [low]
  | .stk _ _ _, _ => by simp [low]
  | .raw _ _, _ => by simp [low]
  | .rawp _ _, _ => by simp [low]
  | .frn _, _ => by simp [low]
  | .ptr _ _, h => by simp [free] at h
  | .hs _ _, h => by simp [free] at h
  | .hsc _ _ _, h => by simp [free] at h
  | .fp l, h => by simpa [low] using lows_free (l := l) (by simpa [free] using h)
  | .lst _ _ l, h => by simpa [low] using lows_free (l := l) (by simpa [free] using h)
  | .agg l, h => by simpa [low] using lows_free (l := l) (by simpa [free] using h)
  | .tup l, h => by simpa [low] using lows_free (l := l) (by simpa [free] using h)
  | .fn _ l, h => by simpa [low] using lows_free (l := l) (by simpa [free] using h)
  | .fnb _ l, h => by simpa [low] using lows_free (l := l) (by simpa [free] using h)
theorem lows_free {n : Nat} : ∀ {l : List AV}, free.frees l = true → low.lows n l = true
  | [], _ => by simp [low.lows]
  | a :: l, h => by
    simp only [free.frees, Bool.and_eq_true] at h
    simp [low.lows, low_free (n := n) h.1, lows_free (n := n) h.2]
end
mutual
def fz (h : Hp) : AV → AV
  | .hs id n => match h[id]? with
    | some (some (_, l)) => .lst .ro n (l.map deg)
    | _ => .hs id n
  | .hsc id n c => match h[id]? with
    | some (some (_, l)) => .lst .ro n (l.map deg)
    | _ => .hsc id n c
  | .agg l => .agg (fzs h l)
  | .tup l => .tup (fzs h l)
  | a => a
def fzs (h : Hp) : List AV → List AV
  | [] => []
  | a :: l => fz h a :: fzs h l
end
theorem plain_fz {h : Hp} (a : AV) (hp : plain a = true) : plain (fz h a) = true := by
  cases a with
  | hs id n =>
    simp only [fz]
    split <;> rfl
  | hsc id n c =>
    simp only [fz]
    split <;> rfl
  | lst f n l => simp only [fz]; exact hp
  | itr s p => simp [plain] at hp
  | omp b ks vs => simp [plain] at hp
  | stk e o l => simp [plain] at hp
  | _ => simp [fz, plain]
theorem plains_fz {h : Hp} : ∀ {l : List AV}, plains l → plains (fzs h l)
  | [], _ => by intro a ha; simp [fzs] at ha
  | a :: l, hp => by
    intro b hb
    simp only [fzs, List.mem_cons] at hb
    rcases hb with rfl | hb
    · exact plain_fz a (hp a (by simp))
    · exact plains_fz (fun x hx => hp x (by simp [hx])) b hb
open Classical in
noncomputable def Gh.ice (g : Gh) (h : Hp) (w : World) : Gh :=
  { g with io := fun _ => none, C := fun b o => match g.C b o with
    | some v => some v
    | none => if ∃ id s l, g.io id = some b ∧ h[id]? = some (some (s, l)) then (w.cell? ⟨b, o, none⟩).filter (fun v => v.oneCell') else none }
theorem ice_le {g : Gh} {h : Hp} {w : World} {b o : Nat} {v : Value} (hc : g.C b o = some v) : (g.ice h w).C b o = some v := by simp only [Gh.ice, hc]
theorem ice_obj {P : Program} {g : Gh} {h : Hp} {w : World} {id : Nat} {s : Bool} {l : List AV} (hs : Sim P g h w) (hl : h[id]? = some (some (s, l))) :
    ∃ b arr, g.io id = some b ∧ CellsAt (g.ice h w) b 0 arr ∧ RepL g arr l := by
  obtain ⟨b, arr, e, p1, p2, p3, p4, p5, p6, p7, p8, p9⟩ := hs.obj id s l hl
  refine ⟨b, arr.toList, p1, fun i v hv => ?_, p3⟩
  cases hC : g.C b (0 + i) with
  | some u =>
    have h1 := (hs.prot _ _ _ hC).1
    rw [Nat.zero_add, cell_of_row w b i arr e (0, 0) p2] at h1
    have : v = u := by
      rw [Array.getElem?_toList] at hv
      rw [hv] at h1
      simpa using h1
    subst this
    exact ice_le hC
  | none =>
    simp only [Gh.ice, hC]
    rw [if_pos ⟨id, s, l, p1, hl⟩]
    simp only [Option.filter_eq_some_iff]
    refine ⟨?_, p4 v (List.mem_of_getElem? hv)⟩
    rw [Nat.zero_add, cell_of_row w b i arr e (0, 0) p2]
    simpa using hv
mutual
theorem Rep.ice {P : Program} {g : Gh} {h : Hp} {w : World} (hs : Sim P g h w) : ∀ {v : Value} {a : AV}, Rep g v a → free (fz h a) = true → Rep (g.ice h w) v (fz h a)
  | _, _, .bool b, _ => by simp only [fz]; exact .bool b
  | _, _, .int k m, _ => by simp only [fz]; exact .int k m
  | _, _, .str s, _ => by simp only [fz]; exact .str s
  | _, _, .nilp, _ => by simp only [fz]; exact .nilp
  | _, _, .ptr id off b hb, hf => by simp [fz, free] at hf
  | _, _, .fp b off vs l hc hp hr, hf => by
    simp only [fz] at hf ⊢
    exact Rep.free (g := g) (fun _ _ _ hc => ice_le hc) (fun _ _ h => h) (.fp b off vs l hc hp hr) hf
  | _, _, .lst b off m c f vs l hc hp h1 h2 hr, hf => by
    simp only [fz] at hf ⊢
    exact Rep.free (g := g) (fun _ _ _ hc => ice_le hc) (fun _ _ h => h) (.lst b off m c f vs l hc hp h1 h2 hr) hf
  | _, _, .lst0 a c f hc, _ => by simp only [fz]; exact .lst0 a c f hc
  | _, _, .hs id b m c hb h1, hf => by
    simp only [fz] at hf ⊢
    split at hf
    · next s l hl =>
      obtain ⟨b', arr, q1, q2, q3⟩ := ice_obj hs hl
      obtain rfl : b = b' := by rw [hb] at q1; simpa using q1
      simp only [free] at hf
      refine .lst b 0 m c .ro arr _ q2 (fun a ha => ?_) h1 (fun e => by cases e) (RepL.free (g := g) (fun _ _ _ hc => ice_le hc) (fun _ _ h => h) q3.deg hf)
      obtain ⟨a', _, rfl⟩ := List.mem_map.1 ha
      exact plain_deg a'
    · simp [free] at hf
  | _, _, .hsc id b m c hb h1, hf => by
    simp only [fz] at hf ⊢
    split at hf
    · next s l hl =>
      obtain ⟨b', arr, q1, q2, q3⟩ := ice_obj hs hl
      obtain rfl : b = b' := by rw [hb] at q1; simpa using q1
      simp only [free] at hf
      refine .lst b 0 m c .ro arr _ q2 (fun a ha => ?_) h1 (fun e => by cases e) (RepL.free (g := g) (fun _ _ _ hc => ice_le hc) (fun _ _ h => h) q3.deg hf)
      obtain ⟨a', _, rfl⟩ := List.mem_map.1 ha
      exact plain_deg a'
    · simp [free] at hf
  | _, _, .agg vs l h1 hp hr, hf => by
    simp only [fz, free] at hf ⊢
    exact .agg vs _ h1 (plains_fz hp) (RepL.ice hs hr hf)
  | _, _, .tup vs l hp hr, hf => by
    simp only [fz, free] at hf ⊢
    exact .tup vs _ (plains_fz hp) (RepL.ice hs hr hf)
  | _, _, .fn f vs l hp hr, hf => by
    simp only [fz] at hf ⊢
    exact Rep.free (g := g) (fun _ _ _ hc => ice_le hc) (fun _ _ h => h) (.fn f vs l hp hr) hf
  | _, _, .fnb f vs l hp hr, hf => by
    simp only [fz] at hf ⊢
    exact Rep.free (g := g) (fun _ _ _ hc => ice_le hc) (fun _ _ h => h) (.fnb f vs l hp hr) hf
  | _, _, .nilf, _ => by simp only [fz]; exact .nilf
  | _, _, .opq v h h', _ => by simp only [fz]; exact .opq v h h'
  | _, _, .itr b s p, _ => by simp only [fz]; exact .itr b s p
  | _, _, .omp b ks vs, _ => by simp only [fz]; exact .omp b ks vs
  | _, _, .mp b, _ => by simp only [fz]; exact .mp b
  | _, _, .fmp b obj ks vs h1 h2, _ => by simp only [fz]; exact .fmp b obj ks vs h1 h2
  | _, _, .stk a c e o l h1 h2 h3, _ => by simp only [fz]; exact .stk a c e o l h1 h2 h3
  | _, _, .raw a m c h1 h2, _ => by simp only [fz]; exact .raw a m c h1 h2
  | _, _, .rawp b i m c, _ => by simp only [fz]; exact .rawp b i m c
  | _, _, .frn v Q S W0 h1 h2 h3 h4, _ => by simp only [fz]; exact .frn v Q S W0 h1 h2 h3 h4
theorem RepL.ice {P : Program} {g : Gh} {h : Hp} {w : World} (hs : Sim P g h w) : ∀ {vs : List Value} {l : List AV}, RepL g vs l → free.frees (fzs h l) = true → RepL (g.ice h w) vs (fzs h l)
  | _, _, .nil, _ => by simp only [fzs]; exact .nil
  | _, _, .cons h0 hr, hf => by
    simp only [fzs, free.frees, Bool.and_eq_true] at hf ⊢
    exact .cons (Rep.ice hs h0 hf.1) (RepL.ice hs hr hf.2)
end
end Go.Proofs.Ytpiofcjkekpboaa

/- The abstract layer: what a call does where there are no objects, it does wherever it is called; its objects come behind. -/
namespace Go.Proofs.Ytpiofcjkekpboaa
set_option linter.unusedSimpArgs false
set_option linter.unusedVariables false
open Go.RowKit Go.Lib

mutual
def sh (n : Nat) : AV → AV
  | .ptr i o => .ptr (i + n) o
  | .hs i m => .hs (i + n) m
  | .hsc i m c => .hsc (i + n) m c
  | .fp l => .fp (shs n l)
  | .lst f m l => .lst f m (shs n l)
  | .agg l => .agg (shs n l)
  | .tup l => .tup (shs n l)
  | .fn f l => .fn f (shs n l)
  | .fnb f l => .fnb f (shs n l)
  | a => a
def shs (n : Nat) : List AV → List AV
  | [] => []
  | a :: l => sh n a :: shs n l
end
theorem plain_sh {n : Nat} (a : AV) (h : plain a = true) : plain (sh n a) = true := by
  cases a with
  | lst f m l => cases f <;> first | (simp [plain] at h; done) | simp [sh, plain]
  | itr s p => simp [plain] at h
  | omp b ks vs => simp [plain] at h
  | stk e o l => simp [plain] at h
  | _ => simp [sh, plain]
theorem plains_sh {n : Nat} : ∀ {l : List AV}, plains l → plains (shs n l)
  | [], _ => by intro a ha; simp [shs] at ha
  | a :: l, h => by
    intro b hb
    simp only [shs, List.mem_cons] at hb
    rcases hb with rfl | hb
    · exact plain_sh a (h a (by simp))
    · exact plains_sh (fun x hx => h x (by simp [hx])) b hb
theorem shs_len {n : Nat} : ∀ l : List AV, (shs n l).length = l.length
  | [] => by simp [shs]
  | a :: l => by simp [shs, shs_len l]
theorem shs_get {n : Nat} : ∀ (l : List AV) (i : Nat), (shs n l)[i]? = (l[i]?).map (sh n)
  | [], i => by simp [shs]
  | a :: l, 0 => by simp [shs]
  | a :: l, i + 1 => by simp [shs, shs_get l i]
def Gh.join (g g1 : Gh) (n : Nat) : Gh :=
  { C := g1.C, X := g1.X, io := fun i => if i < n then g.io i else g1.io (i - n), F := g.F,
    own := fun b => match g.own b with
      | some x => some x
      | none => match g1.own b with
        | some (.cell id i) => some (.cell (id + n) i)
        | x => x }
mutual
theorem Rep.sh {g g1 : Gh} {n : Nat} : ∀ {v : Value} {a : AV}, Rep g1 v a → Rep (g.join g1 n) v (sh n a)
  | _, _, .bool b => by simp only [Go.Proofs.Ytpiofcjkekpboaa.sh]; exact .bool b
  | _, _, .int k m => by simp only [Go.Proofs.Ytpiofcjkekpboaa.sh]; exact .int k m
  | _, _, .str s => by simp only [Go.Proofs.Ytpiofcjkekpboaa.sh]; exact .str s
  | _, _, .nilp => by simp only [Go.Proofs.Ytpiofcjkekpboaa.sh]; exact .nilp
  | _, _, .ptr id off b h => by simp only [Go.Proofs.Ytpiofcjkekpboaa.sh]; exact .ptr _ off b (by simp only [Gh.join]; rw [if_neg (by omega), Nat.add_sub_cancel]; exact h)
  | _, _, .fp b off vs l h hp hr => by simp only [Go.Proofs.Ytpiofcjkekpboaa.sh]; exact .fp b off vs _ h (plains_sh hp) (RepL.sh hr)
  | _, _, .lst b off m c f vs l h hp h1 h2 hr => by simp only [Go.Proofs.Ytpiofcjkekpboaa.sh]; exact .lst b off m c f vs _ h (plains_sh hp) h1 h2 (RepL.sh hr)
  | _, _, .lst0 a c f h => by simp only [Go.Proofs.Ytpiofcjkekpboaa.sh, shs]; exact .lst0 a c f h
  | _, _, .hs id b m c h h1 => by simp only [Go.Proofs.Ytpiofcjkekpboaa.sh]; exact .hs _ b m c (by simp only [Gh.join]; rw [if_neg (by omega), Nat.add_sub_cancel]; exact h) h1
  | _, _, .hsc id b m c h h1 => by simp only [Go.Proofs.Ytpiofcjkekpboaa.sh]; exact .hsc _ b m c (by simp only [Gh.join]; rw [if_neg (by omega), Nat.add_sub_cancel]; exact h) h1
  | _, _, .agg vs l h hp hr => by simp only [Go.Proofs.Ytpiofcjkekpboaa.sh]; exact .agg vs _ h (plains_sh hp) (RepL.sh hr)
  | _, _, .tup vs l hp hr => by simp only [Go.Proofs.Ytpiofcjkekpboaa.sh]; exact .tup vs _ (plains_sh hp) (RepL.sh hr)
  | _, _, .fn f vs l hp hr => by simp only [Go.Proofs.Ytpiofcjkekpboaa.sh]; exact .fn f vs _ (plains_sh hp) (RepL.sh hr)
  | _, _, .fnb f vs l hp hr => by simp only [Go.Proofs.Ytpiofcjkekpboaa.sh]; exact .fnb f vs _ (plains_sh hp) (RepL.sh hr)
  | _, _, .nilf => by simp only [Go.Proofs.Ytpiofcjkekpboaa.sh]; exact .nilf
  | _, _, .opq v h h' => by simp only [Go.Proofs.Ytpiofcjkekpboaa.sh]; exact .opq v h h'
  | _, _, .itr b s p => by simp only [Go.Proofs.Ytpiofcjkekpboaa.sh]; exact .itr b s p
  | _, _, .omp b ks vs => by simp only [Go.Proofs.Ytpiofcjkekpboaa.sh]; exact .omp b ks vs
  | _, _, .mp b => by simp only [Go.Proofs.Ytpiofcjkekpboaa.sh]; exact .mp b
  | _, _, .fmp b obj ks vs h1 h2 => by simp only [Go.Proofs.Ytpiofcjkekpboaa.sh]; exact .fmp b obj ks vs h1 h2
  | _, _, .stk a c e o l h1 h2 h3 => by simp only [Go.Proofs.Ytpiofcjkekpboaa.sh]; exact .stk a c e o l h1 h2 h3
  | _, _, .raw a m c h1 h2 => by simp only [Go.Proofs.Ytpiofcjkekpboaa.sh]; exact .raw a m c h1 h2
  | _, _, .rawp b i m c => by simp only [Go.Proofs.Ytpiofcjkekpboaa.sh]; exact .rawp b i m c
  | _, _, .frn v Q S W0 h1 h2 h3 h4 => by simp only [Go.Proofs.Ytpiofcjkekpboaa.sh]; exact .frn v Q S W0 h1 h2 h3 h4
theorem RepL.sh {g g1 : Gh} {n : Nat} : ∀ {vs : List Value} {l : List AV}, RepL g1 vs l → RepL (g.join g1 n) vs (shs n l)
  | _, _, .nil => by simp only [shs]; exact .nil
  | _, _, .cons h hr => by simp only [shs]; exact .cons (Rep.sh h) (RepL.sh hr)
end
def shH (n : Nat) (h : Hp) : Hp := h.map fun o => o.map fun x => (x.1, shs n x.2)
theorem Sim.join {P : Program} {g g1 : Gh} {h h1 : Hp} {w w1 : World} (hs : Sim P g h w) (hev : Ev g.bare w g1 w1) (hs1 : Sim P g1 h1 w1) : Sim P (g.join g1 h.length) (h ++ shH h.length h1) w1 ∧ Ev g w (g.join g1 h.length) w1 := by
  have hFF : ∀ b, (g.F b ∨ (∃ i, g.io i = some b) ∨ (∃ x, g.own b = some x)) → g1.F b := fun b hb => (hev.F b).2 hb
  have hle : GLe g (g.join g1 h.length) := ⟨fun b o v hc => hev.le.C b o v hc, fun i b hi => by have := (hs.dom i b hi).1; simp only [Gh.join, if_pos this]; exact hi, fun b o hx => hev.le.X b o hx⟩
  have hfar : ∀ k b, g1.io k = some b → ¬ (g.F b ∨ (∃ i, g.io i = some b) ∨ (∃ x, g.own b = some x)) := fun k b hk hb => by
    have := (hev.Fb b hb).2.2.2 k hk
    cases this
  have hown : ∀ b, ¬ g1.F b → g.own b = none := fun b hb => by
    cases ho : g.own b with
    | none => rfl
    | some x => exact absurd (hFF b (.inr (.inr ⟨x, ho⟩))) hb
  have hfro : ∀ b o, (g.join g1 h.length).X b = some o → w1.heap[b]? = some o ∧ (g.join g1 h.length).own b = none ∧ ∀ i, (g.join g1 h.length).io i ≠ some b := fun b o hx => by
    obtain ⟨q1, q2, q3⟩ := hs1.fro b o hx
    have hbk : (∃ i, g.io i = some b) ∨ (∃ x, g.own b = some x) → g.X b = some o := fun hh => by
      have := hev.Fx b (.inr hh)
      rw [show g.bare.X b = g.X b from rfl] at this
      rw [← this]; exact hx
    refine ⟨q1, ?_, fun i hi => ?_⟩
    · cases ho : g.own b with
      | none => simp only [Gh.join, ho, q2]
      | some x => exact absurd (hs.fro b o (hbk (.inr ⟨x, ho⟩))).2.1 (by rw [ho]; simp)
    · simp only [Gh.join] at hi
      split at hi
      · exact (hs.fro b o (hbk (.inl ⟨i, hi⟩))).2.2 i hi
      · exact q3 _ hi
  refine ⟨⟨hs1.prot, ?_, ?_, ?_, ?_, ?_, ?_, hfro⟩, ⟨hle, fun _ => .rfl, fun b hb => ?_, hev.os, hev.tape, hev.output, hev.size, fun b hb => hev.Fx b (.inl hb)⟩⟩
  · intro id s l hl
    by_cases hid : id < h.length
    · rw [List.getElem?_append_left hid] at hl
      refine (hs.obj id s l hl).keep hle (fun b hb h8 h9 => ?_) (fun b i o1 o3 o4 => ?_)
      · have hbF : g.F b ∨ (∃ i, g.io i = some b) ∨ (∃ x, g.own b = some x) := .inr (.inl ⟨id, hb⟩)
        obtain ⟨q1, q2, q3, _⟩ := hev.Fb b hbF
        refine ⟨q1, q2, h8, ?_⟩
        simp only [Gh.join, h9]
        rw [q3]
        rfl
      · obtain ⟨q1, q2, q3, q4⟩ := hev.Fb b (.inr (.inr ⟨_, o1⟩))
        refine ⟨q1, by simp only [Gh.join, o1], q2, o3, fun j hj => ?_⟩
        simp only [Gh.join] at hj
        split at hj
        · exact o4 j hj
        · have := q4 _ hj; cases this
    · rw [List.getElem?_append_right (by omega), shH, List.getElem?_map] at hl
      cases hl1 : h1[id - h.length]? with
      | none => rw [hl1] at hl; cases hl
      | some o =>
        rw [hl1] at hl
        simp only [Option.map_some, Option.some.injEq] at hl
        cases o with
        | none => cases hl
        | some x =>
          obtain ⟨s', l'⟩ := x
          simp only [Option.map_some, Option.some.injEq, Prod.mk.injEq] at hl
          obtain ⟨rfl, rfl⟩ := hl
          obtain ⟨b, arr, e, p1, p2, p3, p4, p5, p6, p7, p8, p9⟩ := hs1.obj _ s' l' hl1
          refine ⟨b, arr, e, by simp only [Gh.join, if_neg hid]; exact p1, p2, p3.sh, p4, fun i v a hv ha => ?_, p6, p7, fun hf => p8 (hFF b (.inl hf)), by simp only [Gh.join, hown b p8, p9]⟩
          rw [shs_get] at ha
          cases hla : l'[i]? with
          | none => rw [hla] at ha; cases ha
          | some a' =>
            rw [hla] at ha
            simp only [Option.map_some, Option.some.injEq] at ha
            subst ha
            have ho := p5 i v a' hv hla
            cases a' with
            | lst f m c =>
              cases f with
              | own e' =>
                simp only [sh]
                obtain ⟨sz, r1, r2, ⟨vs, r3, r4⟩ | r3⟩ := ho
                · refine ⟨sz, r1, by rw [shs_len]; exact r2, .inl ⟨vs, r3, fun b' hb' => ?_⟩⟩
                  obtain ⟨k1, k2, k3, k4⟩ := r4 b' hb'
                  refine ⟨?_, fun o ho => k2 o (by rw [shs_len] at ho; exact ho), fun hf => k3 (hFF b' (.inl hf)), fun j hj => ?_⟩
                  · simp only [Gh.join, hown b' k3, k1]
                    congr 2; omega
                  · simp only [Gh.join] at hj
                    split at hj
                    · exact k3 (hFF b' (.inr (.inl ⟨j, hj⟩)))
                    · exact k4 _ hj
                · exact ⟨sz, r1, by rw [shs_len]; exact r2, .inr r3⟩
              | _ => exact Owned.plain (by simp [sh, plain])
            | itr s p =>
              simp only [sh]
              obtain ⟨b', r1, r2, k1, k2, k3, k4⟩ := ho
              refine ⟨b', r1, r2, ?_, k2, fun hf => k3 (hFF b' (.inl hf)), fun j hj => ?_⟩
              · simp only [Gh.join, hown b' k3, k1]
                congr 2; omega
              · simp only [Gh.join] at hj
                split at hj
                · exact k3 (hFF b' (.inr (.inl ⟨j, hj⟩)))
                · exact k4 _ hj
            | omp b ks vs =>
              simp only [sh]
              obtain ⟨b', r1, r2, k1, k2, k3, k4⟩ := ho
              refine ⟨b', r1, r2, ?_, k2, fun hf => k3 (hFF b' (.inl hf)), fun j hj => ?_⟩
              · simp only [Gh.join, hown b' k3, k1]
                congr 2; omega
              · simp only [Gh.join] at hj
                split at hj
                · exact k3 (hFF b' (.inr (.inl ⟨j, hj⟩)))
                · exact k4 _ hj
            | stk e' u c =>
              simp only [sh]
              obtain ⟨r1, ⟨r3, r4⟩ | r3⟩ := ho
              · refine ⟨r1, .inl ⟨r3, fun b' hb' => ?_⟩⟩
                obtain ⟨k1, k2, k3, k4⟩ := r4 b' hb'
                refine ⟨?_, k2, fun hf => k3 (hFF b' (.inl hf)), fun j hj => ?_⟩
                · simp only [Gh.join, hown b' k3, k1]
                  congr 2; omega
                · simp only [Gh.join] at hj
                  split at hj
                  · exact k3 (hFF b' (.inr (.inl ⟨j, hj⟩)))
                  · exact k4 _ hj
              · exact ⟨r1, .inr r3⟩
            | _ => exact Owned.plain (by simp [sh, plain])
  · intro i j b hi hj
    simp only [Gh.join] at hi hj
    split at hi <;> split at hj
    · exact hs.inj i j b hi hj
    · exact absurd (.inr (.inl ⟨i, hi⟩)) (hfar _ b hj)
    · exact absurd (.inr (.inl ⟨j, hj⟩)) (hfar _ b hi)
    · have := hs1.inj _ _ b hi hj; omega
  · intro i b hi
    simp only [Gh.join] at hi
    split at hi
    · have := hs.dom i b hi; have := hev.size; simp; omega
    · have := hs1.dom _ b hi; simp [shH]; omega
  · intro b hb; exact Nat.lt_of_lt_of_le (hs.flt b hb) hev.size
  · intro b x hb
    simp only [Gh.join] at hb
    split at hb
    · next y hy => exact Nat.lt_of_lt_of_le (hs.olt b _ hy) hev.size
    · split at hb
      · next hy => exact hs1.olt b _ hy
      · exact hs1.olt b x hb
  · intro i hi
    by_cases hid : i < h.length
    · rw [List.getElem?_append_left hid] at hi
      simp only [Gh.join, if_pos hid]; exact hs.hole i hi
    · rw [List.getElem?_append_right (by omega), shH, List.getElem?_map] at hi
      simp only [Gh.join, if_neg hid]
      cases hl1 : h1[i - h.length]? with
      | none => rw [hl1] at hi; cases hi
      | some o =>
        cases o with
        | none => exact hs1.hole _ hl1
        | some x => rw [hl1] at hi; simp at hi
  · obtain ⟨q1, q2, q3, q4⟩ := hev.Fb b (.inl hb)
    refine ⟨q1, q2, ?_, fun i hi => ?_⟩
    · simp only [Gh.join]
      split
      · next y hy => exact hy.symm
      · next hy => rw [q3, hy]; rfl
    · simp only [Gh.join] at hi
      split at hi
      · exact hi
      · have := q4 _ hi; cases this
theorem ACalls.shift {P : Program} {f : FuncId} {args : List AV} {R : AV → Hp → Prop} (ha : free.frees args = true) (hc : ACalls P f args [] R) (h : Hp) : ACalls P f args h (fun a h' => ∃ a0 h0, R a0 h0 ∧ a = sh h.length a0 ∧ h' = h ++ shH h.length h0) := by
  refine ⟨hc.1, fun g w vargs hs hns hr hpl => ?_⟩
  refine (hc.2 g.bare w vargs hs.bare (fun b k h => by cases h) (RepL.free (g := g) (g' := g.bare) (fun _ _ _ h => h) (fun _ _ h => h) hr ha) hpl).mono ?_
  rintro e w1 ⟨x, a, h1, g1, rfl, r1, r2, r3, r4, r5, r6⟩
  obtain ⟨s1, s2⟩ := hs.join r1 r2
  refine ⟨x, _, _, g.join g1 h.length, rfl, s2, s1, fun b k hk => ?_, r4.sh, plain_sh _ r5, a, h1, r6, rfl, rfl⟩
  simp only [Gh.join] at hk
  split at hk
  · next y hy => simp only [Option.some.injEq] at hk; subst hk; exact hns b k hy
  · split at hk
    · cases hk
    · exact r3 b k hk
def only (k : Nat) : AV → Bool
  | .ptr i _ => decide (i = k)
  | .hs i _ => decide (i = k)
  | .hsc i _ _ => decide (i = k)
  | .fp l | .lst _ _ l | .agg l | .tup l | .fn _ l | .fnb _ l => onlys l
  | _ => true
where onlys : List AV → Bool
  | [] => true
  | a :: l => only k a && onlys l
mutual
def rn : AV → AV
  | .ptr _ o => .ptr 0 o
  | .hs _ m => .hs 0 m
  | .hsc _ m c => .hsc 0 m c
  | .fp l => .fp (rns l)
  | .lst f m l => .lst f m (rns l)
  | .agg l => .agg (rns l)
  | .tup l => .tup (rns l)
  | .fn f l => .fn f (rns l)
  | .fnb f l => .fnb f (rns l)
  | a => a
def rns : List AV → List AV
  | [] => []
  | a :: l => rn a :: rns l
end
theorem plain_rn (a : AV) (h : plain a = true) : plain (rn a) = true := by
  cases a with
  | lst f m l => cases f <;> first | (simp [plain] at h; done) | simp [rn, plain]
  | itr s p => simp [plain] at h
  | omp b ks vs => simp [plain] at h
  | stk e o l => simp [plain] at h
  | _ => simp [rn, plain]
theorem plains_rn : ∀ {l : List AV}, plains l → plains (rns l)
  | [], _ => by intro a ha; simp [rns] at ha
  | a :: l, h => by
    intro b hb
    simp only [rns, List.mem_cons] at hb
    rcases hb with rfl | hb
    · exact plain_rn a (h a (by simp))
    · exact plains_rn (fun x hx => h x (by simp [hx])) b hb
def Gh.one (g : Gh) (k : Nat) : Gh := { g with io := fun i => if i = 0 then g.io k else none }
mutual
theorem Rep.one {g : Gh} {k : Nat} : ∀ {v : Value} {a : AV}, Rep g v a → only k a = true → Rep (g.one k) v (rn a)
  | _, _, .bool b, _ => by simp only [rn]; exact .bool b
  | _, _, .int i m, _ => by simp only [rn]; exact .int i m
  | _, _, .str s, _ => by simp only [rn]; exact .str s
  | _, _, .nilp, _ => by simp only [rn]; exact .nilp
  | _, _, .ptr id off b h, ho => by
    have : id = k := by simpa [only] using ho
    subst this
    simp only [rn]; exact .ptr 0 off b (by simp only [Gh.one, if_true]; exact h)
  | _, _, .fp b off vs l h hp hr, ho => by simp only [rn]; exact .fp b off vs _ h (plains_rn hp) (RepL.one hr (by simpa [only] using ho))
  | _, _, .lst b off m c f vs l h hp h1 h2 hr, ho => by simp only [rn]; exact .lst b off m c f vs _ h (plains_rn hp) h1 h2 (RepL.one hr (by simpa [only] using ho))
  | _, _, .lst0 a c f h, _ => by simp only [rn, rns]; exact .lst0 a c f h
  | _, _, .hs id b m c h h1, ho => by
    have : id = k := by simpa [only] using ho
    subst this
    simp only [rn]; exact .hs 0 b m c (by simp only [Gh.one, if_true]; exact h) h1
  | _, _, .hsc id b m c h h1, ho => by
    have : id = k := by simpa [only] using ho
    subst this
    simp only [rn]; exact .hsc 0 b m c (by simp only [Gh.one, if_true]; exact h) h1
  | _, _, .agg vs l h hp hr, ho => by simp only [rn]; exact .agg vs _ h (plains_rn hp) (RepL.one hr (by simpa [only] using ho))
  | _, _, .tup vs l hp hr, ho => by simp only [rn]; exact .tup vs _ (plains_rn hp) (RepL.one hr (by simpa [only] using ho))
  | _, _, .fn f vs l hp hr, ho => by simp only [rn]; exact .fn f vs _ (plains_rn hp) (RepL.one hr (by simpa [only] using ho))
  | _, _, .fnb f vs l hp hr, ho => by simp only [rn]; exact .fnb f vs _ (plains_rn hp) (RepL.one hr (by simpa [only] using ho))
  | _, _, .nilf, _ => by simp only [rn]; exact .nilf
  | _, _, .opq v h h', _ => by simp only [rn]; exact .opq v h h'
  | _, _, .itr b s p, _ => by simp only [rn]; exact .itr b s p
  | _, _, .omp b ks vs, _ => by simp only [rn]; exact .omp b ks vs
  | _, _, .mp b, _ => by simp only [rn]; exact .mp b
  | _, _, .fmp b obj ks vs h1 h2, _ => by simp only [rn]; exact .fmp b obj ks vs h1 h2
  | _, _, .stk a c e o l h1 h2 h3, _ => by simp only [rn]; exact .stk a c e o l h1 h2 h3
  | _, _, .raw a m c h1 h2, _ => by simp only [rn]; exact .raw a m c h1 h2
  | _, _, .rawp b i m c, _ => by simp only [rn]; exact .rawp b i m c
  | _, _, .frn v Q S W0 h1 h2 h3 h4, _ => by simp only [rn]; exact .frn v Q S W0 h1 h2 h3 h4
theorem RepL.one {g : Gh} {k : Nat} : ∀ {vs : List Value} {l : List AV}, RepL g vs l → only.onlys k l = true → RepL (g.one k) vs (rns l)
  | _, _, .nil, _ => by simp only [rns]; exact .nil
  | _, _, .cons h hr, ho => by
    simp only [only.onlys, Bool.and_eq_true] at ho
    simp only [rns]; exact .cons (Rep.one h ho.1) (RepL.one hr ho.2)
end
theorem ACalls.one {P : Program} {f : FuncId} {args : List AV} {R : AV → Hp → Prop}
    (hc : ACalls P f args [] (fun a h' => ∃ k l, h'[k]? = some (some (false, l)) ∧ only k a = true ∧ free.frees l = true ∧ plains l ∧ R (rn a) [some (false, l)])) : ACalls P f args [] R := by
  refine ⟨hc.1, fun g w vargs hs hns hr hpl => (hc.2 g w vargs hs hns hr hpl).mono ?_⟩
  rintro e w1 ⟨x, a, h', g', rfl, ev, hs', hns', hx, hpa, k, l, hk, ho, hfl, hpll, hR⟩
  have nodom : ∀ i b, g.io i ≠ some b := fun i b hi => absurd (hs.dom i b hi).1 (by simp)
  obtain ⟨b, arr, e, p1, p2, p3, p4, p5, p6, p7, p8, p9⟩ := hs'.obj k false l hk
  refine ⟨x, _, _, g'.one k, rfl, ?_, ?_, hns', Rep.one hx ho, plain_rn _ hpa, hR⟩
  · refine ⟨⟨ev.le.C, fun i b hi => absurd hi (nodom i b), ev.le.X⟩, ev.F, fun b' hb' => ?_, ev.os, ev.tape, ev.output, ev.size, ev.Fx⟩
    obtain ⟨q1, q2, q3, q4⟩ := ev.Fb b' hb'
    refine ⟨q1, q2, q3, fun i hi => ?_⟩
    simp only [Gh.one] at hi
    split at hi
    · exact absurd (q4 _ hi) (nodom _ _)
    · cases hi
  · refine ⟨hs'.prot, fun id s l' hl' => ?_, fun i j b' hi hj => ?_, fun i b' hi => ?_, hs'.flt, hs'.olt, fun i hi => ?_, fun b o hx => ⟨(hs'.fro b o hx).1, (hs'.fro b o hx).2.1, fun i hi => by simp only [Gh.one] at hi; split at hi; exact (hs'.fro b o hx).2.2 _ hi; cases hi⟩⟩
    · cases id with
      | zero =>
        simp only [List.getElem?_cons_zero, Option.some.injEq, Prod.mk.injEq] at hl'
        obtain ⟨rfl, rfl⟩ := hl'
        refine ⟨b, arr, e, by simp only [Gh.one, if_true]; exact p1, p2, RepL.free (g := g') (g' := g'.one k) (fun _ _ _ h => h) (fun _ _ h => h) p3 hfl, p4, fun i v a _ ha => Owned.plain (hpll a (List.mem_of_getElem? ha)), p6, p7, p8, p9⟩
      | succ id => simp at hl'
    · simp only [Gh.one] at hi hj
      split at hi
      · split at hj
        · omega
        · cases hj
      · cases hi
    · simp only [Gh.one] at hi
      split at hi
      · next h0 => subst h0; exact ⟨by simp, (hs'.dom k b' hi).2⟩
      · cases hi
    · cases i with
      | zero => simp at hi
      | succ i => simp at hi
end Go.Proofs.Ytpiofcjkekpboaa

/- What the library's Index, Contains, Equal do with words; Has, Heavy; a word of atoms. -/
namespace Go.Proofs.Ytpiofcjkekpboaa
set_option linter.unusedSimpArgs false
set_option linter.unusedVariables false
open Go.RowKit Go.Lib

def idxW (w : ByteArray) : List ByteArray → Int
  | [] => -1
  | x :: r => if w = x then 0 else if idxW w r < 0 then -1 else idxW w r + 1
theorem idxW_none {w : ByteArray} : ∀ {l : List ByteArray}, w ∉ l → idxW w l = -1
  | [], _ => rfl
  | x :: r, h => by
    simp only [List.mem_cons, not_or] at h
    simp only [idxW]
    rw [if_neg h.1, idxW_none h.2]; rfl
theorem idxW_at {w : ByteArray} : ∀ {l : List ByteArray} {i : Nat}, l[i]? = some w → w ∉ l.take i → idxW w l = i
  | [], i, h, _ => by simp at h
  | x :: r, 0, h, _ => by simp at h; subst h; simp [idxW]
  | x :: r, i + 1, h, hn => by
    simp only [List.getElem?_cons_succ] at h
    simp only [List.take_succ_cons, List.mem_cons, not_or] at hn
    have := idxW_at h hn.2
    simp only [idxW]
    rw [if_neg hn.1, if_neg (by omega), this]; omega
theorem idxW_mem (w : ByteArray) (l : List ByteArray) : decide (0 ≤ idxW w l) = hasW l w := by
  by_cases h : w ∈ l
  · have hk : ∀ (l : List ByteArray), w ∈ l → 0 ≤ idxW w l := by
      intro l
      induction l with
      | nil => intro h; simp at h
      | cons x r ih =>
        intro h
        simp only [idxW]
        split
        · omega
        · next hx =>
          have := ih (by rcases List.mem_cons.1 h with h | h; exact absurd h hx; exact h)
          rw [if_neg (by omega)]; omega
    rw [decide_eq_true (hk l h), hasW_iff.2 h]
  · rw [idxW_none h, hasW_no.2 h]; rfl
theorem take_mem_succ {α : Type} {x : α} {l : List α} {i : Nat} (h : i < l.length) : x ∈ l.take (i + 1) ↔ x ∈ l.take i ∨ x = l[i] := by
  rw [List.take_succ_eq_append_getElem h, List.mem_append]; simp
set_option maxHeartbeats 1000000 in
theorem p_index (l : List ByteArray) (w : ByteArray) (hl : l.length ≤ 9223372036854775807) : PCalls Try.prog 116 [.lst .ro l.length (l.map .str), .str w] (.int .i64 (idxW w l)) := by
  refine pcalls_of (by first | rfl | simp [free, free.frees, frees_str, frees_u8, frees_u16]) (by first | rfl | simp [free, free.frees, frees_str, frees_u8, frees_u16]) (acalls_of mixed J_slices_Index_api_Set_api_Word_ok (Nat.le_of_ble_eq_true rfl) ?_); simp only [J_slices_Index_api_Set_api_Word, wk,if_true,if_false,forall_const,implies_true,ne_eq,eq_self,Nat.reduceEqDiff,Nat.reduceAdd,Nat.reduceMul,Nat.reduceSub,Nat.reduceLeDiff,Nat.reduceLT,Int.reduceEq,Int.reduceLT,Int.reduceLE,Int.reduceAdd,Int.reduceSub,Int.reduceMul,Int.reduceNeg,Int.reduceNe,reduceCtorEq,Int.reduceToNat,↓reduceIte]
  refine W_loop (fun n fr h => ∃ i : Nat, i ≤ l.length ∧ n = l.length - i ∧ fr = [(0, .lst .ro l.length (l.map .str)), (1, .str w), (7, .int .i64 l.length), (8, .int .i64 i)] ∧ w ∉ l.take i) l.length ⟨0, by omega, by omega, rfl, by simp⟩ ?_
  rintro n fr h ⟨i, hi, rfl, rfl, hno⟩
  simp only [J_slices_Index_api_Set_api_Word_j2, J_slices_Index_api_Set_api_Word_j1, wk,if_true,if_false,forall_const,implies_true,ne_eq,eq_self,Nat.reduceEqDiff,Nat.reduceAdd,Nat.reduceMul,Nat.reduceSub,Nat.reduceLeDiff,Nat.reduceLT,Int.reduceEq,Int.reduceLT,Int.reduceLE,Int.reduceAdd,Int.reduceSub,Int.reduceMul,Int.reduceNeg,Int.reduceNe,reduceCtorEq,Int.reduceToNat,↓reduceIte]
  refine ⟨fun hlt => ?_, fun hge => int_eq ?_⟩
  · have hil : i < l.length := by omega
    (repeat (refine And.intro (by first | omega | exact inR_of (by omega) (by omega) | exact ⟨by omega, by omega⟩ | exact ⟨by omega, by omega, by omega⟩ | rfl) ?_))
    rw [show (i : Int).toNat = i by omega, drop_str hil]
    simp only [wk,if_true,if_false,forall_const,implies_true,ne_eq,eq_self,Nat.reduceEqDiff,Nat.reduceAdd,Nat.reduceMul,Nat.reduceSub,Nat.reduceLeDiff,Nat.reduceLT,Int.reduceEq,Int.reduceLT,Int.reduceLE,Int.reduceAdd,Int.reduceSub,Int.reduceMul,Int.reduceNeg,Int.reduceNe,reduceCtorEq,Int.reduceToNat,↓reduceIte]
    refine ⟨fun he => int_eq ?_, fun hne => ⟨inR_of (by omega) (by omega), l.length - (i + 1), by omega, i + 1, by omega, rfl, rfl, fun hm => ?_⟩⟩
    · rw [idxW_at (i := i) (by rw [List.getElem?_eq_getElem hil, he]) hno]
    · rcases (take_mem_succ hil).1 hm with h | h
      · exact hno h
      · exact hne h
  · rw [List.take_of_length_le (by omega)] at hno
    rw [idxW_none hno]
theorem p_contains (l : List ByteArray) (w : ByteArray) (hl : l.length ≤ 9223372036854775807) : PCalls Try.prog 98 [.lst .ro l.length (l.map .str), .str w] (.bool (hasW l w)) := by
  refine pcalls_of (by first | rfl | simp [free, free.frees, frees_str, frees_u8, frees_u16]) (by first | rfl | simp [free, free.frees, frees_str, frees_u8, frees_u16]) (acalls_of mixed J_slices_Contains_api_Set_api_Word_ok (Nat.le_of_ble_eq_true rfl) ?_); simp only [J_slices_Contains_api_Set_api_Word, wk,if_true,if_false,forall_const,implies_true,ne_eq,eq_self,Nat.reduceEqDiff,Nat.reduceAdd,Nat.reduceMul,Nat.reduceSub,Nat.reduceLeDiff,Nat.reduceLT,Int.reduceEq,Int.reduceLT,Int.reduceLE,Int.reduceAdd,Int.reduceSub,Int.reduceMul,Int.reduceNeg,Int.reduceNe,reduceCtorEq,Int.reduceToNat,↓reduceIte]
  refine PCalls.use (p_index l w hl) ?_; simp only [wk,if_true,if_false,forall_const,implies_true,ne_eq,eq_self,Nat.reduceEqDiff,Nat.reduceAdd,Nat.reduceMul,Nat.reduceSub,Nat.reduceLeDiff,Nat.reduceLT,Int.reduceEq,Int.reduceLT,Int.reduceLE,Int.reduceAdd,Int.reduceSub,Int.reduceMul,Int.reduceNeg,Int.reduceNe,reduceCtorEq,Int.reduceToNat,↓reduceIte]
  exact bool_eq (idxW_mem w l)
theorem p_shas (l : List ByteArray) (w : ByteArray) (hl : l.length ≤ 9223372036854775807) : PCalls Try.prog 62 [.lst .ro l.length (l.map .str), .str w] (.bool (hasW l w)) := by
  refine pcalls_of (by first | rfl | simp [free, free.frees, frees_str, frees_u8, frees_u16]) (by first | rfl | simp [free, free.frees, frees_str, frees_u8, frees_u16]) (acalls_of mixed J_set_Has_ok (Nat.le_of_ble_eq_true rfl) ?_); simp only [J_set_Has, wk,if_true,if_false,forall_const,implies_true,ne_eq,eq_self,Nat.reduceEqDiff,Nat.reduceAdd,Nat.reduceMul,Nat.reduceSub,Nat.reduceLeDiff,Nat.reduceLT,Int.reduceEq,Int.reduceLT,Int.reduceLE,Int.reduceAdd,Int.reduceSub,Int.reduceMul,Int.reduceNeg,Int.reduceNe,reduceCtorEq,Int.reduceToNat,↓reduceIte]
  refine PCalls.use (p_contains l w hl) ?_; simp only [wk,if_true,if_false,forall_const,implies_true,ne_eq,eq_self,Nat.reduceEqDiff,Nat.reduceAdd,Nat.reduceMul,Nat.reduceSub,Nat.reduceLeDiff,Nat.reduceLT,Int.reduceEq,Int.reduceLT,Int.reduceLE,Int.reduceAdd,Int.reduceSub,Int.reduceMul,Int.reduceNeg,Int.reduceNe,reduceCtorEq,Int.reduceToNat,↓reduceIte]
theorem heavy_take {l : List ByteArray} {i : Nat} (h : i < l.length) : heavyE (l.take (i + 1)) = max (heavyE (l.take i)) (l[i].size / 2) := by
  unfold heavyE; rw [List.take_succ_eq_append_getElem h, List.foldl_append]; rfl
set_option maxHeartbeats 1000000 in
theorem p_sheavy (l : List ByteArray) (hl : l.length ≤ 9223372036854775807) (hs : ∀ x ∈ l, x.size ≤ 1000) : PCalls Try.prog 65 [.lst .ro l.length (l.map .str)] (.int .i64 (heavyE l)) := by
  refine pcalls_of (by first | rfl | simp [free, free.frees, frees_str, frees_u8, frees_u16]) (by first | rfl | simp [free, free.frees, frees_str, frees_u8, frees_u16]) (acalls_of mixed J_set_Heavy_ok (Nat.le_of_ble_eq_true rfl) ?_); simp only [J_set_Heavy, wk,if_true,if_false,forall_const,implies_true,ne_eq,eq_self,Nat.reduceEqDiff,Nat.reduceAdd,Nat.reduceMul,Nat.reduceSub,Nat.reduceLeDiff,Nat.reduceLT,Int.reduceEq,Int.reduceLT,Int.reduceLE,Int.reduceAdd,Int.reduceSub,Int.reduceMul,Int.reduceNeg,Int.reduceNe,reduceCtorEq,Int.reduceToNat,↓reduceIte]
  refine W_loop (fun n fr h => ∃ i : Nat, i ≤ l.length ∧ n = l.length - i ∧ fr = [(3, .int .i64 (heavyE (l.take i))), (6, .lst .ro l.length (l.map .str)), (7, .int .i64 l.length), (8, .int .i64 i)]) l.length ⟨0, by omega, by omega, rfl⟩ ?_
  rintro n fr h ⟨i, hi, rfl, rfl⟩
  simp only [J_set_Heavy_j2, J_set_Heavy_j1, wk,if_true,if_false,forall_const,implies_true,ne_eq,eq_self,Nat.reduceEqDiff,Nat.reduceAdd,Nat.reduceMul,Nat.reduceSub,Nat.reduceLeDiff,Nat.reduceLT,Int.reduceEq,Int.reduceLT,Int.reduceLE,Int.reduceAdd,Int.reduceSub,Int.reduceMul,Int.reduceNeg,Int.reduceNe,reduceCtorEq,Int.reduceToNat,↓reduceIte]
  refine ⟨fun hlt => ?_, fun hge => int_eq ?_⟩
  · have hil : i < l.length := by omega
    have hx := hs l[i] (List.getElem_mem hil)
    (repeat (refine And.intro (by first | omega | exact inR_of (by omega) (by omega) | exact ⟨by omega, by omega⟩ | exact ⟨by omega, by omega, by omega⟩ | rfl) ?_))
    rw [show (i : Int).toNat = i by omega, drop_str hil]
    simp only [wk,if_true,if_false,forall_const,implies_true,ne_eq,eq_self,Nat.reduceEqDiff,Nat.reduceAdd,Nat.reduceMul,Nat.reduceSub,Nat.reduceLeDiff,Nat.reduceLT,Int.reduceEq,Int.reduceLT,Int.reduceLE,Int.reduceAdd,Int.reduceSub,Int.reduceMul,Int.reduceNeg,Int.reduceNe,reduceCtorEq,Int.reduceToNat,↓reduceIte]
    refine PCalls.use (p_wlen l[i] (by omega)) ?_; simp only [wk,if_true,if_false,forall_const,implies_true,ne_eq,eq_self,Nat.reduceEqDiff,Nat.reduceAdd,Nat.reduceMul,Nat.reduceSub,Nat.reduceLeDiff,Nat.reduceLT,Int.reduceEq,Int.reduceLT,Int.reduceLE,Int.reduceAdd,Int.reduceSub,Int.reduceMul,Int.reduceNeg,Int.reduceNe,reduceCtorEq,Int.reduceToNat,↓reduceIte]
    (repeat (refine And.intro (by first | omega | exact inR_of (by omega) (by omega) | exact ⟨by omega, by omega⟩ | exact ⟨by omega, by omega, by omega⟩ | rfl) ?_))
    refine ⟨l.length - (i + 1), by omega, i + 1, by omega, rfl, ?_⟩
    have : (if (heavyE (l.take i) : Int) < ((l[i].size / 2 : Nat) : Int) then ((l[i].size / 2 : Nat) : Int) else (heavyE (l.take i) : Int)) = ((max (heavyE (l.take i)) (l[i].size / 2) : Nat) : Int) := by
      rw [Nat.max_def]; split <;> split <;> omega
    rw [heavy_take hil, this]
    rfl
  · rw [List.take_of_length_le (by omega)]
set_option maxHeartbeats 1000000 in
theorem p_wof (l : List Nat) (hl : l.length ≤ 1000000) (ha : ∀ a ∈ l, a < 65536) : PCalls Try.prog 82 [.lst .ro l.length (u16s l)] (.str ⟨(atomBytes l).toArray⟩) := by
  refine pcalls_of (by first | rfl | simp [free, free.frees, frees_str, frees_u8, frees_u16]) (by first | rfl | simp [free, free.frees, frees_str, frees_u8, frees_u16]) (acalls_of mixed J_word_Of_ok (Nat.le_of_ble_eq_true rfl) ?_); simp only [J_word_Of, wk,if_true,if_false,forall_const,implies_true,ne_eq,eq_self,Nat.reduceEqDiff,Nat.reduceAdd,Nat.reduceMul,Nat.reduceSub,Nat.reduceLeDiff,Nat.reduceLT,Int.reduceEq,Int.reduceLT,Int.reduceLE,Int.reduceAdd,Int.reduceSub,Int.reduceMul,Int.reduceNeg,Int.reduceNe,reduceCtorEq,Int.reduceToNat,↓reduceIte]
  refine ⟨inR_of (by omega) (by omega), ⟨by omega, by omega, by omega⟩, ?_⟩
  refine W_loop (fun n fr h => ∃ i : Nat, i ≤ l.length ∧ n = l.length - i ∧ fr = [(3, .lst (.own 5) (2 * i) (u8s (atomBytes (l.take i)))), (10, .lst .ro l.length (u16s l)), (11, .int .i64 l.length), (12, .int .i64 i)]) l.length ⟨0, by omega, by omega, rfl⟩ ?_
  rintro n fr h ⟨i, hi, rfl, rfl⟩
  simp only [J_word_Of_j2, J_word_Of_j1, wk,if_true,if_false,forall_const,implies_true,ne_eq,eq_self,Nat.reduceEqDiff,Nat.reduceAdd,Nat.reduceMul,Nat.reduceSub,Nat.reduceLeDiff,Nat.reduceLT,Int.reduceEq,Int.reduceLT,Int.reduceLE,Int.reduceAdd,Int.reduceSub,Int.reduceMul,Int.reduceNeg,Int.reduceNe,reduceCtorEq,Int.reduceToNat,↓reduceIte]
  refine ⟨fun hlt => ?_, fun hge => ?_⟩
  · have hil : i < l.length := by omega
    have hx := ha l[i] (List.getElem_mem hil)
    (repeat (refine And.intro (by first | omega | exact inR_of (by omega) (by omega) | exact ⟨by omega, by omega⟩ | exact ⟨by omega, by omega, by omega⟩ | rfl) ?_))
    rw [show (i : Int).toNat = i by omega, u16s_drop hil]
    simp only [wk,if_true,if_false,forall_const,implies_true,ne_eq,eq_self,Nat.reduceEqDiff,Nat.reduceAdd,Nat.reduceMul,Nat.reduceSub,Nat.reduceLeDiff,Nat.reduceLT,Int.reduceEq,Int.reduceLT,Int.reduceLE,Int.reduceAdd,Int.reduceSub,Int.reduceMul,Int.reduceNeg,Int.reduceNe,reduceCtorEq,Int.reduceToNat,↓reduceIte]
    have e1 : IntKind.u8.wrap ((l[i] : Int).fdiv (2 ^ (min 8 IntKind.u16.bits))) = ((UInt8.ofNat (l[i] / 256)).toNat : Int) := by
      rw [show (min 8 IntKind.u16.bits) = 8 by decide, Int.fdiv_eq_ediv_of_nonneg _ (by omega), IntKind.wrap_u8]
      simp only [UInt8.toNat_ofNat']; omega
    have e2 : IntKind.u8.wrap (l[i] : Int) = ((UInt8.ofNat (l[i] % 256)).toNat : Int) := by
      rw [IntKind.wrap_u8]; simp only [UInt8.toNat_ofNat']; omega
    refine ⟨⟨by omega, by omega⟩, inR_of (by omega) (by omega), l.length - (i + 1), by omega, i + 1, by omega, rfl, ?_⟩
    have e3 : atomBytes (l.take (i + 1)) = atomBytes (l.take i) ++ [UInt8.ofNat (l[i] / 256), UInt8.ofNat (l[i] % 256)] := by
      unfold atomBytes; rw [List.take_succ_eq_append_getElem hil, List.flatMap_append]; simp
    rw [e1, e2, e3, ← u8s_app]
    rfl
  · obtain rfl : i = l.length := by omega
    rw [List.take_length]
    refine ⟨atomBytes l, rfl, ?_, rfl⟩
    have : ∀ l : List Nat, (atomBytes l).length = 2 * l.length := by
      intro l
      induction l with
      | nil => rfl
      | cons a l ih => simp only [atomBytes, List.flatMap_cons, List.length_append, List.length_cons, List.length_nil] at ih ⊢; omega
    rw [this]
end Go.Proofs.Ytpiofcjkekpboaa

/- Calls that only read: what they tell of lists that stay, they tell of objects that are handed in. -/
namespace Go.Proofs.Ytpiofcjkekpboaa
set_option linter.unusedSimpArgs false
set_option linter.unusedVariables false
open Go.RowKit Go.Lib

section
variable {P : Program} {g : Gh} {h : Hp} {w : World}
open Classical in
noncomputable def Gh.lend (g : Gh) (w : World) : Gh :=
  { g.bare with C := fun b o => if (∃ i, g.io i = some b) then (match w.cell? ⟨b, o, none⟩ with
      | some v => if v.oneCell' = true then some v else none
      | none => none) else g.C b o }
theorem lend_C (hs : Sim P g h w) {b o : Nat} {v : Value} (hc : g.C b o = some v) : (g.lend w).C b o = some v := by
  simp only [Gh.lend]
  split
  · obtain ⟨q1, q2⟩ := hs.prot b o v hc
    rw [q1]; simp [q2]
  · exact hc
theorem lend_obj {i b o : Nat} {v : Value} (hi : g.io i = some b) (hc : w.cell? ⟨b, o, none⟩ = some v) (h1 : v.oneCell' = true) : (g.lend w).C b o = some v := by
  simp only [Gh.lend]
  rw [if_pos ⟨i, hi⟩, hc]
  simp [h1]
theorem Sim.lend (hs : Sim P g h w) : Sim P (g.lend w) [] w := by
  refine ⟨fun b o v hc => ?_, (fun id s l hl => by simp at hl), hs.bare.inj, hs.bare.dom, hs.bare.flt, hs.bare.olt, hs.bare.hole, hs.bare.fro⟩
  simp only [Gh.lend] at hc
  split at hc
  · split at hc
    · next v' e =>
      split at hc
      · next h1 => injection hc with hc; subst hc; exact ⟨e, h1⟩
      · cases hc
    · cases hc
  · exact hs.prot b o v hc
open Classical in
noncomputable def Gh.lret (g g1 : Gh) : Gh := { g with C := fun b o => if (∃ i, g.io i = some b) then g.C b o else g1.C b o, X := g1.X }
theorem Sim.lret {g1 : Gh} {w1 : World} {h1 : Hp} (hs : Sim P g h w) (hev : Ev (g.lend w) w g1 w1) (hs1 : Sim P g1 h1 w1) : Sim P (g.lret g1) h w1 ∧ Ev g w (g.lret g1) w1 := by
  have hC : ∀ b o, ¬ (∃ i, g.io i = some b) → (g.lend w).C b o = g.C b o := fun b o hb => by simp only [Gh.lend]; rw [if_neg hb]
  have hbC : ∀ b o, ¬ (∃ i, g.io i = some b) → (g.lret g1).C b o = g1.C b o := fun b o hb => by simp only [Gh.lret]; rw [if_neg hb]
  have hbO : ∀ b o, (∃ i, g.io i = some b) → (g.lret g1).C b o = g.C b o := fun b o hb => by simp only [Gh.lret]; rw [if_pos hb]
  have hle : GLe g (g.lret g1) := ⟨fun b o v hc => by
    by_cases hb : ∃ i, g.io i = some b
    · rw [hbO b o hb]; exact hc
    · rw [hbC b o hb]; exact hev.le.C b o v (by rw [hC b o hb]; exact hc), fun _ _ h => h, fun b o hx => hev.le.X b o hx⟩
  refine ⟨⟨fun b o v hc => ?_, ?_, hs.inj, fun i b hi => ⟨(hs.dom i b hi).1, Nat.lt_of_lt_of_le (hs.dom i b hi).2 hev.size⟩, fun b hb => Nat.lt_of_lt_of_le (hs.flt b hb) hev.size, fun b x hx => Nat.lt_of_lt_of_le (hs.olt b x hx) hev.size, hs.hole, fun b o hx => ?_⟩, ⟨hle, fun _ => .rfl, fun b hb => ?_, hev.os, hev.tape, hev.output, hev.size, fun b hb => hev.Fx b (.inl hb)⟩⟩
  · by_cases hb : ∃ i, g.io i = some b
    · rw [hbO b o hb] at hc
      obtain ⟨q1, q2⟩ := hs.prot b o v hc
      have hw := (hev.Fb b (.inr (.inl hb))).1
      refine ⟨?_, q2⟩
      rw [← q1]
      simp only [World.cell?, hw]
    · rw [hbC b o hb] at hc
      exact hs1.prot b o v hc
  · intro id s l hl
    refine (hs.obj id s l hl).keep hle (fun b hb h8 h9 => ?_) (fun b i o1 o3 o4 => ?_)
    · obtain ⟨q1, q2, _⟩ := hev.Fb b (.inr (.inl ⟨id, hb⟩))
      exact ⟨q1, fun o => hbO b o ⟨id, hb⟩, h8, h9⟩
    · obtain ⟨q1, q2, _⟩ := hev.Fb b (.inr (.inr ⟨_, o1⟩))
      have hno : ¬ ∃ i, g.io i = some b := fun ⟨j, hj⟩ => o4 j hj
      exact ⟨q1, o1, fun o => by rw [hbC b o hno, q2 o, hC b o hno], o3, o4⟩
  · have hbk : (∃ i, g.io i = some b) ∨ (∃ x, g.own b = some x) → g.X b = some o := fun hh => by
      have := hev.Fx b (.inr hh)
      rw [show (g.lend w).X b = g.X b from rfl] at this
      rw [← this]; exact hx
    refine ⟨(hs1.fro b o hx).1, ?_, fun i hi => ?_⟩
    · cases ho : g.own b with
      | none => exact ho
      | some x => exact absurd (hs.fro b o (hbk (.inr ⟨x, ho⟩))).2.1 (by rw [ho]; simp)
    · exact (hs.fro b o (hbk (.inl ⟨i, hi⟩))).2.2 i hi
  · obtain ⟨q1, q2, _⟩ := hev.Fb b (.inl hb)
    refine ⟨q1, fun o => ?_, rfl, fun _ h => h⟩
    by_cases hbo : ∃ i, g.io i = some b
    · exact hbO b o hbo
    · rw [hbC b o hbo, q2 o, hC b o hbo]
mutual
def flat : AV → Bool
  | .bool _ | .int _ _ | .str _ | .nilp => true
  | .tup l => flats l
  | _ => false
def flats : List AV → Bool
  | [] => true
  | a :: l => flat a && flats l
end
mutual
theorem Rep.flat {g g' : Gh} : ∀ {v : Value} {a : AV}, Rep g v a → flat a = true → Rep g' v a
  | _, _, .bool b, _ => .bool b
  | _, _, .int k n, _ => .int k n
  | _, _, .str s, _ => .str s
  | _, _, .nilp, _ => .nilp
  | _, _, .tup vs l hp hl, hf => .tup vs l hp (RepL.flat hl (by simpa only [Go.Proofs.Ytpiofcjkekpboaa.flat] using hf))
theorem RepL.flat {g g' : Gh} : ∀ {vs : List Value} {l : List AV}, RepL g vs l → flats l = true → RepL g' vs l
  | _, _, .nil, _ => .nil
  | _, _, .cons h hl, hf => by
    simp only [flats, Bool.and_eq_true] at hf
    exact .cons (Rep.flat h hf.1) (RepL.flat hl hf.2)
end
mutual
inductive Lnd (h : Hp) : AV → AV → Prop where
  | same (a : AV) : free a = true → Lnd h a a
  | ro (f : Fl) (n : Nat) (l : List AV) : free.frees l = true → Lnd h (.lst f n l) (.lst .ro n l)
  | hsc (id n c k : Nat) (s : Bool) (l : List AV) : h[id]? = some (some (s, l)) → free.frees (l.take k) = true → plains (l.take k) → Lnd h (.hsc id n c) (.lst .ro n (l.take k))
  | agg (l l' : List AV) : Lnds h l l' → plains l' → Lnd h (.agg l) (.agg l')
inductive Lnds (h : Hp) : List AV → List AV → Prop where
  | nil : Lnds h [] []
  | cons {a a' : AV} {l l' : List AV} : Lnd h a a' → Lnds h l l' → Lnds h (a :: l) (a' :: l')
end
mutual
theorem Rep.lend (hs : Sim P g h w) {v : Value} {a a' : AV} (hr : Rep g v a) (hl : Lnd h a a') : Rep (g.lend w) v a' := by
  cases hl with
  | same _ hf => exact Rep.free (fun _ _ _ h => lend_C hs h) (fun _ _ h => h) hr hf
  | ro f n l hf =>
    have hC := fun (b o : Nat) (v : Value) (h : g.C b o = some v) => lend_C hs h
    cases hr with
    | lst b off _ c _ vs _ h1 h2 h3 h4 h5 => exact .lst b off n c .ro vs l (fun i v hv => hC _ _ _ (h1 i v hv)) h2 h3 (fun e => by cases e) (RepL.free hC (fun _ _ h => h) h5 hf)
    | lst0 a c _ h => exact .lst0 a c .ro (fun e => by cases e)
  | hsc id n c k s l hl hf hp =>
    cases hr with
    | hsc _ b _ _ hb hn =>
      obtain ⟨b', arr, e', p1, p2, p3, p4, p5, p6, p7, p8, p9⟩ := hs.obj id s l hl
      obtain rfl : b = b' := by rw [hb] at p1; simpa using p1
      refine .lst b 0 n c .ro (arr.toList.take k) (l.take k) (fun i v hv => ?_) hp hn (fun e => by cases e) (RepL.free (fun _ _ _ h => lend_C hs h) (fun _ _ h => h) (p3.take k) hf)
      rw [List.getElem?_take] at hv
      split at hv
      · refine lend_obj hb ?_ (p4 v (List.mem_of_getElem? hv))
        rw [Nat.zero_add, cell_of_row w b i arr e' (0, 0) p2]; simpa using hv
      · cases hv
  | agg l l' hl hp =>
    cases hr with
    | agg vs _ h1 h2 h3 => exact .agg vs l' h1 hp (RepL.lend hs h3 hl)
theorem RepL.lend (hs : Sim P g h w) {vs : List Value} {l l' : List AV} (hr : RepL g vs l) (hl : Lnds h l l') : RepL (g.lend w) vs l' := by
  cases hl with
  | nil => cases hr; exact .nil
  | cons hx hy =>
    cases hr with
    | cons h1 h2 => exact .cons (Rep.lend hs h1 hx) (RepL.lend hs h2 hy)
end
theorem Lnds.plains : ∀ {l l' : List AV}, Lnds h l l' → plains l → plains l'
  | _, _, .nil, _ => fun a ha => by simp at ha
  | _, _, .cons hx hy, hp => fun a ha => by
    rcases List.mem_cons.1 ha with rfl | ha
    · cases hx with
      | same _ hf => exact hp _ (by simp)
      | ro => rfl
      | hsc => rfl
      | agg => rfl
    · exact Lnds.plains hy (fun b hb => hp b (by simp [hb])) a ha
theorem PCalls.lend {f : FuncId} {args args' : List AV} {v : AV} (hp : PCalls P f args' v) (hv : flat v = true) (hl : Lnds h args args') : ACalls P f args h (fun a h' => a = v ∧ h' = h) := by
  obtain ⟨hfa, hfv, hent, hc⟩ := hp
  refine ⟨hent, fun g w vargs hs hns hr hpl => ?_⟩
  refine (hc (g.lend w) w vargs hs.lend (fun b k h => by cases h) (RepL.lend hs hr hl) (hl.plains hpl)).mono ?_
  rintro e w1 ⟨x, a, h1, g1, rfl, r1, r2, r3, r4, r5, rfl, rfl⟩
  obtain ⟨s1, s2⟩ := hs.lret r1 r2
  exact ⟨x, a, h, g.lret g1, rfl, s2, s1, hns, Rep.flat r4 hv, r5, rfl, rfl⟩
mutual
inductive Shr : AV → AV → Prop where
  | same (a : AV) : Shr a a
  | lst (f : Fl) (n k : Nat) (l : List AV) : plains (l.take k) → Shr (.lst f n l) (.lst .ro n (l.take k))
  | agg (l l' : List AV) : Shrs l l' → plains l' → Shr (.agg l) (.agg l')
  | tup (l l' : List AV) : Shrs l l' → plains l' → Shr (.tup l) (.tup l')
inductive Shrs : List AV → List AV → Prop where
  | nil : Shrs [] []
  | cons {a a' : AV} {l l' : List AV} : Shr a a' → Shrs l l' → Shrs (a :: l) (a' :: l')
end
mutual
theorem Rep.shr {g : Gh} {v : Value} {a a' : AV} (hr : Rep g v a) (hl : Shr a a') : Rep g v a' := by
  cases hl with
  | same => exact hr
  | lst f n k l hp =>
    cases hr with
    | lst b off _ c _ vs _ h1 h2 h3 h4 h5 =>
      refine .lst b off n c .ro (vs.take k) (l.take k) (fun i v hv => ?_) hp h3 (fun e => by cases e) (h5.take k)
      rw [List.getElem?_take] at hv
      split at hv
      · exact h1 i v hv
      · cases hv
    | lst0 a c _ h => rw [List.take_nil]; exact .lst0 a c .ro (fun e => by cases e)
  | agg l l' hl hp => cases hr with
    | agg vs _ h1 h2 h3 => exact .agg vs l' h1 hp (RepL.shr h3 hl)
  | tup l l' hl hp => cases hr with
    | tup vs _ h2 h3 => exact .tup vs l' hp (RepL.shr h3 hl)
theorem RepL.shr {g : Gh} {vs : List Value} {l l' : List AV} (hr : RepL g vs l) (hl : Shrs l l') : RepL g vs l' := by
  cases hl with
  | nil => exact hr
  | cons hx hy => cases hr with
    | cons h1 h2 => exact .cons (Rep.shr h1 hx) (RepL.shr h2 hy)
end
theorem Shr.plain {a a' : AV} (hl : Shr a a') (hp : plain a = true) : plain a' = true := by
  cases hl with
  | same => exact hp
  | lst => rfl
  | agg => rfl
  | tup => rfl
end
end Go.Proofs.Ytpiofcjkekpboaa
