/- Texts of one proof, laid together: Kk Ay FnN St Sa. -/
import Derived.Test.YtedaffmkpljlnaaGreatMA19
import Derived.Test.YtedaffmkpljlnaaGreatMA18
import Derived.Test.YtedaffmkpljlnaaGreatProg
import Derived.Test.YtedaffmkpljlnaaGreatMA17
import Derived.Test.YtedaffmkpljlnaaGreatMA13
set_option maxRecDepth 100000
set_option maxHeartbeats 16000000

set_option linter.unusedSimpArgs false
set_option linter.unusedVariables false
/- The program's All. -/
namespace Go.Proofs.YtedaffmkpljlnaaGreat
open Go.RowKit Go.Lib

def noJ (s : ByteArray) (e : Nat) : Prop := ∀ p, p < e → p + (Utf8.decode s p).2 ≤ e
theorem noJ_atB {s : ByteArray} {e : Nat} (he : e ≤ s.size) (h : atB s e) : noJ s e := fun p hp => step_le h hp he
theorem noJ_size (s : ByteArray) : noJ s s.size := fun p hp => (step_one hp).2
theorem noJ_low {s : ByteArray} {e : Nat} (he : e < s.data.toList.length) (h : (s.data.toList[e]).toNat < 128) : noJ s e := fun p hp => by
 have hpl : p < s.data.toList.length := by omega
 by_cases h1 : (s.data.toList[p]).toNat < 128
 ·rw [dec_lt hpl h1]; show p + 1 ≤ e; omega
 ·obtain ⟨d1, d2, d3, d4⟩ := dec_ge hpl h1
  rcases Nat.lt_or_ge e (p + (Utf8.decode s p).2) with h2 | h2
  ·have := d4 e he hp h2; omega
  ·exact h2
theorem noJ_note {s : ByteArray} {i : Nat} (hi : i ≤ s.size) : i + stopN notI (s.data.toList.drop i) ≤ s.size ∧ noJ s (i + stopN notI (s.data.toList.drop i)) := by
 have hl := len_size s
 have hle := stopN_le notI (s.data.toList.drop i)
 have hll : (s.data.toList.drop i).length = s.data.toList.length - i := List.length_drop
 refine ⟨by omega, ?_⟩
 rcases Nat.lt_or_ge (stopN notI (s.data.toList.drop i)) (s.data.toList.drop i).length with h | h
 ·have h2 := stopN_end h
  rw [List.getElem_drop] at h2
  refine noJ_low (by omega) ?_
  simp only [notI, decide_eq_false_iff_not, Decidable.not_not] at h2
  omega
 ·have : i + stopN notI (s.data.toList.drop i) = s.size := by omega
  rw [this]; exact noJ_size s
theorem signL_kind {l : List UInt8} {k : Int} {w : ByteArray} {o : Int} {n : Nat} (h : signL l = some (k, w, o, n)) : k ≠ 0 := by
 unfold signL at h
 split at h
 ·unfold plainL at h
  repeat' split at h
  all_goals first
   | (cases h; done)
   | (simp only [Option.some.injEq, Prod.mk.injEq] at h; obtain ⟨rfl, _⟩ := h; first | decide | assumption)
 ·unfold atomL at h
  split at h
  ·cases h
  ·simp only [Option.some.injEq, Prod.mk.injEq] at h; obtain ⟨rfl, _⟩ := h; decide
theorem p_pall (s : ByteArray) (hs : s.size ≤ 1000000) : PCalls Tryz.prog 61 [.str s] (resV (allT s)) := by
 have hl := len_size s
 refine pcalls_of rfl (free_resV _) (ACalls.deep (acalls_of mixed J_token_All_ok (Nat.le_of_ble_eq_true rfl) ?_)); simp only [J_token_All, wk,Nat.reduceEqDiff,reduceCtorEq,↓reduceIte]
 unfold allT
 refine ⟨fun hbig => ?_, fun hbig => ?_⟩
 ·rw [if_pos (by omega)]
  simp only [rdpw, resV, vToks, toksC]
  rfl
 rw [if_neg (by omega)]
 refine W_loop (fun m fr h' => ∃ (p e : Nat) (acc : List Tok), p ≤ s.size ∧ e ≤ s.size ∧ m = s.size - p ∧ acc.length ≤ 1000 ∧ noJ s e ∧ scan s.data.toList 0 [] = scan (s.data.toList.drop (max p e)) (max p e) acc ∧ fr = [(0, .str s), (5, .lst (.own 85) acc.length (toksC acc)), (6, .int .i64 e), (15, .itr s p)]) s.size ⟨0, 0, [], by omega, by omega, by omega, by simp, fun p hp => by omega, rfl, rfl⟩ ?_
 rintro m fr h' ⟨p, e, acc, hp, he, rfl, hacc, hj, hscan, rfl⟩
 simp only [J_token_All_j2, wk,Nat.reduceEqDiff,reduceCtorEq,↓reduceIte]
 refine ⟨fun hlt => ?_, fun hge => ?_⟩
 ·have hpl : p < s.size := by omega
  have hal : p < s.data.toList.length := by omega
  have hd : s.data.toList.drop p = s.data.toList[p] :: s.data.toList.drop (p + 1) := List.drop_eq_getElem_cons hal
  obtain ⟨b, hb⟩ : ∃ b, b = s.data.toList[p] := ⟨_, rfl⟩
  rw [← hb] at hd
  have hone := step_one hpl
  have hlo : b.toNat < 128 → Utf8.decode s p = (b.toNat, 1) := fun h => by rw [dec_lt hal (by rw [← hb]; exact h), hb]
  have hhi : ¬ b.toNat < 128 → 128 ≤ (Utf8.decode s p).1 := fun h => (dec_ge hal (by rw [← hb]; exact h)).1
  have q := p_psign s p (Utf8.decode s p).1 hs hpl rfl
  rw [hd] at q
  obtain ⟨v, hv⟩ : ∃ v, v = (Utf8.decode s p).1 := ⟨_, rfl⟩
  obtain ⟨d, hdd⟩ : ∃ d, d = (Utf8.decode s p).2 := ⟨_, rfl⟩
  rw [← hv] at q hhi
  rw [← hdd] at hone
  simp only [← hv, ← hdd]
  have ch : ∀ n : Nat, n < 128 → ((v : Int) = n ↔ b.toNat = n) := fun n hn => by
   by_cases h : b.toNat < 128
   ·have := congrArg Prod.fst (hlo h); simp only at this; omega
   ·have := hhi h; omega
  have c32 := ch 32 (by omega)
  have c9 := ch 9 (by omega)
  have c10 := ch 10 (by omega)
  have c35 := ch 35 (by omega)
  have d1 : b.toNat < 128 → d = 1 := fun h => by have := congrArg Prod.snd (hlo h); simp only at this; omega
  -- on with the same tokens
  have on : ∀ e' : Nat, e' ≤ s.size → noJ s e' → scan s.data.toList 0 [] = scan (s.data.toList.drop (max (p + d) e')) (max (p + d) e') acc → ∃ m, m < s.size - p ∧ ∃ (p' e'' : Nat) (acc' : List Tok), p' ≤ s.size ∧ e'' ≤ s.size ∧ m = s.size - p' ∧ acc'.length ≤ 1000 ∧ noJ s e'' ∧ scan s.data.toList 0 [] = scan (s.data.toList.drop (max p' e'')) (max p' e'') acc' ∧ [(0, AV.str s), (5, .lst (.own 85) acc.length (toksC acc)), (6, .int .i64 e'), (15, .itr s (p + d))] = [(0, .str s), (5, .lst (.own 85) acc'.length (toksC acc')), (6, .int .i64 e''), (15, .itr s p')] := fun e' h1 h2 h3 =>
   ⟨s.size - (p + d), by omega, p + d, e', acc, by omega, h1, rfl, hacc, h2, h3, rfl⟩
  have far : p < e → scan s.data.toList 0 [] = scan (s.data.toList.drop (max (p + d) e)) (max (p + d) e) acc := fun h => by
   have := hj p h
   rw [← hdd] at this
   rw [hscan, show max (p + d) e = max p e by omega]
  have hsc : ¬ p < e → scan s.data.toList 0 [] = if blankB b = true then scan (s.data.toList.drop (p + 1)) (p + 1) acc
    else if b.toNat = 35 then scan (s.data.toList.drop (p + stopN notI (s.data.toList.drop p))) (p + stopN notI (s.data.toList.drop p)) acc
    else match signL (s.data.toList.drop p) with
     | none => ([], p, 2)
     | some (k, w, o, n) => if acc.length = 1000 then ([], p, 3) else scan (s.data.toList.drop (p + n)) (p + n) (acc ++ [⟨k, w, o, p⟩]) := fun h => by
   rw [hscan, show max p e = p by omega]
   rw [hd, scan_cons, ← hd]
   simp only [List.drop_drop]
   try rfl
  have blank : ¬ p < e → blankB b = true → scan s.data.toList 0 [] = scan (s.data.toList.drop (max (p + d) e)) (max (p + d) e) acc := fun h h2 => by
   have : d = 1 := d1 (by simp [blankB] at h2; omega)
   rw [hsc h, if_pos h2, show max (p + d) e = p + 1 by omega]
  have hblank : ∀ n : Nat, n = 32 ∨ n = 9 ∨ n = 10 → b.toNat = n → blankB b = true := fun n h h2 => by
   rw [← h2] at h
   rcases h with h | h | h <;> simp [blankB, h]
  refine ⟨fun nlt => ⟨fun n32 => ⟨fun n9 => ⟨fun ev => ?_, fun n10 => ⟨fun ev => ?_, fun n35 => ?_⟩⟩, fun ev => ?_⟩, fun ev => ?_⟩, fun hpe => ?_⟩
  ·exact on e he hj (blank (by omega) (hblank 10 (by omega) (c10.1 ev)))
  ·have h35 := c35.1 ev
   obtain ⟨k1, k2⟩ := noJ_note (s := s) (i := p) hp
   have q2 := p_stop (f := 97) p_not hi_not s p hs hp
   have h1 : 1 ≤ stopN notI (s.data.toList.drop p) := by rw [hd]; exact note_one h35
   obtain ⟨n, hn⟩ : ∃ n, n = stopN notI (s.data.toList.drop p) := ⟨_, rfl⟩
   rw [← hn] at k1 k2 q2 h1
   rw [show ((p : Int) + (n : Nat)) = ((p + n : Nat) : Int) by omega] at q2
   have hd1 := d1 (by omega)
   refine PCalls.use q2 ?_; simp only [wk,Nat.reduceEqDiff,reduceCtorEq,↓reduceIte]
   refine on (p + n) k1 k2 ?_
   rw [hsc (by omega), if_neg (by simp [blankB, h35]), if_pos h35, ← hn, show max (p + d) (p + n) = p + n by omega]
  ·have hsc2 := hsc (by omega)
   rw [if_neg (by simp [blankB]; omega), if_neg (by omega)] at hsc2
   unfold psV at q
   rw [hd] at hsc2
   cases hsg : signL (b :: s.data.toList.drop (p + 1)) with
   | none =>
    rw [hsg] at q hsc2
    refine PCalls.use (q) ?_; simp only [wk,Nat.reduceEqDiff,Nat.reduceAdd,Nat.reduceLeDiff,reduceCtorEq,↓reduceIte]
    simp only [hsc2, resV, vToks, toksC, rdpw]
    rfl
   | some x =>
    obtain ⟨k, w, o, n⟩ := x
    rw [hsg] at q hsc2
    have hk := signL_kind hsg
    have hasc := signL_ascii hsg
    have hn1 := hasc.1
    rw [← hd] at hasc
    obtain ⟨k1, k2⟩ := ascii_at (by omega) hasc
    refine PCalls.use (q) ?_; simp only [wk,Nat.reduceEqDiff,Nat.reduceAdd,Nat.reduceMul,Nat.reduceLeDiff,reduceCtorEq,↓reduceIte]
    have hjn := noJ_atB k1 k2
    have hdn := hjn p (by omega)
    rw [← hdd] at hdn
    refine ⟨fun h => absurd h hk, fun _ => ⟨fun h => ?_, fun h => ?_⟩⟩
    ·simp only [hsc2, show acc.length = 1000 by omega, if_true, resV, vToks, toksC, rdpw]
     rfl
    ·refine ⟨⟨by omega, by omega⟩, s.size - (p + d), by omega, p + d, p + n, acc ++ [⟨k, w, o, p⟩], by omega, k1, rfl, by simp; omega, hjn, ?_, ?_⟩
     ·rw [hsc2]
      simp only
      rw [if_neg (by omega), show max (p + d) (p + n) = p + n by omega]
     ·simp [toksC_sn]
  ·exact on e he hj (blank (by omega) (hblank 9 (by omega) (c9.1 ev)))
  ·exact on e he hj (blank (by omega) (hblank 32 (by omega) (c32.1 ev)))
  ·exact on e he hj (far (by omega))
 ·have hn : scan s.data.toList 0 [] = (acc, 0, 0) := by
   rw [hscan, List.drop_of_length_le (by omega)]
   rfl
  simp only [J_token_All_j1, hn, resV, vToks, rdpw, rdps_toks, wk,Nat.reduceEqDiff,reduceCtorEq,↓reduceIte]
  rfl
mutual
def fgt : AV → AV
  | .lst _ _ _ => .opq
  | .fp _ => .opq
  | .fn _ _ => .opq
  | .fnb _ _ => .opq
  | .ptr _ _ => .opq
  | .hs _ _ => .opq
  | .hsc _ _ _ => .opq
  | .itr _ _ => .opq
  | .omp _ _ _ => .opq
  | .mp _ => .opq
  | .fmp _ _ => .opq
  | .stk _ _ _ => .opq
  | .frn _ => .opq
  | .agg l => .agg (fgts l)
  | .tup l => .tup (fgts l)
  | a => a
def fgts : List AV → List AV
  | [] => []
  | a :: l => fgt a :: fgts l
end
theorem plain_fgt (a : AV) : plain (fgt a) = true := by
 cases a <;> simp [fgt, plain]
theorem plains_fgt : ∀ l : List AV, plains (fgts l)
 | [] => by intro a ha; simp [fgts] at ha
 | a :: l => by
  intro b hb
  simp only [fgts, List.mem_cons] at hb
  rcases hb with rfl | hb
  ·exact plain_fgt a
  ·exact plains_fgt l b hb
mutual
theorem Rep.fgt {g g' : Gh} : ∀ {v : Value} {a : AV}, Rep g v a → Rep g' v (fgt a)
  | _, _, .bool b => by simp only [Go.Proofs.YtedaffmkpljlnaaGreat.fgt]; exact .bool b
  | _, _, .int k n => by simp only [Go.Proofs.YtedaffmkpljlnaaGreat.fgt]; exact .int k n
  | _, _, .str s => by simp only [Go.Proofs.YtedaffmkpljlnaaGreat.fgt]; exact .str s
  | _, _, .nilp => by simp only [Go.Proofs.YtedaffmkpljlnaaGreat.fgt]; exact .nilp
  | _, _, .ptr id off b h => by simp only [Go.Proofs.YtedaffmkpljlnaaGreat.fgt]; exact .opq _ rfl (fun h => by cases h)
  | _, _, .fp b off vs l h hp hl => by simp only [Go.Proofs.YtedaffmkpljlnaaGreat.fgt]; exact .opq _ rfl (fun h => by cases h)
  | _, _, .lst b off n c f vs l h hp h1 h2 hl => by simp only [Go.Proofs.YtedaffmkpljlnaaGreat.fgt]; exact .opq _ rfl (fun h => by cases h)
  | _, _, .lst0 a c f h => by simp only [Go.Proofs.YtedaffmkpljlnaaGreat.fgt]; exact .opq _ rfl (fun h => by cases h)
  | _, _, .hs id b n c h h1 => by simp only [Go.Proofs.YtedaffmkpljlnaaGreat.fgt]; exact .opq _ rfl (fun h => by cases h)
  | _, _, .hsc id b n c h h1 => by simp only [Go.Proofs.YtedaffmkpljlnaaGreat.fgt]; exact .opq _ rfl (fun h => by cases h)
  | _, _, .agg vs l h hp hl => by simp only [Go.Proofs.YtedaffmkpljlnaaGreat.fgt]; exact .agg vs _ h (plains_fgt l) (RepL.fgt hl)
  | _, _, .tup vs l hp hl => by simp only [Go.Proofs.YtedaffmkpljlnaaGreat.fgt]; exact .tup vs _ (plains_fgt l) (RepL.fgt hl)
  | _, _, .fn f vs l hp hl => by simp only [Go.Proofs.YtedaffmkpljlnaaGreat.fgt]; exact .opq _ rfl (fun h => by cases h)
  | _, _, .fnb f vs l hp hl => by simp only [Go.Proofs.YtedaffmkpljlnaaGreat.fgt]; exact .opq _ rfl (fun h => by cases h)
  | _, _, .nilf => by simp only [Go.Proofs.YtedaffmkpljlnaaGreat.fgt]; exact .nilf
  | _, _, .opq v h h' => by simp only [Go.Proofs.YtedaffmkpljlnaaGreat.fgt]; exact .opq v h h'
  | _, _, .itr b s p => by simp only [Go.Proofs.YtedaffmkpljlnaaGreat.fgt]; exact .opq _ rfl (fun h => by cases h)
  | _, _, .omp b ks vs => by simp only [Go.Proofs.YtedaffmkpljlnaaGreat.fgt]; exact .opq _ rfl (fun h => by cases h)
  | _, _, .mp b => by simp only [Go.Proofs.YtedaffmkpljlnaaGreat.fgt]; exact .opq _ rfl (fun h => by cases h)
  | _, _, .fmp b obj ks vs h1 h2 => by simp only [Go.Proofs.YtedaffmkpljlnaaGreat.fgt]; exact .opq _ rfl (fun h => by cases h)
  | _, _, .stk a c e o l h1 h2 h3 => by simp only [Go.Proofs.YtedaffmkpljlnaaGreat.fgt]; exact .opq _ rfl (fun h => by cases h)
  | _, _, .raw a m c h1 h2 => by simp only [Go.Proofs.YtedaffmkpljlnaaGreat.fgt]; exact .raw a m c h1 h2
  | _, _, .rawp b i m c => by simp only [Go.Proofs.YtedaffmkpljlnaaGreat.fgt]; exact .rawp b i m c
  | _, _, .frn v Q S W0 h1 h2 h3 h4 => by simp only [Go.Proofs.YtedaffmkpljlnaaGreat.fgt]; exact .opq _ h1 (fun e => by obtain ⟨b, o, h2⟩ := h2; rw [h2] at e; cases e)
theorem RepL.fgt {g g' : Gh} : ∀ {vs : List Value} {l : List AV}, RepL g vs l → RepL g' vs (fgts l)
  | _, _, .nil => by simp only [fgts]; exact .nil
  | _, _, .cons h hr => by simp only [fgts]; exact .cons (Rep.fgt h) (RepL.fgt hr)
end
noncomputable def Gh.still (g : Gh) (h : Hp) (w : World) : Gh := { g.bare with C := (g.ice h w).C }
open Classical in
noncomputable def Gh.melt (g g1 : Gh) : Gh := { g with C := fun b o => if (∃ i, g.io i = some b) ∨ (∃ x, g.own b = some x) then g.C b o else g1.C b o, X := g1.X }
section
variable {P : Program} {g : Gh} {h : Hp} {w : World}
theorem Sim.still (hs : Sim P g h w) : Sim P (g.still h w) [] w := by
 have hb := hs.bare
 refine ⟨fun b o u hu => ?_, (fun id s l hl => by simp at hl), hb.inj, hb.dom, hb.flt, hb.olt, hb.hole, hb.fro⟩
 simp only [Gh.still, Gh.ice] at hu
 split at hu
 ·next u' hu' => simp only [Option.some.injEq] at hu; subst hu; exact hs.prot b o _ hu'
 ·split at hu
  ·simp only [Option.filter_eq_some_iff] at hu; exact hu
  ·cases hu
theorem Sim.melt {g1 : Gh} {w1 : World} {h1 : Hp} (hs : Sim P g h w) (hev : Ev (g.still h w) w g1 w1) (hs1 : Sim P g1 h1 w1) : Sim P (g.melt g1) h w1 ∧ Ev g w (g.melt g1) w1 := by
 have hC : ∀ b o v, g.C b o = some v → g1.C b o = some v := fun b o v hc => hev.le.C b o v (ice_le hc)
 have hle : GLe g (g.melt g1) := ⟨fun b o v hc => by
  simp only [Gh.melt]
  split
  ·exact hc
  ·exact hC b o v hc, fun _ _ h => h, fun b o hx => hev.le.X b o hx⟩
 have hin : ∀ b, ((∃ i, g.io i = some b) ∨ (∃ x, g.own b = some x)) → ∀ o, (g.melt g1).C b o = g.C b o := fun b hb o => by
  simp only [Gh.melt]; rw [if_pos hb]
 refine ⟨⟨fun b o v hc => ?_, ?_, hs.inj, fun i b hi => ⟨(hs.dom i b hi).1, Nat.lt_of_lt_of_le (hs.dom i b hi).2 hev.size⟩, fun b hb => Nat.lt_of_lt_of_le (hs.flt b hb) hev.size, fun b x hx => Nat.lt_of_lt_of_le (hs.olt b x hx) hev.size, hs.hole, fun b o hx => ?_⟩, ⟨hle, fun _ => .rfl, fun b hb => ?_, hev.os, hev.tape, hev.output, hev.size, fun b hb => hev.Fx b (.inl hb)⟩⟩
 ·simp only [Gh.melt] at hc
  split at hc
  ·exact hs1.prot b o v (hC b o v hc)
  ·exact hs1.prot b o v hc
 ·intro id s l hl
  refine (hs.obj id s l hl).keep hle (fun b hb h8 h9 => ?_) (fun b i o1 o3 o4 => ?_)
  ·obtain ⟨q1, _, _⟩ := hev.Fb b (.inr (.inl ⟨id, hb⟩))
   exact ⟨q1, hin b (.inl ⟨id, hb⟩), h8, h9⟩
  ·obtain ⟨q1, _, _⟩ := hev.Fb b (.inr (.inr ⟨_, o1⟩))
   exact ⟨q1, o1, hin b (.inr ⟨_, o1⟩), o3, o4⟩
 ·have hbk : (∃ i, g.io i = some b) ∨ (∃ x, g.own b = some x) → g.X b = some o := fun hh => by
   have := hev.Fx b (.inr hh)
   rw [show (g.still h w).X b = g.X b from rfl] at this
   rw [← this]; exact hx
  refine ⟨(hs1.fro b o hx).1, ?_, fun i hi => ?_⟩
  ·cases ho : g.own b with
   | none => exact ho
   | some x => exact absurd (hs.fro b o (hbk (.inr ⟨x, ho⟩))).2.1 (by rw [ho]; simp)
  ·exact (hs.fro b o (hbk (.inl ⟨i, hi⟩))).2.2 i hi
 ·obtain ⟨q1, q2, _⟩ := hev.Fb b (.inl hb)
  refine ⟨q1, fun o => ?_, rfl, fun _ h => h⟩
  simp only [Gh.melt]
  split
  ·rfl
  ·next hn =>
   rw [q2 o]
   simp only [Gh.still, Gh.ice]
   cases hg : g.C b o with
   | some v => rfl
   | none =>
    simp only
    rw [if_neg]
    rintro ⟨id, s, l, k1, _⟩
    exact hn (.inl ⟨id, k1⟩)
theorem PCalls.iced {f : FuncId} {args args' : List AV} {v : AV} (hp : PCalls P f args v) (h : Hp) (ha : fzs h args' = args) : ACalls P f args' h (fun a h' => a = fgt v ∧ h = h') := by
 obtain ⟨hfa, hfv, hent, hc⟩ := hp
 refine ⟨hent, fun g w vargs hs hns hr hpl => ?_⟩
 have hr1 := RepL.ice hs hr (by rw [ha]; exact hfa)
 rw [ha] at hr1
 have hpa : plains args := by rw [← ha]; exact plains_fz hpl
 refine (hc (g.still h w) w vargs hs.still (fun b k h => by cases h) (RepL.free (g := g.ice h w) (g' := g.still h w) (fun _ _ _ h => h) (fun _ _ h => h) hr1 hfa) hpa).mono ?_
 rintro e w1 ⟨x, a, h1, g1, rfl, r1, r2, r3, r4, r5, rfl, rfl⟩
 obtain ⟨s1, s2⟩ := hs.melt r1 r2
 exact ⟨x, _, h, g.melt g1, rfl, s2, s1, hns, Rep.fgt r4, plain_fgt _, rfl, rfl⟩
end
theorem fgt_str (s : ByteArray) : fgt (.str s) = .str s := by simp only [fgt]
end Go.Proofs.YtedaffmkpljlnaaGreat
namespace Go.Proofs.YtedaffmkpljlnaaGreat
open Go.RowKit
def J_law06_NormReads : AFn :=
 ⟨54,[.t 4],Zq [Zo 2 (.box (.t 0) []),Zo 4 (.mv (.c (.bool false)))] (.keep [1,2] (.seq (Zq [Zo 13 (.call (.f 9) []),Zo 14 (.not (.t 13))] (.keep [1,2,14] (.cond (.t 14) (Zq [Zo 4 (.mv (.c (.bool false)))]
 .ret)
 .skip))) (.keep [1,2] (Zq [Zo 16 (.load (some 6) (.t 2)),Zo 17 (.call (.f 10) [.t 16]),Zm 15 17,Zo 18 (.ext 0 (.t 15)),Zo 19 (.ext 1 (.t 15)),Zm 5 18,Zm 6 19] (.keep [1,5,6] (.seq (Zq [Zm 20 5,Zo 21 (.pnil false (.t 20)),Zm 22 21,Zf 22 23 (.mv (.t 1)),Zf 22 24 (.lens (.t 23)),Zf 22 25 (.bin .gtr (.t 24) (Zi 4096)),
 Zo 26 (.pick (.t 22) (.c (.bool true)) (.t 25))] (.keep [1,5,6,26] (.cond (.t 26) (Zq [Zo 4 (.mv (.c (.bool true)))]
 .ret)
 .skip))) (.keep [1,5,6] (Zq [Zm 28 5,Zm 29 1,Zo 30 (.call (.f 15) [.t 28,.t 29]),Zm 27 30,Zo 31 (.ext 0 (.t 27)),Zo 32 (.ext 1 (.t 27)),Zo 33 (.ext 2 (.t 27)),Zm 7 31,Zm 8 32,Zm 9 33] (.keep [1,6,7,8,9] (Zq [Zm 35 6,Zm 36 1,Zo 37 (.call (.f 16) [.t 35,.t 36]),Zm 34 37,Zo 38 (.ext 0 (.t 34)),Zo 39 (.ext 1 (.t 34)),
 Zo 40 (.ext 2 (.t 34)),Zm 10 38,Zm 11 39,Zm 12 40] (.keep [7,8,9,10,11,12] (Zq [Zm 41 7,Zm 42 10,Zo 43 (.call (.f 14) [.t 41,.t 42]),Zm 44 43,Zt 44 45 (.mv (.t 8)),Zt 44 46 (.mv (.t 11)),Zt 44 47 (.bin .eql (.t 45) (.t 46)),Zo 48 (.pick (.t 44) (.t 47) (.c (.bool false))),Zm 49 48,Zt 49 50 (.mv (.t 9)),
 Zt 49 51 (.mv (.t 12)),Zt 49 52 (.bin .eql (.t 50) (.t 51)),Zo 53 (.pick (.t 49) (.t 52) (.c (.bool false))),Zm 4 53]
 .ret))))))))))))⟩
theorem J_law06_NormReads_ok : chkFn Tryz.prog 4 J_law06_NormReads = true := by kernel_rfl
def J_law06_awake : AFn :=
 ⟨136,[.t 0],Zq [Zo 0 (.mv (.c (.bool false)))] (.keep [] (Zq [Zo 23 (.bsl 9 1 0 [] []),Zo 24 (.bsl 9 1 1 [(.str ⟨#[]⟩)] [(0,1,(.c (.str ⟨#[107]⟩)))]),Zo 25 (.bsl 9 1 0 [] []),Zo 26 (.bsl 9 1 2 [(.str ⟨#[]⟩),(.str ⟨#[]⟩)] [(0,1,(.c (.str ⟨#[97]⟩))),(1,1,(.c (.str ⟨#[98]⟩)))]),Zo 27 (.bsl 9 1 0 [] []),
 Zo 28 (.bsl 9 1 1 [(.str ⟨#[]⟩)] [(0,1,(.c (.str ⟨#[114]⟩)))]),Zo 29 (.bar 1 [(.lst .clip 0 []),(.lst .clip 0 []),(.lst .clip 0 []),(.lst .clip 0 []),(.lst .clip 0 []),(.lst .clip 0 [])] [(0,1,(.t 23)),(1,1,(.t 24)),(2,1,(.t 25)),(3,1,(.t 26)),(4,1,(.t 27)),(5,1,(.t 28))]),Zo 30 (.call (.f 26) [.t 29]),
 Zm 22 30,Zo 31 (.ext 0 (.t 22)),Zo 32 (.ext 1 (.t 22)),Zm 1 31,Zm 2 32] (.keep [1,2] (.seq (Zq [Zm 33 1,Zo 34 (.pnil false (.t 33)),Zm 35 34,Zf 35 36 (.mv (.t 2)),Zf 35 37 (.bin .neq (.t 36) (Zi 0)),Zo 38 (.pick (.t 35) (.c (.bool true)) (.t 37))] (.keep [1,38] (.cond (.t 38) (Zq [Zo 0 (.mv (.c (.bool false)))]
 .ret)
 .skip))) (.keep [1] (Zq [Zm 40 1,Zo 41 (.call (.f 15) [.t 40,(.c (.str ⟨#[97,32,102,111,114,32,98,32,97,110,100,32,97]⟩))]),Zm 39 41,Zo 42 (.ext 0 (.t 39)),Zo 43 (.ext 1 (.t 39)),Zo 44 (.ext 2 (.t 39)),Zm 3 42,Zm 4 43,Zm 5 44] (.keep [1,3,4,5] (Zq [Zm 46 1,Zm 47 3,Zo 48 (.call (.f 17) [.t 46,.t 47]),
 Zm 45 48,Zo 49 (.ext 0 (.t 45)),Zo 50 (.ext 1 (.t 45)),Zm 6 49,Zm 7 50] (.keep [1,3,4,5,6,7] (Zq [Zm 52 1,Zo 53 (.call (.f 15) [.t 52,(.c (.str ⟨#[97,32,97,115,32,114,111,108,101,58,114,124,98]⟩))]),Zm 51 53,Zo 54 (.ext 0 (.t 51)),Zo 55 (.ext 1 (.t 51)),Zo 56 (.ext 2 (.t 51)),Zm 8 54,Zm 9 55,Zm 10 56] (.keep [1,3,4,5,6,7,8,10] (Zq [Zm 58 1,
 Zm 59 8,Zo 60 (.call (.f 17) [.t 58,.t 59]),Zm 57 60,Zo 61 (.ext 0 (.t 57)),Zo 62 (.ext 1 (.t 57)),Zm 11 61,Zm 12 62] (.keep [1,3,4,5,6,7,8,10,11] (Zq [Zm 64 1,Zo 65 (.build [(.int .i64 0),(.int .i64 0),(.str ⟨#[]⟩)] [(0,1,(Zi 1)),(1,1,(Zi 3)),(2,1,(.c (.str ⟨#[97]⟩)))]),Zo 66 (.build [(.int .i64 0),(.int .i64 0),(.str ⟨#[]⟩)] [(0,1,(Zi 1)),(1,1,(Zi 3)),(2,1,(.c (.str ⟨#[122]⟩)))]),
 Zo 67 (.build [(.int .i64 0),(.int .i64 0),(.str ⟨#[]⟩)] [(0,1,(Zi 2))]),Zo 68 (.bsl 52 3 3 [(.int .i64 0),(.int .i64 0),(.str ⟨#[]⟩),(.int .i64 0),(.int .i64 0),(.str ⟨#[]⟩),(.int .i64 0),(.int .i64 0),(.str ⟨#[]⟩)] [(0,3,(.t 65)),(3,3,(.t 66)),(6,3,(.t 67))]),Zo 69 (.call (.f 12) [.t 64,.t 68]),Zm 63 69,
 Zo 70 (.ext 0 (.t 63)),Zo 71 (.ext 1 (.t 63)),Zo 72 (.ext 2 (.t 63)),Zm 13 70,Zm 14 71,Zm 15 72] (.keep [1,3,4,5,6,7,8,10,11,14,15] (Zq [Zm 74 1,Zo 75 (.call (.f 15) [.t 74,(.c (.str ⟨#[97,32,97,110,100]⟩))]),Zm 73 75,Zo 76 (.ext 0 (.t 73)),Zo 77 (.ext 1 (.t 73)),Zo 78 (.ext 2 (.t 73)),Zm 16 76,Zm 17 77,
 Zm 18 78] (.keep [3,4,5,6,7,8,10,11,14,15,17,18] (Zq [Zo 80 (.call (.f 15) [(.c .nilp),(.c (.str ⟨#[97]⟩))]),Zm 79 80,Zo 81 (.ext 0 (.t 79)),Zo 82 (.ext 1 (.t 79)),Zo 83 (.ext 2 (.t 79)),Zm 19 81,Zm 20 82,Zm 21 83] (.keep [3,4,5,6,7,8,10,11,14,15,17,18,21] (Zq [Zm 84 3,Zo 85 (.lenl (.t 84)),Zo 86 (.bin .eql (.t 85) (Zi 3)),
 Zm 87 86,Zt 87 88 (.mv (.t 4)),Zt 87 89 (.bin .eql (.t 88) (Zi 0)),Zo 90 (.pick (.t 87) (.t 89) (.c (.bool false))),Zm 91 90,Zt 91 92 (.mv (.t 5)),Zt 91 93 (.bin .eql (.t 92) (Zi 0)),Zo 94 (.pick (.t 91) (.t 93) (.c (.bool false))),Zm 95 94,Zt 95 96 (.mv (.t 6)),Zt 95 97 (.bin .eql (.t 96) (.c (.str ⟨#[97,32,97,110,100,32,68,32,124,32,98,32,97,110,100,32,97,32,124,32,98]⟩))),
 Zo 98 (.pick (.t 95) (.t 97) (.c (.bool false))),Zm 99 98,Zt 99 100 (.mv (.t 7)),Zt 99 101 (.bin .eql (.t 100) (Zi 0)),Zo 102 (.pick (.t 99) (.t 101) (.c (.bool false))),Zm 103 102,Zt 103 104 (.mv (.t 8)),Zt 103 105 (.lenl (.t 104)),Zt 103 106 (.bin .eql (.t 105) (Zi 1)),Zo 107 (.pick (.t 103) (.t 106) (.c (.bool false))),
 Zm 108 107,Zt 108 109 (.mv (.t 10)),Zt 108 110 (.bin .eql (.t 109) (Zi 0)),Zo 111 (.pick (.t 108) (.t 110) (.c (.bool false))),Zm 112 111,Zt 112 113 (.mv (.t 11)),Zt 112 114 (.bin .eql (.t 113) (.c (.str ⟨#[97,32,97,115,32,114,111,108,101,58,114,32,124,32,98]⟩))),Zo 115 (.pick (.t 112) (.t 114) (.c (.bool false))),
 Zm 116 115,Zt 116 117 (.mv (.t 14)),Zt 116 118 (.bin .eql (.t 117) (Zi 1)),Zo 119 (.pick (.t 116) (.t 118) (.c (.bool false))),Zm 120 119,Zt 120 121 (.mv (.t 15)),Zt 120 122 (.bin .eql (.t 121) (Zi 10)),Zo 123 (.pick (.t 120) (.t 122) (.c (.bool false))),Zm 124 123,Zt 124 125 (.mv (.t 17)),Zt 124 126 (.bin .eql (.t 125) (Zi 5)),
 Zo 127 (.pick (.t 124) (.t 126) (.c (.bool false))),Zm 128 127,Zt 128 129 (.mv (.t 18)),Zt 128 130 (.bin .eql (.t 129) (Zi 2)),Zo 131 (.pick (.t 128) (.t 130) (.c (.bool false))),Zm 132 131,Zt 132 133 (.mv (.t 21)),Zt 132 134 (.bin .eql (.t 133) (Zi 2)),Zo 135 (.pick (.t 132) (.t 134) (.c (.bool false))),Zm 0 135]
 .ret))))))))))))))))))))⟩
theorem J_law06_awake_ok : chkFn Tryz.prog 9 J_law06_awake = true := by kernel_rfl
def J_law06_tables_j1 : ACode :=
 .keep [1] (Zq [Zo 19 (.load (some 6) (.t 1)),Zo 20 (.call (.f 26) [.t 19]),Zm 18 20,Zo 21 (.ext 0 (.t 18)),Zo 22 (.ext 1 (.t 18)),Zm 5 21,Zm 6 22] (.keep [1,5,6] (Zq [Zo 24 (.load (some 6) (.t 1)),Zo 25 (.call (.f 27) [.t 24]),Zm 23 25,Zo 26 (.ext 0 (.t 23)),Zo 27 (.ext 1 (.t 23)),Zm 7 26,Zm 8 27] (.keep [5,6,7,8] (.seq (Zq [Zm 28 6,
 Zo 29 (.bin .neq (.t 28) (Zi 0)),Zm 30 29,Zf 30 31 (.mv (.t 8)),Zf 30 32 (.bin .neq (.t 31) (Zi 0)),Zo 33 (.pick (.t 30) (.c (.bool true)) (.t 32))] (.keep [5,7,33] (.cond (.t 33) (Zq [Zo 2 (.mv (.c .nilp)),Zo 3 (.mv (.c .nilp))]
 .ret)
 .skip))) (.keep [5,7] (Zq [Zm 34 5,Zm 35 7,Zm 2 34,Zm 3 35]
 .ret)))))))
def J_law06_tables_j2 : ACode :=
 Zq [Zo 10 (.bin .lss (.t 9) (Zi 6))] (.keep [1,9,10] (.seq (.cond (.t 10)
 .skip
 (.exit 0)) (.keep [1,9] (.seq (.block 1 (Zq [Zm 11 9,Zm 4 11] (.keep [1,4,9] (Zq [Zm 12 4,Zo 13 (.ex (.idp 1 6) [.t 1,.t 12]),Zo 14 (.load none (.t 13)),Zo 15 (.lenl (.t 14)),Zo 16 (.bin .gtr (.t 15) (Zi 100))] (.keep [1,9,16] (.cond (.t 16) (Zq [Zo 2 (.mv (.c .nilp)),Zo 3 (.mv (.c .nilp))]
 .ret)
 .skip)))))) (.keep [1,9] (.ops [Zo 17 (.bin .add (.t 9) (Zi 1)),Zm 9 17]))))))
def J_law06_tables : AFn :=
 ⟨36,[.t 2,.t 3],Zq [Zo 1 (.box (.t 0) []),Zo 2 (.mv (.c .nilp)),Zo 3 (.mv (.c .nilp))] (.keep [1] (.seq (Zq [Zo 9 (.mv (Zi 0))] (.keep [1,9] (.block 0 (.loop [1,9] (J_law06_tables_j2))))) (J_law06_tables_j1)))⟩
theorem J_law06_tables_ok : chkFn Tryz.prog 10 J_law06_tables = true := by kernel_rfl
def J_norm_Run_j1 : ACode :=
 .keep [8] (Zq [Zm 82 8,Zo 83 (.idxa 1 (.t 82) (Zi 0)),Zo 84 (.load none (.t 83)),Zm 4 84,Zo 5 (.mv (Zi 0)),Zo 6 (.mv (Zi 0))]
 .ret)
def J_norm_Run_j2 : ACode :=
 .keep [0,7,8,24,25,26] (.ops [Zo 81 (.bin .add (.t 26) (Zi 1)),Zm 26 81])
def J_norm_Run_j3 : ACode :=
 .keep [0,7,8,9,11,12,24,25,26] (.seq (Zq [Zm 73 12,Zo 74 (.bin .neq (.t 73) (Zi 0))] (.keep [0,7,8,9,11,12,24,25,26,74] (.cond (.t 74) (Zq [Zm 75 9,Zm 76 12,Zo 4 (.mv (.c (.lst .clip 0 []))),Zm 5 75,Zm 6 76]
 .ret)
 .skip))) (.keep [0,7,8,11,24,25,26] (.ops [Zm 77 8,Zm 78 11,Zo 79 (.bsl 33 1 1 [(.lst .clip 0 [])] [(0,1,(.t 78))]),Zo 80 (.apc 33 1 24 [(.lst .clip 0 [])] (.t 77) (.t 79)),Zm 8 80])))
def J_norm_Run_j4 : ACode :=
 .keep [0,7,8,9,11,12,13,24,25,26] (.ops [Zm 70 8,Zm 71 13,Zo 72 (.slch 1 (.t 70) (.t 71)),Zm 8 72])
def J_norm_Run_j5 : ACode :=
 .keep [0,7,8,9,10,11,12,13,24,25,26,43,44,45] (.ops [Zo 69 (.bin .add (.t 45) (Zi 1)),Zm 45 69])
def J_norm_Run_j6 : ACode :=
 Zq [Zo 46 (.bin .lss (.t 45) (.t 44))] (.keep [0,7,8,9,10,11,12,13,24,25,26,43,44,45,46] (.seq (.cond (.t 46)
 .skip
 (.exit 2)) (.keep [0,7,8,9,10,11,12,13,24,25,26,43,44,45] (.seq (.block 3 (Zq [Zo 47 (.idxa 2 (.t 43) (.t 45)),Zo 48 (.load (some 2) (.t 47)),Zo 15 (.new [(.int .i64 0),.nilf] []),⟨none,none,.stores 2 (.t 15) (.t 48),none⟩] (.keep [0,7,8,9,10,11,12,13,15,24,25,26,43,44,45] (Zq [Zo 49 (.fld 0 (.t 15)),
 Zo 50 (.load none (.t 49)),Zo 51 (.fld 0 (.t 10)),Zo 52 (.load none (.t 51)),Zo 53 (.bin .eql (.t 50) (.t 52))] (.keep [0,7,8,9,10,11,12,13,15,24,25,26,43,44,45,53] (.cond (.t 53) (.draw [0,7,8,9,10,11,12,13,24,25,26,43,44,45] [Zo 55 (.fld 1 (.t 15)),Zo 56 (.lds none (.t 55)),Zm 57 8,Zm 58 13,Zo 59 (.idxa 1 (.t 57) (.t 58)),
 Zo 60 (.load none (.t 59)),Zm 61 8,Zm 62 13,Zo 63 (.bin .add (.t 62) (Zi 1)),Zo 64 (.idxa 1 (.t 61) (.t 63)),Zo 65 (.load none (.t 64)),Zo 66 (.call (.t 56) [.t 60,.t 65]),Zm 54 66,Zo 67 (.ext 0 (.t 54)),Zo 68 (.ext 1 (.t 54)),Zm 11 67,Zm 12 68])
 .skip)))))) (J_norm_Run_j5)))))
def J_norm_Run_j7 : ACode :=
 Zq [Zo 27 (.bin .lss (.t 26) (.t 25))] (.keep [0,7,8,24,25,26,27] (.seq (.cond (.t 27)
 .skip
 (.exit 0)) (.keep [0,7,8,24,25,26] (.seq (.block 1 (Zq [Zm 28 26,Zo 29 (.idxa 3 (.t 24) (.t 26)),Zo 30 (.load (some 3) (.t 29)),Zo 10 (.new [(.int .i64 0),(.int .i64 0),(.str ⟨#[]⟩)] []),Zm 9 28,⟨none,none,.stores 3 (.t 10) (.t 30),none⟩] (.keep [0,7,8,9,10,24,25,26] (Zq [Zo 11 (.mv (.c (.lst .clip 0 [])))] (.keep [0,7,8,9,10,11,24,25,26] (Zq [Zo 12 (.mv (Zi 0))] (.keep [0,7,8,9,10,11,12,24,25,26] (.seq (Zq [Zo 31 (.fld 0 (.t 10)),
 Zo 32 (.load none (.t 31)),Zo 33 (.bin .eql (.t 32) (Zi 1))] (.keep [0,7,8,9,10,11,12,24,25,26,33] (.cond (.t 33) (.ops [Zm 35 0,Zo 36 (.load (some 3) (.t 10)),Zo 37 (.call (.f 30) [.t 35,.t 36]),Zm 34 37,Zo 38 (.ext 0 (.t 34)),Zo 39 (.ext 1 (.t 34)),Zm 11 38,Zm 12 39]) (Zq [Zm 40 8,Zo 41 (.lenl (.t 40)),
 Zo 42 (.bin .sub (.t 41) (Zi 2)),Zm 13 42] (.keep [0,7,8,9,10,11,12,13,24,25,26] (.seq (Zq [Zm 43 7,Zo 44 (.lenl (.t 43)),Zo 45 (.mv (Zi 0))] (.keep [0,7,8,9,10,11,12,13,24,25,26,43,44,45] (.block 2 (.loop [0,7,8,9,10,11,12,13,24,25,26,43,44,45] (J_norm_Run_j6))))) (J_norm_Run_j4))))))) (J_norm_Run_j3))))))))) (J_norm_Run_j2)))))
def J_norm_Run : AFn :=
 ⟨85,[.t 4,.t 5,.t 6],Zq [Zo 4 (.mv (.c (.lst .clip 0 []))),Zo 5 (.mv (Zi 0)),Zo 6 (.mv (Zi 0))] (.keep [0,1] (.seq (Zq [Zm 16 0,Zo 17 (.pnil false (.t 16)),Zm 18 17,Zf 18 19 (.mv (.t 1)),Zf 18 20 (.call (.f 28) [.t 19]),Zf 18 21 (.not (.t 20)),Zo 22 (.pick (.t 18) (.c (.bool true)) (.t 21))] (.keep [0,1,22] (.cond (.t 22) (Zq [Zo 4 (.mv (.c (.lst .clip 0 []))),Zo 5 (.mv (Zi 0)),Zo 6 (.mv (Zi 2))]
 .ret)
 .skip))) (.keep [0,1] (Zq [Zo 23 (.call (.f 29) []),Zm 7 23] (.keep [0,1,7] (Zq [Zo 8 (.mv (.c (.lst .clip 0 [])))] (.keep [0,1,7,8] (.seq (Zq [Zm 24 1,Zo 25 (.lenl (.t 24)),Zo 26 (.mv (Zi 0))] (.keep [0,7,8,24,25,26] (.block 0 (.loop [0,7,8,24,25,26] (J_norm_Run_j7))))) (J_norm_Run_j1)))))))))⟩
theorem J_norm_Run_ok : chkFn Tryz.prog 12 J_norm_Run = true := by kernel_rfl
def J_ref06_Run_j1 : ACode :=
 .keep [7] (Zq [Zm 123 7,Zo 124 (.idxa 1 (.t 123) (Zi 0)),Zo 125 (.load none (.t 124)),Zm 4 125,Zo 5 (.mv (Zi 0)),Zo 6 (.mv (Zi 0))]
 .ret)
def J_ref06_Run_j2 : ACode :=
 .keep [0,1,7,8] (.ops [Zm 28 8,Zo 29 (.bin .add (.t 28) (Zi 1)),Zm 8 29])
def J_ref06_Run_j3 : ACode :=
 .keep [0,1,7,8,14,15] (.seq (Zq [Zm 109 15,Zo 110 (.bin .neq (.t 109) (Zi 0))] (.keep [0,1,7,8,14,15,110] (.cond (.t 110) (Zq [Zm 111 8,Zm 112 15,Zo 4 (.mv (.c (.lst .clip 0 []))),Zm 5 111,Zm 6 112]
 .ret)
 .skip))) (.keep [0,1,7,8,14] (.ops [Zo 113 (.bsl 33 1 0 [] []),Zm 114 7,Zm 115 7,Zo 116 (.lenl (.t 115)),Zo 117 (.bin .sub (.t 116) (Zi 2)),Zo 118 (.slcl 1 (.t 114) none (some (.t 117)) none),Zo 119 (.appo 33 1 24 113 (.t 118)),Zm 120 14,Zo 121 (.bsl 33 1 1 [(.lst .clip 0 [])] [(0,1,(.t 120))]),Zo 122 (.appo 33 1 24 119 (.t 121)),Zo 7 (.mvo 122)])))
def J_ref06_Run_j4 : ACode :=
 .keep [0,1,7,8,10,11] (.seq (Zq [Zm 49 11,Zo 50 (.not (.t 49))] (.keep [0,1,7,8,10,50] (.cond (.t 50) (Zq [Zm 51 8,Zo 4 (.mv (.c (.lst .clip 0 []))),Zm 5 51,Zo 6 (.mv (Zi 10))]
 .ret)
 .skip))) (.keep [0,1,7,8,10] (Zq [Zo 52 (.mvo 7),Zm 53 10,Zo 54 (.bsl 57 1 1 [(.int .u16 0)] [(0,1,(.t 53))]),Zo 55 (.call (.f 32) [.t 54]),Zo 56 (.bsl 43 1 1 [(.str ⟨#[]⟩)] [(0,1,(.t 55))]),Zo 57 (.bsl 33 1 1 [(.lst .clip 0 [])] [(0,1,(.t 56))]),Zo 58 (.appo 33 1 24 52 (.t 57)),Zo 7 (.mvo 58)] (.exit 1))))
def J_ref06_Run_j5 : ACode :=
 .seq (Zq [Zm 24 8,Zm 25 1,Zo 26 (.lenl (.t 25)),Zo 27 (.bin .lss (.t 24) (.t 26))] (.keep [0,1,7,8,27] (.cond (.t 27)
 .skip
 (.exit 0)))) (.keep [0,1,7,8] (.seq (.block 1 (Zq [Zm 30 1,Zm 31 8,Zo 32 (.idxa 3 (.t 30) (.t 31)),Zo 33 (.load (some 3) (.t 32)),Zo 9 (.new [(.int .i64 0),(.int .i64 0),(.str ⟨#[]⟩)] []),⟨none,none,.stores 3 (.t 9) (.t 33),none⟩] (.keep [0,1,7,8,9] (.seq (Zq [Zo 34 (.fld 0 (.t 9)),Zo 35 (.load none (.t 34)),
 Zo 36 (.bin .eql (.t 35) (Zi 1))] (.keep [0,1,7,8,9,36] (.cond (.t 36) (Zq [Zm 38 0,Zo 39 (.fld 1 (.t 9)),Zo 40 (.load none (.t 39)),Zo 41 (.fld 2 (.t 9)),Zo 42 (.load none (.t 41)),Zo 43 (.call (.f 31) [.t 38,.t 40,.t 42]),Zm 37 43,Zo 44 (.ext 0 (.t 37)),Zo 45 (.ext 1 (.t 37)),Zm 10 44,Zm 11 45] (.keep [0,1,7,8,9,10,11] (.seq (Zq [Zo 46 (.fld 1 (.t 9)),
 Zo 47 (.load none (.t 46)),Zo 48 (.bin .eql (.t 47) (Zi 0))] (.keep [0,1,7,8,10,11,48] (.cond (.t 48) (Zq [Zo 10 (.mv (.c (.int .u16 1)))] (.keep [0,1,7,8,10] (.ops [Zo 11 (.mv (.c (.bool true)))])))
 .skip))) (J_ref06_Run_j4))))
 .skip))) (.keep [0,1,7,8,9] (Zq [Zm 59 7,Zm 60 7,Zo 61 (.lenl (.t 60)),Zo 62 (.bin .sub (.t 61) (Zi 1)),Zo 63 (.idxa 1 (.t 59) (.t 62)),Zo 64 (.load none (.t 63)),Zm 12 64] (.keep [0,1,7,8,9,12] (Zq [Zm 65 7,Zm 66 7,Zo 67 (.lenl (.t 66)),Zo 68 (.bin .sub (.t 67) (Zi 2)),Zo 69 (.idxa 1 (.t 65) (.t 68)),
 Zo 70 (.load none (.t 69)),Zm 13 70] (.keep [0,1,7,8,9,12,13] (Zq [Zo 71 (.bsl 43 1 0 [] []),Zo 14 (.mvo 71)] (.keep [0,1,7,8,9,12,13,14] (Zq [Zo 15 (.mv (Zi 0))] (.keep [0,1,7,8,9,12,13,14,15] (.seq (Zq [Zo 72 (.fld 0 (.t 9)),Zo 73 (.load none (.t 72))] (.keep [0,1,7,8,12,13,14,15,73] (.block 2 (Zq [Zo 75 (.bin .eql (.t 73) (Zi 2)),
 Zm 74 75] (.keep [0,1,7,8,12,13,14,15,73,74] (.cond (.t 74) (.ops [Zm 77 13,Zm 78 12,Zo 79 (.call (.f 20) [.t 77,.t 78]),Zm 76 79,Zo 80 (.ext 0 (.t 76)),Zo 81 (.ext 1 (.t 76)),Zm 14 80,Zm 15 81]) (Zq [Zo 83 (.bin .eql (.t 73) (Zi 3)),Zm 82 83] (.keep [0,1,7,8,12,13,14,15,73,82] (.cond (.t 82) (.ops [Zm 85 13,
 Zm 86 12,Zo 87 (.call (.f 21) [.t 85,.t 86]),Zm 84 87,Zo 88 (.ext 0 (.t 84)),Zo 89 (.ext 1 (.t 84)),Zm 14 88,Zm 15 89]) (Zq [Zo 91 (.bin .eql (.t 73) (Zi 4)),Zm 90 91] (.keep [0,1,7,8,12,13,14,15,73,90] (.cond (.t 90) (.ops [Zm 93 13,Zm 94 12,Zo 95 (.call (.f 22) [.t 93,.t 94]),Zm 92 95,Zo 96 (.ext 0 (.t 92)),
 Zo 97 (.ext 1 (.t 92)),Zm 14 96,Zm 15 97]) (Zq [Zo 99 (.bin .eql (.t 73) (Zi 5)),Zm 98 99] (.keep [0,1,7,8,12,13,14,15,98] (.cond (.t 98) (.ops [Zm 101 13,Zm 102 12,Zo 103 (.idxa 1 (.t 102) (Zi 0)),Zo 104 (.load none (.t 103)),Zo 105 (.call (.f 25) [.t 104,(Zi 0)]),Zo 106 (.call (.f 24) [.t 101,.t 105]),Zm 100 106,Zo 107 (.ext 0 (.t 100)),Zo 108 (.ext 1 (.t 100)),Zm 14 107,Zm 15 108])
 .skip))))))))))))))) (J_ref06_Run_j3))))))))))))))) (J_ref06_Run_j2)))
def J_ref06_Run : AFn :=
 ⟨126,[.t 4,.t 5,.t 6],Zq [Zo 4 (.mv (.c (.lst .clip 0 []))),Zo 5 (.mv (Zi 0)),Zo 6 (.mv (Zi 0))] (.keep [0,1] (.seq (Zq [Zm 16 0,Zo 17 (.pnil false (.t 16)),Zm 18 17,Zf 18 19 (.mv (.t 1)),Zf 18 20 (.call (.f 23) [.t 19]),Zf 18 21 (.not (.t 20)),Zo 22 (.pick (.t 18) (.c (.bool true)) (.t 21))] (.keep [0,1,22] (.cond (.t 22) (Zq [Zo 4 (.mv (.c (.lst .clip 0 []))),
 Zo 5 (.mv (Zi 0)),Zo 6 (.mv (Zi 2))]
 .ret)
 .skip))) (.keep [0,1] (Zq [Zo 23 (.bsl 33 1 0 [] []),Zo 7 (.mvo 23)] (.keep [0,1,7] (.seq (Zq [Zo 8 (.mv (Zi 0))] (.keep [0,1,7,8] (.block 0 (.loop [0,1,7,8] (J_ref06_Run_j5))))) (J_ref06_Run_j1)))))))⟩
theorem J_ref06_Run_ok : chkFn Tryz.prog 13 J_ref06_Run = true := by kernel_rfl
def J_norm_Read : AFn :=
 ⟨33,[.t 4,.t 5,.t 6],Zq [Zo 4 (.mv (.c (.lst .clip 0 []))),Zo 5 (.mv (Zi 0)),Zo 6 (.mv (Zi 0))] (.keep [0,1] (.seq (Zq [Zm 12 0,Zo 13 (.pnil false (.t 12))] (.keep [0,1,13] (.cond (.t 13) (Zq [Zo 4 (.mv (.c (.lst .clip 0 []))),Zo 5 (.mv (Zi 0)),Zo 6 (.mv (Zi 2))]
 .ret)
 .skip))) (.keep [0,1] (Zq [Zm 15 1,Zo 16 (.call (.f 33) [.t 15]),Zm 14 16,Zo 17 (.ext 0 (.t 14)),Zo 18 (.ext 1 (.t 14)),Zo 19 (.ext 2 (.t 14)),Zm 7 17,Zm 8 18,Zm 9 19] (.keep [0,7,8,9] (.seq (Zq [Zm 20 9,Zo 21 (.bin .neq (.t 20) (Zi 0))] (.keep [0,7,8,9,21] (.cond (.t 21) (Zq [Zm 22 8,Zm 23 9,Zo 4 (.mv (.c (.lst .clip 0 []))),Zm 5 22,Zm 6 23]
 .ret)
 .skip))) (.keep [0,7] (Zq [Zm 25 0,Zm 26 7,Zo 27 (.call (.f 12) [.t 25,.t 26]),Zm 24 27,Zo 28 (.ext 0 (.t 24)),Zo 29 (.ext 1 (.t 24)),Zo 30 (.ext 2 (.t 24)),Zm 10 28,Zm 11 29,Zm 9 30] (.keep [9,10] (Zq [Zm 31 10,Zm 32 9,Zm 4 31,Zo 5 (.mv (Zi 0)),Zm 6 32]
 .ret))))))))))⟩
theorem J_norm_Read_ok : chkFn Tryz.prog 15 J_norm_Read = true := by kernel_rfl
def J_ref06_Read : AFn :=
 ⟨34,[.t 4,.t 5,.t 6],Zq [Zo 4 (.mv (.c (.lst .clip 0 []))),Zo 5 (.mv (Zi 0)),Zo 6 (.mv (Zi 0))] (.keep [0,1] (.seq (Zq [Zm 13 0,Zo 14 (.pnil false (.t 13))] (.keep [0,1,14] (.cond (.t 14) (Zq [Zo 4 (.mv (.c (.lst .clip 0 []))),Zo 5 (.mv (Zi 0)),Zo 6 (.mv (Zi 2))]
 .ret)
 .skip))) (.keep [0,1] (Zq [Zm 16 1,Zo 17 (.call (.f 34) [.t 16]),Zm 15 17,Zo 18 (.ext 0 (.t 15)),Zo 19 (.ext 1 (.t 15)),Zo 20 (.ext 2 (.t 15)),Zm 7 18,Zm 8 19,Zm 9 20] (.keep [0,7,8,9] (.seq (Zq [Zm 21 9,Zo 22 (.bin .neq (.t 21) (Zi 0))] (.keep [0,7,8,9,22] (.cond (.t 22) (Zq [Zm 23 8,Zm 24 9,Zo 4 (.mv (.c (.lst .clip 0 []))),Zm 5 23,Zm 6 24]
 .ret)
 .skip))) (.keep [0,7] (Zq [Zm 26 0,Zm 27 7,Zo 28 (.call (.f 13) [.t 26,.t 27]),Zm 25 28,Zo 29 (.ext 0 (.t 25)),Zo 30 (.ext 1 (.t 25)),Zo 31 (.ext 2 (.t 25)),Zm 10 29,Zm 11 30,Zm 12 31] (.keep [10,12] (Zq [Zm 32 10,Zm 33 12,Zm 4 32,Zo 5 (.mv (Zi 0)),Zm 6 33]
 .ret))))))))))⟩
theorem J_ref06_Read_ok : chkFn Tryz.prog 16 J_ref06_Read = true := by kernel_rfl
def J_norm_Show_j1 : ACode :=
 .keep [6] (Zq [Zm 41 6,Zo 42 (.call (.f 37) [.t 41,(.c (.str ⟨#[32,97,110,100,32]⟩))]),Zm 4 42,Zo 5 (.mv (Zi 0))]
 .ret)
def J_norm_Show_j2 : ACode :=
 Zq [Zo 24 (.bin .lss (.t 23) (.t 22))] (.keep [0,6,21,22,23,24] (.seq (.cond (.t 24)
 .skip
 (.exit 0)) (.keep [0,6,21,22,23] (.seq (.block 1 (Zq [Zm 25 23,Zo 26 (.idxa 1 (.t 21) (.t 23)),Zo 27 (.load none (.t 26)),Zm 7 25,Zm 8 27] (.keep [0,6,7,8,21,22,23] (Zq [Zm 29 0,Zm 30 8,Zo 31 (.call (.f 36) [.t 29,.t 30]),Zm 28 31,Zo 32 (.ext 0 (.t 28)),Zo 33 (.ext 1 (.t 28)),Zm 9 32,Zm 10 33] (.keep [0,6,7,9,10,21,22,23] (.seq (Zq [Zm 34 10,
 Zo 35 (.not (.t 34))] (.keep [0,6,7,9,21,22,23,35] (.cond (.t 35) (Zq [Zo 4 (.mv (.c (.str ⟨#[]⟩))),Zo 5 (.mv (Zi 10))]
 .ret)
 .skip))) (.keep [0,6,7,9,21,22,23] (.ops [Zm 36 6,Zm 37 7,Zm 38 9,Zo 39 (.idxa 1 (.t 36) (.t 37)),⟨none,none,.store 1 (.t 39) (.t 38),none⟩])))))))) (.keep [0,6,21,22,23] (.ops [Zo 40 (.bin .add (.t 23) (Zi 1)),Zm 23 40]))))))
def J_norm_Show : AFn :=
 ⟨43,[.t 4,.t 5],Zq [Zo 4 (.mv (.c (.str ⟨#[]⟩))),Zo 5 (.mv (Zi 0))] (.keep [0,1] (.seq (Zq [Zm 11 0,Zo 12 (.pnil false (.t 11)),Zm 13 12,Zf 13 14 (.mv (.t 1)),Zf 13 15 (.call (.f 35) [.t 14]),Zf 13 16 (.not (.t 15)),Zo 17 (.pick (.t 13) (.c (.bool true)) (.t 16))] (.keep [0,1,17] (.cond (.t 17) (Zq [Zo 4 (.mv (.c (.str ⟨#[]⟩))),Zo 5 (.mv (Zi 2))]
 .ret)
 .skip))) (.keep [0,1] (Zq [Zm 18 1,Zo 19 (.lenl (.t 18)),Zo 20 (.mkn 9 1 16 [(.str ⟨#[]⟩)] (.t 19)),Zm 6 20] (.keep [0,1,6] (.seq (Zq [Zm 21 1,Zo 22 (.lenl (.t 21)),Zo 23 (.mv (Zi 0))] (.keep [0,6,21,22,23] (.block 0 (.loop [0,6,21,22,23] (J_norm_Show_j2))))) (J_norm_Show_j1)))))))⟩
theorem J_norm_Show_ok : chkFn Tryz.prog 17 J_norm_Show = true := by kernel_rfl
def J_norm_operators : AFn :=
 ⟨6,[.t 0],Zq [Zo 0 (.mv (.c (.lst .clip 0 [])))] (.keep [] (Zq [Zo 1 (.build [(.int .i64 0),.nilf] [(0,1,(Zi 2)),(1,1,(.f 52))]),Zo 2 (.build [(.int .i64 0),.nilf] [(0,1,(Zi 3)),(1,1,(.f 53))]),Zo 3 (.build [(.int .i64 0),.nilf] [(0,1,(Zi 4)),(1,1,(.f 54))]),Zo 4 (.build [(.int .i64 0),.nilf] [(0,1,(Zi 5)),(1,1,(.f 55))]),
 Zo 5 (.bsl 70 2 4 [(.int .i64 0),.nilf,(.int .i64 0),.nilf,(.int .i64 0),.nilf,(.int .i64 0),.nilf] [(0,2,(.t 1)),(2,2,(.t 2)),(4,2,(.t 3)),(6,2,(.t 4))]),Zo 0 (.mvo 5)]
 .ret))⟩
theorem J_norm_operators_ok : chkFn Tryz.prog 29 J_norm_operators = true := by kernel_rfl
def J_norm_alone_j1 : ACode :=
 .keep [6] (Zq [Zm 26 6,Zo 27 (.bsl 57 1 1 [(.int .u16 0)] [(0,1,(.t 26))]),Zo 28 (.call (.f 59) [.t 27]),Zo 29 (.bsl 43 1 1 [(.str ⟨#[]⟩)] [(0,1,(.t 28))]),Zo 30 (.call (.f 58) [.t 29]),Zo 31 (.ext 0 (.t 30)),Zo 32 (.ext 1 (.t 30)),Zm 4 31,Zm 5 32]
 .ret)
def J_norm_alone : AFn :=
 ⟨33,[.t 4,.t 5],Zq [Zo 3 (.box (.t 1) []),Zo 4 (.mv (.c (.lst .clip 0 []))),Zo 5 (.mv (Zi 0))] (.keep [0,3] (Zq [Zo 6 (.mv (.c (.int .u16 1)))] (.keep [0,3,6] (.seq (Zq [Zo 9 (.fld 1 (.t 3)),Zo 10 (.load none (.t 9)),Zo 11 (.bin .neq (.t 10) (Zi 0))] (.keep [0,3,6,11] (.cond (.t 11) (.seq (.draw [7,8] [Zm 13 0,
 Zo 14 (.nilck (.t 13)),Zo 15 (.fld 0 (.t 14)),Zo 16 (.fld 1 (.t 3)),Zo 17 (.load none (.t 16)),Zo 18 (.fld 2 (.t 3)),Zo 19 (.load none (.t 18)),Zo 20 (.call (.f 48) [.t 15,.t 17,.t 19]),Zm 12 20,Zo 21 (.ext 0 (.t 12)),Zo 22 (.ext 1 (.t 12)),Zm 7 21,Zm 8 22]) (.keep [7,8] (.seq (Zq [Zm 23 8,Zo 24 (.not (.t 23))] (.keep [7,24] (.cond (.t 24) (Zq [Zo 4 (.mv (.c (.lst .clip 0 []))),
 Zo 5 (.mv (Zi 10))]
 .ret)
 .skip))) (.keep [7] (.ops [Zm 25 7,Zm 6 25])))))
 .skip))) (J_norm_alone_j1)))))⟩
theorem J_norm_alone_ok : chkFn Tryz.prog 30 J_norm_alone = true := by kernel_rfl
def J_norm_operators_1 : AFn :=
 ⟨14,[.t 4,.t 5],Zq [Zo 4 (.mv (.c (.lst .clip 0 []))),Zo 5 (.mv (Zi 0))] (.keep [0,1] (Zq [Zm 6 0,Zm 7 1,Zo 8 (.idxa 1 (.t 7) (Zi 0)),Zo 9 (.load none (.t 8)),Zo 10 (.call (.f 57) [.t 9,(Zi 0)]),Zo 11 (.call (.f 56) [.t 6,.t 10]),Zo 12 (.ext 0 (.t 11)),Zo 13 (.ext 1 (.t 11)),Zm 4 12,Zm 5 13]
 .ret))⟩
theorem J_norm_operators_1_ok : chkFn Tryz.prog 55 J_norm_operators_1 = true := by kernel_rfl
end Go.Proofs.YtedaffmkpljlnaaGreat
/- What the reference's sets do: Quote, As, For. -/
namespace Go.Proofs.YtedaffmkpljlnaaGreat
open Go.RowKit Go.Lib

theorem wordMay_even {s : ByteArray} (h : wordMay s = true) : s.size % 2 = 0 ∧ s.size ≤ 16 := by have := wordMay_size h; omega
theorem catE_two {x y : ByteArray} (hx : wordMay x = true) (hy : wordMay y = true) : catE [x, y] = if 8 < (x ++ y).size / 2 then (⟨#[]⟩, 4) else (x ++ y, 0) := by
 have h1 := wordMay_even hx
 have h2 := wordMay_even hy
 have e : (catN [x, y]).length = (x ++ y).size / 2 := by
  simp only [catN, List.flatMap_cons, List.flatMap_nil, List.append_nil, List.length_append, atomNs_len, ByteArray.size_append]; omega
 have e2 : (⟨([x, y].flatMap fun s => s.data.toList).toArray⟩ : ByteArray) = x ++ y := by
  apply ByteArray.ext; apply Array.ext'; simp
 unfold catE
 rw [e, e2]
def prodTo (a b : List ByteArray) (i k : Nat) : List ByteArray := prodW (a.take i) b ++ (match a[i]? with | some x => (b.take k).map fun y => x ++ y | none => [])
theorem prodTo_zero (a b : List ByteArray) (i : Nat) : prodTo a b i 0 = prodW (a.take i) b := by unfold prodTo; cases a[i]? <;> simp
theorem prodTo_succ {a b : List ByteArray} {i k : Nat} (hi : i < a.length) (hk : k < b.length) : prodTo a b i (k + 1) = prodTo a b i k ++ [a[i] ++ b[k]] := by
 unfold prodTo
 rw [List.getElem?_eq_getElem hi]
 simp only
 rw [List.take_succ_eq_append_getElem hk, List.map_append, List.append_assoc]; rfl
theorem prodTo_next {a b : List ByteArray} {i : Nat} (hi : i < a.length) : prodTo a b i b.length = prodW (a.take (i + 1)) b := by
 unfold prodTo prodW
 rw [List.getElem?_eq_getElem hi, List.take_succ_eq_append_getElem hi, List.flatMap_append, List.take_length]
 simp
theorem prodTo_len {a b : List ByteArray} {i k : Nat} (ha : a.length ≤ 16) (hb : b.length ≤ 16) : (prodTo a b i k).length ≤ 272 := by
 have h1 : ∀ l : List ByteArray, (prodW l b).length = l.length * b.length := by
  intro l
  induction l with
  | nil => simp [prodW]
  | cons x l ih => simp only [prodW, List.flatMap_cons, List.length_append, List.length_map, List.length_cons] at ih ⊢; rw [ih, Nat.add_mul]; omega
 unfold prodTo
 rw [List.length_append, h1]
 have h2 : (a.take i).length * b.length ≤ 16 * 16 := Nat.mul_le_mul (by rw [List.length_take]; omega) hb
 have h3 : (match a[i]? with | some x => (b.take k).map fun y => x ++ y | none => []).length ≤ 16 := by
  cases a[i]? with
  | none => simp
  | some x => simp only [List.length_map, List.length_take]; omega
 omega
theorem mem_prodW {a b : List ByteArray} {w : ByteArray} : w ∈ prodW a b ↔ ∃ x ∈ a, ∃ y ∈ b, w = x ++ y := by
 unfold prodW
 simp only [List.mem_flatMap, List.mem_map]
 constructor
 ·rintro ⟨x, hx, y, hy, rfl⟩; exact ⟨x, hx, y, hy, rfl⟩
 ·rintro ⟨x, hx, y, hy, rfl⟩; exact ⟨x, hx, y, hy, rfl⟩
theorem atomAt_app_left {x y : ByteArray} {i : Nat} (h : 2 * i + 1 < x.size) : atomAt (x ++ y) i = atomAt x i := by
 unfold atomAt
 rw [dif_pos (by rw [ByteArray.size_append]; omega), dif_pos h, ByteArray.getElem_append_left (by omega), ByteArray.getElem_append_left h]
theorem atomAt_app_right {x y : ByteArray} {i : Nat} (hx : x.size % 2 = 0) (h : x.size ≤ 2 * i) (h2 : 2 * i + 1 < (x ++ y).size) : atomAt (x ++ y) i = atomAt y (i - x.size / 2) := by
 rw [ByteArray.size_append] at h2
 unfold atomAt
 rw [dif_pos (by rw [ByteArray.size_append]; omega), dif_pos (by omega), ByteArray.getElem_append_right (by omega), ByteArray.getElem_append_right (by omega)]
 have e1 : 2 * (i - x.size / 2) = 2 * i - x.size := by omega
 have e2 : 2 * i + 1 - x.size = 2 * i - x.size + 1 := by omega
 simp only [e1, e2]
theorem wordMay_app {x y : ByteArray} (hx : wordMay x = true) (hy : wordMay y = true) (h8 : (x ++ y).size / 2 ≤ 8) : wordMay (x ++ y) = true := by
 have h1 := wordMay_size hx
 have h2 := wordMay_size hy
 simp only [wordMay, decide_eq_true_eq] at hx hy ⊢
 rw [ByteArray.size_append] at h8 ⊢
 refine ⟨by omega, by omega, by omega, fun i hi => ?_⟩
 by_cases h : 2 * i < x.size
 ·rw [atomAt_app_left (by omega)]; exact hx.2.2.2 i (by omega)
 ·rw [atomAt_app_right (by omega) (by omega) (by rw [ByteArray.size_append]; omega)]; exact hy.2.2.2 _ (by omega)
theorem quoteE_big {a b : List ByteArray} (ha : setMay a = true) (hb : setMay b = true) {x y : ByteArray} (hx : x ∈ a) (hy : y ∈ b) (h : 8 < (x ++ y).size / 2) : quoteE a b = ([], 4) := by
 unfold quoteE
 rw [if_neg (by simp [ha, hb]), if_pos]
 rw [List.any_eq_true]
 exact ⟨x ++ y, mem_prodW.2 ⟨x, hx, y, hy, rfl⟩, by simpa using h⟩
theorem quoteE_fit {a b : List ByteArray} (ha : setMay a = true) (hb : setMay b = true) (h : ∀ w ∈ prodW a b, w.size / 2 ≤ 8) : quoteE a b = boundE (nrm (prodW a b)) := by
 unfold quoteE
 rw [if_neg (by simp [ha, hb]), if_neg]
 ·refine ofE_may fun w hw => ?_
  have h8 := h w hw
  obtain ⟨x, hx, y, hy, rfl⟩ := mem_prodW.1 hw
  exact wordMay_app ((setMay_words ha).2 x hx) ((setMay_words hb).2 y hy) h8
 ·rw [List.any_eq_true]
  rintro ⟨w, hw, h1⟩
  have := h w hw
  simp only [decide_eq_true_eq] at h1
  omega
theorem p_rquote (a b : List ByteArray) (ha : a.length ≤ 10000) (hb : b.length ≤ 10000) (hsa : ∀ x ∈ a, x.size ≤ 1000000) (hsb : ∀ x ∈ b, x.size ≤ 1000000) : PCalls Tryz.prog 22 [.lst .ro a.length (a.map .str), .lst .ro b.length (b.map .str)] (vSet (quoteE a b)) := by
 refine pcalls_of (by simp [free, free.frees, frees_str]) (free_vSet _) (ACalls.weak (acalls_of mixed J_ref03_Quote_ok (Nat.le_of_ble_eq_true rfl) ?_)); simp only [J_ref03_Quote, wk,Nat.reduceEqDiff,Nat.reduceAdd,reduceCtorEq,↓reduceIte]
 refine PCalls.use (p_rsmay a (by omega) (fun x hx => by have := hsa x hx; omega)) ?_; simp only [wk,Nat.reduceEqDiff,reduceCtorEq,↓reduceIte]
 refine ⟨fun hm => ?_, fun hm => by unfold quoteE; rw [if_pos (.inl hm)]; rfl⟩
 refine PCalls.use (p_rsmay b (by omega) (fun x hx => by have := hsb x hx; omega)) ?_; simp only [wk,Nat.reduceEqDiff,reduceCtorEq,↓reduceIte]
 refine ⟨fun hm2 => by unfold quoteE; rw [if_pos (.inr hm2)]; rfl, fun hm2 => ?_⟩
 have hwa := setMay_words hm
 have hwb := setMay_words hm2
 refine W_loop (fun n fr h => ∃ i : Nat, i ≤ a.length ∧ n = a.length - i ∧ fr = [(0, .lst .ro a.length (a.map .str)), (1, .lst .ro b.length (b.map .str)), (6, .lst (.own 43) (prodTo a b i 0).length ((prodTo a b i 0).map .str)), (7, .int .i64 i)] ∧ ∀ w ∈ prodTo a b i 0, w.size / 2 ≤ 8) a.length ⟨0, by omega, by omega, by simp [prodTo_zero, prodW]; rfl, by simp [prodTo_zero, prodW]⟩ ?_
 rintro n fr h ⟨i, hi, rfl, rfl, hfit⟩
 simp only [J_ref03_Quote_j4, wk,Nat.reduceEqDiff,reduceCtorEq,↓reduceIte]
 refine ⟨fun hlt => ?_, fun hge => ?_⟩
 ·have hil : i < a.length := by omega
  have hda : (a.map AV.str).drop (i : Int).toNat = .str a[i] :: (a.map AV.str).drop (i + 1) := by rw [show (i : Int).toNat = i by omega, drop_str hil]
  refine W_loop (fun n fr h => ∃ k : Nat, k ≤ b.length ∧ n = b.length - k ∧ fr = [(0, .lst .ro a.length (a.map .str)), (1, .lst .ro b.length (b.map .str)), (6, .lst (.own 43) (prodTo a b i k).length ((prodTo a b i k).map .str)), (7, .int .i64 i), (8, .int .i64 k)] ∧ ∀ w ∈ prodTo a b i k, w.size / 2 ≤ 8) b.length ⟨0, by omega, by omega, rfl, hfit⟩ ?_
  rintro n fr h ⟨k, hk, rfl, rfl, hfit2⟩
  simp only [J_ref03_Quote_j3, wk,Nat.reduceEqDiff,reduceCtorEq,↓reduceIte]
  refine ⟨fun hlt2 => ?_, fun hge2 => ?_⟩
  ·have hkl : k < b.length := by omega
   have hdb : (b.map AV.str).drop (k : Int).toNat = .str b[k] :: (b.map AV.str).drop (k + 1) := by rw [show (k : Int).toNat = k by omega, drop_str hkl]
   have hplen := prodTo_len (a := a) (b := b) (i := i) (k := k) (by omega) (by omega)
   have hwx := hwa.2 a[i] (List.getElem_mem hil)
   have hwy := hwb.2 b[k] (List.getElem_mem hkl)
   refine ⟨⟨by omega, by omega⟩, ?_⟩
   simp only [hda, wk,Nat.reduceEqDiff,reduceCtorEq,↓reduceIte]
   refine ⟨⟨by omega, by omega⟩, ?_⟩
   simp only [hdb, wk,Nat.reduceEqDiff,Nat.reduceAdd,Nat.reduceLeDiff,reduceCtorEq,↓reduceIte]
   have hcat := p_rcat [a[i], b[k]] (by simp) (by intro x hx; simp at hx; rcases hx with rfl | rfl; exact (by have := wordMay_even hwx; omega); exact (by have := wordMay_even hwy; omega)) (by intro x hx; simp at hx; rcases hx with rfl | rfl; exact (wordMay_even hwx).1; exact (wordMay_even hwy).1)
   rw [catE_two hwx hwy] at hcat
   refine ⟨_, hcat, ?_⟩
   by_cases h8 : 8 < (a[i] ++ b[k]).size / 2
   ·simp only [if_pos h8, wk,ne_eq,eq_self,Nat.reduceEqDiff,Int.reduceEq,reduceCtorEq,↓reduceIte]
    rw [quoteE_big hm hm2 (List.getElem_mem hil) (List.getElem_mem hkl) h8]; rfl
   ·simp only [if_neg h8, wk,ne_eq,eq_self,Nat.reduceEqDiff,Nat.reduceLeDiff,reduceCtorEq,↓reduceIte]
    (repeat (refine And.intro (by first | omega | exact inR_of (by omega) (by omega) | exact ⟨by omega, by omega⟩ | exact ⟨by omega, by omega, by omega⟩ | rfl) ?_))
    refine ⟨b.length - (k + 1), by omega, k + 1, by omega, rfl, ?_, fun w hw => ?_⟩
    ·rw [prodTo_succ hil hkl]; simp
    ·rw [prodTo_succ hil hkl, List.mem_append] at hw
     rcases hw with hw | hw
     ·exact hfit2 w hw
     ·simp at hw; subst hw; omega
  ·obtain rfl : k = b.length := by omega
   simp only [J_ref03_Quote_j2, wk,Nat.reduceEqDiff,reduceCtorEq,↓reduceIte]
   refine ⟨inR_of (by omega) (by omega), a.length - (i + 1), by omega, i + 1, by omega, rfl, ?_, ?_⟩
   ·rw [prodTo_zero, ← prodTo_next hil]; rfl
   ·rw [prodTo_zero, ← prodTo_next hil]; exact hfit2
 ·obtain rfl : i = a.length := by omega
  rw [prodTo_zero, List.take_length] at hfit ⊢
  have hpl : (prodW a b).length ≤ 272 := by
   have := prodTo_len (a := a) (b := b) (i := a.length) (k := 0) (by omega) (by omega)
   rwa [prodTo_zero, List.take_length] at this
  simp only [J_ref03_Quote_j1, wk,Nat.reduceEqDiff,reduceCtorEq,↓reduceIte]
  refine PCalls.use (p_rright (prodW a b) (by omega) (fun w hw => by have := hfit w hw; omega)) ?_; simp only [wk,↓reduceIte]
  refine PCalls.use (p_rbound (nrm (prodW a b)) (by have := nrm_len (prodW a b); omega)) ?_; simp only [wk,Nat.reduceEqDiff,↓reduceIte]
  rw [quoteE_fit hm hm2 hfit]
  simp only [vSet, rod_tup, ro_ro, ro_int, wk]
theorem atomBytes_one (r : Nat) : (⟨(atomBytes [r]).toArray⟩ : ByteArray) = atomW r := by
 apply ByteArray.ext; apply Array.ext'; simp [atomBytes, atomW]
theorem p_ras (a : List ByteArray) (r : Nat) (hr : r < 65536) (ha : a.length ≤ 10000) (hsa : ∀ x ∈ a, x.size ≤ 1000000) : PCalls Tryz.prog 24 [.lst .ro a.length (a.map .str), .int .u16 r] (vSet (asE a r)) := by
 refine pcalls_of (by simp [free, free.frees, frees_str]) (free_vSet _) (ACalls.weak (acalls_of mixed J_ref03_As_ok (Nat.le_of_ble_eq_true rfl) ?_)); simp only [J_ref03_As, wk,Nat.reduceEqDiff,Nat.reduceAdd,reduceCtorEq,↓reduceIte]
 refine PCalls.use (p_rsmay a (by omega) (fun x hx => by have := hsa x hx; omega)) ?_; simp only [wk,Nat.reduceEqDiff,Nat.reduceLeDiff,reduceCtorEq,↓reduceIte]
 refine ⟨fun hm => by unfold asE; rw [if_pos hm]; rfl, fun hm => ?_⟩
 refine ⟨fun h1 => ⟨fun h2 => ?_, fun h2 => ?_⟩, fun h1 => ?_⟩
 ·unfold asE; rw [if_neg (by simp [hm]), if_neg (by omega)]; rfl
 ·refine PCalls.use (p_rof [r] (by simp) (by simpa using hr)) ?_; simp only [wk,Nat.reduceEqDiff,Nat.reduceLeDiff,↓reduceIte]
  rw [atomBytes_one]
  refine PCalls.use (p_rquote a [atomW r] ha (by simp) hsa (by intro x hx; simp at hx; subst hx; have : (atomW r).size = 2 := rfl; omega)) ?_; simp only [wk,Nat.reduceEqDiff,↓reduceIte]
  unfold asE; rw [if_neg (by simp [hm]), if_pos (by omega)]
  simp only [vSet, rod_tup, ro_ro, ro_int, wk]
 ·unfold asE; rw [if_neg (by simp [hm]), if_neg (by omega)]; rfl
theorem ofE_good {l r : List ByteArray} (h : ofE l = (r, 0)) : setMay r = true := by
 unfold ofE at h
 split at h
 ·cases h
 ·next hall =>
  split at h
  ·next hlen =>
   simp only [Prod.mk.injEq, and_true] at h
   subst h
   refine setMay_mk hlen.1 hlen.2 (fun x hx => ?_) (rising_nrm l)
   have : l.all wordMay = true := by simpa using hall
   exact List.all_eq_true.1 this x (mem_nrm.1 hx)
  ·cases h
theorem quoteE_good {a b : List ByteArray} (h : (quoteE a b).2 = 0) : setMay (quoteE a b).1 = true := by
 have e : quoteE a b = ((quoteE a b).1, 0) := by rw [← h]
 unfold quoteE at e
 split at e
 ·simp at e
 ·split at e
  ·simp at e
  ·next h1 h2 => rw [show quoteE a b = ofE (prodW a b) by unfold quoteE; rw [if_neg h1, if_neg h2]]; exact ofE_good e
theorem setMay_small {l : List ByteArray} (h : setMay l = true) : l.length ≤ 16 ∧ ∀ x ∈ l, x.size ≤ 16 := ⟨(setMay_words h).1.2, fun x hx => by have := wordMay_size ((setMay_words h).2 x hx); omega⟩
theorem p_rfor (a b : List ByteArray) (ha : a.length ≤ 10000) (hb : b.length ≤ 10000) (hsa : ∀ x ∈ a, x.size ≤ 1000000) (hsb : ∀ x ∈ b, x.size ≤ 1000000) : PCalls Tryz.prog 21 [.lst .ro a.length (a.map .str), .lst .ro b.length (b.map .str)] (vSet (forE a b)) := by
 refine pcalls_of (by simp [free, free.frees, frees_str]) (free_vSet _) (ACalls.weak (acalls_of mixed J_ref03_For_ok (Nat.le_of_ble_eq_true rfl) ?_)); simp only [J_ref03_For, wk,Nat.reduceEqDiff,Nat.reduceAdd,reduceCtorEq,↓reduceIte]
 refine PCalls.use (p_rquote a b ha hb hsa hsb) ?_; simp only [wk,Nat.reduceEqDiff,↓reduceIte]
 simp only [vSet, wk,ne_eq,eq_self,Nat.reduceEqDiff,Nat.reduceLeDiff,↓reduceIte]
 refine ⟨fun hne => ?_, fun h0 => ?_⟩
 ·unfold forE; rw [if_neg hne]; rfl
 ·refine PCalls.use (p_rof [1] (by simp) (by simp)) ?_; simp only [wk,Nat.reduceEqDiff,Nat.reduceLeDiff,↓reduceIte]
  rw [atomBytes_one]
  refine PCalls.use (p_rquote [atomW 1] b (by simp) hb (by intro x hx; simp at hx; subst hx; have : (atomW 1).size = 2 := rfl; omega) hsb) ?_; simp only [wk,Nat.reduceEqDiff,↓reduceIte]
  simp only [vSet, wk,ne_eq,eq_self,Nat.reduceEqDiff,↓reduceIte]
  refine ⟨fun hne => ?_, fun h1 => ?_⟩
  ·unfold forE; rw [if_pos h0, if_neg hne]; rfl
  ·have g1 := setMay_small (quoteE_good h0)
   have g2 := setMay_small (quoteE_good h1)
   refine PCalls.use (p_rand (quoteE a b).1 (quoteE [atomW 1] b).1 (by omega) (by omega) (fun x hx => by have := g1.2 x hx; omega) (fun x hx => by have := g2.2 x hx; omega)) ?_; simp only [wk,Nat.reduceEqDiff,↓reduceIte]
   unfold forE; rw [if_pos h0, if_pos h1]
   simp only [vSet, rod_tup, ro_ro, ro_int, wk]
theorem p_wof (l : List Nat) (hl : l.length ≤ 1000000) (ha : ∀ a ∈ l, a < 65536) : PCalls Tryz.prog 59 [.lst .ro l.length (u16s l)] (.str ⟨(atomBytes l).toArray⟩) := by
 refine pcalls_of (by first | rfl | simp [free, free.frees, frees_u16]) (by first | rfl | simp [free, free.frees, frees_str, frees_u8, frees_u16]) (acalls_of mixed J_word_Of_ok (Nat.le_of_ble_eq_true rfl) ?_); simp only [J_word_Of, wk,Nat.reduceEqDiff,reduceCtorEq,↓reduceIte]
 refine ⟨inR_of (by omega) (by omega), ⟨by omega, by omega, by omega⟩, ?_⟩
 refine W_loop (fun n fr h => ∃ i : Nat, i ≤ l.length ∧ n = l.length - i ∧ fr = [(3, .lst (.own 5) (2 * i) (u8s (atomBytes (l.take i)))), (10, .lst .ro l.length (u16s l)), (11, .int .i64 l.length), (12, .int .i64 i)]) l.length ⟨0, by omega, by omega, rfl⟩ ?_
 rintro n fr h ⟨i, hi, rfl, rfl⟩
 simp only [J_word_Of_j2, J_word_Of_j1, wk,Nat.reduceEqDiff,↓reduceIte]
 refine ⟨fun hlt => ?_, fun hge => ?_⟩
 ·have hil : i < l.length := by omega
  have hx := ha l[i] (List.getElem_mem hil)
  (repeat (refine And.intro (by first | omega | exact inR_of (by omega) (by omega) | exact ⟨by omega, by omega⟩ | exact ⟨by omega, by omega, by omega⟩ | rfl) ?_))
  rw [show (i : Int).toNat = i by omega, u16s_drop hil]
  simp only [wk,Nat.reduceEqDiff,Nat.reduceAdd,Nat.reduceLeDiff,Int.reduceLE,Int.reduceToNat,↓reduceIte]
  have e1 : IntKind.u8.wrap ((l[i] : Int).fdiv (2 ^ (min 8 IntKind.u16.bits))) = ((UInt8.ofNat (l[i] / 256)).toNat : Int) := by
   rw [show (min 8 IntKind.u16.bits) = 8 by decide, Int.fdiv_eq_ediv_of_nonneg _ (by omega), IntKind.wrap_u8]
   simp only [UInt8.toNat_ofNat']; omega
  have e2 : IntKind.u8.wrap (l[i] : Int) = ((UInt8.ofNat (l[i] % 256)).toNat : Int) := by
   rw [IntKind.wrap_u8]; simp only [UInt8.toNat_ofNat']; omega
  refine ⟨⟨by omega, by omega⟩, inR_of (by omega) (by omega), l.length - (i + 1), by omega, i + 1, by omega, rfl, ?_⟩
  have e3 : atomBytes (l.take (i + 1)) = atomBytes (l.take i) ++ [UInt8.ofNat (l[i] / 256), UInt8.ofNat (l[i] % 256)] := by
   unfold atomBytes; rw [List.take_succ_eq_append_getElem hil, List.flatMap_append]; simp
  rw [e1, e2, e3, ← u8s_app]
  rfl
 ·obtain rfl : i = l.length := by omega
  rw [List.take_length]
  refine ⟨atomBytes l, rfl, ?_, rfl⟩
  have : ∀ l : List Nat, (atomBytes l).length = 2 * l.length := by
   intro l
   induction l with
   | nil => rfl
   | cons a l ih => simp only [atomBytes, List.flatMap_cons, List.length_append, List.length_cons, List.length_nil] at ih ⊢; omega
  rw [this]
end Go.Proofs.YtedaffmkpljlnaaGreat
