/- Texts of one proof, laid together: Az In FnR Pr Inr Aw FnM. -/
import Derived.Test.YtpjlkefadnbgdaaMW13
import Derived.Test.YtpjlkefadnbgdaaProg
import Derived.Test.YtpjlkefadnbgdaaMW12

/- The abstract layer: full slices as ones that are only read, however deep; results that are objects as ones that stay. -/
namespace Go.Proofs.Ytpjlkefadnbgdaa
set_option linter.unusedSimpArgs false
set_option linter.unusedVariables false
open Go.RowKit Go.Lib

mutual
def rdp : AV → AV
  | .lst .clip n l => .lst .ro n (rdps l)
  | .lst f n l => .lst f n (rdps l)
  | .agg l => .agg (rdps l)
  | .tup l => .tup (rdps l)
  | .fp l => .fp (rdps l)
  | .fn f l => .fn f (rdps l)
  | .fnb f l => .fnb f (rdps l)
  | a => a
def rdps : List AV → List AV
  | [] => []
  | a :: l => rdp a :: rdps l
end
theorem plain_rdp (a : AV) (h : plain a = true) : plain (rdp a) = true := by
  cases a with
  | lst f n l => cases f <;> first | (simp [plain] at h; done) | simp [rdp, plain]
  | itr s p => simp [plain] at h
  | stk e o l => simp [plain] at h
  | _ => simp [rdp, plain]
theorem plains_rdp : ∀ {l : List AV}, plains l → plains (rdps l)
  | [], _ => by intro a ha; simp [rdps] at ha
  | a :: l, h => by
    intro b hb
    simp only [rdps, List.mem_cons] at hb
    rcases hb with rfl | hb
    · exact plain_rdp a (h a (by simp))
    · exact plains_rdp (fun x hx => h x (by simp [hx])) b hb
mutual
theorem Rep.rdp {g : Gh} : ∀ {v : Value} {a : AV}, Rep g v a → Rep g v (rdp a)
  | _, _, .bool b => by simp only [Go.Proofs.Ytpjlkefadnbgdaa.rdp]; exact .bool b
  | _, _, .int k n => by simp only [Go.Proofs.Ytpjlkefadnbgdaa.rdp]; exact .int k n
  | _, _, .str s => by simp only [Go.Proofs.Ytpjlkefadnbgdaa.rdp]; exact .str s
  | _, _, .nilp => by simp only [Go.Proofs.Ytpjlkefadnbgdaa.rdp]; exact .nilp
  | _, _, .ptr id off b h => by simp only [Go.Proofs.Ytpjlkefadnbgdaa.rdp]; exact .ptr id off b h
  | _, _, .fp b off vs l h hp hl => by simp only [Go.Proofs.Ytpjlkefadnbgdaa.rdp]; exact .fp b off vs _ h (plains_rdp hp) (RepL.rdp hl)
  | _, _, .lst b off n c .clip vs l h hp h1 h2 hl => by simp only [Go.Proofs.Ytpjlkefadnbgdaa.rdp]; exact .lst b off n c .ro vs _ h (plains_rdp hp) h1 (fun e => by cases e) (RepL.rdp hl)
  | _, _, .lst b off n c .ro vs l h hp h1 h2 hl => by simp only [Go.Proofs.Ytpjlkefadnbgdaa.rdp]; exact .lst b off n c .ro vs _ h (plains_rdp hp) h1 (fun e => by cases e) (RepL.rdp hl)
  | _, _, .lst b off n c (.own e) vs l h hp h1 h2 hl => by simp only [Go.Proofs.Ytpjlkefadnbgdaa.rdp]; exact .lst b off n c (.own e) vs _ h (plains_rdp hp) h1 (fun e => by cases e) (RepL.rdp hl)
  | _, _, .lst0 a c .clip h => by simp only [Go.Proofs.Ytpjlkefadnbgdaa.rdp, rdps]; exact .lst0 a c .ro (fun e => by cases e)
  | _, _, .lst0 a c .ro h => by simp only [Go.Proofs.Ytpjlkefadnbgdaa.rdp, rdps]; exact .lst0 a c .ro (fun e => by cases e)
  | _, _, .lst0 a c (.own e) h => by simp only [Go.Proofs.Ytpjlkefadnbgdaa.rdp, rdps]; exact .lst0 a c (.own e) (fun e => by cases e)
  | _, _, .hs id b n c h h1 => by simp only [Go.Proofs.Ytpjlkefadnbgdaa.rdp]; exact .hs id b n c h h1
  | _, _, .agg vs l h hp hl => by simp only [Go.Proofs.Ytpjlkefadnbgdaa.rdp]; exact .agg vs _ h (plains_rdp hp) (RepL.rdp hl)
  | _, _, .tup vs l hp hl => by simp only [Go.Proofs.Ytpjlkefadnbgdaa.rdp]; exact .tup vs _ (plains_rdp hp) (RepL.rdp hl)
  | _, _, .fn f vs l hp hl => by simp only [Go.Proofs.Ytpjlkefadnbgdaa.rdp]; exact .fn f vs _ (plains_rdp hp) (RepL.rdp hl)
  | _, _, .fnb f vs l hp hl => by simp only [Go.Proofs.Ytpjlkefadnbgdaa.rdp]; exact .fnb f vs _ (plains_rdp hp) (RepL.rdp hl)
  | _, _, .nilf => by simp only [Go.Proofs.Ytpjlkefadnbgdaa.rdp]; exact .nilf
  | _, _, .opq v h h' => by simp only [Go.Proofs.Ytpjlkefadnbgdaa.rdp]; exact .opq v h h'
  | _, _, .frn v Q S W0 h h' h3 h4 => by simp only [Go.Proofs.Ytpjlkefadnbgdaa.rdp]; exact .frn v Q S W0 h h' h3 h4
  | _, _, .itr b s p => by simp only [Go.Proofs.Ytpjlkefadnbgdaa.rdp]; exact .itr b s p
  | _, _, .stk a c e o l h1 h2 h3 => by simp only [Go.Proofs.Ytpjlkefadnbgdaa.rdp]; exact .stk a c e o l h1 h2 h3
  | _, _, .raw a m c h1 h2 => by simp only [Go.Proofs.Ytpjlkefadnbgdaa.rdp]; exact .raw a m c h1 h2
  | _, _, .rawp b i m c => by simp only [Go.Proofs.Ytpjlkefadnbgdaa.rdp]; exact .rawp b i m c
theorem RepL.rdp {g : Gh} : ∀ {vs : List Value} {l : List AV}, RepL g vs l → RepL g vs (rdps l)
  | _, _, .nil => by simp only [rdps]; exact .nil
  | _, _, .cons h hl => by simp only [rdps]; exact .cons (Rep.rdp h) (RepL.rdp hl)
end
theorem ACalls.deep {P : Program} {f : FuncId} {args : List AV} {h : Hp} {R : AV → Hp → Prop} (hc : ACalls P f args h (fun a h' => R (rdp a) h')) : ACalls P f args h R :=
  ⟨hc.1, fun g w vargs h1 h2 h3 h4 => (hc.2 g w vargs h1 h2 h3 h4).mono fun _ _ ⟨x, a, h', g', q1, q2, q3, q4, q5, q6, q7⟩ => ⟨x, _, h', g', q1, q2, q3, q4, q5.rdp, plain_rdp _ q6, q7⟩⟩
theorem ACalls.argd {P : Program} {f : FuncId} {args : List AV} {h : Hp} {R : AV → Hp → Prop} (hc : ACalls P f (rdps args) h R) : ACalls P f args h R :=
  ⟨hc.1, fun g w vargs h1 h2 h3 h4 => hc.2 g w vargs h1 h2 h3.rdp (plains_rdp h4)⟩
mutual
theorem free_rdp : ∀ a : AV, free (rdp a) = free a
  | .lst .clip n l => by simp only [rdp, free, frees_rdp l]
  | .lst .ro n l => by simp only [rdp, free, frees_rdp l]
  | .lst (.own e) n l => by simp only [rdp, free, frees_rdp l]
  | .agg l => by simp only [rdp, free, frees_rdp l]
  | .tup l => by simp only [rdp, free, frees_rdp l]
  | .fp l => by simp only [rdp, free, frees_rdp l]
  | .fn f l => by simp only [rdp, free, frees_rdp l]
  | .fnb f l => by simp only [rdp, free, frees_rdp l]
  | .bool _ => by simp only [rdp]
  | .int _ _ => by simp only [rdp]
  | .str _ => by simp only [rdp]
  | .nilp => by simp only [rdp]
  | .ptr _ _ => by simp only [rdp]
  | .hs _ _ => by simp only [rdp]
  | .nilf => by simp only [rdp]
  | .opq => by simp only [rdp]
  | .frn _ => by simp only [rdp]
  | .itr _ _ => by simp only [rdp]
  | .stk _ _ _ => by simp only [rdp]
  | .raw _ _ => by simp only [rdp]
  | .rawp _ _ => by simp only [rdp]
theorem frees_rdp : ∀ l : List AV, free.frees (rdps l) = free.frees l
  | [] => rfl
  | a :: l => by simp only [rdps, free.frees, free_rdp a, frees_rdp l]
end
theorem PCalls.argd {P : Program} {f : FuncId} {args : List AV} {v : AV} (hc : PCalls P f (rdps args) v) : PCalls P f args v :=
  ⟨by rw [← frees_rdp]; exact hc.1, hc.2.1, ACalls.argd hc.2.2⟩
theorem rdps_nil : rdps [] = [] := by simp only [rdps]
theorem rdps_cons (a : AV) (l : List AV) : rdps (a :: l) = rdp a :: rdps l := by simp only [rdps]
theorem rdp_bool (b : Bool) : rdp (.bool b) = .bool b := by simp only [rdp]
theorem rdp_int (k : IntKind) (n : Int) : rdp (.int k n) = .int k n := by simp only [rdp]
theorem rdp_str (s : ByteArray) : rdp (.str s) = .str s := by simp only [rdp]
theorem rdp_nilp : rdp .nilp = .nilp := by simp only [rdp]
theorem rdp_hs (i n : Nat) : rdp (.hs i n) = .hs i n := by simp only [rdp]
theorem rdp_ptr (i n : Nat) : rdp (.ptr i n) = .ptr i n := by simp only [rdp]
theorem rdp_ro (n : Nat) (l : List AV) : rdp (.lst .ro n l) = .lst .ro n (rdps l) := by simp only [rdp]
theorem rdp_clip (n : Nat) (l : List AV) : rdp (.lst .clip n l) = .lst .ro n (rdps l) := by simp only [rdp]
theorem rdp_agg (l : List AV) : rdp (.agg l) = .agg (rdps l) := by simp only [rdp]
theorem rdp_tup (l : List AV) : rdp (.tup l) = .tup (rdps l) := by simp only [rdp]
theorem rdps_str : ∀ l : List ByteArray, rdps (l.map .str) = l.map .str
  | [] => rdps_nil
  | a :: l => by simp only [List.map_cons, rdps_cons, rdp_str, rdps_str l]
theorem rdpw : type_of% (And.intro @rdps_nil (And.intro @rdps_cons (And.intro @rdp_bool (And.intro @rdp_int (And.intro @rdp_str (And.intro @rdp_nilp (And.intro @rdp_hs (And.intro @rdp_ptr (And.intro @rdp_ro (And.intro @rdp_clip (And.intro @rdp_agg (And.intro @rdp_tup @rdps_str)))))))))))) :=
  And.intro @rdps_nil (And.intro @rdps_cons (And.intro @rdp_bool (And.intro @rdp_int (And.intro @rdp_str (And.intro @rdp_nilp (And.intro @rdp_hs (And.intro @rdp_ptr (And.intro @rdp_ro (And.intro @rdp_clip (And.intro @rdp_agg (And.intro @rdp_tup @rdps_str)))))))))))
theorem valL (fr : Fr) (h : Hp) (s : Option Nat) (x : Opd) (K : AV → Prop) : val fr h (.load s x) K = (match ev fr x with
    | some (.ptr id off) => (match h[id]? with
      | some (some (_, l)) => loadK s (l.drop off) K
      | _ => False)
    | some (.fp l) => loadK s l K
    | _ => False) := id rfl
end Go.Proofs.Ytpjlkefadnbgdaa

/- What is read of bytes, told for all states of a reader alike. -/
namespace Go.Proofs.Ytpjlkefadnbgdaa
set_option linter.unusedSimpArgs false
set_option linter.unusedVariables false
open Go.RowKit Go.Lib

def nI : Option (Nat × Nat) → Nat
  | some (n, _) => n
  | none => 0
def nS : Option (ByteArray × Nat) → ByteArray
  | some (s, _) => s
  | none => ⟨#[]⟩
def nL : Option (List ByteArray × Nat) → List ByteArray
  | some (l, _) => l
  | none => []
theorem vI_n (r : Option (Nat × Nat)) : vI r = .int .i64 (nI r) := by cases r <;> rfl
theorem vS_n (r : Option (ByteArray × Nat)) : vS r = .str (nS r) := by cases r <;> rfl
def rN (S : ByteArray) (m : Int) (s : Bool × Nat) : Option (Nat × Nat) := if s.1 = true then none else rNum S m s.2
def rW (S : ByteArray) (s : Bool × Nat) : Option (ByteArray × Nat) := if s.1 = true then none else rWord S s.2
def rL (S : ByteArray) (s : Bool × Nat) : Option (List ByteArray × Nat) := if s.1 = true then none else rSet S s.2
theorem rN_eq (S : ByteArray) (m : Int) (s : Bool × Nat) : (if s.1 = true then none else rNum S m s.2) = rN S m s := rfl
theorem rW_eq (S : ByteArray) (s : Bool × Nat) : (if s.1 = true then none else rWord S s.2) = rW S s := rfl
theorem rL_eq (S : ByteArray) (s : Bool × Nat) : (if s.1 = true then none else rSet S s.2) = rL S s := rfl
theorem rN_le {S : ByteArray} {m : Int} {s : Bool × Nat} {q : Nat} (hs : s.2 ≤ S.size) (hq : q ≤ S.size) : (stO (rN S m s) q).2 ≤ S.size := by
  unfold rN
  split
  · exact hq
  · cases h : rNum S m s.2 with
    | none => exact hq
    | some x => obtain ⟨n, p⟩ := x; exact (rNum_le h hs).2.1
theorem rW_le {S : ByteArray} {s : Bool × Nat} {q : Nat} (hq : q ≤ S.size) : (stO (rW S s) q).2 ≤ S.size := by
  unfold rW
  split
  · exact hq
  · cases h : rWord S s.2 with
    | none => exact hq
    | some x => obtain ⟨n, p⟩ := x; exact (rWord_le h).2.1
theorem rL_le {S : ByteArray} {s : Bool × Nat} {q : Nat} (hq : q ≤ S.size) : (stO (rL S s) q).2 ≤ S.size := by
  unfold rL
  split
  · exact hq
  · cases h : rSet S s.2 with
    | none => exact hq
    | some x => obtain ⟨n, p⟩ := x; exact (upTo_set h).2.2.2
theorem nI_le {S : ByteArray} {m : Int} {s : Bool × Nat} (hs : s.2 ≤ S.size) : nI (rN S m s) ≤ 4611686018427387904 ∧ (0 ≤ m → (nI (rN S m s) : Int) ≤ m) := by
  unfold rN
  split
  · exact ⟨by simp [nI], fun h => by simpa [nI] using h⟩
  · cases h : rNum S m s.2 with
    | none => exact ⟨by simp [nI], fun h => by simpa [nI] using h⟩
    | some x => obtain ⟨n, p⟩ := x; obtain ⟨_, _, h3, h4⟩ := rNum_le h hs; exact ⟨h3, fun _ => h4⟩
theorem rW_small {S : ByteArray} {s : Bool × Nat} : (nS (rW S s)).size ≤ 16 := by
  unfold rW
  split
  · exact Nat.zero_le _
  · cases h : rWord S s.2 with
    | none => exact Nat.zero_le _
    | some x => obtain ⟨n, p⟩ := x; have := wordMay_size (rWord_le h).2.2.1; show n.size ≤ 16; omega
theorem rL_small {S : ByteArray} {s : Bool × Nat} : (nL (rL S s)).length ≤ 16 ∧ ∀ x ∈ nL (rL S s), x.size ≤ 16 := by
  unfold rL
  split
  · simp [nL]
  · cases h : rSet S s.2 with
    | none => simp [nL]
    | some x => obtain ⟨n, p⟩ := x; exact setMay_small (upTo_set h).2.1
def fL (r : Option (List ByteArray × Nat)) : Fl := match r with
  | some _ => .ro
  | none => .clip
theorem vL_n (r : Option (List ByteArray × Nat)) : vL r = .lst (fL r) (nL r).length ((nL r).map .str) := by cases r <;> rfl
theorem deg_fL (r : Option (List ByteArray × Nat)) (n : Nat) (l : List AV) : deg (.lst (fL r) n l) = .lst (fL r) n l := by cases r <;> rfl
theorem a_num' {h : Hp} {id : Nat} {S : ByteArray} {s : Bool × Nat} (most : Int) (ho : h[id]? = some (iObj S s)) (hs : S.size ≤ 1000000) (hp : s.2 ≤ S.size) {r : Option (Nat × Nat)} (e : r = rN S most s) {s' : Bool × Nat} (d : s' = stO r s.2) :
    ACalls Try.prog 21 [.ptr id 0, .int .i64 most] h (fun a h' => a = .int .i64 (nI r) ∧ h' = h.set id (iObj S s')) := by
  have := a_inum most ho (by omega) hp
  rw [rN_eq, ← e, vI_n, ← d] at this
  exact this
theorem a_word' {h : Hp} {id : Nat} {S : ByteArray} {s : Bool × Nat} (ho : h[id]? = some (iObj S s)) (hs : S.size ≤ 1000000) (hp : s.2 ≤ S.size) {r : Option (ByteArray × Nat)} (e : r = rW S s) :
    ∃ q, q ≤ S.size ∧ ACalls Try.prog 41 [.ptr id 0] h (fun a h' => a = .str (nS r) ∧ h' = h.set id (iObj S (stO r q))) := by
  obtain ⟨q, hq, hc⟩ := a_iword ho (by omega) hp
  rw [rW_eq, ← e, vS_n] at hc
  exact ⟨q, hq, hc⟩
theorem a_set' {h : Hp} {id : Nat} {S : ByteArray} {s : Bool × Nat} (ho : h[id]? = some (iObj S s)) (hs : S.size ≤ 1000000) (hp : s.2 ≤ S.size) {r : Option (List ByteArray × Nat)} (e : r = rL S s) :
    ACalls Try.prog 56 [.ptr id 0] h (fun a h' => a = .lst (fL r) (nL r).length ((nL r).map .str) ∧ ∃ q, q ≤ S.size ∧ h' = h.set id (iObj S (stO r q))) := by
  have := a_iset ho (by omega) hp
  rw [rL_eq, ← e, vL_n] at this
  exact this
end Go.Proofs.Ytpjlkefadnbgdaa

namespace Go.Proofs.Ytpjlkefadnbgdaa
open Go.RowKit
end Go.Proofs.Ytpjlkefadnbgdaa

/- What the reference's In does, over the abstract code. -/
namespace Go.Proofs.Ytpjlkefadnbgdaa
set_option linter.unusedSimpArgs false
set_option linter.unusedVariables false
open Go.RowKit Go.Lib

end Go.Proofs.Ytpjlkefadnbgdaa

/- What the reference reads of bytes. -/
namespace Go.Proofs.Ytpjlkefadnbgdaa
set_option linter.unusedSimpArgs false
set_option linter.unusedVariables false
open Go.RowKit Go.Lib

theorem str_app2 (a b : List UInt8) : (⟨a.toArray⟩ ++ ⟨b.toArray⟩ : ByteArray) = ⟨(a ++ b).toArray⟩ := by
  apply ByteArray.ext; apply Array.ext'; simp
end Go.Proofs.Ytpjlkefadnbgdaa

/- The abstract layer: objects that nobody asks for any more are forgotten; objects that are handed out are only read from then on. -/
namespace Go.Proofs.Ytpjlkefadnbgdaa
set_option linter.unusedSimpArgs false
set_option linter.unusedVariables false
open Go.RowKit Go.Lib

def low (n : Nat) : AV → Bool
  | .ptr i _ => decide (i < n)
  | .hs i _ => decide (i < n)
  | .fp l | .lst _ _ l | .agg l | .tup l | .fn _ l | .fnb _ l => lows l
  | _ => true
where lows : List AV → Bool
  | [] => true
  | a :: l => low n a && lows l
def Gh.cut (g : Gh) (n : Nat) : Gh := { g with io := fun i => if i < n then g.io i else none }
theorem io_cut {g : Gh} {n i b : Nat} (h : g.io i = some b) (hi : i < n) : (g.cut n).io i = some b := by
  simp only [Gh.cut, if_pos hi]; exact h
mutual
theorem Rep.cut {g : Gh} (n : Nat) : ∀ {v : Value} {a : AV}, Rep g v a → low n a = true → Rep (g.cut n) v a
  | _, _, .bool b, _ => .bool b
  | _, _, .int k m, _ => .int k m
  | _, _, .str s, _ => .str s
  | _, _, .nilp, _ => .nilp
  | _, _, .ptr id off b h, hl => .ptr id off b (io_cut h (by simpa [low] using hl))
  | _, _, .fp b off vs l h hp hr, hl => .fp b off vs l h hp (RepL.cut n hr (by simpa [low] using hl))
  | _, _, .lst b off m c f vs l h hp h1 h2 hr, hl => .lst b off m c f vs l h hp h1 h2 (RepL.cut n hr (by simpa [low] using hl))
  | _, _, .lst0 a c f h, _ => .lst0 a c f h
  | _, _, .hs id b m c h h1, hl => .hs id b m c (io_cut h (by simpa [low] using hl)) h1
  | _, _, .agg vs l h hp hr, hl => .agg vs l h hp (RepL.cut n hr (by simpa [low] using hl))
  | _, _, .tup vs l hp hr, hl => .tup vs l hp (RepL.cut n hr (by simpa [low] using hl))
  | _, _, .fn f vs l hp hr, hl => .fn f vs l hp (RepL.cut n hr (by simpa [low] using hl))
  | _, _, .fnb f vs l hp hr, hl => .fnb f vs l hp (RepL.cut n hr (by simpa [low] using hl))
  | _, _, .nilf, _ => .nilf
  | _, _, .opq v h h', _ => .opq v h h'
  | _, _, .itr b s p, _ => .itr b s p
  | _, _, .stk a c e o l h1 h2 h3, _ => .stk a c e o l h1 h2 h3
  | _, _, .raw a m c h1 h2, _ => .raw a m c h1 h2
  | _, _, .rawp b i m c, _ => .rawp b i m c
  | _, _, .frn v Q S W0 h1 h2 h3 h4, _ => .frn v Q S W0 h1 h2 h3 h4
theorem RepL.cut {g : Gh} (n : Nat) : ∀ {vs : List Value} {l : List AV}, RepL g vs l → low.lows n l = true → RepL (g.cut n) vs l
  | _, _, .nil, _ => .nil
  | _, _, .cons h hr, hl => by
    simp only [low.lows, Bool.and_eq_true] at hl
    exact .cons (Rep.cut n h hl.1) (RepL.cut n hr hl.2)
end
mutual
theorem Rep.low {g : Gh} {n : Nat} (hd : ∀ i b, g.io i = some b → i < n) : ∀ {v : Value} {a : AV}, Rep g v a → low n a = true
  | _, _, .bool b => by simp [Go.Proofs.Ytpjlkefadnbgdaa.low]
  | _, _, .int k m => by simp [Go.Proofs.Ytpjlkefadnbgdaa.low]
  | _, _, .str s => by simp [Go.Proofs.Ytpjlkefadnbgdaa.low]
  | _, _, .nilp => by simp [Go.Proofs.Ytpjlkefadnbgdaa.low]
  | _, _, .ptr id off b h => by simpa [Go.Proofs.Ytpjlkefadnbgdaa.low] using hd id b h
  | _, _, .fp b off vs l h hp hr => by simpa [Go.Proofs.Ytpjlkefadnbgdaa.low] using RepL.low hd hr
  | _, _, .lst b off m c f vs l h hp h1 h2 hr => by simpa [Go.Proofs.Ytpjlkefadnbgdaa.low] using RepL.low hd hr
  | _, _, .lst0 a c f h => by simp [Go.Proofs.Ytpjlkefadnbgdaa.low, low.lows]
  | _, _, .hs id b m c h h1 => by simpa [Go.Proofs.Ytpjlkefadnbgdaa.low] using hd id b h
  | _, _, .agg vs l h hp hr => by simpa [Go.Proofs.Ytpjlkefadnbgdaa.low] using RepL.low hd hr
  | _, _, .tup vs l hp hr => by simpa [Go.Proofs.Ytpjlkefadnbgdaa.low] using RepL.low hd hr
  | _, _, .fn f vs l hp hr => by simpa [Go.Proofs.Ytpjlkefadnbgdaa.low] using RepL.low hd hr
  | _, _, .fnb f vs l hp hr => by simpa [Go.Proofs.Ytpjlkefadnbgdaa.low] using RepL.low hd hr
  | _, _, .nilf => by simp [Go.Proofs.Ytpjlkefadnbgdaa.low]
  | _, _, .opq v h h' => by simp [Go.Proofs.Ytpjlkefadnbgdaa.low]
  | _, _, .itr b s p => by simp [Go.Proofs.Ytpjlkefadnbgdaa.low]
  | _, _, .stk a c e o l h1 h2 h3 => by simp [Go.Proofs.Ytpjlkefadnbgdaa.low]
  | _, _, .raw a m c h1 h2 => by simp [Go.Proofs.Ytpjlkefadnbgdaa.low]
  | _, _, .rawp b i m c => by simp [Go.Proofs.Ytpjlkefadnbgdaa.low]
  | _, _, .frn _ _ _ _ _ _ _ _ => by simp [Go.Proofs.Ytpjlkefadnbgdaa.low]
theorem RepL.low {g : Gh} {n : Nat} (hd : ∀ i b, g.io i = some b → i < n) : ∀ {vs : List Value} {l : List AV}, RepL g vs l → low.lows n l = true
  | _, _, .nil => by simp [low.lows]
  | _, _, .cons h hr => by simp [low.lows, Rep.low hd h, RepL.low hd hr]
end
mutual
theorem low_free {n : Nat} : ∀ {a : AV}, free a = true → low n a = true
  | .bool _, _ => by simp [low]
  | .int _ _, _ => by simp [low]
  | .str _, _ => by simp [low]
  | .nilp, _ => by simp [low]
  | .nilf, _ => by simp [low]
  | .opq, _ => by simp [low]
  | .itr _ _, _ => by simp [low]
  | .stk _ _ _, _ => by simp [low]
  | .raw _ _, _ => by simp [low]
  | .rawp _ _, _ => by simp [low]
  | .frn _, _ => by simp [low]
  | .ptr _ _, h => by simp [free] at h
  | .hs _ _, h => by simp [free] at h
  | .fp l, h => by simpa [low] using lows_free (l := l) (by simpa [free] using h)
  | .lst _ _ l, h => by simpa [low] using lows_free (l := l) (by simpa [free] using h)
  | .agg l, h => by simpa [low] using lows_free (l := l) (by simpa [free] using h)
  | .tup l, h => by simpa [low] using lows_free (l := l) (by simpa [free] using h)
  | .fn _ l, h => by simpa [low] using lows_free (l := l) (by simpa [free] using h)
  | .fnb _ l, h => by simpa [low] using lows_free (l := l) (by simpa [free] using h)
theorem lows_free {n : Nat} : ∀ {l : List AV}, free.frees l = true → low.lows n l = true
  | [], _ => by simp [low.lows]
  | a :: l, h => by
    simp only [free.frees, Bool.and_eq_true] at h
    simp [low.lows, low_free (n := n) h.1, lows_free (n := n) h.2]
end
mutual
def fz (h : Hp) : AV → AV
  | .hs id n => match h[id]? with
    | some (some (_, l)) => .lst .ro n (l.map deg)
    | _ => .hs id n
  | .agg l => .agg (fzs h l)
  | .tup l => .tup (fzs h l)
  | a => a
def fzs (h : Hp) : List AV → List AV
  | [] => []
  | a :: l => fz h a :: fzs h l
end
theorem plain_fz {h : Hp} (a : AV) (hp : plain a = true) : plain (fz h a) = true := by
  cases a with
  | hs id n =>
    simp only [fz]
    split <;> rfl
  | lst f n l => simp only [fz]; exact hp
  | itr s p => simp [plain] at hp
  | stk e o l => simp [plain] at hp
  | _ => simp [fz, plain]
theorem plains_fz {h : Hp} : ∀ {l : List AV}, plains l → plains (fzs h l)
  | [], _ => by intro a ha; simp [fzs] at ha
  | a :: l, hp => by
    intro b hb
    simp only [fzs, List.mem_cons] at hb
    rcases hb with rfl | hb
    · exact plain_fz a (hp a (by simp))
    · exact plains_fz (fun x hx => hp x (by simp [hx])) b hb
open Classical in
noncomputable def Gh.ice (g : Gh) (h : Hp) (w : World) : Gh :=
  { g with io := fun _ => none, C := fun b o => match g.C b o with
    | some v => some v
    | none => if ∃ id s l, g.io id = some b ∧ h[id]? = some (some (s, l)) then (w.cell? ⟨b, o, none⟩).filter (fun v => v.oneCell') else none }
theorem ice_le {g : Gh} {h : Hp} {w : World} {b o : Nat} {v : Value} (hc : g.C b o = some v) : (g.ice h w).C b o = some v := by simp only [Gh.ice, hc]
theorem ice_obj {P : Program} {g : Gh} {h : Hp} {w : World} {id : Nat} {s : Bool} {l : List AV} (hs : Sim P g h w) (hl : h[id]? = some (some (s, l))) :
    ∃ b arr, g.io id = some b ∧ CellsAt (g.ice h w) b 0 arr ∧ RepL g arr l := by
  obtain ⟨b, arr, e, p1, p2, p3, p4, p5, p6, p7, p8, p9⟩ := hs.obj id s l hl
  refine ⟨b, arr.toList, p1, fun i v hv => ?_, p3⟩
  cases hC : g.C b (0 + i) with
  | some u =>
    have h1 := (hs.prot _ _ _ hC).1
    rw [Nat.zero_add, cell_of_row w b i arr e (0, 0) p2] at h1
    have : v = u := by
      rw [Array.getElem?_toList] at hv
      rw [hv] at h1
      simpa using h1
    subst this
    exact ice_le hC
  | none =>
    simp only [Gh.ice, hC]
    rw [if_pos ⟨id, s, l, p1, hl⟩]
    simp only [Option.filter_eq_some_iff]
    refine ⟨?_, p4 v (List.mem_of_getElem? hv)⟩
    rw [Nat.zero_add, cell_of_row w b i arr e (0, 0) p2]
    simpa using hv
mutual
theorem Rep.ice {P : Program} {g : Gh} {h : Hp} {w : World} (hs : Sim P g h w) : ∀ {v : Value} {a : AV}, Rep g v a → free (fz h a) = true → Rep (g.ice h w) v (fz h a)
  | _, _, .bool b, _ => by simp only [fz]; exact .bool b
  | _, _, .int k m, _ => by simp only [fz]; exact .int k m
  | _, _, .str s, _ => by simp only [fz]; exact .str s
  | _, _, .nilp, _ => by simp only [fz]; exact .nilp
  | _, _, .ptr id off b hb, hf => by simp [fz, free] at hf
  | _, _, .fp b off vs l hc hp hr, hf => by
    simp only [fz] at hf ⊢
    exact Rep.free (g := g) (fun _ _ _ hc => ice_le hc) (fun _ _ h => h) (.fp b off vs l hc hp hr) hf
  | _, _, .lst b off m c f vs l hc hp h1 h2 hr, hf => by
    simp only [fz] at hf ⊢
    exact Rep.free (g := g) (fun _ _ _ hc => ice_le hc) (fun _ _ h => h) (.lst b off m c f vs l hc hp h1 h2 hr) hf
  | _, _, .lst0 a c f hc, _ => by simp only [fz]; exact .lst0 a c f hc
  | _, _, .hs id b m c hb h1, hf => by
    simp only [fz] at hf ⊢
    split at hf
    · next s l hl =>
      obtain ⟨b', arr, q1, q2, q3⟩ := ice_obj hs hl
      obtain rfl : b = b' := by rw [hb] at q1; simpa using q1
      simp only [free] at hf
      refine .lst b 0 m c .ro arr _ q2 (fun a ha => ?_) h1 (fun e => by cases e) (RepL.free (g := g) (fun _ _ _ hc => ice_le hc) (fun _ _ h => h) q3.deg hf)
      obtain ⟨a', _, rfl⟩ := List.mem_map.1 ha
      exact plain_deg a'
    · simp [free] at hf
  | _, _, .agg vs l h1 hp hr, hf => by
    simp only [fz, free] at hf ⊢
    exact .agg vs _ h1 (plains_fz hp) (RepL.ice hs hr hf)
  | _, _, .tup vs l hp hr, hf => by
    simp only [fz, free] at hf ⊢
    exact .tup vs _ (plains_fz hp) (RepL.ice hs hr hf)
  | _, _, .fn f vs l hp hr, hf => by
    simp only [fz] at hf ⊢
    exact Rep.free (g := g) (fun _ _ _ hc => ice_le hc) (fun _ _ h => h) (.fn f vs l hp hr) hf
  | _, _, .fnb f vs l hp hr, hf => by
    simp only [fz] at hf ⊢
    exact Rep.free (g := g) (fun _ _ _ hc => ice_le hc) (fun _ _ h => h) (.fnb f vs l hp hr) hf
  | _, _, .nilf, _ => by simp only [fz]; exact .nilf
  | _, _, .opq v h h', _ => by simp only [fz]; exact .opq v h h'
  | _, _, .itr b s p, _ => by simp only [fz]; exact .itr b s p
  | _, _, .stk a c e o l h1 h2 h3, _ => by simp only [fz]; exact .stk a c e o l h1 h2 h3
  | _, _, .raw a m c h1 h2, _ => by simp only [fz]; exact .raw a m c h1 h2
  | _, _, .rawp b i m c, _ => by simp only [fz]; exact .rawp b i m c
  | _, _, .frn v Q S W0 h1 h2 h3 h4, _ => by simp only [fz]; exact .frn v Q S W0 h1 h2 h3 h4
theorem RepL.ice {P : Program} {g : Gh} {h : Hp} {w : World} (hs : Sim P g h w) : ∀ {vs : List Value} {l : List AV}, RepL g vs l → free.frees (fzs h l) = true → RepL (g.ice h w) vs (fzs h l)
  | _, _, .nil, _ => by simp only [fzs]; exact .nil
  | _, _, .cons h0 hr, hf => by
    simp only [fzs, free.frees, Bool.and_eq_true] at hf ⊢
    exact .cons (Rep.ice hs h0 hf.1) (RepL.ice hs hr hf.2)
end
end Go.Proofs.Ytpjlkefadnbgdaa

namespace Go.Proofs.Ytpjlkefadnbgdaa
open Go.RowKit
def J_law22_LetterOdd_j1 : ACode :=
 .keep [] (.seq (.ops [⟨some 2, none, .mv (.c (.bool true)), none⟩])
 (.ret))
def J_law22_LetterOdd_j2 : ACode :=
 .keep [1, 3, 4, 5, 39, 40] (.seq (.ops [⟨some 70, none, .mv (.t 3), none⟩,
 ⟨some 71, none, .mv (.t 4), none⟩,
 ⟨some 72, none, .idxa 12 (.t 70) (.t 71), none⟩,
 ⟨some 73, none, .load (some 12) (.t 72), none⟩,
 ⟨some 74, none, .call (.f 12) [(.t 73)], none⟩,
 ⟨some 75, none, .mv (.t 74), none⟩,
 ⟨some 76, (some (75, true)), .mv (.t 5), none⟩,
 ⟨some 77, (some (75, true)), .not (.t 76), none⟩,
 ⟨some 78, none, .pick (.t 75) (.t 77) (.c (.bool false)), none⟩])
 (.keep [1, 3, 39, 40, 78] (.cond (.t 78)
 (.seq (.ops [⟨some 2, none, .mv (.c (.bool false)), none⟩])
 (.ret))
 (.skip))))
def J_law22_LetterOdd_j3 : ACode :=
 .keep [1, 3, 4, 5, 39, 40, 43, 49] (.cond (.t 49)
 (.ops [⟨some 52, none, .fld 0 (.t 1), none⟩,
 ⟨some 53, none, .load none (.t 52), none⟩,
 ⟨some 54, none, .bin .eql (.t 53) (.c (.int .i64 3)), none⟩,
 ⟨some 5, none, .mv (.t 54), none⟩])
 (.seq (.ops [⟨some 56, none, .bin .eql (.t 43) (.c (.int .i64 2)), none⟩,
 ⟨some 55, none, .mv (.t 56), none⟩])
 (.keep [1, 3, 4, 5, 39, 40, 43, 55] (.cond (.t 55)
 (.ops [⟨some 57, none, .fld 0 (.t 1), none⟩,
 ⟨some 58, none, .load none (.t 57), none⟩,
 ⟨some 59, none, .bin .eql (.t 58) (.c (.int .i64 3)), none⟩,
 ⟨some 60, none, .mv (.t 59), none⟩,
 ⟨some 61, (some (60, false)), .fld 0 (.t 1), none⟩,
 ⟨some 62, (some (60, false)), .load none (.t 61), none⟩,
 ⟨some 63, (some (60, false)), .bin .eql (.t 62) (.c (.int .i64 2)), none⟩,
 ⟨some 64, none, .pick (.t 60) (.c (.bool true)) (.t 63), none⟩,
 ⟨some 5, none, .mv (.t 64), none⟩])
 (.seq (.ops [⟨some 66, none, .bin .eql (.t 43) (.c (.int .i64 4)), none⟩,
 ⟨some 65, none, .mv (.t 66), none⟩])
 (.keep [1, 3, 4, 5, 39, 40, 65] (.cond (.t 65)
 (.ops [⟨some 67, none, .fld 0 (.t 1), none⟩,
 ⟨some 68, none, .load none (.t 67), none⟩,
 ⟨some 69, none, .bin .leq (.t 68) (.c (.int .i64 3)), none⟩,
 ⟨some 5, none, .mv (.t 69), none⟩])
 (.skip))))))))
def J_law22_LetterOdd_j4 : ACode :=
 .seq (.ops [⟨some 41, none, .bin .lss (.t 40) (.t 39), none⟩])
 (.keep [1, 3, 39, 40, 41] (.seq (.cond (.t 41)
 (.skip)
 (.exit 0))
 (.keep [1, 3, 39, 40] (.seq (.block 1 (.seq (.ops [⟨some 42, none, .mv (.t 40), none⟩,
 ⟨some 4, none, .mv (.t 42), none⟩])
 (.keep [1, 3, 4, 39, 40] (.seq (.ops [⟨some 5, none, .mv (.c (.bool false)), none⟩])
 (.keep [1, 3, 4, 5, 39, 40] (.seq (.seq (.ops [⟨some 43, none, .mv (.t 4), none⟩])
 (.keep [1, 3, 4, 5, 39, 40, 43] (.block 2 (.seq (.ops [⟨some 45, none, .bin .eql (.t 43) (.c (.int .i64 0)), none⟩,
 ⟨some 44, none, .mv (.t 45), none⟩])
 (.keep [1, 3, 4, 5, 39, 40, 43, 44] (.cond (.t 44)
 (.ops [⟨some 46, none, .fld 0 (.t 1), none⟩,
 ⟨some 47, none, .load none (.t 46), none⟩,
 ⟨some 48, none, .bin .eql (.t 47) (.c (.int .i64 4)), none⟩,
 ⟨some 5, none, .mv (.t 48), none⟩])
 (.seq (.seq (.ops [⟨some 50, none, .bin .eql (.t 43) (.c (.int .i64 1)), none⟩,
 ⟨some 49, none, .mv (.t 50), none⟩])
 (.keep [1, 3, 4, 5, 39, 40, 43, 49] (.cond (.t 49)
 (.skip)
 (.ops [⟨some 51, none, .bin .eql (.t 43) (.c (.int .i64 3)), none⟩,
 ⟨some 49, none, .mv (.t 51), none⟩]))))
 (J_law22_LetterOdd_j3))))))))
 (J_law22_LetterOdd_j2)))))))
 (.keep [1, 3, 39, 40] (.ops [⟨some 79, none, .bin .add (.t 40) (.c (.int .i64 1)), none⟩,
 ⟨some 40, none, .mv (.t 79), none⟩]))))))
def J_law22_LetterOdd : AFn :=
 ⟨80, [.t 2], .seq (.ops [⟨some 1, none, .box (.t 0) [], none⟩,
 ⟨some 2, none, .mv (.c (.bool false)), none⟩])
 (.keep [1] (.seq (.seq (.ops [⟨some 6, none, .call (.f 6) [], none⟩,
 ⟨some 7, none, .not (.t 6), none⟩])
 (.keep [1, 7] (.cond (.t 7)
 (.seq (.ops [⟨some 2, none, .mv (.c (.bool false)), none⟩])
 (.ret))
 (.skip))))
 (.keep [1] (.seq (.seq (.ops [⟨some 8, none, .load (some 12) (.t 1), none⟩,
 ⟨some 9, none, .call (.f 7) [(.t 8)], none⟩,
 ⟨some 10, none, .mv (.t 9), none⟩,
 ⟨some 11, (some (10, false)), .load (some 12) (.t 1), none⟩,
 ⟨some 12, (some (10, false)), .call (.f 12) [(.t 11)], none⟩,
 ⟨some 13, (some (10, false)), .not (.t 12), none⟩,
 ⟨some 14, none, .pick (.t 10) (.c (.bool true)) (.t 13), none⟩])
 (.keep [1, 14] (.cond (.t 14)
 (.seq (.ops [⟨some 2, none, .mv (.c (.bool true)), none⟩])
 (.ret))
 (.skip))))
 (.keep [1] (.seq (.ops [⟨some 15, none, .load (some 12) (.t 1), none⟩,
 ⟨some 16, none, .load (some 12) (.t 1), none⟩,
 ⟨some 17, none, .load (some 12) (.t 1), none⟩,
 ⟨some 18, none, .load (some 12) (.t 1), none⟩,
 ⟨some 19, none, .load (some 12) (.t 1), none⟩,
 ⟨some 20, none, .bsh 34 12 5 [(.int .i64 0), (.int .u16 0), (.int .i64 0), (.int .i64 0), (.int .i64 0), (.int .i64 0), (.int .i64 0), (.lst .clip 0 []), (.int .i64 0), (.int .i64 0), (.str ⟨#[]⟩), (.lst .clip 0 []), (.int .i64 0), (.int .u16 0), (.int .i64 0), (.int .i64 0), (.int .i64 0), (.int .i64 0), (.int .i64 0), (.lst .clip 0 []), (.int .i64 0), (.int .i64 0), (.str ⟨#[]⟩), (.lst .clip 0 []), (.int .i64 0), (.int .u16 0), (.int .i64 0), (.int .i64 0), (.int .i64 0), (.int .i64 0), (.int .i64 0), (.lst .clip 0 []), (.int .i64 0), (.int .i64 0), (.str ⟨#[]⟩), (.lst .clip 0 []), (.int .i64 0), (.int .u16 0), (.int .i64 0), (.int .i64 0), (.int .i64 0), (.int .i64 0), (.int .i64 0), (.lst .clip 0 []), (.int .i64 0), (.int .i64 0), (.str ⟨#[]⟩), (.lst .clip 0 []), (.int .i64 0), (.int .u16 0), (.int .i64 0), (.int .i64 0), (.int .i64 0), (.int .i64 0), (.int .i64 0), (.lst .clip 0 []), (.int .i64 0), (.int .i64 0), (.str ⟨#[]⟩), (.lst .clip 0 [])] [(0, 12, (.t 15)), (12, 12, (.t 16)), (24, 12, (.t 17)), (36, 12, (.t 18)), (48, 12, (.t 19))], none⟩,
 ⟨some 3, none, .mv (.t 20), none⟩])
 (.keep [1, 3] (.seq (.ops [⟨some 21, none, .mv (.t 3), none⟩,
 ⟨some 22, none, .bsl 23 1 1 [(.int .u16 0)] [(0, 1, (.c (.int .u16 8193)))], none⟩,
 ⟨some 23, none, .call (.f 14) [(.t 22)], none⟩,
 ⟨some 24, none, .idxa 12 (.t 21) (.c (.int .i64 0)), none⟩,
 ⟨some 25, none, .fld 10 (.t 24), none⟩,
 ⟨none, none, .store 1 (.t 25) (.t 23), none⟩])
 (.keep [1, 3] (.seq (.ops [⟨some 26, none, .mv (.t 3), none⟩,
 ⟨some 27, none, .idxa 12 (.t 26) (.c (.int .i64 1)), none⟩,
 ⟨some 28, none, .fld 9 (.t 27), none⟩,
 ⟨none, none, .store 1 (.t 28) (.c (.int .i64 7)), none⟩])
 (.keep [1, 3] (.seq (.ops [⟨some 29, none, .mv (.t 3), none⟩,
 ⟨some 30, none, .idxa 12 (.t 29) (.c (.int .i64 2)), none⟩,
 ⟨some 31, none, .fld 2 (.t 30), none⟩,
 ⟨none, none, .store 1 (.t 31) (.c (.int .i64 7)), none⟩])
 (.keep [1, 3] (.seq (.ops [⟨some 32, none, .mv (.t 3), none⟩,
 ⟨some 33, none, .idxa 12 (.t 32) (.c (.int .i64 3)), none⟩,
 ⟨some 34, none, .fld 8 (.t 33), none⟩,
 ⟨none, none, .store 1 (.t 34) (.c (.int .i64 7)), none⟩])
 (.keep [1, 3] (.seq (.ops [⟨some 35, none, .mv (.t 3), none⟩,
 ⟨some 36, none, .idxa 12 (.t 35) (.c (.int .i64 4)), none⟩,
 ⟨some 37, none, .fld 1 (.t 36), none⟩,
 ⟨none, none, .store 1 (.t 37) (.c (.int .u16 16390)), none⟩])
 (.keep [1, 3] (.seq (.seq (.ops [⟨some 38, none, .mv (.t 3), none⟩,
 ⟨some 39, none, .lenl (.t 38), none⟩,
 ⟨some 40, none, .mv (.c (.int .i64 0)), none⟩])
 (.keep [1, 3, 39, 40] (.block 0 (.loop [1, 3, 39, 40] (J_law22_LetterOdd_j4)))))
 (J_law22_LetterOdd_j1)))))))))))))))))))⟩
theorem J_law22_LetterOdd_ok : chkFn Try.prog 5 J_law22_LetterOdd = true := by kernel_rfl
def J_law22_awake : AFn :=
 ⟨97, [.t 0], .seq (.ops [⟨some 0, none, .mv (.c (.bool false)), none⟩])
 (.keep [] (.seq (.ops [⟨some 13, none, .build [(.int .i64 0), (.int .u16 0), (.int .i64 0), (.int .i64 0), (.int .i64 0), (.int .i64 0), (.int .i64 0), (.lst .clip 0 []), (.int .i64 0), (.int .i64 0), (.str ⟨#[]⟩), (.lst .clip 0 [])] [(0, 1, (.c (.int .i64 3))), (1, 1, (.c (.int .u16 16385))), (2, 1, (.c (.int .i64 3))), (9, 1, (.c (.int .i64 8)))], none⟩,
 ⟨some 1, none, .new [(.int .i64 0), (.int .u16 0), (.int .i64 0), (.int .i64 0), (.int .i64 0), (.int .i64 0), (.int .i64 0), (.lst .clip 0 []), (.int .i64 0), (.int .i64 0), (.str ⟨#[]⟩), (.lst .clip 0 [])] [], none⟩,
 ⟨none, none, .stores 12 (.t 1) (.t 13), none⟩])
 (.keep [1] (.seq (.ops [⟨some 15, none, .load (some 12) (.t 1), none⟩,
 ⟨some 16, none, .call (.f 8) [(.t 15)], none⟩,
 ⟨some 14, none, .mv (.t 16), none⟩,
 ⟨some 17, none, .ext 0 (.t 14), none⟩,
 ⟨some 18, none, .ext 1 (.t 14), none⟩,
 ⟨some 2, none, .mv (.t 17), none⟩,
 ⟨some 3, none, .mv (.t 18), none⟩])
 (.keep [1, 2, 3] (.seq (.ops [⟨some 20, none, .mv (.t 2), none⟩,
 ⟨some 21, none, .call (.f 9) [(.t 20)], none⟩,
 ⟨some 19, none, .mv (.t 21), none⟩,
 ⟨some 22, none, .ext 0 (.t 19), none⟩,
 ⟨some 23, none, .ext 1 (.t 19), none⟩,
 ⟨some 4, none, .new [(.int .i64 0), (.int .u16 0), (.int .i64 0), (.int .i64 0), (.int .i64 0), (.int .i64 0), (.int .i64 0), (.lst .clip 0 []), (.int .i64 0), (.int .i64 0), (.str ⟨#[]⟩), (.lst .clip 0 [])] [], none⟩,
 ⟨none, none, .stores 12 (.t 4) (.t 22), none⟩,
 ⟨some 5, none, .mv (.t 23), none⟩])
 (.keep [1, 2, 3, 4, 5] (.seq (.ops [⟨some 25, none, .load (some 12) (.t 1), none⟩,
 ⟨some 26, none, .call (.f 13) [(.t 25)], none⟩,
 ⟨some 24, none, .mv (.t 26), none⟩,
 ⟨some 27, none, .ext 0 (.t 24), none⟩,
 ⟨some 28, none, .ext 1 (.t 24), none⟩,
 ⟨some 6, none, .new [(.int .u16 0), (.int .i64 0), (.int .i64 0), (.str ⟨#[]⟩)] [], none⟩,
 ⟨none, none, .stores 4 (.t 6) (.t 27), none⟩,
 ⟨some 7, none, .mv (.t 28), none⟩])
 (.keep [1, 2, 3, 4, 5, 6, 7] (.seq (.ops [⟨some 30, none, .bsl 23 1 1 [(.int .u16 0)] [(0, 1, (.c (.int .u16 8193)))], none⟩,
 ⟨some 31, none, .call (.f 14) [(.t 30)], none⟩,
 ⟨some 32, none, .build [(.int .i64 0), (.int .u16 0), (.int .i64 0), (.int .i64 0), (.int .i64 0), (.int .i64 0), (.int .i64 0), (.lst .clip 0 []), (.int .i64 0), (.int .i64 0), (.str ⟨#[]⟩), (.lst .clip 0 [])] [(0, 1, (.c (.int .i64 4))), (10, 1, (.t 31))], none⟩,
 ⟨some 33, none, .call (.f 13) [(.t 32)], none⟩,
 ⟨some 29, none, .mv (.t 33), none⟩,
 ⟨some 34, none, .ext 0 (.t 29), none⟩,
 ⟨some 35, none, .ext 1 (.t 29), none⟩,
 ⟨some 8, none, .new [(.int .u16 0), (.int .i64 0), (.int .i64 0), (.str ⟨#[]⟩)] [], none⟩,
 ⟨none, none, .stores 4 (.t 8) (.t 34), none⟩,
 ⟨some 9, none, .mv (.t 35), none⟩])
 (.keep [1, 2, 3, 4, 5, 6, 7, 9] (.seq (.ops [⟨some 37, none, .mv (.t 2), none⟩,
 ⟨some 38, none, .bin .add (.t 37) (.c (.str ⟨#[63]⟩)), none⟩,
 ⟨some 39, none, .call (.f 9) [(.t 38)], none⟩,
 ⟨some 36, none, .mv (.t 39), none⟩,
 ⟨some 40, none, .ext 0 (.t 36), none⟩,
 ⟨some 41, none, .ext 1 (.t 36), none⟩,
 ⟨some 10, none, .new [(.int .i64 0), (.int .u16 0), (.int .i64 0), (.int .i64 0), (.int .i64 0), (.int .i64 0), (.int .i64 0), (.lst .clip 0 []), (.int .i64 0), (.int .i64 0), (.str ⟨#[]⟩), (.lst .clip 0 [])] [], none⟩,
 ⟨none, none, .stores 12 (.t 10) (.t 40), none⟩,
 ⟨some 11, none, .mv (.t 41), none⟩])
 (.keep [1, 2, 3, 4, 5, 6, 7, 9, 11] (.seq (.ops [⟨some 42, none, .load (some 12) (.t 1), none⟩,
 ⟨some 12, none, .new [(.int .i64 0), (.int .u16 0), (.int .i64 0), (.int .i64 0), (.int .i64 0), (.int .i64 0), (.int .i64 0), (.lst .clip 0 []), (.int .i64 0), (.int .i64 0), (.str ⟨#[]⟩), (.lst .clip 0 [])] [], none⟩,
 ⟨none, none, .store 12 (.t 12) (.t 42), none⟩])
 (.keep [1, 2, 3, 4, 5, 6, 7, 9, 11, 12] (.seq (.ops [⟨some 43, none, .fld 10 (.t 12), none⟩,
 ⟨none, none, .store 1 (.t 43) (.c (.str ⟨#[120]⟩)), none⟩])
 (.keep [1, 2, 3, 4, 5, 6, 7, 9, 11, 12] (.seq (.ops [⟨some 44, none, .mv (.t 2), none⟩,
 ⟨some 45, none, .bin .eql (.t 44) (.c (.str ⟨#[3, 129, 128, 1, 3, 0, 8]⟩)), none⟩,
 ⟨some 46, none, .mv (.t 45), none⟩,
 ⟨some 47, (some (46, true)), .mv (.t 3), none⟩,
 ⟨some 48, (some (46, true)), .bin .eql (.t 47) (.c (.int .i64 0)), none⟩,
 ⟨some 49, none, .pick (.t 46) (.t 48) (.c (.bool false)), none⟩,
 ⟨some 50, none, .mv (.t 49), none⟩,
 ⟨some 51, (some (50, true)), .load (some 12) (.t 1), none⟩,
 ⟨some 52, (some (50, true)), .load (some 12) (.t 4), none⟩,
 ⟨some 53, (some (50, true)), .call (.f 10) [(.t 51), (.t 52)], none⟩,
 ⟨some 54, none, .pick (.t 50) (.t 53) (.c (.bool false)), none⟩,
 ⟨some 55, none, .mv (.t 54), none⟩,
 ⟨some 56, (some (55, true)), .load (some 12) (.t 1), none⟩,
 ⟨some 57, (some (55, true)), .load (some 12) (.t 12), none⟩,
 ⟨some 58, (some (55, true)), .call (.f 10) [(.t 56), (.t 57)], none⟩,
 ⟨some 59, (some (55, true)), .not (.t 58), none⟩,
 ⟨some 60, none, .pick (.t 55) (.t 59) (.c (.bool false)), none⟩,
 ⟨some 61, none, .mv (.t 60), none⟩,
 ⟨some 62, (some (61, true)), .mv (.t 5), none⟩,
 ⟨some 63, (some (61, true)), .bin .eql (.t 62) (.c (.int .i64 0)), none⟩,
 ⟨some 64, none, .pick (.t 61) (.t 63) (.c (.bool false)), none⟩,
 ⟨some 65, none, .mv (.t 64), none⟩,
 ⟨some 66, (some (65, true)), .load (some 4) (.t 6), none⟩,
 ⟨some 67, (some (65, true)), .mv (.t 2), none⟩,
 ⟨some 68, (some (65, true)), .build [(.int .u16 0), (.int .i64 0), (.int .i64 0), (.str ⟨#[]⟩)] [(0, 1, (.c (.int .u16 16385))), (1, 1, (.c (.int .i64 1))), (2, 1, (.c (.int .i64 3))), (3, 1, (.t 67))], none⟩,
 ⟨some 69, (some (65, true)), .ex (.aeq false [0, 0, 0, 1]) [(.t 66), (.t 68)], none⟩,
 ⟨some 70, none, .pick (.t 65) (.t 69) (.c (.bool false)), none⟩,
 ⟨some 71, none, .mv (.t 70), none⟩,
 ⟨some 72, (some (71, true)), .mv (.t 7), none⟩,
 ⟨some 73, (some (71, true)), .bin .eql (.t 72) (.c (.int .i64 0)), none⟩,
 ⟨some 74, none, .pick (.t 71) (.t 73) (.c (.bool false)), none⟩,
 ⟨some 75, none, .mv (.t 74), none⟩,
 ⟨some 76, (some (75, true)), .mv (.t 9), none⟩,
 ⟨some 77, (some (75, true)), .bin .eql (.t 76) (.c (.int .i64 1)), none⟩,
 ⟨some 78, none, .pick (.t 75) (.t 77) (.c (.bool false)), none⟩,
 ⟨some 79, none, .mv (.t 78), none⟩,
 ⟨some 80, (some (79, true)), .mv (.t 11), none⟩,
 ⟨some 81, (some (79, true)), .bin .eql (.t 80) (.c (.int .i64 2)), none⟩,
 ⟨some 82, none, .pick (.t 79) (.t 81) (.c (.bool false)), none⟩,
 ⟨some 83, none, .mv (.t 82), none⟩,
 ⟨some 84, (some (83, true)), .load (some 12) (.t 1), none⟩,
 ⟨some 85, (some (83, true)), .call (.f 12) [(.t 84)], none⟩,
 ⟨some 86, none, .pick (.t 83) (.t 85) (.c (.bool false)), none⟩,
 ⟨some 87, none, .mv (.t 86), none⟩,
 ⟨some 88, (some (87, true)), .load (some 12) (.t 12), none⟩,
 ⟨some 89, (some (87, true)), .call (.f 12) [(.t 88)], none⟩,
 ⟨some 90, (some (87, true)), .not (.t 89), none⟩,
 ⟨some 91, none, .pick (.t 87) (.t 90) (.c (.bool false)), none⟩,
 ⟨some 92, none, .mv (.t 91), none⟩,
 ⟨some 93, (some (92, true)), .build [(.int .i64 0), (.int .u16 0), (.int .i64 0), (.int .i64 0), (.int .i64 0), (.int .i64 0), (.int .i64 0), (.lst .clip 0 []), (.int .i64 0), (.int .i64 0), (.str ⟨#[]⟩), (.lst .clip 0 [])] [], none⟩,
 ⟨some 94, (some (92, true)), .call (.f 12) [(.t 93)], none⟩,
 ⟨some 95, (some (92, true)), .not (.t 94), none⟩,
 ⟨some 96, none, .pick (.t 92) (.t 95) (.c (.bool false)), none⟩,
 ⟨some 0, none, .mv (.t 96), none⟩])
 (.ret)))))))))))))))))))⟩
theorem J_law22_awake_ok : chkFn Try.prog 6 J_law22_awake = true := by kernel_rfl
def J_law22_large_j1 : ACode :=
 .keep [] (.seq (.ops [⟨some 2, none, .mv (.c (.bool false)), none⟩])
 (.ret))
def J_law22_large_j2 : ACode :=
 .seq (.ops [⟨some 64, none, .bin .lss (.t 63) (.t 62), none⟩])
 (.keep [3, 62, 63, 64] (.seq (.cond (.t 64)
 (.skip)
 (.exit 2))
 (.keep [3, 62, 63] (.seq (.block 3 (.seq (.ops [⟨some 65, none, .mv (.t 63), none⟩,
 ⟨some 5, none, .mv (.t 65), none⟩])
 (.keep [3, 5, 62, 63] (.seq (.ops [⟨some 66, none, .mv (.t 3), none⟩,
 ⟨some 67, none, .mv (.t 5), none⟩,
 ⟨some 68, none, .idxa 1 (.t 66) (.t 67), none⟩,
 ⟨some 69, none, .load none (.t 68), none⟩,
 ⟨some 70, none, .lens (.t 69), none⟩,
 ⟨some 71, none, .bin .gtr (.t 70) (.c (.int .i64 100)), none⟩])
 (.keep [3, 62, 63, 71] (.cond (.t 71)
 (.seq (.ops [⟨some 2, none, .mv (.c (.bool true)), none⟩])
 (.ret))
 (.skip)))))))
 (.keep [3, 62, 63] (.ops [⟨some 72, none, .bin .add (.t 63) (.c (.int .i64 1)), none⟩,
 ⟨some 63, none, .mv (.t 72), none⟩]))))))
def J_law22_large_j3 : ACode :=
 .keep [3] (.seq (.seq (.ops [⟨some 61, none, .mv (.t 3), none⟩,
 ⟨some 62, none, .lenl (.t 61), none⟩,
 ⟨some 63, none, .mv (.c (.int .i64 0)), none⟩])
 (.keep [3, 62, 63] (.block 2 (.loop [3, 62, 63] (J_law22_large_j2)))))
 (J_law22_large_j1))
def J_law22_large_j4 : ACode :=
 .seq (.ops [⟨some 34, none, .bin .lss (.t 33) (.t 32), none⟩])
 (.keep [1, 3, 32, 33, 34] (.seq (.cond (.t 34)
 (.skip)
 (.exit 0))
 (.keep [1, 3, 32, 33] (.seq (.block 1 (.seq (.ops [⟨some 35, none, .mv (.t 33), none⟩,
 ⟨some 4, none, .mv (.t 35), none⟩])
 (.keep [1, 3, 4, 32, 33] (.seq (.seq (.ops [⟨some 36, none, .fld 11 (.t 1), none⟩,
 ⟨some 37, none, .load none (.t 36), none⟩,
 ⟨some 38, none, .mv (.t 4), none⟩,
 ⟨some 39, none, .idxa 7 (.t 37) (.t 38), none⟩,
 ⟨some 40, none, .fld 3 (.t 39), none⟩,
 ⟨some 41, none, .load none (.t 40), none⟩,
 ⟨some 42, none, .lenl (.t 41), none⟩,
 ⟨some 43, none, .bin .gtr (.t 42) (.c (.int .i64 30)), none⟩])
 (.keep [1, 3, 4, 32, 33, 43] (.cond (.t 43)
 (.seq (.ops [⟨some 2, none, .mv (.c (.bool true)), none⟩])
 (.ret))
 (.skip))))
 (.keep [1, 3, 4, 32, 33] (.draw [1, 3, 32, 33] [⟨some 44, none, .mvo 3, none⟩,
 ⟨some 45, none, .fld 11 (.t 1), none⟩,
 ⟨some 46, none, .load none (.t 45), none⟩,
 ⟨some 47, none, .mv (.t 4), none⟩,
 ⟨some 48, none, .idxa 7 (.t 46) (.t 47), none⟩,
 ⟨some 49, none, .fld 2 (.t 48), none⟩,
 ⟨some 50, none, .load none (.t 49), none⟩,
 ⟨some 51, none, .bsl 31 1 1 [(.str ⟨#[]⟩)] [(0, 1, (.t 50))], none⟩,
 ⟨some 52, none, .appo 31 1 16 44 (.t 51), none⟩,
 ⟨some 53, none, .fld 11 (.t 1), none⟩,
 ⟨some 54, none, .load none (.t 53), none⟩,
 ⟨some 55, none, .mv (.t 4), none⟩,
 ⟨some 56, none, .idxa 7 (.t 54) (.t 55), none⟩,
 ⟨some 57, none, .fld 3 (.t 56), none⟩,
 ⟨some 58, none, .load none (.t 57), none⟩,
 ⟨some 59, none, .appo 31 1 16 52 (.t 58), none⟩,
 ⟨some 3, none, .mvo 59, none⟩]))))))
 (.keep [1, 3, 32, 33] (.ops [⟨some 60, none, .bin .add (.t 33) (.c (.int .i64 1)), none⟩,
 ⟨some 33, none, .mv (.t 60), none⟩]))))))
def J_law22_large : AFn :=
 ⟨73, [.t 2], .seq (.ops [⟨some 1, none, .box (.t 0) [], none⟩,
 ⟨some 2, none, .mv (.c (.bool false)), none⟩])
 (.keep [1] (.seq (.seq (.ops [⟨some 6, none, .fld 10 (.t 1), none⟩,
 ⟨some 7, none, .load none (.t 6), none⟩,
 ⟨some 8, none, .lens (.t 7), none⟩,
 ⟨some 9, none, .bin .gtr (.t 8) (.c (.int .i64 100)), none⟩,
 ⟨some 10, none, .mv (.t 9), none⟩,
 ⟨some 11, (some (10, false)), .fld 3 (.t 1), none⟩,
 ⟨some 12, (some (10, false)), .fld 3 (.t 11), none⟩,
 ⟨some 13, (some (10, false)), .fld 1 (.t 12), none⟩,
 ⟨some 14, (some (10, false)), .load none (.t 13), none⟩,
 ⟨some 15, (some (10, false)), .lenl (.t 14), none⟩,
 ⟨some 16, (some (10, false)), .bin .gtr (.t 15) (.c (.int .i64 30)), none⟩,
 ⟨some 17, none, .pick (.t 10) (.c (.bool true)) (.t 16), none⟩,
 ⟨some 18, none, .mv (.t 17), none⟩,
 ⟨some 19, (some (18, false)), .fld 11 (.t 1), none⟩,
 ⟨some 20, (some (18, false)), .load none (.t 19), none⟩,
 ⟨some 21, (some (18, false)), .lenl (.t 20), none⟩,
 ⟨some 22, (some (18, false)), .bin .gtr (.t 21) (.c (.int .i64 12)), none⟩,
 ⟨some 23, none, .pick (.t 18) (.c (.bool true)) (.t 22), none⟩])
 (.keep [1, 23] (.cond (.t 23)
 (.seq (.ops [⟨some 2, none, .mv (.c (.bool true)), none⟩])
 (.ret))
 (.skip))))
 (.keep [1] (.seq (.ops [⟨some 24, none, .bsl 31 1 0 [] [], none⟩,
 ⟨some 25, none, .fld 3 (.t 1), none⟩,
 ⟨some 26, none, .fld 3 (.t 25), none⟩,
 ⟨some 27, none, .fld 1 (.t 26), none⟩,
 ⟨some 28, none, .load none (.t 27), none⟩,
 ⟨some 29, none, .appo 31 1 16 24 (.t 28), none⟩,
 ⟨some 3, none, .mvo 29, none⟩])
 (.keep [1, 3] (.seq (.seq (.ops [⟨some 30, none, .fld 11 (.t 1), none⟩,
 ⟨some 31, none, .load none (.t 30), none⟩,
 ⟨some 32, none, .lenl (.t 31), none⟩,
 ⟨some 33, none, .mv (.c (.int .i64 0)), none⟩])
 (.keep [1, 3, 32, 33] (.block 0 (.loop [1, 3, 32, 33] (J_law22_large_j4)))))
 (J_law22_large_j3)))))))⟩
theorem J_law22_large_ok : chkFn Try.prog 7 J_law22_large = true := by kernel_rfl
def J_letter_Encode : AFn :=
 ⟨25, [.t 2, .t 3], .seq (.ops [⟨some 1, none, .box (.t 0) [], none⟩,
 ⟨some 2, none, .mv (.c (.str ⟨#[]⟩)), none⟩,
 ⟨some 3, none, .mv (.c (.int .i64 0)), none⟩])
 (.keep [1] (.seq (.seq (.ops [⟨some 7, none, .load (some 12) (.t 1), none⟩,
 ⟨some 8, none, .call (.f 15) [(.t 7)], none⟩,
 ⟨some 9, none, .not (.t 8), none⟩])
 (.keep [1, 9] (.cond (.t 9)
 (.seq (.ops [⟨some 2, none, .mv (.c (.str ⟨#[]⟩)), none⟩,
 ⟨some 3, none, .mv (.c (.int .i64 2)), none⟩])
 (.ret))
 (.skip))))
 (.keep [1] (.seq (.ops [⟨some 4, none, .new [(.int .i64 0), (.lst .clip 0 [])] [(1, 5, 1)], none⟩])
 (.keep [1, 4] (.seq (.ops [⟨some 10, none, .ex (.mkb 17) [(.t 4)], none⟩,
 ⟨some 11, none, .load (some 12) (.t 1), none⟩,
 ⟨some 12, none, .call (.f 16) [(.t 4), (.t 10), (.t 11)], none⟩])
 (.keep [4] (.seq (.ops [⟨some 14, none, .call (.f 18) [(.t 4)], none⟩,
 ⟨some 13, none, .mv (.t 14), none⟩,
 ⟨some 15, none, .ext 0 (.t 13), none⟩,
 ⟨some 16, none, .ext 1 (.t 13), none⟩,
 ⟨some 5, none, .mv (.t 15), none⟩,
 ⟨some 6, none, .mv (.t 16), none⟩])
 (.keep [5, 6] (.seq (.seq (.ops [⟨some 17, none, .mv (.t 6), none⟩,
 ⟨some 18, none, .bin .neq (.t 17) (.c (.int .i64 0)), none⟩,
 ⟨some 19, none, .mv (.t 18), none⟩,
 ⟨some 20, (some (19, false)), .mv (.t 5), none⟩,
 ⟨some 21, (some (19, false)), .lens (.t 20), none⟩,
 ⟨some 22, (some (19, false)), .bin .gtr (.t 21) (.c (.int .i64 4000)), none⟩,
 ⟨some 23, none, .pick (.t 19) (.c (.bool true)) (.t 22), none⟩])
 (.keep [5, 23] (.cond (.t 23)
 (.seq (.ops [⟨some 2, none, .mv (.c (.str ⟨#[]⟩)), none⟩,
 ⟨some 3, none, .mv (.c (.int .i64 2)), none⟩])
 (.ret))
 (.skip))))
 (.keep [5] (.seq (.ops [⟨some 24, none, .mv (.t 5), none⟩,
 ⟨some 2, none, .mv (.t 24), none⟩,
 ⟨some 3, none, .mv (.c (.int .i64 0)), none⟩])
 (.ret)))))))))))))⟩
theorem J_letter_Encode_ok : chkFn Try.prog 8 J_letter_Encode = true := by kernel_rfl
def J_letter_Decode : AFn :=
 ⟨34, [.c 2 (some 12), .t 3], .seq (.ops [⟨some 2, none, .new [(.int .i64 0), (.int .u16 0), (.int .i64 0), (.int .i64 0), (.int .i64 0), (.int .i64 0), (.int .i64 0), (.lst .clip 0 []), (.int .i64 0), (.int .i64 0), (.str ⟨#[]⟩), (.lst .clip 0 [])] [], none⟩,
 ⟨some 3, none, .mv (.c (.int .i64 0)), none⟩])
 (.keep [0, 2] (.seq (.seq (.ops [⟨some 7, none, .mv (.t 0), none⟩,
 ⟨some 8, none, .lens (.t 7), none⟩,
 ⟨some 9, none, .bin .gtr (.t 8) (.c (.int .i64 4000)), none⟩])
 (.keep [0, 2, 9] (.cond (.t 9)
 (.seq (.ops [⟨some 10, none, .build [(.int .i64 0), (.int .u16 0), (.int .i64 0), (.int .i64 0), (.int .i64 0), (.int .i64 0), (.int .i64 0), (.lst .clip 0 []), (.int .i64 0), (.int .i64 0), (.str ⟨#[]⟩), (.lst .clip 0 [])] [], none⟩,
 ⟨none, none, .store 12 (.t 2) (.t 10), none⟩,
 ⟨some 3, none, .mv (.c (.int .i64 2)), none⟩])
 (.ret))
 (.skip))))
 (.keep [0, 2] (.seq (.ops [⟨some 11, none, .mv (.t 0), none⟩,
 ⟨some 12, none, .call (.f 19) [(.t 11)], none⟩,
 ⟨some 4, none, .mv (.t 12), none⟩])
 (.keep [2, 4] (.seq (.ops [⟨some 14, none, .mv (.t 4), none⟩,
 ⟨some 15, none, .mv (.t 4), none⟩,
 ⟨some 16, none, .ex (.mkb 21) [(.t 15)], none⟩,
 ⟨some 17, none, .call (.f 20) [(.t 14), (.t 16)], none⟩,
 ⟨some 13, none, .mv (.t 17), none⟩,
 ⟨some 18, none, .ext 0 (.t 13), none⟩,
 ⟨some 19, none, .ext 1 (.t 13), none⟩,
 ⟨some 5, none, .new [(.int .i64 0), (.int .u16 0), (.int .i64 0), (.int .i64 0), (.int .i64 0), (.int .i64 0), (.int .i64 0), (.lst .clip 0 []), (.int .i64 0), (.int .i64 0), (.str ⟨#[]⟩), (.lst .clip 0 [])] [], none⟩,
 ⟨none, none, .stores 12 (.t 5) (.t 18), none⟩,
 ⟨some 6, none, .mv (.t 19), none⟩])
 (.keep [2, 4, 5, 6] (.seq (.seq (.ops [⟨some 20, none, .mv (.t 6), none⟩,
 ⟨some 21, none, .not (.t 20), none⟩,
 ⟨some 22, none, .mv (.t 21), none⟩,
 ⟨some 23, (some (22, false)), .mv (.t 4), none⟩,
 ⟨some 24, (some (22, false)), .call (.f 22) [(.t 23)], none⟩,
 ⟨some 25, (some (22, false)), .bin .neq (.t 24) (.c (.int .i64 0)), none⟩,
 ⟨some 26, none, .pick (.t 22) (.c (.bool true)) (.t 25), none⟩,
 ⟨some 27, none, .mv (.t 26), none⟩,
 ⟨some 28, (some (27, false)), .load (some 12) (.t 5), none⟩,
 ⟨some 29, (some (27, false)), .call (.f 12) [(.t 28)], none⟩,
 ⟨some 30, (some (27, false)), .not (.t 29), none⟩,
 ⟨some 31, none, .pick (.t 27) (.c (.bool true)) (.t 30), none⟩])
 (.keep [2, 5, 31] (.cond (.t 31)
 (.seq (.ops [⟨some 32, none, .build [(.int .i64 0), (.int .u16 0), (.int .i64 0), (.int .i64 0), (.int .i64 0), (.int .i64 0), (.int .i64 0), (.lst .clip 0 []), (.int .i64 0), (.int .i64 0), (.str ⟨#[]⟩), (.lst .clip 0 [])] [], none⟩,
 ⟨none, none, .store 12 (.t 2) (.t 32), none⟩,
 ⟨some 3, none, .mv (.c (.int .i64 2)), none⟩])
 (.ret))
 (.skip))))
 (.keep [2, 5] (.seq (.ops [⟨some 33, none, .load (some 12) (.t 5), none⟩,
 ⟨none, none, .store 12 (.t 2) (.t 33), none⟩,
 ⟨some 3, none, .mv (.c (.int .i64 0)), none⟩])
 (.ret)))))))))))⟩
theorem J_letter_Decode_ok : chkFn Try.prog 9 J_letter_Decode = true := by kernel_rfl
def J_letter_Same : AFn :=
 ⟨59, [.t 4], .seq (.ops [⟨some 2, none, .box (.t 0) [], none⟩,
 ⟨some 3, none, .box (.t 1) [], none⟩,
 ⟨some 4, none, .mv (.c (.bool false)), none⟩])
 (.keep [2, 3] (.seq (.ops [⟨some 5, none, .fld 0 (.t 2), none⟩,
 ⟨some 6, none, .load none (.t 5), none⟩,
 ⟨some 7, none, .fld 0 (.t 3), none⟩,
 ⟨some 8, none, .load none (.t 7), none⟩,
 ⟨some 9, none, .bin .eql (.t 6) (.t 8), none⟩,
 ⟨some 10, none, .mv (.t 9), none⟩,
 ⟨some 11, (some (10, true)), .fld 1 (.t 2), none⟩,
 ⟨some 12, (some (10, true)), .load none (.t 11), none⟩,
 ⟨some 13, (some (10, true)), .fld 1 (.t 3), none⟩,
 ⟨some 14, (some (10, true)), .load none (.t 13), none⟩,
 ⟨some 15, (some (10, true)), .bin .eql (.t 12) (.t 14), none⟩,
 ⟨some 16, none, .pick (.t 10) (.t 15) (.c (.bool false)), none⟩,
 ⟨some 17, none, .mv (.t 16), none⟩,
 ⟨some 18, (some (17, true)), .fld 2 (.t 2), none⟩,
 ⟨some 19, (some (17, true)), .load none (.t 18), none⟩,
 ⟨some 20, (some (17, true)), .fld 2 (.t 3), none⟩,
 ⟨some 21, (some (17, true)), .load none (.t 20), none⟩,
 ⟨some 22, (some (17, true)), .bin .eql (.t 19) (.t 21), none⟩,
 ⟨some 23, none, .pick (.t 17) (.t 22) (.c (.bool false)), none⟩,
 ⟨some 24, none, .mv (.t 23), none⟩,
 ⟨some 25, (some (24, true)), .fld 8 (.t 2), none⟩,
 ⟨some 26, (some (24, true)), .load none (.t 25), none⟩,
 ⟨some 27, (some (24, true)), .fld 8 (.t 3), none⟩,
 ⟨some 28, (some (24, true)), .load none (.t 27), none⟩,
 ⟨some 29, (some (24, true)), .bin .eql (.t 26) (.t 28), none⟩,
 ⟨some 30, none, .pick (.t 24) (.t 29) (.c (.bool false)), none⟩,
 ⟨some 31, none, .mv (.t 30), none⟩,
 ⟨some 32, (some (31, true)), .fld 9 (.t 2), none⟩,
 ⟨some 33, (some (31, true)), .load none (.t 32), none⟩,
 ⟨some 34, (some (31, true)), .fld 9 (.t 3), none⟩,
 ⟨some 35, (some (31, true)), .load none (.t 34), none⟩,
 ⟨some 36, (some (31, true)), .bin .eql (.t 33) (.t 35), none⟩,
 ⟨some 37, none, .pick (.t 31) (.t 36) (.c (.bool false)), none⟩,
 ⟨some 38, none, .mv (.t 37), none⟩,
 ⟨some 39, (some (38, true)), .fld 10 (.t 2), none⟩,
 ⟨some 40, (some (38, true)), .load none (.t 39), none⟩,
 ⟨some 41, (some (38, true)), .fld 10 (.t 3), none⟩,
 ⟨some 42, (some (38, true)), .load none (.t 41), none⟩,
 ⟨some 43, (some (38, true)), .bin .eql (.t 40) (.t 42), none⟩,
 ⟨some 44, none, .pick (.t 38) (.t 43) (.c (.bool false)), none⟩,
 ⟨some 45, none, .mv (.t 44), none⟩,
 ⟨some 46, (some (45, true)), .fld 3 (.t 2), none⟩,
 ⟨some 47, (some (45, true)), .load (some 5) (.t 46), none⟩,
 ⟨some 48, (some (45, true)), .fld 3 (.t 3), none⟩,
 ⟨some 49, (some (45, true)), .load (some 5) (.t 48), none⟩,
 ⟨some 50, (some (45, true)), .call (.f 23) [(.t 47), (.t 49)], none⟩,
 ⟨some 51, none, .pick (.t 45) (.t 50) (.c (.bool false)), none⟩,
 ⟨some 52, none, .mv (.t 51), none⟩,
 ⟨some 53, (some (52, true)), .fld 11 (.t 2), none⟩,
 ⟨some 54, (some (52, true)), .load none (.t 53), none⟩,
 ⟨some 55, (some (52, true)), .fld 11 (.t 3), none⟩,
 ⟨some 56, (some (52, true)), .load none (.t 55), none⟩,
 ⟨some 57, (some (52, true)), .call (.f 24) [(.t 54), (.t 56), (.f 25)], none⟩,
 ⟨some 58, none, .pick (.t 52) (.t 57) (.c (.bool false)), none⟩,
 ⟨some 4, none, .mv (.t 58), none⟩])
 (.ret)))⟩
theorem J_letter_Same_ok : chkFn Try.prog 10 J_letter_Same = true := by kernel_rfl
def J_letter_May : AFn :=
 ⟨12, [.t 2], .seq (.ops [⟨some 1, none, .box (.t 0) [], none⟩,
 ⟨some 2, none, .mv (.c (.bool false)), none⟩])
 (.keep [1] (.seq (.ops [⟨some 6, none, .load (some 12) (.t 1), none⟩,
 ⟨some 7, none, .call (.f 8) [(.t 6)], none⟩,
 ⟨some 5, none, .mv (.t 7), none⟩,
 ⟨some 8, none, .ext 0 (.t 5), none⟩,
 ⟨some 9, none, .ext 1 (.t 5), none⟩,
 ⟨some 3, none, .mv (.t 8), none⟩,
 ⟨some 4, none, .mv (.t 9), none⟩])
 (.keep [4] (.seq (.ops [⟨some 10, none, .mv (.t 4), none⟩,
 ⟨some 11, none, .bin .eql (.t 10) (.c (.int .i64 0)), none⟩,
 ⟨some 2, none, .mv (.t 11), none⟩])
 (.ret)))))⟩
theorem J_letter_May_ok : chkFn Try.prog 12 J_letter_May = true := by kernel_rfl
def J_letter_Mac_j1 : ACode :=
 .keep [1, 2, 4, 6] (.seq (.ops [⟨some 28, none, .fld 1 (.t 1), none⟩,
 ⟨some 29, none, .load none (.t 28), none⟩,
 ⟨some 30, none, .mv (.t 6), none⟩,
 ⟨some 31, none, .fld 2 (.t 1), none⟩,
 ⟨some 32, none, .load none (.t 31), none⟩,
 ⟨some 33, none, .mv (.t 4), none⟩,
 ⟨some 34, none, .build [(.int .u16 0), (.int .i64 0), (.int .i64 0), (.str ⟨#[]⟩)] [(0, 1, (.t 29)), (1, 1, (.t 30)), (2, 1, (.t 32)), (3, 1, (.t 33))], none⟩,
 ⟨none, none, .store 4 (.t 2) (.t 34), none⟩,
 ⟨some 3, none, .mv (.c (.int .i64 0)), none⟩])
 (.ret))
def J_letter_Mac : AFn :=
 ⟨35, [.c 2 (some 4), .t 3], .seq (.ops [⟨some 1, none, .box (.t 0) [], none⟩,
 ⟨some 2, none, .new [(.int .u16 0), (.int .i64 0), (.int .i64 0), (.str ⟨#[]⟩)] [], none⟩,
 ⟨some 3, none, .mv (.c (.int .i64 0)), none⟩])
 (.keep [1, 2] (.seq (.seq (.ops [⟨some 7, none, .fld 0 (.t 1), none⟩,
 ⟨some 8, none, .load none (.t 7), none⟩,
 ⟨some 9, none, .bin .neq (.t 8) (.c (.int .i64 2)), none⟩,
 ⟨some 10, none, .mv (.t 9), none⟩,
 ⟨some 11, (some (10, true)), .fld 0 (.t 1), none⟩,
 ⟨some 12, (some (10, true)), .load none (.t 11), none⟩,
 ⟨some 13, (some (10, true)), .bin .neq (.t 12) (.c (.int .i64 3)), none⟩,
 ⟨some 14, none, .pick (.t 10) (.t 13) (.c (.bool false)), none⟩])
 (.keep [1, 2, 14] (.cond (.t 14)
 (.seq (.ops [⟨some 15, none, .build [(.int .u16 0), (.int .i64 0), (.int .i64 0), (.str ⟨#[]⟩)] [], none⟩,
 ⟨none, none, .store 4 (.t 2) (.t 15), none⟩,
 ⟨some 3, none, .mv (.c (.int .i64 1)), none⟩])
 (.ret))
 (.skip))))
 (.keep [1, 2] (.seq (.ops [⟨some 17, none, .load (some 12) (.t 1), none⟩,
 ⟨some 18, none, .call (.f 8) [(.t 17)], none⟩,
 ⟨some 16, none, .mv (.t 18), none⟩,
 ⟨some 19, none, .ext 0 (.t 16), none⟩,
 ⟨some 20, none, .ext 1 (.t 16), none⟩,
 ⟨some 4, none, .mv (.t 19), none⟩,
 ⟨some 5, none, .mv (.t 20), none⟩])
 (.keep [1, 2, 4, 5] (.seq (.seq (.ops [⟨some 21, none, .mv (.t 5), none⟩,
 ⟨some 22, none, .bin .neq (.t 21) (.c (.int .i64 0)), none⟩])
 (.keep [1, 2, 4, 5, 22] (.cond (.t 22)
 (.seq (.ops [⟨some 23, none, .build [(.int .u16 0), (.int .i64 0), (.int .i64 0), (.str ⟨#[]⟩)] [], none⟩,
 ⟨some 24, none, .mv (.t 5), none⟩,
 ⟨none, none, .store 4 (.t 2) (.t 23), none⟩,
 ⟨some 3, none, .mv (.t 24), none⟩])
 (.ret))
 (.skip))))
 (.keep [1, 2, 4] (.seq (.ops [⟨some 6, none, .mv (.c (.int .i64 0)), none⟩])
 (.keep [1, 2, 4, 6] (.seq (.seq (.ops [⟨some 25, none, .fld 0 (.t 1), none⟩,
 ⟨some 26, none, .load none (.t 25), none⟩,
 ⟨some 27, none, .bin .eql (.t 26) (.c (.int .i64 3)), none⟩])
 (.keep [1, 2, 4, 6, 27] (.cond (.t 27)
 (.ops [⟨some 6, none, .mv (.c (.int .i64 1)), none⟩])
 (.skip))))
 (J_letter_Mac_j1)))))))))))⟩
theorem J_letter_Mac_ok : chkFn Try.prog 13 J_letter_Mac = true := by kernel_rfl
def J_letter_right : AFn :=
 ⟨99, [.t 2], .seq (.ops [⟨some 1, none, .box (.t 0) [], none⟩,
 ⟨some 2, none, .mv (.c (.bool false)), none⟩])
 (.keep [1] (.seq (.ops [⟨some 4, none, .load (some 12) (.t 1), none⟩,
 ⟨some 3, none, .new [(.int .i64 0), (.int .u16 0), (.int .i64 0), (.int .i64 0), (.int .i64 0), (.int .i64 0), (.int .i64 0), (.lst .clip 0 []), (.int .i64 0), (.int .i64 0), (.str ⟨#[]⟩), (.lst .clip 0 [])] [], none⟩,
 ⟨none, none, .store 12 (.t 3) (.t 4), none⟩])
 (.keep [1, 3] (.seq (.seq (.ops [⟨some 5, none, .fld 0 (.t 1), none⟩,
 ⟨some 6, none, .load none (.t 5), none⟩])
 (.keep [1, 3, 6] (.block 0 (.seq (.ops [⟨some 8, none, .bin .eql (.t 6) (.c (.int .i64 1)), none⟩,
 ⟨some 7, none, .mv (.t 8), none⟩])
 (.keep [1, 3, 6, 7] (.cond (.t 7)
 (.seq (.ops [⟨some 9, none, .fld 1 (.t 3), none⟩,
 ⟨none, none, .store 1 (.t 9) (.c (.int .u16 0)), none⟩,
 ⟨some 10, none, .fld 11 (.t 3), none⟩,
 ⟨none, none, .store 1 (.t 10) (.c (.lst .clip 0 [])), none⟩])
 (.keep [1, 3] (.seq (.ops [⟨some 11, none, .fld 1 (.t 1), none⟩,
 ⟨some 12, none, .load none (.t 11), none⟩,
 ⟨some 13, none, .call (.f 28) [(.t 12)], none⟩,
 ⟨some 14, none, .mv (.t 13), none⟩,
 ⟨some 15, (some (14, true)), .fld 11 (.t 1), none⟩,
 ⟨some 16, (some (14, true)), .load none (.t 15), none⟩,
 ⟨some 17, (some (14, true)), .call (.f 29) [(.t 16)], none⟩,
 ⟨some 18, none, .pick (.t 14) (.t 17) (.c (.bool false)), none⟩,
 ⟨some 19, none, .mv (.t 18), none⟩,
 ⟨some 20, (some (19, true)), .load (some 12) (.t 3), none⟩,
 ⟨some 21, (some (19, true)), .call (.f 30) [(.t 20)], none⟩,
 ⟨some 22, none, .pick (.t 19) (.t 21) (.c (.bool false)), none⟩,
 ⟨some 2, none, .mv (.t 22), none⟩])
 (.ret))))
 (.seq (.ops [⟨some 24, none, .bin .eql (.t 6) (.c (.int .i64 2)), none⟩,
 ⟨some 23, none, .mv (.t 24), none⟩])
 (.keep [1, 3, 6, 23] (.cond (.t 23)
 (.seq (.ops [⟨some 25, none, .build [(.int .i64 0), (.int .i64 0), (.int .i64 0), (.int .i64 0), (.lst .clip 0 [])] [], none⟩,
 ⟨some 26, none, .fld 1 (.t 3), none⟩,
 ⟨none, none, .store 1 (.t 26) (.c (.int .u16 0)), none⟩,
 ⟨some 27, none, .fld 2 (.t 3), none⟩,
 ⟨none, none, .store 1 (.t 27) (.c (.int .i64 0)), none⟩,
 ⟨some 28, none, .fld 3 (.t 3), none⟩,
 ⟨none, none, .store 5 (.t 28) (.t 25), none⟩])
 (.keep [1, 3] (.seq (.ops [⟨some 29, none, .fld 1 (.t 1), none⟩,
 ⟨some 30, none, .load none (.t 29), none⟩,
 ⟨some 31, none, .call (.f 28) [(.t 30)], none⟩,
 ⟨some 32, none, .mv (.t 31), none⟩,
 ⟨some 33, (some (32, true)), .fld 2 (.t 1), none⟩,
 ⟨some 34, (some (32, true)), .load none (.t 33), none⟩,
 ⟨some 35, (some (32, true)), .call (.f 31) [(.t 34)], none⟩,
 ⟨some 36, none, .pick (.t 32) (.t 35) (.c (.bool false)), none⟩,
 ⟨some 37, none, .mv (.t 36), none⟩,
 ⟨some 38, (some (37, true)), .fld 3 (.t 1), none⟩,
 ⟨some 39, (some (37, true)), .load (some 5) (.t 38), none⟩,
 ⟨some 40, (some (37, true)), .call (.f 32) [(.t 39)], none⟩,
 ⟨some 41, none, .pick (.t 37) (.t 40) (.c (.bool false)), none⟩,
 ⟨some 42, none, .mv (.t 41), none⟩,
 ⟨some 43, (some (42, true)), .load (some 12) (.t 3), none⟩,
 ⟨some 44, (some (42, true)), .call (.f 30) [(.t 43)], none⟩,
 ⟨some 45, none, .pick (.t 42) (.t 44) (.c (.bool false)), none⟩,
 ⟨some 2, none, .mv (.t 45), none⟩])
 (.ret))))
 (.seq (.ops [⟨some 47, none, .bin .eql (.t 6) (.c (.int .i64 3)), none⟩,
 ⟨some 46, none, .mv (.t 47), none⟩])
 (.keep [1, 3, 6, 46] (.cond (.t 46)
 (.seq (.ops [⟨some 48, none, .fld 1 (.t 3), none⟩,
 ⟨none, none, .store 1 (.t 48) (.c (.int .u16 0)), none⟩,
 ⟨some 49, none, .fld 2 (.t 3), none⟩,
 ⟨none, none, .store 1 (.t 49) (.c (.int .i64 0)), none⟩,
 ⟨some 50, none, .fld 8 (.t 3), none⟩,
 ⟨none, none, .store 1 (.t 50) (.c (.int .i64 0)), none⟩,
 ⟨some 51, none, .fld 9 (.t 3), none⟩,
 ⟨none, none, .store 1 (.t 51) (.c (.int .i64 0)), none⟩])
 (.keep [1, 3] (.seq (.ops [⟨some 52, none, .fld 1 (.t 1), none⟩,
 ⟨some 53, none, .load none (.t 52), none⟩,
 ⟨some 54, none, .call (.f 28) [(.t 53)], none⟩,
 ⟨some 55, none, .mv (.t 54), none⟩,
 ⟨some 56, (some (55, true)), .fld 2 (.t 1), none⟩,
 ⟨some 57, (some (55, true)), .load none (.t 56), none⟩,
 ⟨some 58, (some (55, true)), .call (.f 31) [(.t 57)], none⟩,
 ⟨some 59, none, .pick (.t 55) (.t 58) (.c (.bool false)), none⟩,
 ⟨some 60, none, .mv (.t 59), none⟩,
 ⟨some 61, (some (60, true)), .fld 8 (.t 1), none⟩,
 ⟨some 62, (some (60, true)), .load none (.t 61), none⟩,
 ⟨some 63, (some (60, true)), .bin .geq (.t 62) (.c (.int .i64 0)), none⟩,
 ⟨some 64, none, .pick (.t 60) (.t 63) (.c (.bool false)), none⟩,
 ⟨some 65, none, .mv (.t 64), none⟩,
 ⟨some 66, (some (65, true)), .fld 8 (.t 1), none⟩,
 ⟨some 67, (some (65, true)), .load none (.t 66), none⟩,
 ⟨some 68, (some (65, true)), .bin .leq (.t 67) (.c (.int .i64 100)), none⟩,
 ⟨some 69, none, .pick (.t 65) (.t 68) (.c (.bool false)), none⟩,
 ⟨some 70, none, .mv (.t 69), none⟩,
 ⟨some 71, (some (70, true)), .fld 9 (.t 1), none⟩,
 ⟨some 72, (some (70, true)), .load none (.t 71), none⟩,
 ⟨some 73, (some (70, true)), .call (.f 31) [(.t 72)], none⟩,
 ⟨some 74, none, .pick (.t 70) (.t 73) (.c (.bool false)), none⟩,
 ⟨some 75, none, .mv (.t 74), none⟩,
 ⟨some 76, (some (75, true)), .load (some 12) (.t 3), none⟩,
 ⟨some 77, (some (75, true)), .call (.f 30) [(.t 76)], none⟩,
 ⟨some 78, none, .pick (.t 75) (.t 77) (.c (.bool false)), none⟩,
 ⟨some 2, none, .mv (.t 78), none⟩])
 (.ret))))
 (.seq (.ops [⟨some 80, none, .bin .eql (.t 6) (.c (.int .i64 4)), none⟩,
 ⟨some 79, none, .mv (.t 80), none⟩])
 (.keep [1, 3, 6, 79] (.cond (.t 79)
 (.seq (.ops [⟨some 81, none, .fld 10 (.t 3), none⟩,
 ⟨none, none, .store 1 (.t 81) (.c (.str ⟨#[]⟩)), none⟩])
 (.keep [1, 3] (.seq (.ops [⟨some 82, none, .fld 10 (.t 1), none⟩,
 ⟨some 83, none, .load none (.t 82), none⟩,
 ⟨some 84, none, .call (.f 33) [(.t 83)], none⟩,
 ⟨some 85, none, .mv (.t 84), none⟩,
 ⟨some 86, (some (85, true)), .load (some 12) (.t 3), none⟩,
 ⟨some 87, (some (85, true)), .call (.f 30) [(.t 86)], none⟩,
 ⟨some 88, none, .pick (.t 85) (.t 87) (.c (.bool false)), none⟩,
 ⟨some 2, none, .mv (.t 88), none⟩])
 (.ret))))
 (.seq (.ops [⟨some 90, none, .bin .eql (.t 6) (.c (.int .i64 5)), none⟩,
 ⟨some 89, none, .mv (.t 90), none⟩])
 (.keep [1, 3, 89] (.cond (.t 89)
 (.seq (.ops [⟨some 91, none, .fld 11 (.t 3), none⟩,
 ⟨none, none, .store 1 (.t 91) (.c (.lst .clip 0 [])), none⟩])
 (.keep [1, 3] (.seq (.ops [⟨some 92, none, .fld 11 (.t 1), none⟩,
 ⟨some 93, none, .load none (.t 92), none⟩,
 ⟨some 94, none, .call (.f 29) [(.t 93)], none⟩,
 ⟨some 95, none, .mv (.t 94), none⟩,
 ⟨some 96, (some (95, true)), .load (some 12) (.t 3), none⟩,
 ⟨some 97, (some (95, true)), .call (.f 30) [(.t 96)], none⟩,
 ⟨some 98, none, .pick (.t 95) (.t 97) (.c (.bool false)), none⟩,
 ⟨some 2, none, .mv (.t 98), none⟩])
 (.ret))))
 (.skip)))))))))))))))))))
 (.keep [] (.seq (.ops [⟨some 2, none, .mv (.c (.bool false)), none⟩])
 (.ret)))))))⟩
theorem J_letter_right_ok : chkFn Try.prog 15 J_letter_right = true := by kernel_rfl
def J_letter_write_j1 : ACode :=
 .keep [0, 1, 5] (.seq (.ops [⟨some 27, none, .mv (.t 0), none⟩,
 ⟨some 28, none, .mv (.t 1), none⟩,
 ⟨some 29, none, .fld 11 (.t 5), none⟩,
 ⟨some 30, none, .load none (.t 29), none⟩,
 ⟨some 31, none, .call (.f 34) [(.t 27), (.t 28), (.t 30)], none⟩])
 (.exit 0))
def J_letter_write : AFn :=
 ⟨67, [], .seq (.ops [⟨some 5, none, .box (.t 2) [], none⟩])
 (.keep [0, 1, 5] (.seq (.ops [⟨some 6, none, .mv (.t 1), none⟩,
 ⟨some 7, none, .fld 0 (.t 5), none⟩,
 ⟨some 8, none, .load none (.t 7), none⟩,
 ⟨some 9, none, .call (.t 6) [(.t 8)], none⟩])
 (.keep [0, 1, 5] (.seq (.ops [⟨some 10, none, .fld 0 (.t 5), none⟩,
 ⟨some 11, none, .load none (.t 10), none⟩])
 (.keep [0, 1, 5, 11] (.block 0 (.seq (.block 5 (.seq (.block 4 (.seq (.block 3 (.seq (.block 2 (.seq (.block 1 (.seq (.seq (.seq (.ops [⟨some 13, none, .bin .eql (.t 11) (.c (.int .i64 1)), none⟩,
 ⟨some 12, none, .mv (.t 13), none⟩])
 (.keep [0, 1, 5, 11, 12] (.cond (.t 12)
 (.exit 1)
 (.skip))))
 (.keep [0, 1, 5, 11] (.seq (.seq (.ops [⟨some 15, none, .bin .eql (.t 11) (.c (.int .i64 5)), none⟩,
 ⟨some 14, none, .mv (.t 15), none⟩])
 (.keep [0, 1, 5, 11, 14] (.cond (.t 14)
 (.exit 2)
 (.skip))))
 (.keep [0, 1, 5, 11] (.seq (.seq (.ops [⟨some 17, none, .bin .eql (.t 11) (.c (.int .i64 2)), none⟩,
 ⟨some 16, none, .mv (.t 17), none⟩])
 (.keep [0, 1, 5, 11, 16] (.cond (.t 16)
 (.exit 3)
 (.skip))))
 (.keep [0, 1, 5, 11] (.seq (.seq (.ops [⟨some 19, none, .bin .eql (.t 11) (.c (.int .i64 3)), none⟩,
 ⟨some 18, none, .mv (.t 19), none⟩])
 (.keep [0, 1, 5, 11, 18] (.cond (.t 18)
 (.exit 4)
 (.skip))))
 (.keep [0, 5, 11] (.seq (.ops [⟨some 21, none, .bin .eql (.t 11) (.c (.int .i64 4)), none⟩,
 ⟨some 20, none, .mv (.t 21), none⟩])
 (.keep [0, 5, 20] (.cond (.t 20)
 (.exit 5)
 (.skip))))))))))))
 (.exit 0)))
 (.keep [0, 1, 5] (.ops [⟨some 22, none, .mv (.t 1), none⟩,
 ⟨some 23, none, .fld 1 (.t 5), none⟩,
 ⟨some 24, none, .load none (.t 23), none⟩,
 ⟨some 25, none, .conv .i64 (.t 24), none⟩,
 ⟨some 26, none, .call (.t 22) [(.t 25)], none⟩]))))
 (J_letter_write_j1)))
 (.keep [0, 1, 5] (.seq (.seq (.ops [⟨some 32, none, .mv (.t 1), none⟩,
 ⟨some 33, none, .fld 1 (.t 5), none⟩,
 ⟨some 34, none, .load none (.t 33), none⟩,
 ⟨some 35, none, .conv .i64 (.t 34), none⟩,
 ⟨some 36, none, .call (.t 32) [(.t 35)], none⟩])
 (.keep [0, 1, 5] (.seq (.ops [⟨some 37, none, .mv (.t 1), none⟩,
 ⟨some 38, none, .fld 2 (.t 5), none⟩,
 ⟨some 39, none, .load none (.t 38), none⟩,
 ⟨some 40, none, .call (.t 37) [(.t 39)], none⟩])
 (.keep [0, 1, 5] (.ops [⟨some 41, none, .mv (.t 0), none⟩,
 ⟨some 42, none, .mv (.t 1), none⟩,
 ⟨some 43, none, .fld 3 (.t 5), none⟩,
 ⟨some 44, none, .load (some 5) (.t 43), none⟩,
 ⟨some 45, none, .call (.f 35) [(.t 41), (.t 42), (.t 44)], none⟩])))))
 (.exit 0)))))
 (.keep [1, 5] (.seq (.seq (.ops [⟨some 46, none, .mv (.t 1), none⟩,
 ⟨some 47, none, .fld 1 (.t 5), none⟩,
 ⟨some 48, none, .load none (.t 47), none⟩,
 ⟨some 49, none, .conv .i64 (.t 48), none⟩,
 ⟨some 50, none, .call (.t 46) [(.t 49)], none⟩])
 (.keep [1, 5] (.seq (.ops [⟨some 51, none, .mv (.t 1), none⟩,
 ⟨some 52, none, .fld 2 (.t 5), none⟩,
 ⟨some 53, none, .load none (.t 52), none⟩,
 ⟨some 54, none, .call (.t 51) [(.t 53)], none⟩])
 (.keep [1, 5] (.seq (.ops [⟨some 55, none, .mv (.t 1), none⟩,
 ⟨some 56, none, .fld 8 (.t 5), none⟩,
 ⟨some 57, none, .load none (.t 56), none⟩,
 ⟨some 58, none, .call (.t 55) [(.t 57)], none⟩])
 (.keep [1, 5] (.ops [⟨some 59, none, .mv (.t 1), none⟩,
 ⟨some 60, none, .fld 9 (.t 5), none⟩,
 ⟨some 61, none, .load none (.t 60), none⟩,
 ⟨some 62, none, .call (.t 59) [(.t 61)], none⟩])))))))
 (.exit 0)))))
 (.keep [0, 5] (.seq (.ops [⟨some 63, none, .mv (.t 0), none⟩,
 ⟨some 64, none, .fld 10 (.t 5), none⟩,
 ⟨some 65, none, .load none (.t 64), none⟩,
 ⟨some 66, none, .call (.f 36) [(.t 63), (.t 65)], none⟩])
 (.exit 0))))))))))⟩
theorem J_letter_write_ok : chkFn Try.prog 16 J_letter_write = true := by kernel_rfl
def J_letter_read_j1 : ACode :=
 .keep [4, 6, 7] (.seq (.ops [⟨some 61, none, .load (some 12) (.t 6), none⟩,
 ⟨some 62, none, .mv (.t 7), none⟩,
 ⟨none, none, .store 12 (.t 4) (.t 61), none⟩,
 ⟨some 5, none, .mv (.t 62), none⟩])
 (.ret))
def J_letter_read_j2 : ACode :=
 .keep [0, 1, 4, 6] (.seq (.ops [⟨some 28, none, .mv (.t 0), none⟩,
 ⟨some 29, none, .mv (.t 1), none⟩,
 ⟨some 30, none, .call (.f 39) [(.t 28), (.t 29)], none⟩,
 ⟨some 27, none, .mv (.t 30), none⟩,
 ⟨some 31, none, .ext 0 (.t 27), none⟩,
 ⟨some 32, none, .ext 1 (.t 27), none⟩,
 ⟨some 33, none, .fld 11 (.t 6), none⟩,
 ⟨none, none, .store 1 (.t 33) (.t 31), none⟩,
 ⟨some 7, none, .mv (.t 32), none⟩])
 (.exit 0))
def J_letter_read : AFn :=
 ⟨63, [.c 4 (some 12), .t 5], .seq (.ops [⟨some 4, none, .new [(.int .i64 0), (.int .u16 0), (.int .i64 0), (.int .i64 0), (.int .i64 0), (.int .i64 0), (.int .i64 0), (.lst .clip 0 []), (.int .i64 0), (.int .i64 0), (.str ⟨#[]⟩), (.lst .clip 0 [])] [], none⟩,
 ⟨some 5, none, .mv (.c (.bool false)), none⟩])
 (.keep [0, 1, 4] (.seq (.ops [⟨some 8, none, .mv (.t 1), none⟩,
 ⟨some 9, none, .call (.t 8) [(.c (.int .i64 5))], none⟩,
 ⟨some 10, none, .build [(.int .i64 0), (.int .u16 0), (.int .i64 0), (.int .i64 0), (.int .i64 0), (.int .i64 0), (.int .i64 0), (.lst .clip 0 []), (.int .i64 0), (.int .i64 0), (.str ⟨#[]⟩), (.lst .clip 0 [])] [(0, 1, (.t 9))], none⟩,
 ⟨some 6, none, .new [(.int .i64 0), (.int .u16 0), (.int .i64 0), (.int .i64 0), (.int .i64 0), (.int .i64 0), (.int .i64 0), (.lst .clip 0 []), (.int .i64 0), (.int .i64 0), (.str ⟨#[]⟩), (.lst .clip 0 [])] [], none⟩,
 ⟨none, none, .store 12 (.t 6) (.t 10), none⟩])
 (.keep [0, 1, 4, 6] (.seq (.ops [⟨some 7, none, .mv (.c (.bool true)), none⟩])
 (.keep [0, 1, 4, 6, 7] (.seq (.seq (.ops [⟨some 11, none, .fld 0 (.t 6), none⟩,
 ⟨some 12, none, .load none (.t 11), none⟩])
 (.keep [0, 1, 4, 6, 7, 12] (.block 0 (.seq (.block 5 (.seq (.block 4 (.seq (.block 3 (.seq (.block 2 (.seq (.block 1 (.seq (.seq (.seq (.ops [⟨some 14, none, .bin .eql (.t 12) (.c (.int .i64 1)), none⟩,
 ⟨some 13, none, .mv (.t 14), none⟩])
 (.keep [0, 1, 4, 6, 7, 12, 13] (.cond (.t 13)
 (.exit 1)
 (.skip))))
 (.keep [0, 1, 4, 6, 7, 12] (.seq (.seq (.ops [⟨some 16, none, .bin .eql (.t 12) (.c (.int .i64 5)), none⟩,
 ⟨some 15, none, .mv (.t 16), none⟩])
 (.keep [0, 1, 4, 6, 7, 12, 15] (.cond (.t 15)
 (.exit 2)
 (.skip))))
 (.keep [0, 1, 4, 6, 7, 12] (.seq (.seq (.ops [⟨some 18, none, .bin .eql (.t 12) (.c (.int .i64 2)), none⟩,
 ⟨some 17, none, .mv (.t 18), none⟩])
 (.keep [0, 1, 4, 6, 7, 12, 17] (.cond (.t 17)
 (.exit 3)
 (.skip))))
 (.keep [0, 1, 4, 6, 7, 12] (.seq (.seq (.ops [⟨some 20, none, .bin .eql (.t 12) (.c (.int .i64 3)), none⟩,
 ⟨some 19, none, .mv (.t 20), none⟩])
 (.keep [0, 1, 4, 6, 7, 12, 19] (.cond (.t 19)
 (.exit 4)
 (.skip))))
 (.keep [0, 4, 6, 7, 12] (.seq (.ops [⟨some 22, none, .bin .eql (.t 12) (.c (.int .i64 4)), none⟩,
 ⟨some 21, none, .mv (.t 22), none⟩])
 (.keep [0, 4, 6, 7, 21] (.cond (.t 21)
 (.exit 5)
 (.skip))))))))))))
 (.exit 0)))
 (.keep [0, 1, 4, 6] (.ops [⟨some 23, none, .mv (.t 1), none⟩,
 ⟨some 24, none, .call (.t 23) [(.c (.int .i64 65535))], none⟩,
 ⟨some 25, none, .conv .u16 (.t 24), none⟩,
 ⟨some 26, none, .fld 1 (.t 6), none⟩,
 ⟨none, none, .store 1 (.t 26) (.t 25), none⟩]))))
 (J_letter_read_j2)))
 (.keep [0, 1, 4, 6, 7] (.seq (.seq (.ops [⟨some 34, none, .mv (.t 1), none⟩,
 ⟨some 35, none, .call (.t 34) [(.c (.int .i64 65535))], none⟩,
 ⟨some 36, none, .conv .u16 (.t 35), none⟩,
 ⟨some 37, none, .fld 1 (.t 6), none⟩,
 ⟨none, none, .store 1 (.t 37) (.t 36), none⟩])
 (.keep [0, 1, 4, 6, 7] (.seq (.ops [⟨some 38, none, .mv (.t 1), none⟩,
 ⟨some 39, none, .call (.t 38) [(.c (.int .i64 4611686018427387904))], none⟩,
 ⟨some 40, none, .fld 2 (.t 6), none⟩,
 ⟨none, none, .store 1 (.t 40) (.t 39), none⟩])
 (.keep [0, 1, 4, 6, 7] (.ops [⟨some 41, none, .mv (.t 0), none⟩,
 ⟨some 42, none, .mv (.t 1), none⟩,
 ⟨some 43, none, .call (.f 40) [(.t 41), (.t 42)], none⟩,
 ⟨some 44, none, .fld 3 (.t 6), none⟩,
 ⟨none, none, .store 5 (.t 44) (.t 43), none⟩])))))
 (.exit 0)))))
 (.keep [1, 4, 6, 7] (.seq (.seq (.ops [⟨some 45, none, .mv (.t 1), none⟩,
 ⟨some 46, none, .call (.t 45) [(.c (.int .i64 65535))], none⟩,
 ⟨some 47, none, .conv .u16 (.t 46), none⟩,
 ⟨some 48, none, .fld 1 (.t 6), none⟩,
 ⟨none, none, .store 1 (.t 48) (.t 47), none⟩])
 (.keep [1, 4, 6, 7] (.seq (.ops [⟨some 49, none, .mv (.t 1), none⟩,
 ⟨some 50, none, .call (.t 49) [(.c (.int .i64 4611686018427387904))], none⟩,
 ⟨some 51, none, .fld 2 (.t 6), none⟩,
 ⟨none, none, .store 1 (.t 51) (.t 50), none⟩])
 (.keep [1, 4, 6, 7] (.seq (.ops [⟨some 52, none, .mv (.t 1), none⟩,
 ⟨some 53, none, .call (.t 52) [(.c (.int .i64 100))], none⟩,
 ⟨some 54, none, .fld 8 (.t 6), none⟩,
 ⟨none, none, .store 1 (.t 54) (.t 53), none⟩])
 (.keep [1, 4, 6, 7] (.ops [⟨some 55, none, .mv (.t 1), none⟩,
 ⟨some 56, none, .call (.t 55) [(.c (.int .i64 4611686018427387904))], none⟩,
 ⟨some 57, none, .fld 9 (.t 6), none⟩,
 ⟨none, none, .store 1 (.t 57) (.t 56), none⟩])))))))
 (.exit 0)))))
 (.keep [0, 4, 6, 7] (.seq (.ops [⟨some 58, none, .mv (.t 0), none⟩,
 ⟨some 59, none, .call (.f 41) [(.t 58)], none⟩,
 ⟨some 60, none, .fld 10 (.t 6), none⟩,
 ⟨none, none, .store 1 (.t 60) (.t 59), none⟩])
 (.exit 0)))))))
 (J_letter_read_j1)))))))⟩
theorem J_letter_read_ok : chkFn Try.prog 20 J_letter_read = true := by kernel_rfl
def J_letter_sameAsk : AFn :=
 ⟨42, [.t 4], .seq (.ops [⟨some 2, none, .box (.t 0) [], none⟩,
 ⟨some 3, none, .box (.t 1) [], none⟩,
 ⟨some 4, none, .mv (.c (.bool false)), none⟩])
 (.keep [2, 3] (.seq (.ops [⟨some 5, none, .fld 0 (.t 2), none⟩,
 ⟨some 6, none, .load none (.t 5), none⟩,
 ⟨some 7, none, .fld 0 (.t 3), none⟩,
 ⟨some 8, none, .load none (.t 7), none⟩,
 ⟨some 9, none, .bin .eql (.t 6) (.t 8), none⟩,
 ⟨some 10, none, .mv (.t 9), none⟩,
 ⟨some 11, (some (10, true)), .fld 1 (.t 2), none⟩,
 ⟨some 12, (some (10, true)), .load none (.t 11), none⟩,
 ⟨some 13, (some (10, true)), .fld 1 (.t 3), none⟩,
 ⟨some 14, (some (10, true)), .load none (.t 13), none⟩,
 ⟨some 15, (some (10, true)), .bin .eql (.t 12) (.t 14), none⟩,
 ⟨some 16, none, .pick (.t 10) (.t 15) (.c (.bool false)), none⟩,
 ⟨some 17, none, .mv (.t 16), none⟩,
 ⟨some 18, (some (17, true)), .fld 2 (.t 2), none⟩,
 ⟨some 19, (some (17, true)), .load none (.t 18), none⟩,
 ⟨some 20, (some (17, true)), .fld 2 (.t 3), none⟩,
 ⟨some 21, (some (17, true)), .load none (.t 20), none⟩,
 ⟨some 22, (some (17, true)), .bin .eql (.t 19) (.t 21), none⟩,
 ⟨some 23, none, .pick (.t 17) (.t 22) (.c (.bool false)), none⟩,
 ⟨some 24, none, .mv (.t 23), none⟩,
 ⟨some 25, (some (24, true)), .fld 3 (.t 2), none⟩,
 ⟨some 26, (some (24, true)), .fld 0 (.t 25), none⟩,
 ⟨some 27, (some (24, true)), .load none (.t 26), none⟩,
 ⟨some 28, (some (24, true)), .fld 3 (.t 3), none⟩,
 ⟨some 29, (some (24, true)), .fld 0 (.t 28), none⟩,
 ⟨some 30, (some (24, true)), .load none (.t 29), none⟩,
 ⟨some 31, (some (24, true)), .bin .eql (.t 27) (.t 30), none⟩,
 ⟨some 32, none, .pick (.t 24) (.t 31) (.c (.bool false)), none⟩,
 ⟨some 33, none, .mv (.t 32), none⟩,
 ⟨some 34, (some (33, true)), .fld 3 (.t 2), none⟩,
 ⟨some 35, (some (33, true)), .fld 1 (.t 34), none⟩,
 ⟨some 36, (some (33, true)), .load none (.t 35), none⟩,
 ⟨some 37, (some (33, true)), .fld 3 (.t 3), none⟩,
 ⟨some 38, (some (33, true)), .fld 1 (.t 37), none⟩,
 ⟨some 39, (some (33, true)), .load none (.t 38), none⟩,
 ⟨some 40, (some (33, true)), .call (.f 44) [(.t 36), (.t 39)], none⟩,
 ⟨some 41, none, .pick (.t 33) (.t 40) (.c (.bool false)), none⟩,
 ⟨some 4, none, .mv (.t 41), none⟩])
 (.ret)))⟩
theorem J_letter_sameAsk_ok : chkFn Try.prog 23 J_letter_sameAsk = true := by kernel_rfl
def J_letter_channel : AFn :=
 ⟨6, [.t 2], .seq (.ops [⟨some 2, none, .mv (.c (.bool false)), none⟩])
 (.keep [0] (.seq (.ops [⟨some 3, none, .mv (.t 0), none⟩,
 ⟨some 4, none, .bin .quo (.t 3) (.c (.int .u16 8192)), none⟩,
 ⟨some 5, none, .bin .eql (.t 4) (.c (.int .u16 2)), none⟩,
 ⟨some 2, none, .mv (.t 5), none⟩])
 (.ret)))⟩
theorem J_letter_channel_ok : chkFn Try.prog 28 J_letter_channel = true := by kernel_rfl
def J_letter_certs_j1 : ACode :=
 .keep [] (.seq (.ops [⟨some 2, none, .mv (.c (.bool true)), none⟩])
 (.ret))
def J_letter_certs_j2 : ACode :=
 .seq (.ops [⟨some 11, none, .bin .lss (.t 10) (.t 9), none⟩])
 (.keep [8, 9, 10, 11] (.seq (.cond (.t 11)
 (.skip)
 (.exit 0))
 (.keep [8, 9, 10] (.seq (.block 1 (.seq (.ops [⟨some 12, none, .idxa 7 (.t 8) (.t 10), none⟩,
 ⟨some 13, none, .load (some 7) (.t 12), none⟩,
 ⟨some 4, none, .new [(.int .i64 0), (.int .u16 0), (.str ⟨#[]⟩), (.lst .clip 0 []), (.int .i64 0), (.int .i64 0), (.int .i64 0)] [], none⟩,
 ⟨none, none, .stores 7 (.t 4) (.t 13), none⟩])
 (.keep [4, 8, 9, 10] (.seq (.ops [⟨some 14, none, .load (some 7) (.t 4), none⟩,
 ⟨some 15, none, .call (.f 45) [(.t 14)], none⟩,
 ⟨some 16, none, .bin .neq (.t 15) (.c (.int .i64 0)), none⟩])
 (.keep [8, 9, 10, 16] (.cond (.t 16)
 (.seq (.ops [⟨some 2, none, .mv (.c (.bool false)), none⟩])
 (.ret))
 (.skip)))))))
 (.keep [8, 9, 10] (.ops [⟨some 17, none, .bin .add (.t 10) (.c (.int .i64 1)), none⟩,
 ⟨some 10, none, .mv (.t 17), none⟩]))))))
def J_letter_certs : AFn :=
 ⟨18, [.t 2], .seq (.ops [⟨some 2, none, .mv (.c (.bool false)), none⟩])
 (.keep [0] (.seq (.seq (.ops [⟨some 5, none, .mv (.t 0), none⟩,
 ⟨some 6, none, .lenl (.t 5), none⟩,
 ⟨some 7, none, .bin .gtr (.t 6) (.c (.int .i64 8)), none⟩])
 (.keep [0, 7] (.cond (.t 7)
 (.seq (.ops [⟨some 2, none, .mv (.c (.bool false)), none⟩])
 (.ret))
 (.skip))))
 (.keep [0] (.seq (.seq (.ops [⟨some 8, none, .mv (.t 0), none⟩,
 ⟨some 9, none, .lenl (.t 8), none⟩,
 ⟨some 10, none, .mv (.c (.int .i64 0)), none⟩])
 (.keep [8, 9, 10] (.block 0 (.loop [8, 9, 10] (J_letter_certs_j2)))))
 (J_letter_certs_j1)))))⟩
theorem J_letter_certs_ok : chkFn Try.prog 29 J_letter_certs = true := by kernel_rfl
def J_letter_bare : AFn :=
 ⟨8, [.t 2], .seq (.ops [⟨some 1, none, .box (.t 0) [], none⟩,
 ⟨some 2, none, .mv (.c (.bool false)), none⟩])
 (.keep [1] (.seq (.ops [⟨some 3, none, .load (some 12) (.t 1), none⟩,
 ⟨some 4, none, .fld 0 (.t 1), none⟩,
 ⟨some 5, none, .load none (.t 4), none⟩,
 ⟨some 6, none, .build [(.int .i64 0), (.int .u16 0), (.int .i64 0), (.int .i64 0), (.int .i64 0), (.int .i64 0), (.int .i64 0), (.lst .clip 0 []), (.int .i64 0), (.int .i64 0), (.str ⟨#[]⟩), (.lst .clip 0 [])] [(0, 1, (.t 5))], none⟩,
 ⟨some 7, none, .call (.f 10) [(.t 3), (.t 6)], none⟩,
 ⟨some 2, none, .mv (.t 7), none⟩])
 (.ret)))⟩
theorem J_letter_bare_ok : chkFn Try.prog 30 J_letter_bare = true := by kernel_rfl
def J_letter_number : AFn :=
 ⟨9, [.t 2], .seq (.ops [⟨some 2, none, .mv (.c (.bool false)), none⟩])
 (.keep [0] (.seq (.ops [⟨some 3, none, .mv (.t 0), none⟩,
 ⟨some 4, none, .bin .geq (.t 3) (.c (.int .i64 0)), none⟩,
 ⟨some 5, none, .mv (.t 4), none⟩,
 ⟨some 6, (some (5, true)), .mv (.t 0), none⟩,
 ⟨some 7, (some (5, true)), .bin .leq (.t 6) (.c (.int .i64 4611686018427387904)), none⟩,
 ⟨some 8, none, .pick (.t 5) (.t 7) (.c (.bool false)), none⟩,
 ⟨some 2, none, .mv (.t 8), none⟩])
 (.ret)))⟩
theorem J_letter_number_ok : chkFn Try.prog 31 J_letter_number = true := by kernel_rfl
def J_record_Asks_j1 : ACode :=
 .keep [1, 42] (.cond (.t 42)
 (.seq (.ops [⟨some 45, none, .fld 2 (.t 1), none⟩,
 ⟨some 46, none, .load none (.t 45), none⟩,
 ⟨some 47, none, .bin .eql (.t 46) (.c (.int .i64 0)), none⟩,
 ⟨some 48, none, .mv (.t 47), none⟩,
 ⟨some 49, (some (48, true)), .fld 3 (.t 1), none⟩,
 ⟨some 50, (some (48, true)), .fld 0 (.t 49), none⟩,
 ⟨some 51, (some (48, true)), .load none (.t 50), none⟩,
 ⟨some 52, (some (48, true)), .bin .geq (.t 51) (.c (.int .i64 0)), none⟩,
 ⟨some 53, none, .pick (.t 48) (.t 52) (.c (.bool false)), none⟩,
 ⟨some 54, none, .mv (.t 53), none⟩,
 ⟨some 55, (some (54, true)), .fld 3 (.t 1), none⟩,
 ⟨some 56, (some (54, true)), .fld 0 (.t 55), none⟩,
 ⟨some 57, (some (54, true)), .load none (.t 56), none⟩,
 ⟨some 58, (some (54, true)), .bin .lss (.t 57) (.c (.int .i64 8)), none⟩,
 ⟨some 59, none, .pick (.t 54) (.t 58) (.c (.bool false)), none⟩,
 ⟨some 60, none, .mv (.t 59), none⟩,
 ⟨some 61, (some (60, true)), .fld 3 (.t 1), none⟩,
 ⟨some 62, (some (60, true)), .fld 1 (.t 61), none⟩,
 ⟨some 63, (some (60, true)), .load none (.t 62), none⟩,
 ⟨some 64, (some (60, true)), .call (.f 47) [(.t 63)], none⟩,
 ⟨some 65, none, .pick (.t 60) (.t 64) (.c (.bool false)), none⟩,
 ⟨some 2, none, .mv (.t 65), none⟩])
 (.ret))
 (.skip))
def J_record_Asks : AFn :=
 ⟨66, [.t 2], .seq (.ops [⟨some 1, none, .box (.t 0) [], none⟩,
 ⟨some 2, none, .mv (.c (.bool false)), none⟩])
 (.keep [1] (.seq (.seq (.ops [⟨some 4, none, .fld 0 (.t 1), none⟩,
 ⟨some 5, none, .load none (.t 4), none⟩,
 ⟨some 6, none, .bin .lss (.t 5) (.c (.int .i64 0)), none⟩,
 ⟨some 7, none, .mv (.t 6), none⟩,
 ⟨some 8, (some (7, false)), .fld 0 (.t 1), none⟩,
 ⟨some 9, (some (7, false)), .load none (.t 8), none⟩,
 ⟨some 10, (some (7, false)), .bin .geq (.t 9) (.c (.int .i64 4)), none⟩,
 ⟨some 11, none, .pick (.t 7) (.c (.bool true)) (.t 10), none⟩,
 ⟨some 12, none, .mv (.t 11), none⟩,
 ⟨some 13, (some (12, false)), .fld 2 (.t 1), none⟩,
 ⟨some 14, (some (12, false)), .load none (.t 13), none⟩,
 ⟨some 15, (some (12, false)), .call (.f 46) [(.t 14)], none⟩,
 ⟨some 16, (some (12, false)), .not (.t 15), none⟩,
 ⟨some 17, none, .pick (.t 12) (.c (.bool true)) (.t 16), none⟩])
 (.keep [1, 17] (.cond (.t 17)
 (.seq (.ops [⟨some 2, none, .mv (.c (.bool false)), none⟩])
 (.ret))
 (.skip))))
 (.keep [1] (.seq (.ops [⟨some 18, none, .fld 3 (.t 1), none⟩,
 ⟨some 19, none, .fld 0 (.t 18), none⟩,
 ⟨some 20, none, .load none (.t 19), none⟩,
 ⟨some 21, none, .bin .eql (.t 20) (.c (.int .i64 0)), none⟩,
 ⟨some 22, none, .mv (.t 21), none⟩,
 ⟨some 23, (some (22, true)), .fld 3 (.t 1), none⟩,
 ⟨some 24, (some (22, true)), .fld 1 (.t 23), none⟩,
 ⟨some 25, (some (22, true)), .load none (.t 24), none⟩,
 ⟨some 26, (some (22, true)), .lenl (.t 25), none⟩,
 ⟨some 27, (some (22, true)), .bin .eql (.t 26) (.c (.int .i64 0)), none⟩,
 ⟨some 28, none, .pick (.t 22) (.t 27) (.c (.bool false)), none⟩,
 ⟨some 3, none, .mv (.t 28), none⟩])
 (.keep [1, 3] (.seq (.seq (.ops [⟨some 29, none, .fld 1 (.t 1), none⟩,
 ⟨some 30, none, .load none (.t 29), none⟩])
 (.keep [1, 3, 30] (.block 0 (.seq (.ops [⟨some 32, none, .bin .eql (.t 30) (.c (.int .i64 0)), none⟩,
 ⟨some 31, none, .mv (.t 32), none⟩])
 (.keep [1, 3, 30, 31] (.cond (.t 31)
 (.seq (.ops [⟨some 33, none, .fld 2 (.t 1), none⟩,
 ⟨some 34, none, .load none (.t 33), none⟩,
 ⟨some 35, none, .bin .eql (.t 34) (.c (.int .i64 0)), none⟩,
 ⟨some 36, none, .mv (.t 35), none⟩,
 ⟨some 37, (some (36, true)), .mv (.t 3), none⟩,
 ⟨some 38, none, .pick (.t 36) (.t 37) (.c (.bool false)), none⟩,
 ⟨some 2, none, .mv (.t 38), none⟩])
 (.ret))
 (.seq (.ops [⟨some 40, none, .bin .eql (.t 30) (.c (.int .i64 1)), none⟩,
 ⟨some 39, none, .mv (.t 40), none⟩])
 (.keep [1, 3, 30, 39] (.cond (.t 39)
 (.seq (.ops [⟨some 41, none, .mv (.t 3), none⟩,
 ⟨some 2, none, .mv (.t 41), none⟩])
 (.ret))
 (.seq (.seq (.ops [⟨some 43, none, .bin .eql (.t 30) (.c (.int .i64 2)), none⟩,
 ⟨some 42, none, .mv (.t 43), none⟩])
 (.keep [1, 30, 42] (.cond (.t 42)
 (.skip)
 (.ops [⟨some 44, none, .bin .eql (.t 30) (.c (.int .i64 3)), none⟩,
 ⟨some 42, none, .mv (.t 44), none⟩]))))
 (J_record_Asks_j1)))))))))))
 (.keep [] (.seq (.ops [⟨some 2, none, .mv (.c (.bool false)), none⟩])
 (.ret)))))))))⟩
theorem J_record_Asks_ok : chkFn Try.prog 32 J_record_Asks = true := by kernel_rfl
def J_letter_writeCerts_j1 : ACode :=
 .seq (.ops [⟨some 17, none, .bin .lss (.t 16) (.t 15), none⟩])
 (.keep [0, 14, 15, 16, 17] (.seq (.cond (.t 17)
 (.skip)
 (.exit 0))
 (.keep [0, 14, 15, 16] (.seq (.block 1 (.seq (.ops [⟨some 18, none, .idxa 7 (.t 14) (.t 16), none⟩,
 ⟨some 19, none, .load (some 7) (.t 18), none⟩,
 ⟨some 7, none, .new [(.int .i64 0), (.int .u16 0), (.str ⟨#[]⟩), (.lst .clip 0 []), (.int .i64 0), (.int .i64 0), (.int .i64 0)] [], none⟩,
 ⟨none, none, .stores 7 (.t 7) (.t 19), none⟩])
 (.keep [0, 7, 14, 15, 16] (.seq (.ops [⟨some 21, none, .load (some 7) (.t 7), none⟩,
 ⟨some 22, none, .call (.f 51) [(.t 21)], none⟩,
 ⟨some 20, none, .mv (.t 22), none⟩,
 ⟨some 23, none, .ext 0 (.t 20), none⟩,
 ⟨some 24, none, .ext 1 (.t 20), none⟩,
 ⟨some 8, none, .mv (.t 23), none⟩,
 ⟨some 9, none, .mv (.t 24), none⟩])
 (.keep [0, 8, 14, 15, 16] (.ops [⟨some 25, none, .mv (.t 0), none⟩,
 ⟨some 26, none, .mv (.t 8), none⟩,
 ⟨some 27, none, .call (.f 52) [(.t 25), (.t 26)], none⟩]))))))
 (.keep [0, 14, 15, 16] (.ops [⟨some 28, none, .bin .add (.t 16) (.c (.int .i64 1)), none⟩,
 ⟨some 16, none, .mv (.t 28), none⟩]))))))
def J_letter_writeCerts : AFn :=
 ⟨29, [], .seq (.ops [⟨some 10, none, .mv (.t 1), none⟩,
 ⟨some 11, none, .mv (.t 2), none⟩,
 ⟨some 12, none, .lenl (.t 11), none⟩,
 ⟨some 13, none, .call (.t 10) [(.t 12)], none⟩])
 (.keep [0, 2] (.seq (.ops [⟨some 14, none, .mv (.t 2), none⟩,
 ⟨some 15, none, .lenl (.t 14), none⟩,
 ⟨some 16, none, .mv (.c (.int .i64 0)), none⟩])
 (.keep [0, 14, 15, 16] (.block 0 (.loop [0, 14, 15, 16] (J_letter_writeCerts_j1))))))⟩
theorem J_letter_writeCerts_ok : chkFn Try.prog 34 J_letter_writeCerts = true := by kernel_rfl
def J_letter_writeAsk : AFn :=
 ⟨36, [], .seq (.ops [⟨some 5, none, .box (.t 2) [], none⟩])
 (.keep [0, 1, 5] (.seq (.ops [⟨some 6, none, .mv (.t 1), none⟩,
 ⟨some 7, none, .fld 0 (.t 5), none⟩,
 ⟨some 8, none, .load none (.t 7), none⟩,
 ⟨some 9, none, .call (.t 6) [(.t 8)], none⟩])
 (.keep [0, 1, 5] (.seq (.ops [⟨some 10, none, .mv (.t 1), none⟩,
 ⟨some 11, none, .fld 1 (.t 5), none⟩,
 ⟨some 12, none, .load none (.t 11), none⟩,
 ⟨some 13, none, .call (.t 10) [(.t 12)], none⟩])
 (.keep [0, 1, 5] (.seq (.ops [⟨some 14, none, .mv (.t 1), none⟩,
 ⟨some 15, none, .fld 2 (.t 5), none⟩,
 ⟨some 16, none, .load none (.t 15), none⟩,
 ⟨some 17, none, .call (.t 14) [(.t 16)], none⟩])
 (.keep [0, 1, 5] (.seq (.ops [⟨some 18, none, .fld 1 (.t 5), none⟩,
 ⟨some 19, none, .load none (.t 18), none⟩,
 ⟨some 20, none, .bin .eql (.t 19) (.c (.int .i64 2)), none⟩,
 ⟨some 21, none, .mv (.t 20), none⟩,
 ⟨some 22, (some (21, false)), .fld 1 (.t 5), none⟩,
 ⟨some 23, (some (21, false)), .load none (.t 22), none⟩,
 ⟨some 24, (some (21, false)), .bin .eql (.t 23) (.c (.int .i64 3)), none⟩,
 ⟨some 25, none, .pick (.t 21) (.c (.bool true)) (.t 24), none⟩])
 (.keep [0, 1, 5, 25] (.cond (.t 25)
 (.seq (.ops [⟨some 26, none, .mv (.t 1), none⟩,
 ⟨some 27, none, .fld 3 (.t 5), none⟩,
 ⟨some 28, none, .fld 0 (.t 27), none⟩,
 ⟨some 29, none, .load none (.t 28), none⟩,
 ⟨some 30, none, .call (.t 26) [(.t 29)], none⟩])
 (.keep [0, 5] (.ops [⟨some 31, none, .mv (.t 0), none⟩,
 ⟨some 32, none, .fld 3 (.t 5), none⟩,
 ⟨some 33, none, .fld 1 (.t 32), none⟩,
 ⟨some 34, none, .load none (.t 33), none⟩,
 ⟨some 35, none, .call (.f 53) [(.t 31), (.t 34)], none⟩])))
 (.skip)))))))))))⟩
theorem J_letter_writeAsk_ok : chkFn Try.prog 35 J_letter_writeAsk = true := by kernel_rfl
def J_letter_readCerts_j1 : ACode :=
 .keep [6] (.seq (.ops [⟨some 26, none, .mv (.t 6), none⟩,
 ⟨some 4, none, .mv (.t 26), none⟩,
 ⟨some 5, none, .mv (.c (.bool true)), none⟩])
 (.ret))
def J_letter_readCerts_j2 : ACode :=
 .seq (.ops [⟨some 12, none, .bin .lss (.t 11) (.t 10), none⟩])
 (.keep [0, 6, 10, 11, 12] (.seq (.cond (.t 12)
 (.skip)
 (.exit 0))
 (.keep [0, 6, 10, 11] (.seq (.block 1 (.seq (.ops [⟨some 14, none, .mv (.t 0), none⟩,
 ⟨some 15, none, .call (.f 55) [(.t 14), (.c (.int .i64 4000))], none⟩,
 ⟨some 16, none, .call (.f 54) [(.t 15)], none⟩,
 ⟨some 13, none, .mv (.t 16), none⟩,
 ⟨some 17, none, .ext 0 (.t 13), none⟩,
 ⟨some 18, none, .ext 1 (.t 13), none⟩,
 ⟨some 7, none, .new [(.int .i64 0), (.int .u16 0), (.str ⟨#[]⟩), (.lst .clip 0 []), (.int .i64 0), (.int .i64 0), (.int .i64 0)] [], none⟩,
 ⟨none, none, .stores 7 (.t 7) (.t 17), none⟩,
 ⟨some 8, none, .mv (.t 18), none⟩])
 (.keep [0, 6, 7, 8, 10, 11] (.seq (.seq (.ops [⟨some 19, none, .mv (.t 8), none⟩,
 ⟨some 20, none, .bin .neq (.t 19) (.c (.int .i64 0)), none⟩])
 (.keep [0, 6, 7, 10, 11, 20] (.cond (.t 20)
 (.seq (.ops [⟨some 4, none, .mv (.c (.lst .clip 0 [])), none⟩,
 ⟨some 5, none, .mv (.c (.bool false)), none⟩])
 (.ret))
 (.skip))))
 (.keep [0, 6, 7, 10, 11] (.ops [⟨some 21, none, .mvo 6, none⟩,
 ⟨some 22, none, .load (some 7) (.t 7), none⟩,
 ⟨some 23, none, .bsl 50 7 1 [(.int .i64 0), (.int .u16 0), (.str ⟨#[]⟩), (.lst .clip 0 []), (.int .i64 0), (.int .i64 0), (.int .i64 0)] [(0, 7, (.t 22))], none⟩,
 ⟨some 24, none, .appo 50 7 80 21 (.t 23), none⟩,
 ⟨some 6, none, .mvo 24, none⟩]))))))
 (.keep [0, 6, 10, 11] (.ops [⟨some 25, none, .bin .add (.t 11) (.c (.int .i64 1)), none⟩,
 ⟨some 11, none, .mv (.t 25), none⟩]))))))
def J_letter_readCerts : AFn :=
 ⟨27, [.t 4, .t 5], .seq (.ops [⟨some 4, none, .mv (.c (.lst .clip 0 [])), none⟩,
 ⟨some 5, none, .mv (.c (.bool false)), none⟩])
 (.keep [0, 1] (.seq (.ops [⟨some 6, none, .mvu 50 7 (.c (.lst .clip 0 [])), none⟩])
 (.keep [0, 1, 6] (.seq (.seq (.ops [⟨some 9, none, .mv (.t 1), none⟩,
 ⟨some 10, none, .call (.t 9) [(.c (.int .i64 8))], none⟩,
 ⟨some 11, none, .mv (.c (.int .i64 0)), none⟩])
 (.keep [0, 6, 10, 11] (.block 0 (.loop [0, 6, 10, 11] (J_letter_readCerts_j2)))))
 (J_letter_readCerts_j1)))))⟩
theorem J_letter_readCerts_ok : chkFn Try.prog 39 J_letter_readCerts = true := by kernel_rfl
def J_letter_readAsk_j1 : ACode :=
 .keep [4, 5] (.seq (.ops [⟨some 29, none, .load (some 5) (.t 5), none⟩,
 ⟨none, none, .store 5 (.t 4) (.t 29), none⟩])
 (.ret))
def J_letter_readAsk : AFn :=
 ⟨30, [.c 4 (some 5)], .seq (.ops [⟨some 4, none, .new [(.int .i64 0), (.int .i64 0), (.int .i64 0), (.int .i64 0), (.lst .clip 0 [])] [], none⟩])
 (.keep [0, 1, 4] (.seq (.ops [⟨some 6, none, .mv (.t 1), none⟩,
 ⟨some 7, none, .call (.t 6) [(.c (.int .i64 3))], none⟩,
 ⟨some 8, none, .mv (.t 1), none⟩,
 ⟨some 9, none, .call (.t 8) [(.c (.int .i64 3))], none⟩,
 ⟨some 10, none, .mv (.t 1), none⟩,
 ⟨some 11, none, .call (.t 10) [(.c (.int .i64 4611686018427387904))], none⟩,
 ⟨some 12, none, .build [(.int .i64 0), (.int .i64 0), (.int .i64 0), (.int .i64 0), (.lst .clip 0 [])] [(0, 1, (.t 7)), (1, 1, (.t 9)), (2, 1, (.t 11))], none⟩,
 ⟨some 5, none, .new [(.int .i64 0), (.int .i64 0), (.int .i64 0), (.int .i64 0), (.lst .clip 0 [])] [], none⟩,
 ⟨none, none, .store 5 (.t 5) (.t 12), none⟩])
 (.keep [0, 1, 4, 5] (.seq (.seq (.ops [⟨some 13, none, .fld 1 (.t 5), none⟩,
 ⟨some 14, none, .load none (.t 13), none⟩,
 ⟨some 15, none, .bin .eql (.t 14) (.c (.int .i64 2)), none⟩,
 ⟨some 16, none, .mv (.t 15), none⟩,
 ⟨some 17, (some (16, false)), .fld 1 (.t 5), none⟩,
 ⟨some 18, (some (16, false)), .load none (.t 17), none⟩,
 ⟨some 19, (some (16, false)), .bin .eql (.t 18) (.c (.int .i64 3)), none⟩,
 ⟨some 20, none, .pick (.t 16) (.c (.bool true)) (.t 19), none⟩])
 (.keep [0, 1, 4, 5, 20] (.cond (.t 20)
 (.seq (.ops [⟨some 21, none, .mv (.t 1), none⟩,
 ⟨some 22, none, .call (.t 21) [(.c (.int .i64 7))], none⟩,
 ⟨some 23, none, .fld 3 (.t 5), none⟩,
 ⟨some 24, none, .fld 0 (.t 23), none⟩,
 ⟨none, none, .store 1 (.t 24) (.t 22), none⟩])
 (.keep [0, 4, 5] (.ops [⟨some 25, none, .mv (.t 0), none⟩,
 ⟨some 26, none, .call (.f 56) [(.t 25)], none⟩,
 ⟨some 27, none, .fld 3 (.t 5), none⟩,
 ⟨some 28, none, .fld 1 (.t 27), none⟩,
 ⟨none, none, .store 1 (.t 28) (.t 26), none⟩])))
 (.skip))))
 (J_letter_readAsk_j1)))))⟩
theorem J_letter_readAsk_ok : chkFn Try.prog 40 J_letter_readAsk = true := by kernel_rfl
def J_record_number : AFn :=
 ⟨9, [.t 2], .seq (.ops [⟨some 2, none, .mv (.c (.bool false)), none⟩])
 (.keep [0] (.seq (.ops [⟨some 3, none, .mv (.t 0), none⟩,
 ⟨some 4, none, .bin .geq (.t 3) (.c (.int .i64 0)), none⟩,
 ⟨some 5, none, .mv (.t 4), none⟩,
 ⟨some 6, (some (5, true)), .mv (.t 0), none⟩,
 ⟨some 7, (some (5, true)), .bin .leq (.t 6) (.c (.int .i64 4611686018427387904)), none⟩,
 ⟨some 8, none, .pick (.t 5) (.t 7) (.c (.bool false)), none⟩,
 ⟨some 2, none, .mv (.t 8), none⟩])
 (.ret)))⟩
theorem J_record_number_ok : chkFn Try.prog 46 J_record_number = true := by kernel_rfl
end Go.Proofs.Ytpjlkefadnbgdaa
