/- Texts of one proof, laid together: Kq KC KD. -/
import Derived.Test.YtmbijfcjfhdnjaaMP13
import Derived.Test.YtmbijfcjfhdnjaaMP14
import Derived.OpenShut
import Derived.ShutString

/- Opening tokens that came in; the calls of the laws on tokens. -/
namespace Go.Proofs.Ytmbijfcjfhdnjaa
set_option linter.unusedSimpArgs false
set_option linter.unusedVariables false
open Go.RowKit Go.Lib Go.ChangeShapes Go.WideShapes Go.ChangeAt

theorem sh_tok {g : List AV} (h : ShOks [.int .i64, .str, .int .i64, .int .i64] g) : ∃ t : Tok, g = tC t := by
  cases h with | cons k0 h =>
  cases h with | cons k1 h =>
  cases h with | cons k2 h =>
  cases h with | cons k3 h =>
  cases h
  cases k0 with | int _ n0 _ =>
  cases k1 with | str s _ =>
  cases k2 with | int _ n2 _ =>
  cases k3 with | int _ n3 _ =>
  exact ⟨⟨n0, s, n2, n3⟩, rfl⟩
set_option maxRecDepth 100000 in
theorem open_toks {H : Type} {enc : TypeId × Value → H} {W : World} {base : Nat} {v : Value} {d : DataW H} {p : List MemPlace} (hv : Value.okWide Try.prog W .any base 23 v) (h : DataW.Trod enc Try.prog W 0 (fun _ => true) true 23 v d p) :
    ∃ l : List Tok, l.length ≤ 9223372036854775807 ∧ Rep (gW W) v (vToks l) := by
  obtain ⟨a, hr, hs⟩ := open_arg1 (n := 8) (sh := .slice [.int .i64, .str, .int .i64, .int .i64]) (by kernel_rfl) hv h (by rw [Try.underlying23]; intro fs hf; cases hf) (by rw [Try.underlying23]; intro k e hf; cases hf)
  cases hs with | slice _ gs hl hg =>
  obtain ⟨l, h1, h2⟩ := sh_list (α := Tok) (q := fun x => tC x) (fun g hg => sh_tok hg) hg
  refine ⟨l, by omega, ?_⟩
  simp only [vToks, toksC]
  rw [h1, ← h2]
  exact hr
end Go.Proofs.Ytmbijfcjfhdnjaa

/- TokenCuts: the call. -/
namespace Go.Proofs.Ytmbijfcjfhdnjaa
set_option linter.unusedSimpArgs false
set_option linter.unusedVariables false
open Go.RowKit Go.Lib

set_option maxRecDepth 100000 in
set_option maxHeartbeats 4000000 in
theorem p_cuts (s : ByteArray) : PCalls Try.prog 4 [.str s] (.bool true) := by
  have hl := len_size s
  refine pcalls_of (by first | rfl | simp [free, free.frees, frees_str, frees_u8, frees_u16]) (by first | rfl | simp [free, free.frees, frees_str, frees_u8, frees_u16]) (acalls_of mixed J_law04_TokenCuts_ok (Nat.le_of_ble_eq_true rfl) ?_); simp only [J_law04_TokenCuts, wk,if_true,if_false,forall_const,implies_true,ne_eq,eq_self,Nat.reduceEqDiff,Nat.reduceAdd,Nat.reduceMul,Nat.reduceSub,Nat.reduceLeDiff,Nat.reduceLT,Int.reduceEq,Int.reduceLT,Int.reduceLE,Int.reduceAdd,Int.reduceSub,Int.reduceMul,Int.reduceNeg,Int.reduceNe,reduceCtorEq,Int.reduceToNat,↓reduceIte]
  refine PCalls.use (p_awake04) ?_; simp only [wk,if_true,if_false,forall_const,implies_true,ne_eq,eq_self,Nat.reduceEqDiff,Nat.reduceAdd,Nat.reduceMul,Nat.reduceSub,Nat.reduceLeDiff,Nat.reduceLT,Int.reduceEq,Int.reduceLT,Int.reduceLE,Int.reduceAdd,Int.reduceSub,Int.reduceMul,Int.reduceNeg,Int.reduceNe,reduceCtorEq,Int.reduceToNat,↓reduceIte]
  intro hs
  have q := p_pall s (by omega)
  simp only [resV, vToks] at q
  refine PCalls.use (q) ?_; simp only [wk,if_true,if_false,forall_const,implies_true,ne_eq,eq_self,Nat.reduceEqDiff,Nat.reduceAdd,Nat.reduceMul,Nat.reduceSub,Nat.reduceLeDiff,Nat.reduceLT,Int.reduceEq,Int.reduceLT,Int.reduceLE,Int.reduceAdd,Int.reduceSub,Int.reduceMul,Int.reduceNeg,Int.reduceNe,reduceCtorEq,Int.reduceToNat,↓reduceIte]
  refine fun h2 => ?_
  obtain ⟨n, hn, e1, ts, e2, e3, e4⟩ := allT_cut (s := s) h2
  have q2 := p_pall (s.extract 0 n) (by rw [ByteArray.size_extract]; omega)
  rw [e3] at q2
  simp only [resV, vToks] at q2
  rw [e1]
  refine ⟨⟨by omega, by omega⟩, ?_⟩
  simp only [Int.toNat_natCast]
  refine PCalls.use (q2) ?_; simp only [wk,if_true,if_false,forall_const,implies_true,ne_eq,eq_self,Nat.reduceEqDiff,Nat.reduceAdd,Nat.reduceMul,Nat.reduceSub,Nat.reduceLeDiff,Nat.reduceLT,Int.reduceEq,Int.reduceLT,Int.reduceLE,Int.reduceAdd,Int.reduceSub,Int.reduceMul,Int.reduceNeg,Int.reduceNe,reduceCtorEq,Int.reduceToNat,↓reduceIte]
  have hsz : (s.extract 0 n ++ ⟨#[32, 41]⟩ ++ s.extract n s.size).size = s.size + 2 := by
    rw [ByteArray.size_append, ByteArray.size_append, ByteArray.size_extract, ByteArray.size_extract]; show _ + 2 + _ = _; omega
  have hsz2 : (s.extract 0 n ++ ⟨#[32, 41]⟩).size + (s.extract n s.size).size = s.size + 2 := by
    rw [← ByteArray.size_append]; exact hsz
  have hsz1 : (s.extract 0 n).size + (⟨#[32, 41]⟩ : ByteArray).size ≤ 9223372036854775807 := by
    rw [ByteArray.size_extract]; show _ + 2 ≤ _; omega
  refine ⟨⟨by omega, by omega⟩, hsz1, ?_⟩
  simp only [Int.toNat_natCast]
  refine ⟨⟨by omega, by omega, by omega⟩, by rw [hsz2]; omega, ?_⟩
  have q3 := p_pall (s.extract 0 n ++ ⟨#[32, 41]⟩ ++ s.extract n s.size) (by rw [hsz]; omega)
  obtain ⟨R3, hR3⟩ : ∃ R, R = allT (s.extract 0 n ++ ⟨#[32, 41]⟩ ++ s.extract n s.size) := ⟨_, rfl⟩
  rw [← hR3] at q3 e4
  simp only [resV, vToks] at q3
  refine ⟨_, q3, ?_⟩; simp only [wk,if_true,if_false,forall_const,implies_true,ne_eq,eq_self,Nat.reduceEqDiff,Nat.reduceAdd,Nat.reduceMul,Nat.reduceSub,Nat.reduceLeDiff,Nat.reduceLT,Int.reduceEq,Int.reduceLT,Int.reduceLE,Int.reduceAdd,Int.reduceSub,Int.reduceMul,Int.reduceNeg,Int.reduceNe,reduceCtorEq,Int.reduceToNat,↓reduceIte]
  intro hbig
  have e4 := e4 (by omega)
  by_cases ht : ts.length = 1000
  · rw [if_pos ht] at e4
    subst e4
    exact ⟨fun h => absurd h (by show ¬ (3 : Int) = 2; decide), fun _ => rfl⟩
  · rw [if_neg ht] at e4
    subst e4
    refine ⟨fun _ => ⟨inR_of (by omega) (by omega), fun _ => ⟨fun _ => ?_, fun h => absurd rfl h⟩, fun h => absurd (by show ((n + 2 : Nat) : Int) = (n : Int) + 2; omega) h⟩, fun h => absurd rfl h⟩
    exact fun h => absurd (by omega) h
end Go.Proofs.Ytmbijfcjfhdnjaa

/- TokenPlaces, TokenCuts: the calls. -/
namespace Go.Proofs.Ytmbijfcjfhdnjaa
set_option linter.unusedSimpArgs false
set_option linter.unusedVariables false
open Go.RowKit Go.Lib Go.ChangeShapes Go.WideShapes Go.ChangeAt
set_option maxRecDepth 100000 in
theorem tokenPlaces_calls {H : Type} {enc : TypeId × Value → H} (W : World) {base0 : Nat} {v0 : Value} {d0 : DataW H} {p0 : List MemPlace} (hv0 : Value.okWide Try.prog W .any base0 9 v0) (h0 : DataW.Trod enc Try.prog W 0 (fun _ => true) true 9 v0 d0 p0) :
    Calls Try.prog 3 #[v0] W fun e w' => e = .returned (.bool true) ∧ Below W.heap.size W w' := by
  obtain ⟨s, rfl⟩ := okWide_string Try.underlying9 hv0
  exact calls_true (vargs := [.string s]) (PCalls.use (p_places s) rfl) (.cons (.str s) .nil) (fun a ha => by simp at ha; subst ha; rfl)
set_option maxRecDepth 100000 in
theorem tokenCuts_calls {H : Type} {enc : TypeId × Value → H} (W : World) {base0 : Nat} {v0 : Value} {d0 : DataW H} {p0 : List MemPlace} (hv0 : Value.okWide Try.prog W .any base0 9 v0) (h0 : DataW.Trod enc Try.prog W 0 (fun _ => true) true 9 v0 d0 p0) :
    Calls Try.prog 4 #[v0] W fun e w' => e = .returned (.bool true) ∧ Below W.heap.size W w' := by
  obtain ⟨s, rfl⟩ := okWide_string Try.underlying9 hv0
  exact calls_true (vargs := [.string s]) (PCalls.use (p_cuts s) rfl) (.cons (.str s) .nil) (fun a ha => by simp at ha; subst ha; rfl)
end Go.Proofs.Ytmbijfcjfhdnjaa
