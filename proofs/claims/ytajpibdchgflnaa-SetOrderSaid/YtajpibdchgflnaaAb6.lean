/- The abstract layer, seventh part: operations that change something; calls. -/
import Derived.Test.YtajpibdchgflnaaAb5
namespace Go.Proofs.Ytajpibdchgflnaa
set_option linter.unusedSimpArgs false
set_option linter.unusedVariables false
open Go.RowKit Go.Lib

/-- A function that is entered. -/
def entersB (P : Program) (f : FuncId) : Bool :=
  match P.funcs[f]? with
  | some fn => !(fn.name == "runtime.NumGoroutine") && fn.body.isSome
  | none => false
/-- What a call does, whatever world it is called in. -/
def ACalls (P : Program) (f : FuncId) (args : List AV) (h : Hp) (R : AV → Hp → Prop) : Prop :=
  entersB P f = true ∧ ∀ g w vargs, Sim P g h w → (∀ b k, g.own b ≠ some (.slot k)) → RepL g vargs args → plains args →
    Calls P f vargs.toArray w fun e w' => ∃ x a h' g', e = .returned x ∧ Ev g w g' w' ∧ Sim P g' h' w' ∧ (∀ b k, g'.own b ≠ some (.slot k)) ∧ Rep g' x a ∧ plain a = true ∧ R a h'
theorem ACalls.mono {P : Program} {f : FuncId} {args : List AV} {h : Hp} {R R' : AV → Hp → Prop} (hc : ACalls P f args h R) (hr : ∀ a h', R a h' → R' a h') : ACalls P f args h R' :=
  ⟨hc.1, fun g w vargs h1 h2 h3 h4 => (hc.2 g w vargs h1 h2 h3 h4).mono fun _ _ ⟨x, a, h', g', q1, q2, q3, q4, q5, q6, q7⟩ => ⟨x, a, h', g', q1, q2, q3, q4, q5, q6, hr _ _ q7⟩⟩

def put (d : Option Nat) (a : AV) (fr : Fr) : Fr :=
  match d with
  | some k => (k, a) :: fr
  | none => fr
/-- cells that may be appended to (they are full) -/
def upgK : List (Nat × Nat × Nat) → List AV → (List AV → Prop) → Prop
  | [], l, K => K l
  | (i, e, sz) :: r, l, K => match l[i]? with
    | some (.lst .clip n c) => c.length = n * sz ∧ upgK r (l.set i (.lst (.own e) n c)) K
    | _ => False
def kbox (d : Option Nat) (fr : Fr) (h : Hp) (K : Fr → Hp → Prop) (l : List AV) : Prop := K (put d (.ptr h.length 0) fr) (h ++ [some (false, l)])
def klst (d : Option Nat) (e n : Nat) (fr : Fr) (h : Hp) (K : Fr → Hp → Prop) (l : List AV) : Prop := K (put d (.lst (.own e) n l) fr) h
def kcall (d : Option Nat) (fr : Fr) (K : Fr → Hp → Prop) (a : AV) (h : Hp) : Prop := K (put d a fr) h
def kval (d : Option Nat) (fr : Fr) (h : Hp) (K : Fr → Hp → Prop) (a : AV) : Prop := K (put d a fr) h

/-- What an operation does. -/
def wop (P : Program) (d : Option Nat) (o : AOp) (fr : Fr) (h : Hp) (K : Fr → Hp → Prop) : Prop :=
  match o with
  | .mvu e sz x => match ev fr x with
    | some (.lst .clip n l) => l.length = n * sz ∧ K (put d (.lst (.own e) n l) fr) h
    | _ => False
  | .mvo k => match lk fr k with
    | some (.lst (.own e) n l) => K (put d (.lst (.own e) n l) (degr k fr)) h
    | _ => False
  | .new l ups => upgK ups l (kbox d fr h K)
  | .box x ups => match ev fr x with
    | some a => isTup a = false ∧ upgK ups (cellsOf a) (kbox d fr h K)
    | none => False
  | .bsl e sz n tmpl parts => buildK fr tmpl parts (klst d e n fr h K)
  | .mk0 e _ bytes c => match ev fr c with
    | some (.int _ n) => (0 ≤ n ∧ bytes * n ≤ 140737488355328 ∧ n ≤ 9223372036854775807) ∧ K (put d (.lst (.own e) 0 []) fr) h
    | _ => False
  | .mkn _ sz bytes zero n => match ev fr n with
    | some (.int _ n) => (0 ≤ n ∧ bytes * n ≤ 140737488355328 ∧ n ≤ 9223372036854775807) ∧ K (put d (.hs h.length n.toNat) fr) (h ++ [some (false, (List.range (n.toNat * sz)).map fun i => zero.getD (i % sz) .nilp)])
    | _ => False
  | .loado x => match ev fr x with
    | some (.ptr id off) => (match h[id]? with
      | some (some (false, l)) => (match l[off]? with
        | some (.lst (.own e) n c) => K (put d (.lst (.own e) n c) fr) (h.set id (some (false, l.set off (.lst .ro n c))))
        | _ => False)
      | _ => False)
    | _ => False
  | .store n a x => match ev fr a, ev fr x with
    | some (.ptr id off), some v => (match h[id]? with
      | some (some (false, l)) => (isTup v = false ∧ (cellsOf v).length = n ∧ off + n ≤ l.length) ∧ K fr (h.set id (some (false, splice l off (cellsOf v))))
      | _ => False)
    | _, _ => False
  | .stores n a x => match ev fr a, ev fr x with
    | some (.ptr id off), some v => (match h[id]? with
      | some (some (false, l)) => (isTup v = false ∧ (cellsOf v).length = n ∧ off + n ≤ l.length) ∧ K fr (h.set id (some (true, splice l off (cellsOf v))))
      | _ => False)
    | _, _ => False
  | .storeo a k => match ev fr a, lk fr k with
    | some (.ptr id off), some (.lst (.own e) n c) => (match h[id]? with
      | some (some (false, l)) => off < l.length ∧ K (degr k fr) (h.set id (some (false, l.set off (.lst (.own e) n c))))
      | _ => False)
    | _, _ => False
  | .app e sz bytes x y => match ev fr x, ev fr y with
    | some (.lst .clip n l), some (.lst _ m l') => (l.length = n * sz ∧ l'.length = m * sz ∧ n + m ≤ 9223372036854775807 ∧ (n + m) * bytes ≤ 140737488355328) ∧ K (put d (.lst (.own e) (n + m) (l ++ l')) fr) h
    | _, _ => False
  | .appo e sz bytes k y => match lk fr k, ev fr y with
    | some (.lst (.own e') n l), some (.lst _ m l') => (e' = e ∧ l'.length = m * sz ∧ n + m ≤ 9223372036854775807 ∧ (n + m) * bytes ≤ 140737488355328) ∧ K (put d (.lst (.own e) (n + m) (l ++ l')) (degr k fr)) h
    | _, _ => False
  | .appso e k y => match lk fr k, ev fr y with
    | some (.lst (.own e') n l), some (.str s) => (e' = e ∧ n + s.size ≤ 140737488355328) ∧ K (put d (.lst (.own e) (n + s.size) (l ++ s.data.toList.map fun b => AV.int .u8 b.toNat)) (degr k fr)) h
    | _, _ => False
  | .call f args => match ev fr f, evs fr args with
    | some (.fn f' caps), some l => ACalls P f' (l ++ caps) h (kcall d fr K)
    | _, _ => False
  | .calli f args => match ev fr f, evs fr args with
    | some (.fn f' caps), some l => ACalls P f' (l ++ caps) h (kcall d fr K)
    | _, _ => False
  | o => val fr h o (kval d fr h K)

def isVal : AOp → Bool
  | .mvu .. | .mvo .. | .new .. | .box .. | .bsl .. | .mk0 .. | .mkn .. | .loado .. | .store .. | .stores .. | .storeo .. | .app .. | .appo .. | .apps .. | .appso .. | .call .. | .calli .. => false
  | _ => true
def elemOk (P : Program) (e sz bytes : Nat) : Bool :=
  match P.info? e with
  | some i => i.size == sz && i.bytes == bytes && sz != 0 && (match i.zero with
    | some z => z.cells.size == sz
    | none => false)
  | none => false
def isSliceOf (P : Program) (t e : TypeId) : Bool :=
  match P.underlying t with
  | some (.slice e') => e' == e
  | _ => false
def chkPartsE (sz : Nat) : List (Nat × Operand) → List (Nat × Nat × Opd) → Bool
  | [], [] => true
  | (i, x) :: r, (off, sz', y) :: r' => i * sz == off && sz' == sz && chkOpd x y && chkPartsE sz r r'
  | _, _ => false
def upsOk (P : Program) (ups : List (Nat × Nat × Nat)) : Bool := ups.all fun u => (P.info? u.2.1).map (·.size) == some u.2.2

/-- Is the operation this one? (Those that change something.) -/
def chkEff (P : Program) (o : Op) (dst : Option Nat) (a : AOp) : Bool :=
  match a with
  | .mvu e sz y => (match o with
    | .move x => chkOpd x y
    | .assign x => chkOpd x y
    | _ => false) && (P.info? e).map (·.size) == some sz && dst.isSome
  | .mvo k => (match o with
    | .move (.tmp j) => j == k
    | .assign (.tmp j) => j == k
    | _ => false) && dst.isSome
  | .new l ups => (match o with
    | .alloc t => (match P.info? t with
      | some i => (match i.zero with
        | some z => chkVs z.cells.toList l
        | none => false)
      | none => false)
    | _ => false) && upsOk P ups
  | .box y ups => (match o with
    | .box _ x => chkOpd x y
    | _ => false) && upsOk P ups
  | .bsl e sz n tmpl parts => (match o with
    | .buildSlice t n' ps => isSliceOf P t e && n' == n && decide (n * sz ≤ 16777216 ∧ n ≤ 16777216) && (match P.info? e with
      | some i => i.size == sz && (match i.zero with
        | some z => z.cells.size == sz && chkVs ((List.range (n * sz)).map fun j => z.cells[j % z.cells.size]!) tmpl
        | none => false)
      | none => false) && chkPartsE sz ps.toList parts
    | _ => false) && dst.isSome
  | .mk0 e sz bytes c => (match o with
    | .makeSlice t l c' => isSliceOf P t e && chkOpd l (.c (.int .i64 0)) && chkOpd c' c
    | _ => false) && elemOk P e sz bytes && dst.isSome
  | .mkn e sz bytes zero n => (match o with
    | .makeSlice t l c => isSliceOf P t e && chkOpd l n && chkOpd c n
    | _ => false) && elemOk P e sz bytes && (match P.info? e with
      | some i => (match i.zero with
        | some z => chkVs z.cells.toList zero
        | none => false)
      | none => false)
  | .loado y => (match o with
    | .load t x => chkOpd x y && (match P.underlying t with
      | some d => !isAggT d
      | none => false)
    | _ => false) && dst.isSome
  | .store n a y => (match o with
    | .store t x v => chkOpd x a && chkOpd v y && (P.info? t).map (·.size) == some n
    | _ => false) && dst.isNone
  | .stores n a y => (match o with
    | .store t x v => chkOpd x a && chkOpd v y && (P.info? t).map (·.size) == some n
    | _ => false) && dst.isNone
  | .storeo a k => (match o with
    | .store t x (.tmp j) => chkOpd x a && j == k && (P.info? t).map (·.size) == some 1
    | _ => false) && dst.isNone
  | .app e sz bytes y z => (match o with
    | .call c => (match c.callee, c.args.toList, c.argTypes.toList with
      | .builtin .append, [x, x'], [t, t'] => isSliceOf P t e && isSliceOf P t' e && chkOpd x y && chkOpd x' z
      | _, _, _ => false)
    | _ => false) && elemOk P e sz bytes && dst.isSome
  | .appo e sz bytes k z => (match o with
    | .call c => (match c.callee, c.args.toList, c.argTypes.toList with
      | .builtin .append, [.tmp j, x'], [t, t'] => isSliceOf P t e && isSliceOf P t' e && j == k && chkOpd x' z
      | _, _, _ => false)
    | _ => false) && elemOk P e sz bytes && dst.isSome
  | .appso e k z => (match o with
    | .call c => (match c.callee, c.args.toList, c.argTypes.toList with
      | .builtin .append, [.tmp j, x'], [t, u] => isSliceOf P t e && j == k && chkOpd x' z && (match P.underlying u with
        | some .string => true
        | _ => false)
      | _, _, _ => false)
    | _ => false) && elemOk P e 1 1 && (match P.info? e with
      | some i => (match i.zero with
        | some (.int .u8 0) => true
        | _ => false)
      | none => false) && dst.isSome
  | .call f args => match o with
    | .call c => (match c.callee with
      | .value x => chkOpd x f && chkOpds c.args.toList args
      | _ => false)
    | _ => false
  | .calli f args => match o with
    | .call c => (match c.callee with
      | .value x => chkOpd x f && chkOpds c.args.toList args
      | _ => false)
    | _ => false
  | a => chkVal P o a

end Go.Proofs.Ytajpibdchgflnaa
