/- The abstract layer, fourth part: operations that only tell a value. -/
import Derived.Test.YtajpibdchgflnaaAb2
import Derived.WalkLawsBesides
namespace Go.Proofs.Ytajpibdchgflnaa
set_option linter.unusedSimpArgs false
set_option linter.unusedVariables false
open Go.RowKit Go.Lib

inductive Opd where
  | t (k : Nat)
  | c (a : AV)
  | f (i : FuncId)

/-- Further operations that tell a value of values alone. -/
inductive Ex where
  | binw (op : BinOp)

/-- Operations. -/
inductive AOp where
  | ex (e : Ex) (xs : List Opd)
  | mv (x : Opd)
  | pick (c a b : Opd)
  | build (tmpl : List AV) (parts : List (Nat × Nat × Opd))
  | load (sz : Option Nat) (x : Opd)
  | lds (sz : Option Nat) (x : Opd)
  | nilck (x : Opd)
  | bin (op : BinOp) (x y : Opd)
  | pnil (neg : Bool) (x : Opd)
  | bbin (neg : Bool) (x y : Opd)
  | not (x : Opd)
  | conv (k : IntKind) (x : Opd)
  | cstr (x : Opd)
  | b2s (x : Opd)
  | fld (off : Nat) (x : Opd)
  | idxa (sz : Nat) (x i : Opd)
  | idxs (x i : Opd)
  | slcs (x : Opd) (lo hi : Option Opd)
  | slcl (sz : Nat) (x : Opd) (lo hi mx : Option Opd)
  | ext (i : Nat) (x : Opd)
  | lens (x : Opd)
  | lenl (x : Opd)
  | mn (x y : Opd)
  | mx (x y : Opd)
  | mkfn (f : FuncId) (caps : List Opd)
  -- what changes something
  | mvu (e sz : Nat) (x : Opd)
  | mvo (k : Nat)
  | new (l : List AV) (ups : List (Nat × Nat × Nat))
  | box (x : Opd) (ups : List (Nat × Nat × Nat))
  | bsl (e sz n : Nat) (tmpl : List AV) (parts : List (Nat × Nat × Opd))
  | mk0 (e sz bytes : Nat) (c : Opd)
  | mkn (e sz bytes : Nat) (zero : List AV) (n : Opd)
  | loado (x : Opd)
  | store (n : Nat) (a x : Opd)
  | stores (n : Nat) (a x : Opd)
  | storeo (a : Opd) (k : Nat)
  | app (e sz bytes : Nat) (x y : Opd)
  | appo (e sz bytes : Nat) (k : Nat) (y : Opd)
  | apps (e : TypeId) (x y : Opd)
  | appso (e : TypeId) (k : Nat) (y : Opd)
  | call (f : Opd) (args : List Opd)
  | calli (f : Opd) (args : List Opd)

def ev (fr : Fr) : Opd → Option AV
  | .t k => (lk fr k).map deg
  | .c a => some a
  | .f i => some (.fn i [])

def inR (z : Int) : Prop := -9223372036854775808 ≤ z ∧ z ≤ 9223372036854775807
def arith (k : IntKind) (z : Int) (K : AV → Prop) : Prop :=
  match k with
  | .i64 => inR z ∧ K (.int .i64 z)
  | k => K (.int k (k.wrap z))
def bitV (op : BinOp) (k : IntKind) (x y : Int) : Int :=
  match op with
  | .and => k.wrap (BitVec.ofInt k.bits x &&& BitVec.ofInt k.bits y).toNat
  | .or => k.wrap (BitVec.ofInt k.bits x ||| BitVec.ofInt k.bits y).toNat
  | .xor => k.wrap (BitVec.ofInt k.bits x ^^^ BitVec.ofInt k.bits y).toNat
  | _ => k.wrap (BitVec.ofInt k.bits x &&& ~~~ BitVec.ofInt k.bits y).toNat
def ibin (op : BinOp) (k : IntKind) (a b : Int) (K : AV → Prop) : Prop :=
  match op with
  | .add => arith k (a + b) K
  | .sub => arith k (a - b) K
  | .mul => arith k (a * b) K
  | .quo => b ≠ 0 ∧ arith k (a.tdiv b) K
  | .rem => b ≠ 0 ∧ K (.int k (a.tmod b))
  | .and => K (.int k (bitV .and k a b))
  | .or => K (.int k (bitV .or k a b))
  | .xor => K (.int k (bitV .xor k a b))
  | .andNot => K (.int k (bitV .andNot k a b))
  | .eql => K (.bool (decide (a = b)))
  | .neq => K (.bool (decide (a ≠ b)))
  | .lss => K (.bool (decide (a < b)))
  | .leq => K (.bool (decide (a ≤ b)))
  | .gtr => K (.bool (decide (b < a)))
  | .geq => K (.bool (decide (b ≤ a)))
  | _ => False
def sbin (op : BinOp) (a b : ByteArray) (K : AV → Prop) : Prop :=
  match op with
  | .add => a.size + b.size ≤ 9223372036854775807 ∧ K (.str (a ++ b))
  | .eql => K (.bool (decide (a = b)))
  | .neq => K (.bool (decide (a ≠ b)))
  | .lss => K (.bool (Op.bytesLess a.toList b.toList))
  | _ => False
def bin2 (op : BinOp) (a b : AV) (K : AV → Prop) : Prop :=
  match a, b with
  | .int k x, .int k' y =>
    match op with
    | .shl => 0 ≤ y ∧ K (.int k (k.wrap (x * 2 ^ (min y.toNat k.bits))))
    | .shr => 0 ≤ y ∧ K (.int k (x.fdiv (2 ^ (min y.toNat k.bits))))
    | op => k = k' ∧ ibin op k x y K
  | .str x, .str y => sbin op x y K
  | _, _ => False
def cellsOf : AV → List AV
  | .agg l => l
  | a => [a]
def isTup : AV → Bool
  | .tup _ => true
  | _ => false
def buildK (fr : Fr) (tmpl : List AV) : List (Nat × Nat × Opd) → (List AV → Prop) → Prop
  | [], K => K tmpl
  | (off, sz, x) :: r, K => match ev fr x with
    | some a => (isTup a = false ∧ (cellsOf a).length = sz ∧ off + sz ≤ tmpl.length) ∧ buildK fr (splice tmpl off (cellsOf a)) r K
    | none => False
def byteAt (s : ByteArray) (i : Nat) : Nat := ((s.data.toList[i]?).map (·.toNat)).getD 0
def loadK (sz : Option Nat) (l : List AV) (K : AV → Prop) : Prop :=
  match sz with
  | none => match l with
    | a :: _ => K (deg a)
    | [] => False
  | some n => n ≤ l.length ∧ K (.agg ((l.take n).map deg))
def evs (fr : Fr) : List Opd → Option (List AV)
  | [] => some []
  | x :: r => match ev fr x, evs fr r with
    | some a, some l => some (a :: l)
    | _, _ => none
def evD (fr : Fr) (d : AV) : Option Opd → Option AV
  | none => some d
  | some x => ev fr x

/-- what further operations tell -/
def exF : Ex → List AV → Option AV
  | .binw op, [.int k x, .int k' y] => if k = k' then (match op with
    | .add => some (.int k (k.wrap (x + y)))
    | .sub => some (.int k (k.wrap (x - y)))
    | .mul => some (.int k (k.wrap (x * y)))
    | _ => none) else none
  | _, _ => none

/-- What an operation that only tells a value tells. -/
def val (fr : Fr) (h : Hp) (o : AOp) (K : AV → Prop) : Prop :=
  match o with
  | .ex e xs => match evs fr xs with
    | some l => (match exF e l with
      | some a => K a
      | none => False)
    | none => False
  | .mv x => match ev fr x with
    | some a => K a
    | none => False
  | .pick c a b => match ev fr c with
    | some (.bool p) => (p = true → match ev fr a with
      | some a => K a
      | none => False) ∧ (p = false → match ev fr b with
      | some a => K a
      | none => False)
    | _ => False
  | .build tmpl parts => buildK fr tmpl parts (fun l => K (.agg l))
  | .load sz x => match ev fr x with
    | some (.ptr id off) => (match h[id]? with
      | some (some (_, l)) => loadK sz (l.drop off) K
      | _ => False)
    | some (.fp l) => loadK sz l K
    | _ => False
  | .lds sz x => match ev fr x with
    | some (.ptr id off) => (match h[id]? with
      | some (some (true, l)) => loadK sz (l.drop off) K
      | _ => False)
    | some (.fp l) => loadK sz l K
    | _ => False
  | .nilck x => match ev fr x with
    | some (.ptr id off) => K (.ptr id off)
    | some (.fp l) => K (.fp l)
    | some (.fn f l) => K (.fn f l)
    | _ => False
  | .bin op x y => match ev fr x, ev fr y with
    | some a, some b => bin2 op a b K
    | _, _ => False
  | .pnil neg x => match ev fr x with
    | some .nilp => K (.bool (!neg))
    | some (.ptr _ _) => K (.bool neg)
    | some (.fp _) => K (.bool neg)
    | _ => False
  | .bbin neg x y => match ev fr x, ev fr y with
    | some (.bool a), some (.bool b) => K (.bool (if neg then decide (a ≠ b) else decide (a = b)))
    | _, _ => False
  | .not x => match ev fr x with
    | some (.bool p) => K (.bool (!p))
    | _ => False
  | .conv k x => match ev fr x with
    | some (.int _ n) => K (.int k (k.wrap n))
    | _ => False
  | .cstr x => match ev fr x with
    | some (.str s) => K (.str s)
    | _ => False
  | .b2s x => match ev fr x with
    | some (.lst _ n l) => ∃ bs : List UInt8, l = bs.map (fun b => AV.int .u8 b.toNat) ∧ n = bs.length ∧ K (.str ⟨bs.toArray⟩)
    | _ => False
  | .fld off x => match ev fr x with
    | some (.ptr id o) => K (.ptr id (o + off))
    | some (.fp l) => K (.fp (l.drop off))
    | _ => False
  | .idxa sz x i => match ev fr x, ev fr i with
    | some (.lst _ n l), some (.int _ i) => (0 ≤ i ∧ i < n) ∧ K (.fp (l.drop (i.toNat * sz)))
    | some (.hs id n), some (.int _ i) => (0 ≤ i ∧ i < n) ∧ K (.ptr id (i.toNat * sz))
    | _, _ => False
  | .idxs x i => match ev fr x, ev fr i with
    | some (.str s), some (.int _ i) => (0 ≤ i ∧ i < s.size) ∧ K (.int .u8 (byteAt s i.toNat))
    | _, _ => False
  | .slcs x lo hi => match ev fr x with
    | some (.str s) => (match evD fr (.int .i64 0) lo, evD fr (.int .i64 s.size) hi with
      | some (.int _ l), some (.int _ u) => (0 ≤ l ∧ l ≤ u ∧ u ≤ s.size) ∧ K (.str (s.extract l.toNat u.toNat))
      | _, _ => False)
    | _ => False
  | .slcl sz x lo hi mx => match ev fr x with
    | some (.lst f n l) => (match evD fr (.int .i64 0) lo, evD fr (.int .i64 n) hi with
      | some (.int _ i), some (.int _ j) => (0 ≤ i ∧ i ≤ j ∧ j ≤ n ∧ l.length = n * sz) ∧ (match mx with
        | none => K (.lst .ro (j.toNat - i.toNat) ((l.drop (i.toNat * sz)).take ((j.toNat - i.toNat) * sz)))
        | some m => match ev fr m with
          | some (.int _ m) => m = j ∧ K (.lst .clip (j.toNat - i.toNat) ((l.drop (i.toNat * sz)).take ((j.toNat - i.toNat) * sz)))
          | _ => False)
      | _, _ => False)
    | _ => False
  | .ext i x => match ev fr x with
    | some (.tup l) => (match l[i]? with
      | some a => K a
      | none => False)
    | _ => False
  | .lens x => match ev fr x with
    | some (.str s) => K (.int .i64 s.size)
    | _ => False
  | .lenl x => match ev fr x with
    | some (.lst _ n _) => K (.int .i64 n)
    | some (.hs _ n) => K (.int .i64 n)
    | _ => False
  | .mn x y => match ev fr x, ev fr y with
    | some (.int k a), some (.int _ b) => K (.int k (if b < a then b else a))
    | _, _ => False
  | .mx x y => match ev fr x, ev fr y with
    | some (.int k a), some (.int _ b) => K (.int k (if a < b then b else a))
    | _, _ => False
  | .mkfn f caps => match evs fr caps with
    | some l => K (.fn f l)
    | none => False
  | _ => False

def eqB (a b : ByteArray) : Bool := a.data.toList == b.data.toList
def chkV : Value → AV → Bool
  | .bool a, .bool b => a == b
  | .int k n, .int k' n' => decide (k = k') && n == n'
  | .string s, .str s' => eqB s s'
  | .pointer none, .nilp => true
  | .slice none 0 0, .lst f 0 [] => plain (.lst f 0 [])
  | .nilFunc, .nilf => true
  | _, _ => false
def chkVs : List Value → List AV → Bool
  | [], [] => true
  | v :: vs, a :: l => chkV v a && chkVs vs l
  | _, _ => false
def chkOpd : Operand → Opd → Bool
  | .tmp k, .t j => k == j
  | .const v, .c a => chkV v a
  | .func f, .f i => f == i
  | _, _ => false
def chkOpds : List Operand → List Opd → Bool
  | [], [] => true
  | x :: r, y :: r' => chkOpd x y && chkOpds r r'
  | _, _ => false
def chkO : Option Operand → Option Opd → Bool
  | none, none => true
  | some x, some y => chkOpd x y
  | _, _ => false
def chkParts (P : Program) (fs : Array Field) : List (Nat × Operand) → List (Nat × Nat × Opd) → Bool
  | [], [] => true
  | (i, x) :: r, (off, sz, y) :: r' => (match fs[i]? with
    | some f => f.offset == off && (P.info? f.type).map (·.size) == some sz && chkOpd x y
    | none => false) && chkParts P fs r r'
  | _, _ => false
def isAggT : TypeDesc → Bool
  | .struct _ | .array _ _ => true
  | _ => false

def chkEx (P : Program) (o : Op) (e : Ex) (ys : List Opd) : Bool :=
  match e with
  | .binw op => match o with
    | .binOp op' _ x y _ => decide (op' = op) && chkOpds [x, y] ys
    | _ => false
/-- Is the operation this one? (Those that only tell a value.) -/
def chkVal (P : Program) (o : Op) (a : AOp) : Bool :=
  match a with
  | .ex e ys => chkEx P o e ys
  | .mv y => match o with
    | .move x => chkOpd x y
    | .assign x => chkOpd x y
    | _ => false
  | .pick c a b => match o with
    | .pick c' a' b' => chkOpd c' c && chkOpd a' a && chkOpd b' b
    | _ => false
  | .build tmpl parts => match o with
    | .build t ps => (match P.info? t, P.underlying t with
      | some i, some (.struct fs) => (match i.zero with
        | some z => chkVs z.cells.toList tmpl
        | none => false) && fs.toList.all (fun f => (P.info? f.type).isSome) && chkParts P fs ps.toList parts
      | _, _ => false)
    | _ => false
  | .load sz y => match o with
    | .load t x => chkOpd x y && (match P.info? t, P.underlying t with
      | some i, some d => if isAggT d then decide (sz = some i.size) else decide (sz = none)
      | _, _ => false)
    | _ => false
  | .lds sz y => match o with
    | .load t x => chkOpd x y && (match P.info? t, P.underlying t with
      | some i, some d => if isAggT d then decide (sz = some i.size) else decide (sz = none)
      | _, _ => false)
    | _ => false
  | .nilck y => match o with
    | .nilCheck x => chkOpd x y
    | _ => false
  | .bin op x y => match o with
    | .binOp op' _ x' y' _ => decide (op' = op) && chkOpd x' x && chkOpd y' y
    | _ => false
  | .pnil neg x => match o with
    | .binOp op' t x' y' _ => decide (op' = if neg then .neq else .eql) && chkOpd x' x && chkOpd y' (.c .nilp) && (match P.underlying t with
      | some (.pointer _) => true
      | _ => false)
    | _ => false
  | .bbin neg x y => match o with
    | .binOp op' t x' y' _ => decide (op' = if neg then .neq else .eql) && chkOpd x' x && chkOpd y' y && (match P.underlying t with
      | some .bool => true
      | _ => false)
    | _ => false
  | .not y => match o with
    | .unOp .not _ x => chkOpd x y
    | _ => false
  | .conv k y => match o with
    | .convert s t x => chkOpd x y && (match P.underlying s, P.underlying t with
      | some _, some (.int k') => decide (k' = k)
      | _, _ => false)
    | _ => false
  | .cstr y => match o with
    | .convert s t x => chkOpd x y && (match P.underlying s, P.underlying t with
      | some _, some .string => true
      | _, _ => false)
    | _ => false
  | .b2s y => match o with
    | .convert s t x => chkOpd x y && (match P.underlying s, P.underlying t with
      | some (.slice e), some .string => (match P.underlying e with
        | some (.int .u8) => true
        | _ => false)
      | _, _ => false)
    | _ => false
  | .fld off y => match o with
    | .fieldAddr s x i => chkOpd x y && (match P.underlying s with
      | some (.struct fs) => (match fs[i]? with
        | some f => f.offset == off && (match P.info? f.type with
          | some i => i.size != 0
          | none => false)
        | none => false)
      | _ => false)
    | _ => false
  | .idxa sz y z => match o with
    | .indexAddr t x i => chkOpd x y && chkOpd i z && (match P.underlying t with
      | some (.slice e) => (P.info? e).map (·.size) == some sz
      | _ => false)
    | _ => false
  | .idxs y z => match o with
    | .index t x i => chkOpd x y && chkOpd i z && (match P.underlying t with
      | some .string => true
      | _ => false)
    | _ => false
  | .slcs y lo hi => match o with
    | .slice t x lo' hi' none => chkOpd x y && chkO lo' lo && chkO hi' hi && (match P.underlying t with
      | some .string => true
      | _ => false)
    | _ => false
  | .slcl sz y lo hi mx => match o with
    | .slice t x lo' hi' mx' => chkOpd x y && chkO lo' lo && chkO hi' hi && chkO mx' mx && (mx.isNone || hi.isSome) && (match P.underlying t with
      | some (.slice e) => (P.info? e).map (·.size) == some sz
      | _ => false)
    | _ => false
  | .ext i y => match o with
    | .extract x j => chkOpd x y && i == j
    | _ => false
  | .lens y => match o with
    | .call c => (match c.callee, c.args.toList, c.argTypes.toList with
      | .builtin .len, [x], [t] => chkOpd x y && (match P.underlying t with
        | some .string => true
        | _ => false)
      | _, _, _ => false)
    | _ => false
  | .lenl y => match o with
    | .call c => (match c.callee, c.args.toList, c.argTypes.toList with
      | .builtin .len, [x], [t] => chkOpd x y && (match P.underlying t with
        | some (.slice _) => true
        | _ => false)
      | _, _, _ => false)
    | _ => false
  | .mn y z => match o with
    | .call c => (match c.callee, c.args.toList with
      | .builtin .min, [x, x'] => chkOpd x y && chkOpd x' z
      | _, _ => false)
    | _ => false
  | .mx y z => match o with
    | .call c => (match c.callee, c.args.toList with
      | .builtin .max, [x, x'] => chkOpd x y && chkOpd x' z
      | _, _ => false)
    | _ => false
  | .mkfn f caps => match o with
    | .makeFunc fn first cs => (match fn, first.toList with
      | .func f', [] => f' == f && chkOpds cs.toList caps
      | _, _ => false)
    | _ => false
  | _ => false

section
variable {P : Program} {g : Gh} {h : Hp} {w : World} {fr : Fr} {act : Act}

theorem eqB_eq {a b : ByteArray} (h : eqB a b = true) : a = b := by
  unfold eqB at h
  have := eq_of_beq h
  exact WideShapes.bytes_inj this
theorem chkV_ok (g : Gh) {v : Value} {a : AV} (h : chkV v a = true) : Rep g v a ∧ plain a = true ∧ v.oneCell' = true := by
  unfold chkV at h
  split at h
  · obtain rfl := eq_of_beq h; exact ⟨.bool _, rfl, rfl⟩
  · simp only [Bool.and_eq_true, decide_eq_true_eq, beq_iff_eq] at h
    obtain ⟨rfl, rfl⟩ := h; exact ⟨.int _ _, rfl, rfl⟩
  · obtain rfl := eqB_eq h; exact ⟨.str _, rfl, rfl⟩
  · exact ⟨.nilp, rfl, rfl⟩
  · exact ⟨.lst0 _ _ _ (fun _ => rfl), h, rfl⟩
  · exact ⟨.nilf, rfl, rfl⟩
  · cases h
theorem chkVs_ok (g : Gh) : ∀ {vs : List Value} {l : List AV}, chkVs vs l = true → RepL g vs l ∧ plains l ∧ ∀ v ∈ vs, v.oneCell' = true
  | [], [], _ => ⟨.nil, by intro a ha; simp at ha, by simp⟩
  | [], _ :: _, h => by simp [chkVs] at h
  | _ :: _, [], h => by simp [chkVs] at h
  | v :: vs, a :: l, h => by
    simp only [chkVs, Bool.and_eq_true] at h
    obtain ⟨h1, h2, h3⟩ := chkV_ok g h.1
    obtain ⟨q1, q2, q3⟩ := chkVs_ok g h.2
    exact ⟨.cons h1 q1, by intro b hb; rcases List.mem_cons.1 hb with rfl | hb; exact h2; exact q2 b hb, by intro u hu; rcases List.mem_cons.1 hu with rfl | hu; exact h3; exact q3 u hu⟩

theorem ev_ok (hf : FrameOk P g w act.tmps fr) {x : Operand} {y : Opd} (hc : chkOpd x y = true) {a : AV} (he : ev fr y = some a) : Rep g (act.eval x) a ∧ plain a = true := by
  unfold chkOpd at hc
  split at hc
  · obtain rfl := eq_of_beq hc
    simp only [ev] at he
    cases hl : lk fr _ with
    | none => rw [hl] at he; cases he
    | some a' =>
      rw [hl] at he
      simp only [Option.map_some, Option.some.injEq] at he
      subst he
      obtain ⟨v, h1, h2, _⟩ := hf _ _ hl
      simp only [Act.eval, Array.getD_eq_getD_getElem?, h1, Option.getD_some]
      exact ⟨h2.deg, plain_deg _⟩
  · simp only [ev, Option.some.injEq] at he
    subst he
    obtain ⟨h1, h2, _⟩ := chkV_ok g hc
    exact ⟨h1, h2⟩
  · obtain rfl := eq_of_beq hc
    simp only [ev, Option.some.injEq] at he
    subst he
    exact ⟨.fn _ [] [] (by intro a ha; simp at ha) .nil, rfl⟩
  · cases hc
theorem evs_ok (hf : FrameOk P g w act.tmps fr) : ∀ {xs : List Operand} {ys : List Opd}, chkOpds xs ys = true → ∀ {l : List AV}, evs fr ys = some l → RepL g (xs.map act.eval) l ∧ plains l
  | [], [], _, l, he => by simp [evs] at he; subst he; exact ⟨.nil, by intro a ha; simp at ha⟩
  | [], _ :: _, h, _, _ => by simp [chkOpds] at h
  | _ :: _, [], h, _, _ => by simp [chkOpds] at h
  | x :: xs, y :: ys, h, l, he => by
    simp only [chkOpds, Bool.and_eq_true] at h
    simp only [evs] at he
    split at he
    · next a l' h1 h2 =>
      simp only [Option.some.injEq] at he
      subst he
      obtain ⟨q1, q2⟩ := ev_ok hf h.1 h1
      obtain ⟨r1, r2⟩ := evs_ok hf h.2 h2
      exact ⟨.cons q1 r1, by intro b hb; rcases List.mem_cons.1 hb with rfl | hb; exact q2; exact r2 b hb⟩
    · cases he

/-- the value that a run tells -/
def Tells (P : Program) (g : Gh) (w : World) (s : Sem Value) (K : AV → Prop) : Prop := ∃ v a, s.run P w = .ok v w ∧ Rep g v a ∧ plain a = true ∧ K a

theorem tells_ibin {op : BinOp} {k : IntKind} {x y : Int} {K : AV → Prop} (t : TypeId) (h1 : op ≠ .shl) (h2 : op ≠ .shr) (hv : ibin op k x y K) : Tells P g w (binOp op t (.int k x) (.int k y)) K := by
  have wr : ∀ z : Int, inR z → IntKind.i64.wrap z = z := fun z hz => IntWalk.i64_in _ (by unfold inR at hz; omega)
  have ar : ∀ z, arith k z K → ∃ a, K a ∧ a = .int k (k.wrap z) := by
    intro z hz
    unfold arith at hz
    split at hz
    · exact ⟨_, hz.2, by rw [wr z hz.1]⟩
    · exact ⟨_, hz, rfl⟩
  cases op with
  | shl => exact absurd rfl h1
  | shr => exact absurd rfl h2
  | add => obtain ⟨a, ha, rfl⟩ := ar _ hv; exact ⟨_, _, by simp [binOp, Op.intArith], .int _ _, rfl, ha⟩
  | sub => obtain ⟨a, ha, rfl⟩ := ar _ hv; exact ⟨_, _, by simp [binOp, Op.intArith], .int _ _, rfl, ha⟩
  | mul => obtain ⟨a, ha, rfl⟩ := ar _ hv; exact ⟨_, _, by simp [binOp, Op.intArith], .int _ _, rfl, ha⟩
  | quo => obtain ⟨a, ha, rfl⟩ := ar _ hv.2; exact ⟨_, _, by simp [binOp, Op.intDiv, hv.1], .int _ _, rfl, ha⟩
  | rem => exact ⟨_, _, by simp [binOp, Op.intDiv, hv.1], .int _ _, rfl, hv.2⟩
  | and => exact ⟨_, _, by simp [binOp, Op.intBits]; rfl, .int _ _, rfl, hv⟩
  | or => exact ⟨_, _, by simp [binOp, Op.intBits]; rfl, .int _ _, rfl, hv⟩
  | xor => exact ⟨_, _, by simp [binOp, Op.intBits]; rfl, .int _ _, rfl, hv⟩
  | andNot => exact ⟨_, _, by simp [binOp, Op.intBits, bitV], .int _ _, rfl, hv⟩
  | eql => exact ⟨.bool (decide (x = y)), _, by simp [binOp, Op.intCmp]; rfl, .bool _, rfl, hv⟩
  | neq => exact ⟨.bool (decide (x ≠ y)), _, by simp [binOp, Op.intCmp]; rfl, .bool _, rfl, hv⟩
  | lss => exact ⟨_, _, by simp [binOp, Op.intCmp], .bool _, rfl, hv⟩
  | leq => exact ⟨_, _, by simp [binOp, Op.intCmp], .bool _, rfl, hv⟩
  | gtr => exact ⟨_, _, by simp [binOp, Op.intCmp], .bool _, rfl, hv⟩
  | geq => exact ⟨_, _, by simp [binOp, Op.intCmp], .bool _, rfl, hv⟩
theorem tells_sbin {op : BinOp} {x y : ByteArray} {K : AV → Prop} (t : TypeId) (hv : sbin op x y K) : Tells P g w (binOp op t (.string x) (.string y)) K := by
  unfold sbin at hv
  split at hv
  · have : ¬ (x.size + y.size > 9223372036854775807) := by omega
    exact ⟨_, _, by simp only [binOp]; rw [run_string_add_if, if_neg this], .str _, rfl, hv.2⟩
  · exact ⟨.bool (decide (x = y)), _, by simp only [binOp, Op.stringOp, str_iff]; rfl, .bool _, rfl, hv⟩
  · exact ⟨.bool (decide (x ≠ y)), _, by simp only [binOp, Op.stringOp, str_iff, decide_not]; rfl, .bool _, rfl, hv⟩
  · exact ⟨_, _, by simp only [binOp, Op.stringOp]; rfl, .bool _, rfl, hv⟩
  · exact hv.elim
end

end Go.Proofs.Ytajpibdchgflnaa
