/- Texts of one proof, laid together: Ab3 Ab4 Ab5 Ab6 Ab7 Sp. -/
import Derived.Test.YtpiofcjkekpboaaMA6
import Derived.WalkLawsBesides
import Derived.ChangeKeysEq
import Derived.Lib.Bytealg
import Derived.Test.YtpiofcjkekpboaaMA1
set_option maxRecDepth 100000
set_option maxHeartbeats 16000000

set_option linter.unusedSimpArgs false
set_option linter.unusedVariables false
/- The abstract layer, fourth part: operations that only tell a value. -/
namespace Go.Proofs.Ytpiofcjkekpboaa
open Go.RowKit Go.Lib

inductive Opd where
  | t (k : Nat)
  | c (a : AV)
  | f (i : FuncId)

inductive Ex where
  | binw (op : BinOp)
  | aeq (neg : Bool) (ks : List Nat)
  | r2s
  | ibs
  | mkb (f : FuncId)
  | idp (sz n : Nat)
  | mlk (str ag : Bool) (z : List AV) (ok : Bool)
  | zag (z : List AV)
  | sla (n : Nat)

inductive KOp where
  | mk (e : Nat) (x : Opd)
  | mv (k : Nat)
  | ld (x : Opd)
  | st (a : Opd) (k : Nat)
  | ap (e bytes k : Nat) (y : Opd)
  | cut (k : Nat) (j : Opd)
  | pop (a x : Opd)
  | pk (k : Nat) (x : Opd)
  | po (a x : Opd)
  | len (x : Opd)
  | sl (x j : Opd)
  | ix (x i : Opd)
  | new (l : List AV) (ups : List (Nat × Nat × Nat)) (ks : List (Nat × Nat))

inductive AOp where
  | ex (e : Ex) (xs : List Opd)
  | mv (x : Opd)
  | pick (c a b : Opd)
  | build (tmpl : List AV) (parts : List (Nat × Nat × Opd))
  | load (sz : Option Nat) (x : Opd)
  | lds (sz : Option Nat) (x : Opd)
  | nilck (x : Opd)
  | bin (op : BinOp) (x y : Opd)
  | pnil (neg : Bool) (x : Opd)
  | bbin (neg : Bool) (x y : Opd)
  | not (x : Opd)
  | conv (k : IntKind) (x : Opd)
  | cstr (x : Opd)
  | b2s (x : Opd)
  | fld (off : Nat) (x : Opd)
  | idxa (sz : Nat) (x i : Opd)
  | idxs (x i : Opd)
  | slcs (x : Opd) (lo hi : Option Opd)
  | slcl (sz : Nat) (x : Opd) (lo hi mx : Option Opd)
  | slch (sz : Nat) (x j : Opd)
  | ext (i : Nat) (x : Opd)
  | lens (x : Opd)
  | lenl (x : Opd)
  | mn (x y : Opd)
  | mx (x y : Opd)
  | mkfn (f : FuncId) (caps : List Opd)
  -- what changes something
  | mvu (e sz : Nat) (x : Opd)
  | mvo (k : Nat)
  | new (l : List AV) (ups : List (Nat × Nat × Nat))
  | box (x : Opd) (ups : List (Nat × Nat × Nat))
  | bsl (e sz n : Nat) (tmpl : List AV) (parts : List (Nat × Nat × Opd))
  | bsh (e sz n : Nat) (tmpl : List AV) (parts : List (Nat × Nat × Opd))
  | bslc (e sz n : Nat) (tmpl : List AV) (parts : List (Nat × Nat × Opd))
  | b2h (x : Opd)
  | bar (sz : Nat) (tmpl : List AV) (parts : List (Nat × Nat × Opd))
  | mmk
  | mup (str : Bool) (k : Nat) (m x y : Opd)
  | mmv (k : Nat)
  | mra (k : Nat)
  | cpy (sz : Nat) (x y : Opd)
  | aph (e sz bytes : Nat) (x y : Opd)
  | apc (e sz bytes : Nat) (zero : List AV) (x y : Opd)
  | mfz (k : Nat)
  | mk0 (e sz bytes : Nat) (c : Opd)
  | mkn (e sz bytes : Nat) (zero : List AV) (n : Opd)
  -- append(nil, y...), as an object of its front part
  | apz (e sz bytes : Nat) (zero : List AV) (y : Opd)
  | loado (x : Opd)
  | store (n : Nat) (a x : Opd)
  | stores (n : Nat) (a x : Opd)
  | storeo (a : Opd) (k : Nat)
  | app (e sz bytes : Nat) (x y : Opd)
  | appo (e sz bytes : Nat) (k : Nat) (y : Opd)
  | storeu (n : Nat) (u : List (Nat × Nat × Nat)) (x y : Opd)
  | appso (e : TypeId) (k : Nat) (y : Opd)
  | call (f : Opd) (args : List Opd)
  | calli (f : Opd) (args : List Opd)
  | snil (neg : Bool) (x : Opd)
  | rngs (x : Opd)
  | nxt (k : Nat)
  | k (o : KOp)
  | callr (f : Opd) (args : List Opd)

def ev (fr : Fr) : Opd → Option AV
 | .t k => (lk fr k).map deg
 | .c a => some a
 | .f i => some (.fn i [])

def inR (z : Int) : Prop := -9223372036854775808 ≤ z ∧ z ≤ 9223372036854775807
def arith (k : IntKind) (z : Int) (K : AV → Prop) : Prop :=
 match k with
 | .i64 => inR z ∧ K (.int .i64 z)
 | k => K (.int k (k.wrap z))
def bitV (op : BinOp) (k : IntKind) (x y : Int) : Int :=
 match op with
 | .and => k.wrap (BitVec.ofInt k.bits x &&& BitVec.ofInt k.bits y).toNat
 | .or => k.wrap (BitVec.ofInt k.bits x ||| BitVec.ofInt k.bits y).toNat
 | .xor => k.wrap (BitVec.ofInt k.bits x ^^^ BitVec.ofInt k.bits y).toNat
 | _ => k.wrap (BitVec.ofInt k.bits x &&& ~~~ BitVec.ofInt k.bits y).toNat
def ibin (op : BinOp) (k : IntKind) (a b : Int) (K : AV → Prop) : Prop :=
 match op with
 | .add => arith k (a + b) K
 | .sub => arith k (a - b) K
 | .mul => arith k (a * b) K
 | .quo => b ≠ 0 ∧ arith k (a.tdiv b) K
 | .rem => b ≠ 0 ∧ K (.int k (a.tmod b))
 | .and => K (.int k (bitV .and k a b))
 | .or => K (.int k (bitV .or k a b))
 | .xor => K (.int k (bitV .xor k a b))
 | .andNot => K (.int k (bitV .andNot k a b))
 | .eql => K (.bool (decide (a = b)))
 | .neq => K (.bool (decide (a ≠ b)))
 | .lss => K (.bool (decide (a < b)))
 | .leq => K (.bool (decide (a ≤ b)))
 | .gtr => K (.bool (decide (b < a)))
 | .geq => K (.bool (decide (b ≤ a)))
 | _ => False
def sbin (op : BinOp) (a b : ByteArray) (K : AV → Prop) : Prop :=
 match op with
 | .add => a.size + b.size ≤ 9223372036854775807 ∧ K (.str (a ++ b))
 | .eql => K (.bool (decide (a = b)))
 | .neq => K (.bool (decide (a ≠ b)))
 | .lss => K (.bool (Op.bytesLess a.toList b.toList))
 | _ => False
def bin2 (op : BinOp) (a b : AV) (K : AV → Prop) : Prop :=
 match a, b with
 | .int k x, .int k' y =>
  match op with
  | .shl => 0 ≤ y ∧ K (.int k (k.wrap (x * 2 ^ (min y.toNat k.bits))))
  | .shr => 0 ≤ y ∧ K (.int k (x.fdiv (2 ^ (min y.toNat k.bits))))
  | op => k = k' ∧ ibin op k x y K
 | .str x, .str y => sbin op x y K
 | _, _ => False
def cellsOf : AV → List AV
 | .agg l => l
 | a => [a]
def isTup : AV → Bool
 | .tup _ => true
 | _ => false
def buildK (fr : Fr) (tmpl : List AV) : List (Nat × Nat × Opd) → (List AV → Prop) → Prop
 | [], K => K tmpl
 | (off, sz, x) :: r, K => match ev fr x with
  | some a => (isTup a = false ∧ (cellsOf a).length = sz ∧ off + sz ≤ tmpl.length) ∧ buildK fr (splice tmpl off (cellsOf a)) r K
  | none => False
def byteAt (s : ByteArray) (i : Nat) : Nat := ((s.data.toList[i]?).map (·.toNat)).getD 0
def loadK (sz : Option Nat) (l : List AV) (K : AV → Prop) : Prop :=
 match sz with
 | none => match l with
  | a :: _ => K (deg a)
  | [] => False
 | some n => n ≤ l.length ∧ K (.agg ((l.take n).map deg))
def evs (fr : Fr) : List Opd → Option (List AV)
 | [] => some []
 | x :: r => match ev fr x, evs fr r with
  | some a, some l => some (a :: l)
  | _, _ => none
def evD (fr : Fr) (d : AV) : Option Opd → Option AV
 | none => some d
 | some x => ev fr x

def eqCell (k : Nat) (a b : AV) : Option Bool :=
 match k, a, b with
 | 0, .int i x, .int j y => if i = j then some (decide (x = y)) else none
 | 1, .str x, .str y => some (decide (x = y))
 | 2, .bool x, .bool y => some (decide (x = y))
 | _, _, _ => none
def eqCells : List Nat → List AV → List AV → Option Bool
 | [], [], [] => some true
 | k :: ks, a :: l, b :: m => match eqCell k a b, eqCells ks l m with
  | some p, some q => some (p && q)
  | _, _ => none
 | _, _, _ => none
def exF0 : Ex → List AV → Option AV
 | .binw op, [.int k x, .int k' y] => if k = k' then (match op with
  | .add => some (.int k (k.wrap (x + y)))
  | .sub => some (.int k (k.wrap (x - y)))
  | .mul => some (.int k (k.wrap (x * y)))
  | _ => none) else none
 | .aeq neg ks, [.agg l, .agg m] => (eqCells ks l m).map fun r => .bool (if neg then !r else r)
 | .r2s, [.int _ n] => some (.str (Utf8.encode n))
 | .ibs, [.str s, .int .u8 c] => some (.int .i64 (indexByte s.data.toList c.toNat.toUInt8))
 | _, _ => none
def kdOk (str : Bool) : TypeDesc → Bool
 | .string => str
 | .int _ => !str
 | _ => false
def kEq : AV → AV → Bool
 | .int _ a, .int _ b => a == b
 | .str a, .str b => a == b
 | _, _ => false
def isKey (str : Bool) : AV → Bool
 | .int _ _ => !str
 | .str _ => str
 | _ => false
def kSame : AV → AV → Bool
 | .int k _, .int k' _ => decide (k = k')
 | .str _, .str _ => true
 | _, _ => false
def mFind (key : AV) : List AV → Nat → Option Nat
 | [], _ => none
 | a :: l, i => if kEq key a then some i else mFind key l (i + 1)
def zeroA (ag : Bool) (z : List AV) : AV := if ag then .agg z else z.headD .nilp
def mlkF (str ag : Bool) (z : List AV) (ok : Bool) : List AV → Option AV
 | [.fmp ks vs, key] => if isKey str key && ks.all (kSame key) then (match mFind key ks 0 with
  | some i => some (if ok then .tup [vs.getD i .nilp, .bool true] else vs.getD i .nilp)
  | none => some (if ok then .tup [zeroA ag z, .bool false] else zeroA ag z)) else none
 | _ => none
def mKeys (key : AV) (ks : List AV) : List AV := match mFind key ks 0 with
 | some _ => ks
 | none => ks ++ [key]
def mVals (key x : AV) (ks vs : List AV) : List AV := match mFind key ks 0 with
 | some i => vs.set i x
 | none => vs ++ [x]
def idpF (sz n : Nat) : List AV → Option AV
 | [.ptr id off, .int _ i] => if 0 ≤ i ∧ i < (n : Int) then some (.ptr id (off + i.toNat * sz)) else none
 | [.fp l, .int _ i] => if 0 ≤ i ∧ i < (n : Int) then some (.fp (l.drop (i.toNat * sz))) else none
 | _ => none
def slaF (n : Nat) : List AV → Option AV
 | [.ptr id 0, .int _ i] => if 0 ≤ i ∧ i ≤ (n : Int) then some (.hs id i.toNat) else none
 | [.ptr id 0] => some (.hs id n)
 | _ => none
def exF : Ex → List AV → Option AV
 | .mkb f, l => some (.fnb f l)
 | .idp sz n, l => idpF sz n l
 | .mlk str ag z ok, l => mlkF str ag z ok l
 | .zag z, [] => some (.agg z)
 | .zag _, _ => none
 | .sla n, l => slaF n l
 | e, l => exF0 e l

def val (fr : Fr) (h : Hp) (o : AOp) (K : AV → Prop) : Prop :=
 match o with
 | .ex e xs => match evs fr xs with
  | some l => (match exF e l with
   | some a => K a
   | none => False)
  | none => False
 | .mv x => match ev fr x with
  | some a => K a
  | none => False
 | .pick c a b => match ev fr c with
  | some (.bool p) => (p = true → match ev fr a with
   | some a => K a
   | none => False) ∧ (p = false → match ev fr b with
   | some a => K a
   | none => False)
  | _ => False
 | .build tmpl parts => buildK fr tmpl parts (fun l => K (.agg l))
 | .load sz x => match ev fr x with
  | some (.ptr id off) => (match h[id]? with
   | some (some (_, l)) => loadK sz (l.drop off) K
   | _ => False)
  | some (.fp l) => loadK sz l K
  | _ => False
 | .lds sz x => match ev fr x with
  | some (.ptr id off) => (match h[id]? with
   | some (some (true, l)) => loadK sz (l.drop off) K
   | _ => False)
  | some (.fp l) => loadK sz l K
  | _ => False
 | .nilck x => match ev fr x with
  | some (.ptr id off) => K (.ptr id off)
  | some (.fp l) => K (.fp l)
  | some (.fn f l) => K (.fn f l)
  | some (.frn Q) => K (.frn Q)
  | _ => False
 | .bin op x y => match ev fr x, ev fr y with
  | some a, some b => bin2 op a b K
  | _, _ => False
 | .pnil neg x => match ev fr x with
  | some .nilp => K (.bool (!neg))
  | some (.ptr _ _) => K (.bool neg)
  | some (.fp _) => K (.bool neg)
  | some (.frn _) => K (.bool neg)
  | _ => False
 | .bbin neg x y => match ev fr x, ev fr y with
  | some (.bool a), some (.bool b) => K (.bool (if neg then decide (a ≠ b) else decide (a = b)))
  | _, _ => False
 | .not x => match ev fr x with
  | some (.bool p) => K (.bool (!p))
  | _ => False
 | .conv k x => match ev fr x with
  | some (.int _ n) => K (.int k (k.wrap n))
  | _ => False
 | .cstr x => match ev fr x with
  | some (.str s) => K (.str s)
  | _ => False
 | .b2s x => match ev fr x with
  | some (.lst _ n l) => ∃ bs : List UInt8, l = bs.map (fun b => AV.int .u8 b.toNat) ∧ n = bs.length ∧ K (.str ⟨bs.toArray⟩)
  | _ => False
 | .fld off x => match ev fr x with
  | some (.ptr id o) => K (.ptr id (o + off))
  | some (.fp l) => K (.fp (l.drop off))
  | some (.frn Q) => off = 0 ∧ K (.frn Q)
  | _ => False
 | .idxa sz x i => match ev fr x, ev fr i with
  | some (.lst _ n l), some (.int _ i) => (0 ≤ i ∧ i < n) ∧ K (.fp (l.drop (i.toNat * sz)))
  | some (.hs id n), some (.int _ i) => (0 ≤ i ∧ i < n) ∧ K (.ptr id (i.toNat * sz))
  | some (.hsc id n _), some (.int _ i) => (0 ≤ i ∧ i < n) ∧ K (.ptr id (i.toNat * sz))
  | _, _ => False
 | .idxs x i => match ev fr x, ev fr i with
  | some (.str s), some (.int _ i) => (0 ≤ i ∧ i < s.size) ∧ K (.int .u8 (byteAt s i.toNat))
  | _, _ => False
 | .slcs x lo hi => match ev fr x with
  | some (.str s) => (match evD fr (.int .i64 0) lo, evD fr (.int .i64 s.size) hi with
   | some (.int _ l), some (.int _ u) => (0 ≤ l ∧ l ≤ u ∧ u ≤ s.size) ∧ K (.str (s.extract l.toNat u.toNat))
   | _, _ => False)
  | _ => False
 | .slcl sz x lo hi mx => match ev fr x with
  | some (.lst f n l) => (match evD fr (.int .i64 0) lo, evD fr (.int .i64 n) hi with
   | some (.int _ i), some (.int _ j) => (0 ≤ i ∧ i ≤ j ∧ j ≤ n ∧ l.length = n * sz) ∧ (match mx with
    | none => K (.lst .ro (j.toNat - i.toNat) ((l.drop (i.toNat * sz)).take ((j.toNat - i.toNat) * sz)))
    | some m => match ev fr m with
     | some (.int _ m) => m = j ∧ K (.lst .clip (j.toNat - i.toNat) ((l.drop (i.toNat * sz)).take ((j.toNat - i.toNat) * sz)))
     | _ => False)
   | _, _ => False)
  | _ => False
 | .slch _ x j => match ev fr x, ev fr j with
  | some (.hsc id n c), some (.int _ j) => (0 ≤ j ∧ j ≤ n) ∧ K (.hsc id j.toNat c)
  | _, _ => False
 | .ext i x => match ev fr x with
  | some (.tup l) => (match l[i]? with
   | some a => K a
   | none => False)
  | _ => False
 | .lens x => match ev fr x with
  | some (.str s) => K (.int .i64 s.size)
  | _ => False
 | .lenl x => match ev fr x with
  | some (.lst _ n _) => K (.int .i64 n)
  | some (.hs _ n) => K (.int .i64 n)
  | some (.hsc _ n _) => K (.int .i64 n)
  | _ => False
 | .mn x y => match ev fr x, ev fr y with
  | some (.int k a), some (.int _ b) => K (.int k (if b < a then b else a))
  | _, _ => False
 | .mx x y => match ev fr x, ev fr y with
  | some (.int k a), some (.int _ b) => K (.int k (if a < b then b else a))
  | _, _ => False
 | .mkfn f caps => match evs fr caps with
  | some l => K (.fn f l)
  | none => False
 | _ => False

def eqB (a b : ByteArray) : Bool := a.data.toList == b.data.toList
def chkV : Value → AV → Bool
 | .bool a, .bool b => a == b
 | .int k n, .int k' n' => decide (k = k') && n == n'
 | .string s, .str s' => eqB s s'
 | .pointer none, .nilp => true
 | .slice none 0 0, .lst f 0 [] => plain (.lst f 0 [])
 | .nilFunc, .nilf => true
 | .map none, .opq => true
 | _, _ => false
def chkVs : List Value → List AV → Bool
 | [], [] => true
 | v :: vs, a :: l => chkV v a && chkVs vs l
 | _, _ => false
def chkOpd : Operand → Opd → Bool
 | .tmp k, .t j => k == j
 | .const v, .c a => chkV v a
 | .func f, .f i => f == i
 | _, _ => false
def chkOpds : List Operand → List Opd → Bool
 | [], [] => true
 | x :: r, y :: r' => chkOpd x y && chkOpds r r'
 | _, _ => false
def chkO : Option Operand → Option Opd → Bool
 | none, none => true
 | some x, some y => chkOpd x y
 | _, _ => false
def chkParts (P : Program) (fs : Array Field) : List (Nat × Operand) → List (Nat × Nat × Opd) → Bool
 | [], [] => true
 | (i, x) :: r, (off, sz, y) :: r' => (match fs[i]? with
  | some f => f.offset == off && (P.info? f.type).map (·.size) == some sz && chkOpd x y
  | none => false) && chkParts P fs r r'
 | _, _ => false
def isAggT : TypeDesc → Bool
 | .struct _ | .array _ _ => true
 | _ => false

def flatK (P : Program) (t : TypeId) (k : Nat) : Bool :=
 match P.underlying t with
 | some (.int _) => k == 0
 | some .string => k == 1
 | some .bool => k == 2
 | _ => false
def chkFlat (P : Program) : Nat → List Field → List Nat → Bool
 | _, [], [] => true
 | i, f :: fs, k :: ks => f.offset == i && f.name != "_" && flatK P f.type k && chkFlat P (i + 1) fs ks
 | _, _, _ => false
def chkEx (P : Program) (o : Op) (e : Ex) (ys : List Opd) : Bool :=
 match e with
 | .aeq neg ks => match o with
  | .binOp op' t x y _ => decide (op' = if neg then .neq else .eql) && chkOpds [x, y] ys && !P.stoodInHeld t && !P.eqGuardType P.depth t && (match P.underlying t with
   | some (.struct fs) => chkFlat P 0 fs.toList ks
   | _ => false)
  | _ => false
 | .binw op => match o with
  | .binOp op' _ x y _ => decide (op' = op) && chkOpds [x, y] ys
  | _ => false
 | .ibs => match o with
  | .call c => (match c.callee with
   | .value (.func f) => chkOpds c.args.toList ys && (match P.funcs[f]? with
    | some fn => fn.name == "internal/bytealg.IndexByteString" && fn.origin == "" && fn.body.isNone
    | none => false)
   | _ => false)
  | _ => false
 | .zag z => match o with
  | .build t ps => ys.isEmpty && ps.toList.isEmpty && (match P.info? t, P.underlying t with
   | some inf, some (.array _ e) => (P.info? e).isSome && (match inf.zero with
    | some z' => chkVs z'.cells.toList z
    | none => false)
   | _, _ => false)
  | _ => false
 | .mlk str ag z ok => match o with
  | .lookup t x i ok' => chkOpds [x, i] ys && ok' == ok && (match P.underlying t with
   | some (.map kt et) => (match P.underlying kt with
    | some d => kdOk str d
    | none => false) && (match P.info? et with
    | some inf => (match inf.zero with
     | some (.agg cs) => ag && chkVs cs.toList z
     | some v => !ag && v.oneCell' && chkVs [v] z
     | none => false)
    | none => false)
   | _ => false)
  | _ => false
 | .idp sz n => match o with
  | .indexAddr t x i => chkOpds [x, i] ys && (match P.underlying t with
   | some (.array n' e) => n' == n && (P.info? e).map (·.size) == some sz
   | _ => false)
  | _ => false
 | .sla n => match o with
  | .slice t x none hi none => chkOpds (x :: hi.toList) ys && (match P.underlying t with
   | some (.array n' e) => n' == n && (P.info? e).isSome
   | _ => false)
  | _ => false
 | .mkb f => match o with
  | .makeFunc fn bs cs => (match fn, cs.toList with
   | .func f', [] => decide (f' = f) && chkOpds bs.toList ys
   | _, _ => false)
  | _ => false
 | .r2s => match o with
  | .convert s t x => chkOpds [x] ys && (match P.underlying s, P.underlying t with
   | some (.int _), some .string => true
   | _, _ => false)
  | _ => false
def chkVal (P : Program) (o : Op) (a : AOp) : Bool :=
 match a with
 | .ex e ys => chkEx P o e ys
 | .mv y => match o with
  | .move x => chkOpd x y
  | .assign x => chkOpd x y
  | _ => false
 | .pick c a b => match o with
  | .pick c' a' b' => chkOpd c' c && chkOpd a' a && chkOpd b' b
  | _ => false
 | .build tmpl parts => match o with
  | .build t ps => (match P.info? t, P.underlying t with
   | some i, some (.struct fs) => (match i.zero with
    | some z => chkVs z.cells.toList tmpl
    | none => false) && fs.toList.all (fun f => (P.info? f.type).isSome) && chkParts P fs ps.toList parts
   | _, _ => false)
  | _ => false
 | .load sz y => match o with
  | .load t x => chkOpd x y && (match P.info? t, P.underlying t with
   | some i, some d => if isAggT d then decide (sz = some i.size) else decide (sz = none)
   | _, _ => false)
  | _ => false
 | .lds sz y => match o with
  | .load t x => chkOpd x y && (match P.info? t, P.underlying t with
   | some i, some d => if isAggT d then decide (sz = some i.size) else decide (sz = none)
   | _, _ => false)
  | _ => false
 | .nilck y => match o with
  | .nilCheck x => chkOpd x y
  | _ => false
 | .bin op x y => match o with
  | .binOp op' _ x' y' _ => decide (op' = op) && chkOpd x' x && chkOpd y' y
  | _ => false
 | .pnil neg x => match o with
  | .binOp op' t x' y' _ => decide (op' = if neg then .neq else .eql) && chkOpd x' x && chkOpd y' (.c .nilp) && (match P.underlying t with
   | some (.pointer _) => true
   | _ => false)
  | _ => false
 | .bbin neg x y => match o with
  | .binOp op' t x' y' _ => decide (op' = if neg then .neq else .eql) && chkOpd x' x && chkOpd y' y && (match P.underlying t with
   | some .bool => true
   | _ => false)
  | _ => false
 | .not y => match o with
  | .unOp .not _ x => chkOpd x y
  | _ => false
 | .conv k y => match o with
  | .convert s t x => chkOpd x y && (match P.underlying s, P.underlying t with
   | some _, some (.int k') => decide (k' = k)
   | _, _ => false)
  | _ => false
 | .cstr y => match o with
  | .convert s t x => chkOpd x y && (match P.underlying s, P.underlying t with
   | some _, some .string => true
   | _, _ => false)
  | _ => false
 | .b2s y => match o with
  | .convert s t x => chkOpd x y && (match P.underlying s, P.underlying t with
   | some (.slice e), some .string => (match P.underlying e with
    | some (.int .u8) => true
    | _ => false)
   | _, _ => false)
  | _ => false
 | .fld off y => match o with
  | .fieldAddr s x i => chkOpd x y && (match P.underlying s with
   | some (.struct fs) => (match fs[i]? with
    | some f => f.offset == off && (match P.info? f.type with
     | some i => i.size != 0
     | none => false)
    | none => false)
   | _ => false)
  | _ => false
 | .idxa sz y z => match o with
  | .indexAddr t x i => chkOpd x y && chkOpd i z && (match P.underlying t with
   | some (.slice e) => (P.info? e).map (·.size) == some sz
   | _ => false)
  | _ => false
 | .idxs y z => match o with
  | .index t x i => chkOpd x y && chkOpd i z && (match P.underlying t with
   | some .string => true
   | _ => false)
  | _ => false
 | .slcs y lo hi => match o with
  | .slice t x lo' hi' none => chkOpd x y && chkO lo' lo && chkO hi' hi && (match P.underlying t with
   | some .string => true
   | _ => false)
  | _ => false
 | .slcl sz y lo hi mx => match o with
  | .slice t x lo' hi' mx' => chkOpd x y && chkO lo' lo && chkO hi' hi && chkO mx' mx && (mx.isNone || hi.isSome) && (match P.underlying t with
   | some (.slice e) => (P.info? e).map (·.size) == some sz
   | _ => false)
  | _ => false
 | .slch sz y z => match o with
  | .slice t x none (some hi') none => chkOpd x y && chkOpd hi' z && (match P.underlying t with
   | some (.slice e) => (P.info? e).map (·.size) == some sz
   | _ => false)
  | _ => false
 | .ext i y => match o with
  | .extract x j => chkOpd x y && i == j
  | _ => false
 | .lens y => match o with
  | .call c => (match c.callee, c.args.toList, c.argTypes.toList with
   | .builtin .len, [x], [t] => chkOpd x y && (match P.underlying t with
    | some .string => true
    | _ => false)
   | _, _, _ => false)
  | _ => false
 | .lenl y => match o with
  | .call c => (match c.callee, c.args.toList, c.argTypes.toList with
   | .builtin .len, [x], [t] => chkOpd x y && (match P.underlying t with
    | some (.slice _) => true
    | _ => false)
   | _, _, _ => false)
  | _ => false
 | .mn y z => match o with
  | .call c => (match c.callee, c.args.toList with
   | .builtin .min, [x, x'] => chkOpd x y && chkOpd x' z
   | _, _ => false)
  | _ => false
 | .mx y z => match o with
  | .call c => (match c.callee, c.args.toList with
   | .builtin .max, [x, x'] => chkOpd x y && chkOpd x' z
   | _, _ => false)
  | _ => false
 | .mkfn f caps => match o with
  | .makeFunc fn first cs => (match fn, first.toList with
   | .func f', [] => f' == f && chkOpds cs.toList caps
   | _, _ => false)
  | _ => false
 | _ => false

section
variable {P : Program} {g : Gh} {h : Hp} {w : World} {fr : Fr} {act : Act}

theorem eqB_eq {a b : ByteArray} (h : eqB a b = true) : a = b := by
 unfold eqB at h
 have := eq_of_beq h
 exact WideShapes.bytes_inj this
theorem chkV_ok (g : Gh) {v : Value} {a : AV} (h : chkV v a = true) : Rep g v a ∧ plain a = true ∧ v.oneCell' = true := by
 unfold chkV at h
 split at h
 ·obtain rfl := eq_of_beq h; exact ⟨.bool _, rfl, rfl⟩
 ·simp only [Bool.and_eq_true, decide_eq_true_eq, beq_iff_eq] at h
  obtain ⟨rfl, rfl⟩ := h; exact ⟨.int _ _, rfl, rfl⟩
 ·obtain rfl := eqB_eq h; exact ⟨.str _, rfl, rfl⟩
 ·exact ⟨.nilp, rfl, rfl⟩
 ·exact ⟨.lst0 _ _ _ (fun _ => rfl), h, rfl⟩
 ·exact ⟨.nilf, rfl, rfl⟩
 ·exact ⟨.opq _ rfl (fun h => by cases h), rfl, rfl⟩
 ·cases h
theorem chkVs_ok (g : Gh) : ∀ {vs : List Value} {l : List AV}, chkVs vs l = true → RepL g vs l ∧ plains l ∧ ∀ v ∈ vs, v.oneCell' = true
 | [], [], _ => ⟨.nil, by intro a ha; simp at ha, by simp⟩
 | [], _ :: _, h => by simp [chkVs] at h
 | _ :: _, [], h => by simp [chkVs] at h
 | v :: vs, a :: l, h => by
  simp only [chkVs, Bool.and_eq_true] at h
  obtain ⟨h1, h2, h3⟩ := chkV_ok g h.1
  obtain ⟨q1, q2, q3⟩ := chkVs_ok g h.2
  exact ⟨.cons h1 q1, by intro b hb; rcases List.mem_cons.1 hb with rfl | hb; exact h2; exact q2 b hb, by intro u hu; rcases List.mem_cons.1 hu with rfl | hu; exact h3; exact q3 u hu⟩

theorem ev_ok (hf : FrameOk P g w act.tmps fr) {x : Operand} {y : Opd} (hc : chkOpd x y = true) {a : AV} (he : ev fr y = some a) : Rep g (act.eval x) a ∧ plain a = true := by
 unfold chkOpd at hc
 split at hc
 ·obtain rfl := eq_of_beq hc
  simp only [ev] at he
  cases hl : lk fr _ with
  | none => rw [hl] at he; cases he
  | some a' =>
   rw [hl] at he
   simp only [Option.map_some, Option.some.injEq] at he
   subst he
   obtain ⟨v, h1, h2, _⟩ := hf _ _ hl
   simp only [Act.eval, Array.getD_eq_getD_getElem?, h1, Option.getD_some]
   exact ⟨h2.deg, plain_deg _⟩
 ·simp only [ev, Option.some.injEq] at he
  subst he
  obtain ⟨h1, h2, _⟩ := chkV_ok g hc
  exact ⟨h1, h2⟩
 ·obtain rfl := eq_of_beq hc
  simp only [ev, Option.some.injEq] at he
  subst he
  exact ⟨.fn _ [] [] (by intro a ha; simp at ha) .nil, rfl⟩
 ·cases hc
theorem evs_ok (hf : FrameOk P g w act.tmps fr) : ∀ {xs : List Operand} {ys : List Opd}, chkOpds xs ys = true → ∀ {l : List AV}, evs fr ys = some l → RepL g (xs.map act.eval) l ∧ plains l
 | [], [], _, l, he => by simp [evs] at he; subst he; exact ⟨.nil, by intro a ha; simp at ha⟩
 | [], _ :: _, h, _, _ => by simp [chkOpds] at h
 | _ :: _, [], h, _, _ => by simp [chkOpds] at h
 | x :: xs, y :: ys, h, l, he => by
  simp only [chkOpds, Bool.and_eq_true] at h
  simp only [evs] at he
  split at he
  ·next a l' h1 h2 =>
   simp only [Option.some.injEq] at he
   subst he
   obtain ⟨q1, q2⟩ := ev_ok hf h.1 h1
   obtain ⟨r1, r2⟩ := evs_ok hf h.2 h2
   exact ⟨.cons q1 r1, by intro b hb; rcases List.mem_cons.1 hb with rfl | hb; exact q2; exact r2 b hb⟩
  ·cases he

def Tells (P : Program) (g : Gh) (w : World) (s : Sem Value) (K : AV → Prop) : Prop := ∃ v a, s.run P w = .ok v w ∧ Rep g v a ∧ plain a = true ∧ K a

theorem tells_ibin {op : BinOp} {k : IntKind} {x y : Int} {K : AV → Prop} (t : TypeId) (h1 : op ≠ .shl) (h2 : op ≠ .shr) (hv : ibin op k x y K) : Tells P g w (binOp op t (.int k x) (.int k y)) K := by
 have wr : ∀ z : Int, inR z → IntKind.i64.wrap z = z := fun z hz => IntWalk.i64_in _ (by unfold inR at hz; omega)
 have ar : ∀ z, arith k z K → ∃ a, K a ∧ a = .int k (k.wrap z) := by
  intro z hz
  unfold arith at hz
  split at hz
  ·exact ⟨_, hz.2, by rw [wr z hz.1]⟩
  ·exact ⟨_, hz, rfl⟩
 cases op with
 | shl => exact absurd rfl h1
 | shr => exact absurd rfl h2
 | add => obtain ⟨a, ha, rfl⟩ := ar _ hv; exact ⟨_, _, by simp [binOp, Op.intArith], .int _ _, rfl, ha⟩
 | sub => obtain ⟨a, ha, rfl⟩ := ar _ hv; exact ⟨_, _, by simp [binOp, Op.intArith], .int _ _, rfl, ha⟩
 | mul => obtain ⟨a, ha, rfl⟩ := ar _ hv; exact ⟨_, _, by simp [binOp, Op.intArith], .int _ _, rfl, ha⟩
 | quo => obtain ⟨a, ha, rfl⟩ := ar _ hv.2; exact ⟨_, _, by simp [binOp, Op.intDiv, hv.1], .int _ _, rfl, ha⟩
 | rem => exact ⟨_, _, by simp [binOp, Op.intDiv, hv.1], .int _ _, rfl, hv.2⟩
 | and => exact ⟨_, _, by simp [binOp, Op.intBits]; rfl, .int _ _, rfl, hv⟩
 | or => exact ⟨_, _, by simp [binOp, Op.intBits]; rfl, .int _ _, rfl, hv⟩
 | xor => exact ⟨_, _, by simp [binOp, Op.intBits]; rfl, .int _ _, rfl, hv⟩
 | andNot => exact ⟨_, _, by simp [binOp, Op.intBits, bitV], .int _ _, rfl, hv⟩
 | eql => exact ⟨.bool (decide (x = y)), _, by simp [binOp, Op.intCmp]; rfl, .bool _, rfl, hv⟩
 | neq => exact ⟨.bool (decide (x ≠ y)), _, by simp [binOp, Op.intCmp]; rfl, .bool _, rfl, hv⟩
 | lss => exact ⟨_, _, by simp [binOp, Op.intCmp], .bool _, rfl, hv⟩
 | leq => exact ⟨_, _, by simp [binOp, Op.intCmp], .bool _, rfl, hv⟩
 | gtr => exact ⟨_, _, by simp [binOp, Op.intCmp], .bool _, rfl, hv⟩
 | geq => exact ⟨_, _, by simp [binOp, Op.intCmp], .bool _, rfl, hv⟩
theorem tells_sbin {op : BinOp} {x y : ByteArray} {K : AV → Prop} (t : TypeId) (hv : sbin op x y K) : Tells P g w (binOp op t (.string x) (.string y)) K := by
 unfold sbin at hv
 split at hv
 ·have : ¬ (x.size + y.size > 9223372036854775807) := by omega
  exact ⟨_, _, by simp only [binOp]; rw [run_string_add_if, if_neg this], .str _, rfl, hv.2⟩
 ·exact ⟨.bool (decide (x = y)), _, by simp only [binOp, Op.stringOp, str_iff]; rfl, .bool _, rfl, hv⟩
 ·exact ⟨.bool (decide (x ≠ y)), _, by simp only [binOp, Op.stringOp, str_iff, decide_not]; rfl, .bool _, rfl, hv⟩
 ·exact ⟨_, _, by simp only [binOp, Op.stringOp]; rfl, .bool _, rfl, hv⟩
 ·exact hv.elim
end
section
variable {P : Program} {g : Gh} {h : Hp} {w : World} {fr : Fr} {act : Act}

theorem tells_bin2 {op : BinOp} {x y : Value} {a b : AV} {K : AV → Prop} (t : TypeId) (hx : Rep g x a) (hy : Rep g y b) (hv : bin2 op a b K) : Tells P g w (binOp op t x y) K := by
 unfold bin2 at hv
 split at hv
 ·cases hx; cases hy
  split at hv
  ·have : ¬ (_ < (0 : Int)) := Int.not_lt.2 hv.1
   exact ⟨_, _, by simp only [binOp, Op.shift]; rw [if_neg this]; rfl, .int _ _, rfl, hv.2⟩
  ·have : ¬ (_ < (0 : Int)) := Int.not_lt.2 hv.1
   exact ⟨_, _, by simp only [binOp, Op.shift]; rw [if_neg this]; rfl, .int _ _, rfl, hv.2⟩
  ·next h1 h2 =>
   obtain ⟨rfl, hv⟩ := hv
   exact tells_ibin t h1 h2 hv
 ·cases hx; cases hy; exact tells_sbin t hv
 ·exact hv.elim

theorem run_eqGuard {op : BinOp} {t : TypeId} {x y : Operand} {u v : Value} {a b : AV} (hx : Rep g u a) (hy : Rep g v b) (hna : ∀ l, a ≠ .agg l) : (eqGuard op t x y u v).run P w = .ok () w := by
 cases hx with
 | agg vs l _ _ _ => exact absurd rfl (hna l)
 | opq v1 h h' => unfold eqGuard; cases op <;> first | rfl | (cases u <;> first | rfl | (simp [Value.oneCell'] at h; done) | exact absurd rfl h')
 | frn v1 Q S W0 h h' _ _ => obtain ⟨b, o, rfl⟩ := h'; unfold eqGuard; cases op <;> rfl
 | _ => unfold eqGuard; cases op <;> rfl

theorem tells_load {b o : Nat} {vs : List Value} {l : List AV} {K : AV → Prop} {t : TypeId} {i : TypeInfo} {d : TypeDesc} {sz : Option Nat} (hcell : ∀ j v, vs[j]? = some v → w.cell? ⟨b, o + j, none⟩ = some v) (hr : RepL g vs l) (h1 : ∀ v ∈ vs, v.oneCell' = true)
  (hi : P.info? t = some i) (hu : P.underlying t = some d) (hsz : (if isAggT d then decide (sz = some i.size) else decide (sz = none)) = true) (hv : loadK sz l K) : Tells P g w (Instr.loadAt t (.pointer (some ⟨b, o, none⟩))) K := by
 have hagg : (isAgg t).run P w = .ok (isAggT d) w := by
  simp only [isAgg, Sem.run_bind, run_underlying hu, Result.andThen_ok]
  cases d <;> rfl
 have hload : (Instr.loadAt t (.pointer (some ⟨b, o, none⟩))).run P w = (if isAggT d then ((loadCells ⟨b, o, none⟩ i.size).run P w).andThen (fun cs w => .ok (.agg cs) w) else (load ⟨b, o, none⟩).run P w) := by
  simp only [Instr.loadAt, Instr.sureAddr, loadVar, Sem.run_bind, Sem.run_pure, Result.andThen_ok, hagg]
  cases isAggT d <;> simp [sizeOf, typeInfo, hi]
 by_cases hd : isAggT d = true
 ·rw [if_pos hd] at hsz hload
  have hsz := of_decide_eq_true hsz
  subst hsz
  obtain ⟨hl, hK⟩ := hv
  have hlen : (vs.take i.size).length = i.size := by rw [List.length_take, hr.length]; omega
  have hc := run_loadCells_list (P := P) (w := w) ⟨b, o, none⟩ (vs.take i.size) (fun j v hj => by
   rw [add_none]
   rw [List.getElem?_take] at hj
   split at hj
   ·exact hcell j v hj
   ·cases hj)
  rw [hlen] at hc
  rw [hc] at hload
  refine ⟨_, _, hload, .agg _ _ (fun v hv => h1 v (List.mem_of_mem_take hv)) ?_ (hr.take i.size).deg, rfl, hK⟩
  intro a ha
  obtain ⟨a', _, rfl⟩ := List.mem_map.1 ha
  exact plain_deg a'
 ·rw [if_neg hd] at hsz hload
  have hsz := of_decide_eq_true hsz
  subst hsz
  unfold loadK at hv
  cases hr with
  | nil => exact hv.elim
  | cons h0 hl =>
   have hc := hcell 0 _ rfl
   rw [Nat.add_zero] at hc
   exact ⟨_, _, by rw [hload, run_load, hc], h0.deg, plain_deg _, hv⟩

theorem fill_ok {fs : Array Field} (act : Act) (hf : FrameOk P g w act.tmps fr) {places : Array (Nat × Nat)} (hp : ∀ (i : Nat) f, fs[i]? = some f → ∃ sz, (P.info? f.type).map (·.size) = some sz ∧ places[i]? = some (f.offset, sz)) :
  ∀ (ps : List (Nat × Operand)) (parts : List (Nat × Nat × Opd)) (cells : List Value) (tmpl : List AV) (K : List AV → Prop), chkParts P fs ps parts = true → RepL g cells tmpl → plains tmpl → (∀ v ∈ cells, v.oneCell' = true) → buildK fr tmpl parts K →
   ∃ cells' l, Instr.fill (places[·]?) cells.toArray (ps.map fun q => (q.1, act.eval q.2)) = some cells'.toArray ∧ RepL g cells' l ∧ plains l ∧ (∀ v ∈ cells', v.oneCell' = true) ∧ K l
 | [], [], cells, tmpl, K, _, h1, h2, h3, h4 => ⟨cells, tmpl, rfl, h1, h2, h3, h4⟩
 | [], _ :: _, _, _, _, h, _, _, _, _ => by simp [chkParts] at h
 | _ :: _, [], _, _, _, h, _, _, _, _ => by simp [chkParts] at h
 | (i, x) :: r, (off, sz, y) :: r', cells, tmpl, K, hc, h1, h2, h3, h4 => by
  simp only [chkParts, Bool.and_eq_true] at hc
  obtain ⟨hc1, hc2⟩ := hc
  simp only [buildK] at h4
  split at h4
  ·next a hev =>
   obtain ⟨⟨hnt, hlen, hfit⟩, h4⟩ := h4
   cases hfi : fs[i]? with
   | none => rw [hfi] at hc1; simp at hc1
   | some f =>
    rw [hfi] at hc1
    simp only [Bool.and_eq_true, beq_iff_eq] at hc1
    obtain ⟨⟨rfl, hsz⟩, hco⟩ := hc1
    obtain ⟨sz', hsz', hpl⟩ := hp i f hfi
    rw [hsz] at hsz'
    simp only [Option.some.injEq] at hsz'
    subst hsz'
    obtain ⟨hra, hpa⟩ := ev_ok hf hco hev
    -- the part's cells
    obtain ⟨us, hus, hru, hone, hplain⟩ : ∃ us : List Value, (act.eval x).cells = us.toArray ∧ RepL g us (cellsOf a) ∧ (∀ v ∈ us, v.oneCell' = true) ∧ plains (cellsOf a) := by
     generalize act.eval x = u at hra
     cases hra with
     | agg vs l q1 q2 q3 => exact ⟨vs, by rfl, q3, q1, q2⟩
     | tup vs l q1 q2 => simp [isTup] at hnt
     | itr b s p => simp [plain] at hpa
     | omp b ks vs => simp [plain] at hpa
     | mp b => exact ⟨[_], by rfl, .cons (.mp b) .nil, by intro v hv; simp at hv; subst hv; rfl, by intro b hb; simp only [cellsOf, List.mem_singleton] at hb; subst hb; rfl⟩
     | fmp b obj ks vs k3 k4 => exact ⟨[_], by rfl, .cons (.fmp b obj ks vs k3 k4) .nil, by intro v hv; simp at hv; subst hv; rfl, by intro b hb; simp only [cellsOf, List.mem_singleton] at hb; subst hb; rfl⟩
     | stk _ _ _ _ _ _ _ _ => simp [plain] at hpa
     | opq v h h' => exact ⟨[_], cells_one h, .cons (.opq _ h h') .nil, by simpa using h, by intro b hb; simp only [cellsOf, List.mem_singleton] at hb; subst hb; rfl⟩
     | frn v Q S W0 h h' k3 k4 => exact ⟨[_], cells_one h, .cons (.frn _ Q S W0 h h' k3 k4) .nil, by simpa using h, by intro b hb; simp only [cellsOf, List.mem_singleton] at hb; subst hb; rfl⟩
     | _ => exact ⟨[_], by rfl, .cons (by first | exact .bool _ | exact .int _ _ | exact .str _ | exact .nilp | (exact .ptr _ _ _ ‹_›) | (exact .fp _ _ _ _ ‹_› ‹_› ‹_›) | (exact .lst _ _ _ _ _ _ _ ‹_› ‹_› ‹_› ‹_› ‹_›) | (exact .lst0 _ _ _ ‹_›) | (exact .hs _ _ _ _ ‹_› ‹_›) | (exact .hsc _ _ _ _ ‹_› ‹_›) | (exact .fn _ _ _ ‹_› ‹_›) | (exact .fnb _ _ _ ‹_› ‹_›) | exact .nilf | (exact .raw _ _ _ ‹_› ‹_›) | exact .rawp _ _ _ _) .nil, by simp [Value.oneCell'], by intro b hb; simp only [cellsOf, List.mem_singleton] at hb; subst hb; exact hpa⟩
    have hul : us.length = sz := by rw [hru.length]; exact hlen
    have hfold : (us.toArray.zipIdx.foldl (fun cs (c, j) => cs.setIfInBounds (f.offset + j) c) cells.toArray) = (splice cells f.offset us).toArray := by
     have key : ∀ (us : List Value) (k : Nat) (cs : List Value), ((us.zipIdx k).foldl (fun (cs : Array Value) (q : Value × Nat) => cs.setIfInBounds (f.offset + q.2) q.1) cs.toArray) = (splice cs (f.offset + k) us).toArray := by
      intro us
      induction us with
      | nil => intro k cs; rfl
      | cons u us ih =>
       intro k cs
       rw [List.zipIdx_cons, List.foldl_cons, splice_cons]
       have := ih (k + 1) (cs.set (f.offset + k) u)
       simpa [Nat.add_assoc] using this
     have := key us 0 cells
     simpa using this
    obtain ⟨cells', l, q1, q2⟩ := fill_ok act hf hp r r' (splice cells f.offset us) (splice tmpl f.offset (cellsOf a)) K hc2 (h1.splice _ hru) (fun b hb => (mem_splice hb).elim (h2 b) (hplain b)) (fun v hv => (mem_splice hv).elim (h3 v) (hone v)) h4
    refine ⟨cells', l, ?_, q2⟩
    rw [← q1]
    simp only [List.map_cons, Instr.fill, hpl, hus]
    have hcond : (us.toArray.size ≠ sz || f.offset + us.toArray.size > cells.toArray.size) = false := by
     simp only [List.size_toArray, hul, h1.length]
     simp; omega
    simp only [List.size_toArray] at hcond ⊢
    rw [hcond]
    simp only [Bool.false_eq_true, if_false]
    rw [hfold]
  ·exact h4.elim

end
section
variable {P : Program} {g : Gh} {h : Hp} {w : World} {fr : Fr} {act : Act}

def OpTells (P : Program) (g : Gh) (w : World) (act : Act) (o : Oper) (K : AV → Prop) : Prop := ∃ v a, (execOp act.eval o).run P w = .ok (.value v) w ∧ Rep g v a ∧ plain a = true ∧ K a
theorem OpTells.of {o : Oper} {s : Sem Value} {K : AV → Prop} (he : execOp act.eval o = (do pure (.value (← s)))) (ht : Tells P g w s K) : OpTells P g w act o K := by
 obtain ⟨v, a, h1, h2⟩ := ht
 exact ⟨v, a, by rw [he]; simp [h1], h2⟩
theorem opt_ev {fr : Fr} {x : Opd} {K : AV → Prop} (h : match ev fr x with | some a => K a | none => False) : ∃ a, ev fr x = some a ∧ K a := by
 cases he : ev fr x with
 | none => rw [he] at h; exact h.elim
 | some a => rw [he] at h; exact ⟨a, rfl, h⟩

theorem slice_in (t e : TypeId) (a : Option Addr) (n c : Nat) (lo hi mx : Option Value) (i j m : Int) (sz : Nat) (ht : P.underlying t = some (.slice e)) (hsz : (P.info? e).map (·.size) = some sz)
  (hlo : lo = none ∧ i = 0 ∨ ∃ k, lo = some (.int k i)) (hhi : hi = none ∧ j = n ∨ ∃ k, hi = some (.int k j)) (hmx : mx = none ∧ m = c ∨ (∃ k, mx = some (.int k m)) ∧ hi ≠ none) (h0 : 0 ≤ i) (h1 : i ≤ j) (h2 : j ≤ m) (h3 : m ≤ c) :
  (Instr.sliceAt t (.slice a n c) lo hi mx).run P w = .ok (.slice (if m.toNat = i.toNat then a else a.map (·.add (i.toNat * sz))) (j.toNat - i.toNat) (m.toNat - i.toNat)) w := by
 have hinfo : ∃ inf, P.info? e = some inf ∧ inf.size = sz := by
  cases hp : P.info? e with
  | none => rw [hp] at hsz; cases hsz
  | some inf => rw [hp] at hsz; simp at hsz; exact ⟨inf, rfl, hsz⟩
 obtain ⟨inf, hinf, rfl⟩ := hinfo
 have hb : (Instr.sliceBounds true n c lo hi mx).run P w = .ok (i.toNat, j.toNat, m.toNat) w := by
  have j0 : 0 ≤ j := by omega
  have m0 : 0 ≤ m := by omega
  have e1 : ((j.toNat : Nat) : Int) = j := Int.toNat_of_nonneg j0
  have e2 : ((m.toNat : Nat) : Int) = m := Int.toNat_of_nonneg m0
  unfold Instr.sliceBounds
  rcases hmx with ⟨rfl, rfl⟩ | ⟨⟨k3, rfl⟩, hne⟩
  ·rcases hhi with ⟨rfl, rfl⟩ | ⟨k2, rfl⟩ <;> rcases hlo with ⟨rfl, rfl⟩ | ⟨k1, rfl⟩ <;> simp [run_sliceBound_if, h0, h1, h2, j0, e1]
  ·rcases hhi with ⟨rfl, rfl⟩ | ⟨k2, rfl⟩
   ·exact absurd rfl hne
   ·rcases hlo with ⟨rfl, rfl⟩ | ⟨k1, rfl⟩ <;> simp [run_sliceBound_if, h0, h1, h2, h3, j0, m0, e1, e2]
 have hs : (Instr.sliceAt t (.slice a n c) lo hi mx).run P w = (Instr.slice t (.slice a n c) lo hi mx).run P w := by
  simp [Instr.sliceAt, run_underlying ht]
 rw [hs]
 simp only [Instr.slice, Sem.run_bind, run_underlying ht, Result.andThen_ok, hb]
 simp [sizeOf, typeInfo, hinf]

theorem info_size {e : TypeId} {sz : Nat} (h : (P.info? e).map (·.size) = some sz) : ∃ i, P.info? e = some i ∧ i.size = sz := by
 cases hp : P.info? e with
 | none => rw [hp] at h; cases h
 | some i => rw [hp] at h; simp at h; exact ⟨i, rfl, h⟩

theorem val_mv {o : Oper} {y : Opd} {K : AV → Prop} (hf : FrameOk P g w act.tmps fr) (hc : chkVal P o.op (.mv y) = true) (hv : val fr h (.mv y) K) : OpTells P g w act o K := by
 obtain ⟨a, he, hK⟩ := opt_ev hv
 simp only [chkVal] at hc
 split at hc
 ·next x hop => obtain ⟨h1, h2⟩ := ev_ok hf hc he; exact ⟨_, _, by simp [execOp, hop], h1, h2, hK⟩
 ·next x hop => obtain ⟨h1, h2⟩ := ev_ok hf hc he; exact ⟨_, _, by simp [execOp, hop], h1, h2, hK⟩
 ·cases hc
theorem val_pick {o : Oper} {c x y : Opd} {K : AV → Prop} (hf : FrameOk P g w act.tmps fr) (hc : chkVal P o.op (.pick c x y) = true) (hv : val fr h (.pick c x y) K) : OpTells P g w act o K := by
 simp only [chkVal] at hc
 split at hc
 ·next c' a' b' hop =>
  simp only [Bool.and_eq_true] at hc
  simp only [val] at hv
  split at hv
  ·next p hp =>
   obtain ⟨h1, _⟩ := ev_ok hf hc.1.1 hp
   generalize hcv : act.eval c' = u at h1
   cases h1
   cases p with
   | true =>
    obtain ⟨a, he, hK⟩ := opt_ev (hv.1 rfl)
    obtain ⟨q1, q2⟩ := ev_ok hf hc.1.2 he
    exact ⟨_, _, by simp [execOp, hop, hcv, asBool], q1, q2, hK⟩
   | false =>
    obtain ⟨a, he, hK⟩ := opt_ev (hv.2 rfl)
    obtain ⟨q1, q2⟩ := ev_ok hf hc.2 he
    exact ⟨_, _, by simp [execOp, hop, hcv, asBool], q1, q2, hK⟩
  ·exact hv.elim
 ·cases hc
theorem val_load {o : Oper} {sz : Option Nat} {y : Opd} {K : AV → Prop} (hs : Sim P g h w) (hf : FrameOk P g w act.tmps fr) (hc : chkVal P o.op (.load sz y) = true) (hv : val fr h (.load sz y) K) : OpTells P g w act o K := by
 simp only [chkVal] at hc
 split at hc
 ·next t x hop =>
  simp only [Bool.and_eq_true] at hc
  obtain ⟨hc1, hc2⟩ := hc
  split at hc2
  ·next i d hi hu =>
   refine OpTells.of (s := Instr.loadAt t (act.eval x)) (by simp [execOp, hop]) ?_
   simp only [val] at hv
   split at hv
   ·next id off he =>
    obtain ⟨h1, _⟩ := ev_ok hf hc1 he
    generalize act.eval x = u at h1
    cases h1 with
    | ptr _ _ b hb =>
     split at hv
     ·next s l hl =>
      obtain ⟨b', arr, e, q1, ⟨rest, q2⟩, q3, q4, _⟩ := hs.obj id s l hl
      obtain rfl : b = b' := by rw [hb] at q1; simpa using q1
      refine tells_load (vs := arr.toList.drop off) (fun j v hj => ?_) (q3.drop off) (fun v hv => q4 v (List.mem_of_mem_drop hv)) hi hu hc2 hv
      rw [cell_of_row w b (off + j) (arr ++ rest) e (0, 0) q2]
      rw [List.getElem?_drop] at hj
      exact get_app hj
     ·exact hv.elim
   ·next l he =>
    obtain ⟨h1, _⟩ := ev_ok hf hc1 he
    generalize act.eval x = u at h1
    cases h1 with
    | fp b off vs l hcs hp hr =>
     obtain ⟨r1, r2⟩ := hs.cellsAt hcs
     exact tells_load r1 hr r2 hi hu hc2 hv
   ·exact hv.elim
  ·cases hc2
 ·cases hc
theorem val_nilck {o : Oper} {y : Opd} {K : AV → Prop} (hf : FrameOk P g w act.tmps fr) (hc : chkVal P o.op (.nilck y) = true) (hv : val fr h (.nilck y) K) : OpTells P g w act o K := by
 simp only [chkVal] at hc
 split at hc
 ·next x hop =>
  simp only [val] at hv
  split at hv
  ·next id off he =>
   obtain ⟨h1, h2⟩ := ev_ok hf hc he
   generalize hx : act.eval x = u at h1
   cases h1
   exact ⟨_, _, by simp only [execOp, hop, hx]; rfl, by constructor; assumption, h2, hv⟩
  ·next l he =>
   obtain ⟨h1, h2⟩ := ev_ok hf hc he
   generalize hx : act.eval x = u at h1
   cases h1 with
   | fp b off vs l q1 q2 q3 => exact ⟨_, _, by simp only [execOp, hop, hx]; rfl, .fp b off vs l q1 q2 q3, h2, hv⟩
  ·next f l he =>
   obtain ⟨h1, h2⟩ := ev_ok hf hc he
   generalize hx : act.eval x = u at h1
   cases h1 with
   | fn _ vs l q1 q2 => exact ⟨_, _, by simp only [execOp, hop, hx]; rfl, .fn _ vs l q1 q2, h2, hv⟩
  ·next Q he =>
   obtain ⟨h1, h2⟩ := ev_ok hf hc he
   generalize hx : act.eval x = u at h1
   cases h1 with
   | frn _ _ S W0 k1 k2 k3 k4 =>
    obtain ⟨b, o', rfl⟩ := k2
    exact ⟨_, _, by simp only [execOp, hop, hx]; rfl, .frn _ Q S W0 k1 ⟨b, o', rfl⟩ k3 k4, h2, hv⟩
  ·exact hv.elim
 ·cases hc
theorem val_bin {o : Oper} {op : BinOp} {x y : Opd} {K : AV → Prop} (hf : FrameOk P g w act.tmps fr) (hc : chkVal P o.op (.bin op x y) = true) (hv : val fr h (.bin op x y) K) : OpTells P g w act o K := by
 simp only [chkVal] at hc
 split at hc
 ·next op' t x' y' t' hop =>
  simp only [Bool.and_eq_true, decide_eq_true_eq] at hc
  obtain ⟨⟨rfl, hc1⟩, hc2⟩ := hc
  simp only [val] at hv
  split at hv
  ·next a b ha hb =>
   obtain ⟨h1, _⟩ := ev_ok hf hc1 ha
   obtain ⟨h2, _⟩ := ev_ok hf hc2 hb
   refine OpTells.of (s := do eqGuard op' t x' y' (act.eval x') (act.eval y'); binOp op' t (act.eval x') (act.eval y')) (by simp [execOp, hop]) ?_
   obtain ⟨v, r, q1, q2⟩ := tells_bin2 (P := P) (w := w) t h1 h2 hv
   refine ⟨v, r, ?_, q2⟩
   have hna : ∀ l, a ≠ .agg l := fun l e => by subst e; simp [bin2] at hv
   rw [Sem.run_bind, run_eqGuard h1 h2 hna, Result.andThen_ok, q1]
  ·exact hv.elim
 ·cases hc
theorem val_pnil {o : Oper} {neg : Bool} {x : Opd} {K : AV → Prop} (hf : FrameOk P g w act.tmps fr) (hc : chkVal P o.op (.pnil neg x) = true) (hv : val fr h (.pnil neg x) K) : OpTells P g w act o K := by
 simp only [chkVal] at hc
 split at hc
 ·next op' t x' y' t' hop =>
  simp only [Bool.and_eq_true, decide_eq_true_eq] at hc
  obtain ⟨⟨⟨hop', hc1⟩, hc2⟩, hc3⟩ := hc
  split at hc3
  ·next e ht =>
   have ht' : P.underlying t = some (.pointer (P.pointee t)) := by rw [ht]; simp [Program.pointee, ht]
   obtain ⟨h2, _⟩ := ev_ok hf hc2 (a := .nilp) rfl
   generalize hy : act.eval y' = u2 at h2
   cases h2
   have key : ∀ p : Option Addr, act.eval x' = .pointer p → K (.bool (if neg then !p.isNone else p.isNone)) → OpTells P g w act o K := by
    intro p hx hK
    have hg : (eqGuard op' t x' y' (.pointer p) (.pointer none)).run P w = .ok () w := by unfold eqGuard; cases op' <;> rfl
    refine ⟨.bool (if neg then !p.isNone else p.isNone), _, ?_, .bool _, rfl, hK⟩
    simp only [execOp, hop, hx, hy, Sem.run_bind, hg, Result.andThen_ok]
    subst hop'
    cases neg
    ·simp only [Bool.false_eq_true, if_false]; rw [run_eql_pointer_nil w t p ht']; rfl
    ·simp only [if_true]; rw [run_neq_pointer_nil w t p ht']; rfl
   simp only [val] at hv
   split at hv
   ·next he =>
    obtain ⟨h1, _⟩ := ev_ok hf hc1 he
    generalize hx : act.eval x' = u at h1
    cases h1
    exact key none hx (by cases neg <;> exact hv)
   ·next he =>
    obtain ⟨h1, _⟩ := ev_ok hf hc1 he
    generalize hx : act.eval x' = u at h1
    cases h1
    exact key _ hx (by cases neg <;> exact hv)
   ·next he =>
    obtain ⟨h1, _⟩ := ev_ok hf hc1 he
    generalize hx : act.eval x' = u at h1
    cases h1
    exact key _ hx (by cases neg <;> exact hv)
   ·next he =>
    obtain ⟨h1, _⟩ := ev_ok hf hc1 he
    generalize hx : act.eval x' = u at h1
    cases h1 with
    | frn _ _ _ _ _ k2 _ _ =>
     obtain ⟨b, o, rfl⟩ := k2
     exact key _ hx (by cases neg <;> exact hv)
   ·exact hv.elim
  ·cases hc3
 ·cases hc
theorem val_bbin {o : Oper} {neg : Bool} {x y : Opd} {K : AV → Prop} (hf : FrameOk P g w act.tmps fr) (hc : chkVal P o.op (.bbin neg x y) = true) (hv : val fr h (.bbin neg x y) K) : OpTells P g w act o K := by
 simp only [chkVal] at hc
 split at hc
 ·next op' t x' y' t' hop =>
  simp only [Bool.and_eq_true, decide_eq_true_eq] at hc
  obtain ⟨⟨⟨hop', hc1⟩, hc2⟩, hc3⟩ := hc
  split at hc3
  ·next ht =>
   simp only [val] at hv
   split at hv
   ·next a b ha hb =>
    obtain ⟨h1, _⟩ := ev_ok hf hc1 ha
    obtain ⟨h2, _⟩ := ev_ok hf hc2 hb
    generalize hx : act.eval x' = u at h1
    generalize hy : act.eval y' = u2 at h2
    cases h1; cases h2
    have hg : (eqGuard op' t x' y' (.bool a) (.bool b)).run P w = .ok () w := by unfold eqGuard; cases op' <;> rfl
    refine ⟨.bool (if neg then decide (a ≠ b) else decide (a = b)), _, ?_, .bool _, rfl, hv⟩
    simp only [execOp, hop, hx, hy, Sem.run_bind, hg, Result.andThen_ok]
    subst hop'
    cases neg
    ·simp only [Bool.false_eq_true, if_false]; rw [run_eql_bool w t a b ht]; cases a <;> cases b <;> rfl
    ·simp only [if_true]; rw [run_neq_bool w t a b ht]; cases a <;> cases b <;> rfl
   ·exact hv.elim
  ·cases hc3
 ·cases hc
theorem val_not {o : Oper} {y : Opd} {K : AV → Prop} (hf : FrameOk P g w act.tmps fr) (hc : chkVal P o.op (.not y) = true) (hv : val fr h (.not y) K) : OpTells P g w act o K := by
 simp only [chkVal] at hc
 split at hc
 ·next t x hop =>
  simp only [val] at hv
  split at hv
  ·next p he =>
   obtain ⟨h1, _⟩ := ev_ok hf hc he
   generalize hx : act.eval x = u at h1
   cases h1
   exact ⟨_, _, by simp only [execOp, hop, hx]; rfl, .bool _, rfl, hv⟩
  ·exact hv.elim
 ·cases hc
theorem val_conv {o : Oper} {k : IntKind} {y : Opd} {K : AV → Prop} (hf : FrameOk P g w act.tmps fr) (hc : chkVal P o.op (.conv k y) = true) (hv : val fr h (.conv k y) K) : OpTells P g w act o K := by
 simp only [chkVal] at hc
 split at hc
 ·next s t x hop =>
  simp only [Bool.and_eq_true] at hc
  obtain ⟨hc1, hc2⟩ := hc
  split at hc2
  ·next ds k' hs ht =>
   have hc2 := of_decide_eq_true hc2
   subst hc2
   simp only [val] at hv
   split at hv
   ·next k2 n he =>
    obtain ⟨h1, _⟩ := ev_ok hf hc1 he
    generalize hx : act.eval x = u at h1
    cases h1
    refine ⟨.int k' (k'.wrap n), _, ?_, .int _ _, rfl, hv⟩
    simp only [execOp, hop, hx, convert, Sem.run_bind, run_underlying hs, run_underlying ht, Result.andThen_ok]
    cases ds <;> rfl
   ·exact hv.elim
  ·cases hc2
 ·cases hc
theorem val_cstr {o : Oper} {y : Opd} {K : AV → Prop} (hf : FrameOk P g w act.tmps fr) (hc : chkVal P o.op (.cstr y) = true) (hv : val fr h (.cstr y) K) : OpTells P g w act o K := by
 simp only [chkVal] at hc
 split at hc
 ·next s t x hop =>
  simp only [Bool.and_eq_true] at hc
  obtain ⟨hc1, hc2⟩ := hc
  split at hc2
  ·next ds hs ht =>
   simp only [val] at hv
   split at hv
   ·next s' he =>
    obtain ⟨h1, _⟩ := ev_ok hf hc1 he
    generalize hx : act.eval x = u at h1
    cases h1
    refine ⟨.string s', _, ?_, .str _, rfl, hv⟩
    simp only [execOp, hop, hx, convert, Sem.run_bind, run_underlying hs, run_underlying ht, Result.andThen_ok]
    cases ds <;> rfl
   ·exact hv.elim
  ·cases hc2
 ·cases hc
theorem val_fld {o : Oper} {off : Nat} {y : Opd} {K : AV → Prop} (hf : FrameOk P g w act.tmps fr) (hc : chkVal P o.op (.fld off y) = true) (hv : val fr h (.fld off y) K) : OpTells P g w act o K := by
 simp only [chkVal] at hc
 split at hc
 ·next s x i hop =>
  simp only [Bool.and_eq_true] at hc
  obtain ⟨hc1, hc2⟩ := hc
  split at hc2
  ·next fs hs =>
   split at hc2
   ·next f hf' =>
    simp only [Bool.and_eq_true, beq_iff_eq] at hc2
    obtain ⟨rfl, hc2⟩ := hc2
    split at hc2
    ·next inf hinf =>
     have hnz : inf.size ≠ 0 := by simpa using hc2
     have hrun : ∀ b o' : Nat, (Instr.fieldAt s (.pointer (some ⟨b, o', none⟩)) i).run P w = .ok (.pointer (some ⟨b, o' + f.offset, none⟩)) w := by
      intro b o'
      simp [Instr.fieldAt, run_underlying hs, hf', Instr.sureAddr, fieldPlace, sizeOf, typeInfo, hinf, hnz, add_none]
     refine OpTells.of (s := Instr.fieldAt s (act.eval x) i) (by simp [execOp, hop]) ?_
     simp only [val] at hv
     split at hv
     ·next id o' he =>
      obtain ⟨h1, _⟩ := ev_ok hf hc1 he
      generalize hx : act.eval x = u at h1
      cases h1 with
      | ptr _ _ b hb => exact ⟨_, _, hrun b o', .ptr _ _ b hb, rfl, hv⟩
     ·next l he =>
      obtain ⟨h1, _⟩ := ev_ok hf hc1 he
      generalize hx : act.eval x = u at h1
      cases h1 with
      | fp b o' vs l q1 q2 q3 =>
       refine ⟨_, _, hrun b o', .fp b (o' + f.offset) (vs.drop f.offset) _ (fun j v hj => ?_) (fun a ha => q2 a (List.mem_of_mem_drop ha)) (q3.drop _), rfl, hv⟩
       rw [List.getElem?_drop] at hj
       rw [Nat.add_assoc]
       exact q1 _ _ hj
     ·next Q he =>
      obtain ⟨h1, _⟩ := ev_ok hf hc1 he
      generalize hx : act.eval x = u at h1
      cases h1 with
      | frn _ _ S W0 k1 k2 k3 k4 =>
       obtain ⟨b, o', rfl⟩ := k2
       obtain ⟨h0, hK⟩ := hv
       have hr := hrun b o'
       rw [h0, Nat.add_zero] at hr
       exact ⟨_, _, hr, .frn _ Q S W0 k1 ⟨b, o', rfl⟩ k3 k4, rfl, hK⟩
     ·exact hv.elim
    ·cases hc2
   ·cases hc2
  ·cases hc2
 ·cases hc
theorem val_idxa {o : Oper} {sz : Nat} {y z : Opd} {K : AV → Prop} (hf : FrameOk P g w act.tmps fr) (hc : chkVal P o.op (.idxa sz y z) = true) (hv : val fr h (.idxa sz y z) K) : OpTells P g w act o K := by
 simp only [chkVal] at hc
 split at hc
 ·next t x i hop =>
  simp only [Bool.and_eq_true] at hc
  obtain ⟨⟨hc1, hc2⟩, hc3⟩ := hc
  split at hc3
  ·next e ht =>
   obtain ⟨inf, hinf, rfl⟩ := info_size (eq_of_beq hc3)
   refine OpTells.of (s := Instr.indexAt t (act.eval x) (act.eval i)) (by simp [execOp, hop]) ?_
   have hrun : ∀ (b off n c : Nat) (k : IntKind) (j : Int), 0 ≤ j → j < n → (Instr.indexAt t (.slice (some ⟨b, off, none⟩) n c) (.int k j)).run P w = .ok (.pointer (some ⟨b, off + j.toNat * inf.size, none⟩)) w := by
    intro b off n c k j h0 h1
    simp [Instr.indexAt, run_underlying ht, asIntOf, h0, h1, sizeOf, typeInfo, hinf, add_none]
   simp only [val] at hv
   split at hv
   ·next f n l k j he hj =>
    obtain ⟨h1, _⟩ := ev_ok hf hc1 he
    obtain ⟨h2, _⟩ := ev_ok hf hc2 hj
    generalize hx : act.eval x = u at h1
    generalize hx2 : act.eval i = u2 at h2
    cases h2
    obtain ⟨⟨j0, j1⟩, hv⟩ := hv
    cases h1 with
    | lst b off n c f vs l q1 q2 q3 q4 q5 =>
     refine ⟨_, _, hrun _ _ _ _ _ _ j0 j1, .fp b (off + j.toNat * inf.size) (vs.drop (j.toNat * inf.size)) _ (fun q v hq => ?_) (fun a ha => q2 a (List.mem_of_mem_drop ha)) (q5.drop _), rfl, hv⟩
     rw [List.getElem?_drop] at hq
     rw [Nat.add_assoc]
     exact q1 _ _ hq
    | lst0 a c f q => simp at j1; omega
   ·next id n k j he hj =>
    obtain ⟨h1, _⟩ := ev_ok hf hc1 he
    obtain ⟨h2, _⟩ := ev_ok hf hc2 hj
    generalize hx : act.eval x = u at h1
    generalize hx2 : act.eval i = u2 at h2
    cases h2
    obtain ⟨⟨j0, j1⟩, hv⟩ := hv
    cases h1 with
    | hs _ b n c hb hn =>
     have := hrun b 0 n c k j j0 j1
     rw [Nat.zero_add] at this
     exact ⟨_, _, this, .ptr _ _ b hb, rfl, hv⟩
   ·next id n c0 k j he hj =>
    obtain ⟨h1, _⟩ := ev_ok hf hc1 he
    obtain ⟨h2, _⟩ := ev_ok hf hc2 hj
    generalize hx : act.eval x = u at h1
    generalize hx2 : act.eval i = u2 at h2
    cases h2
    obtain ⟨⟨j0, j1⟩, hv⟩ := hv
    cases h1 with
    | hsc _ b _ _ hb hn =>
     have := hrun b 0 n c0 k j j0 j1
     rw [Nat.zero_add] at this
     exact ⟨_, _, this, .ptr _ _ b hb, rfl, hv⟩
   ·exact hv.elim
  ·cases hc3
 ·cases hc
theorem val_idxs {o : Oper} {y z : Opd} {K : AV → Prop} (hf : FrameOk P g w act.tmps fr) (hc : chkVal P o.op (.idxs y z) = true) (hv : val fr h (.idxs y z) K) : OpTells P g w act o K := by
 simp only [chkVal] at hc
 split at hc
 ·next t x i hop =>
  simp only [Bool.and_eq_true] at hc
  obtain ⟨⟨hc1, hc2⟩, hc3⟩ := hc
  split at hc3
  ·next ht =>
   simp only [val] at hv
   split at hv
   ·next s k j he hj =>
    obtain ⟨h1, _⟩ := ev_ok hf hc1 he
    obtain ⟨h2, _⟩ := ev_ok hf hc2 hj
    generalize hx : act.eval x = u at h1
    generalize hx2 : act.eval i = u2 at h2
    cases h1; cases h2
    obtain ⟨⟨j0, j1⟩, hv⟩ := hv
    have hlt : j.toNat < s.size := by omega
    have hb : ∃ b, s[j.toNat]? = some b ∧ s.data.toList[j.toNat]? = some b := by
     refine ⟨s[j.toNat], by simp [hlt], ?_⟩
     have : j.toNat < s.data.toList.length := by simpa using hlt
     rw [List.getElem?_eq_getElem this]; rfl
    obtain ⟨b, hb1, hb2⟩ := hb
    refine ⟨.int .u8 b.toNat, _, ?_, .int _ _, rfl, by rw [show byteAt s j.toNat = b.toNat by simp [byteAt, hb2]] at hv; exact hv⟩
    simp [execOp, hop, hx, hx2, Instr.index, asIntOf, run_underlying ht, j0, hb1]
   ·exact hv.elim
  ·cases hc3
 ·cases hc
theorem val_ext {o : Oper} {i : Nat} {y : Opd} {K : AV → Prop} (hf : FrameOk P g w act.tmps fr) (hc : chkVal P o.op (.ext i y) = true) (hv : val fr h (.ext i y) K) : OpTells P g w act o K := by
 simp only [chkVal] at hc
 split at hc
 ·next x j hop =>
  simp only [Bool.and_eq_true, beq_iff_eq] at hc
  obtain ⟨hc1, rfl⟩ := hc
  simp only [val] at hv
  split at hv
  ·next l he =>
   obtain ⟨h1, _⟩ := ev_ok hf hc1 he
   generalize hx : act.eval x = u at h1
   cases h1 with
   | tup vs l q1 q2 =>
    split at hv
    ·next a ha =>
     obtain ⟨v, hv1, hv2⟩ := q2.get i a ha
     exact ⟨v, a, by simp [execOp, hop, hx, Instr.extract, hv1], hv2, q1 a (List.mem_of_getElem? ha), hv⟩
    ·exact hv.elim
  ·exact hv.elim
 ·cases hc
theorem of_toList1 {α : Type} {a : Array α} {x : α} (h : a.toList = [x]) : a = #[x] := by cases a; simp at h; simp [h]
theorem of_toList2 {α : Type} {a : Array α} {x y : α} (h : a.toList = [x, y]) : a = #[x, y] := by cases a; simp at h; simp [h]
theorem of_toList0 {α : Type} {a : Array α} (h : a.toList = []) : a = #[] := by cases a; simp at h; simp [h]
theorem val_lens {o : Oper} {y : Opd} {K : AV → Prop} (hf : FrameOk P g w act.tmps fr) (hc : chkVal P o.op (.lens y) = true) (hv : val fr h (.lens y) K) : OpTells P g w act o K := by
 simp only [chkVal] at hc
 split at hc
 ·next c hop =>
  split at hc
  ·next x t h1 h2 h3 =>
   simp only [Bool.and_eq_true] at hc
   obtain ⟨hc1, hc2⟩ := hc
   have hex : execOp act.eval o = (do pure (.value (← Builtin.len_ #[t] o.type #[act.eval x]))) := by
    simp [execOp, hop, resolve, invoke, builtin, h1, of_toList1 h2, of_toList1 h3]
   refine OpTells.of hex ?_
   simp only [val] at hv
   split at hv
   ·next s he =>
    obtain ⟨h1, _⟩ := ev_ok hf hc1 he
    generalize hx : act.eval x = u at h1
    cases h1
    split at hc2
    ·next ht => exact ⟨_, _, by simp [Builtin.len_, run_underlying ht]; rfl, .int _ _, rfl, hv⟩
    ·cases hc2
   ·exact hv.elim
  ·cases hc
 ·cases hc
theorem val_lenl {o : Oper} {y : Opd} {K : AV → Prop} (hf : FrameOk P g w act.tmps fr) (hc : chkVal P o.op (.lenl y) = true) (hv : val fr h (.lenl y) K) : OpTells P g w act o K := by
 simp only [chkVal] at hc
 split at hc
 ·next c hop =>
  split at hc
  ·next x t h1 h2 h3 =>
   simp only [Bool.and_eq_true] at hc
   obtain ⟨hc1, hc2⟩ := hc
   have hex : execOp act.eval o = (do pure (.value (← Builtin.len_ #[t] o.type #[act.eval x]))) := by
    simp [execOp, hop, resolve, invoke, builtin, h1, of_toList1 h2, of_toList1 h3]
   refine OpTells.of hex ?_
   split at hc2
   ·next e ht =>
    simp only [val] at hv
    split at hv
    ·next f n l he =>
     obtain ⟨h1, _⟩ := ev_ok hf hc1 he
     generalize hx : act.eval x = u at h1
     cases h1 with
     | lst b off n c f vs l q1 q2 q3 q4 q5 => exact ⟨_, _, by simp [Builtin.len_, run_underlying ht]; rfl, .int _ _, rfl, hv⟩
     | lst0 a c f q => exact ⟨_, _, by simp [Builtin.len_, run_underlying ht]; rfl, .int _ _, rfl, hv⟩
    ·next id n he =>
     obtain ⟨h1, _⟩ := ev_ok hf hc1 he
     generalize hx : act.eval x = u at h1
     cases h1 with
     | hs _ b n c hb hn => exact ⟨_, _, by simp [Builtin.len_, run_underlying ht]; rfl, .int _ _, rfl, hv⟩
    ·next id n c he =>
     obtain ⟨h1, _⟩ := ev_ok hf hc1 he
     generalize hx : act.eval x = u at h1
     cases h1 with
     | hsc _ b _ _ hb hn => exact ⟨_, _, by simp [Builtin.len_, run_underlying ht]; rfl, .int _ _, rfl, hv⟩
    ·exact hv.elim
   ·cases hc2
  ·cases hc
 ·cases hc
theorem val_mn {o : Oper} {y z : Opd} {K : AV → Prop} (hf : FrameOk P g w act.tmps fr) (hc : chkVal P o.op (.mn y z) = true) (hv : val fr h (.mn y z) K) : OpTells P g w act o K := by
 simp only [chkVal] at hc
 split at hc
 ·next c hop =>
  split at hc
  ·next x x' h1 h2 =>
   simp only [Bool.and_eq_true] at hc
   obtain ⟨hc1, hc2⟩ := hc
   simp only [val] at hv
   split at hv
   ·next k a k' b he he' =>
    obtain ⟨q1, _⟩ := ev_ok hf hc1 he
    obtain ⟨q2, _⟩ := ev_ok hf hc2 he'
    generalize hx : act.eval x = u at q1
    generalize hx2 : act.eval x' = u2 at q2
    cases q1; cases q2
    exact ⟨_, _, by simp [execOp, hop, resolve, invoke, builtin, h1, of_toList2 h2, hx, hx2, Builtin.min_, Builtin.min2], .int _ _, rfl, hv⟩
   ·exact hv.elim
  ·cases hc
 ·cases hc
theorem val_mx {o : Oper} {y z : Opd} {K : AV → Prop} (hf : FrameOk P g w act.tmps fr) (hc : chkVal P o.op (.mx y z) = true) (hv : val fr h (.mx y z) K) : OpTells P g w act o K := by
 simp only [chkVal] at hc
 split at hc
 ·next c hop =>
  split at hc
  ·next x x' h1 h2 =>
   simp only [Bool.and_eq_true] at hc
   obtain ⟨hc1, hc2⟩ := hc
   simp only [val] at hv
   split at hv
   ·next k a k' b he he' =>
    obtain ⟨q1, _⟩ := ev_ok hf hc1 he
    obtain ⟨q2, _⟩ := ev_ok hf hc2 he'
    generalize hx : act.eval x = u at q1
    generalize hx2 : act.eval x' = u2 at q2
    cases q1; cases q2
    exact ⟨_, _, by simp [execOp, hop, resolve, invoke, builtin, h1, of_toList2 h2, hx, hx2, Builtin.max_, Builtin.max2], .int _ _, rfl, hv⟩
   ·exact hv.elim
  ·cases hc
 ·cases hc
theorem val_mkfn {o : Oper} {f : FuncId} {caps : List Opd} {K : AV → Prop} (hf : FrameOk P g w act.tmps fr) (hc : chkVal P o.op (.mkfn f caps) = true) (hv : val fr h (.mkfn f caps) K) : OpTells P g w act o K := by
 simp only [chkVal] at hc
 split at hc
 ·next fn first cs hop =>
  split at hc
  ·next f' h2 =>
   simp only [Bool.and_eq_true, beq_iff_eq] at hc
   obtain ⟨rfl, hc2⟩ := hc
   simp only [val] at hv
   split at hv
   ·next l he =>
    obtain ⟨q1, q2⟩ := evs_ok hf hc2 he
    refine ⟨.func (.func f') #[] (cs.toList.map act.eval).toArray, _, ?_, .fn f' _ l q2 q1, rfl, hv⟩
    have : (cs.toList.map act.eval).toArray = cs.map act.eval := by cases cs; simp
    simp [execOp, hop, Instr.makeFunc, of_toList0 h2]
    exact this.symm
   ·exact hv.elim
  ·cases hc
 ·cases hc
theorem val_b2s {o : Oper} {y : Opd} {K : AV → Prop} (hs : Sim P g h w) (hf : FrameOk P g w act.tmps fr) (hc : chkVal P o.op (.b2s y) = true) (hv : val fr h (.b2s y) K) : OpTells P g w act o K := by
 simp only [chkVal] at hc
 split at hc
 ·next s t x hop =>
  simp only [Bool.and_eq_true] at hc
  obtain ⟨hc1, hc2⟩ := hc
  split at hc2
  ·next e hsrc hdst =>
   split at hc2
   ·next he8 =>
    simp only [val] at hv
    split at hv
    ·next f n l he =>
     obtain ⟨bs, rfl, rfl, hK⟩ := hv
     obtain ⟨h1, _⟩ := ev_ok hf hc1 he
     generalize hx : act.eval x = u at h1
     refine OpTells.of (s := convert s t u) (by simp [execOp, hop, hx]) ?_
     have hbc : ∀ {vs : List Value} {bs : List UInt8}, RepL g vs (bs.map (fun b => AV.int .u8 b.toNat)) → vs = byteCells bs := by
      intro vs bs
      induction bs generalizing vs with
      | nil => intro h; cases h; rfl
      | cons b bs ih =>
       intro h
       cases h with
       | cons h0 hl =>
        cases h0
        rw [ih hl]; rfl
     generalize hn : bs.length = n at h1
     generalize hl : bs.map (fun b => AV.int .u8 b.toNat) = l at h1
     cases h1 with
     | lst b off n c f vs l q1 q2 q3 q4 q5 =>
      subst hn
      subst hl
      obtain ⟨r1, r2⟩ := hs.cellsAt q1
      have hvs := hbc q5
      subst hvs
      exact ⟨_, _, run_row_string w s t e _ _ _ bs rfl (.inr ⟨b, off, rfl, r1⟩) (fun h => by cases h) hsrc he8 hdst, .str _, rfl, hK⟩
     | lst0 a c f q =>
      cases bs with
      | cons _ _ => simp at hn
      | nil => exact ⟨_, _, run_row_string w s t e a 0 c [] rfl (.inl rfl) (fun _ => rfl) hsrc he8 hdst, .str _, rfl, hK⟩
    ·exact hv.elim
   ·cases hc2
  ·cases hc2
 ·cases hc
theorem evD_ok (hf : FrameOk P g w act.tmps fr) {x : Option Operand} {y : Option Opd} (hc : chkO x y = true) {d : AV} {k : IntKind} {n : Int} (he : evD fr d y = some (.int k n)) : x = none ∧ d = .int k n ∨ x.map act.eval = some (.int k n) := by
 unfold chkO at hc
 split at hc
 ·simp only [evD, Option.some.injEq] at he; exact .inl ⟨rfl, he⟩
 ·next x y =>
  obtain ⟨h1, _⟩ := ev_ok hf hc he
  generalize hx : act.eval x = u at h1
  cases h1
  exact .inr (by simp [hx])
 ·cases hc
theorem val_slcs {o : Oper} {y : Opd} {lo hi : Option Opd} {K : AV → Prop} (hf : FrameOk P g w act.tmps fr) (hc : chkVal P o.op (.slcs y lo hi) = true) (hv : val fr h (.slcs y lo hi) K) : OpTells P g w act o K := by
 simp only [chkVal] at hc
 split at hc
 ·next t x lo' hi' hop =>
  simp only [Bool.and_eq_true] at hc
  obtain ⟨⟨⟨hc1, hc2⟩, hc3⟩, hc4⟩ := hc
  split at hc4
  ·next ht =>
   simp only [val] at hv
   split at hv
   ·next s he =>
    obtain ⟨h1, _⟩ := ev_ok hf hc1 he
    generalize hx : act.eval x = u at h1
    cases h1
    split at hv
    ·next k1 l k2 u hl hu =>
     obtain ⟨⟨l0, l1, l2⟩, hv⟩ := hv
     have u0 : 0 ≤ u := by omega
     have e1 : ((u.toNat : Nat) : Int) = u := Int.toNat_of_nonneg u0
     have hb : (Instr.sliceBounds false s.size s.size (lo'.map act.eval) (hi'.map act.eval) none).run P w = .ok (l.toNat, u.toNat, s.size) w := by
      rcases evD_ok hf hc2 hl with ⟨rfl, hd⟩ | hd <;> rcases evD_ok hf hc3 hu with ⟨rfl, hd2⟩ | hd2
      ·injection hd with _ hd; injection hd2 with _ hd2; subst hd; subst hd2; simp [Instr.sliceBounds]
      ·injection hd with _ hd; subst hd; simp [Instr.sliceBounds, hd2, run_sliceBound_if, u0, l2]
      ·injection hd2 with _ hd2; subst hd2; simp [Instr.sliceBounds, hd, run_sliceBound_if, l0, l1]
      ·simp [Instr.sliceBounds, hd, hd2, run_sliceBound_if, l0, l1, u0, l2, e1]
     refine OpTells.of (s := Instr.sliceAt t (.string s) (lo'.map act.eval) (hi'.map act.eval) none) (by simp [execOp, hop, hx]) ⟨.string (s.extract l.toNat u.toNat), _, ?_, .str _, rfl, hv⟩
     rw [run_sliceAt_string w t _ _ _ _ ht]
     simp [Instr.slice, run_underlying ht, hb]
    ·exact hv.elim
   ·exact hv.elim
  ·cases hc4
 ·cases hc
theorem val_slcl {o : Oper} {sz : Nat} {y : Opd} {lo hi mx : Option Opd} {K : AV → Prop} (hf : FrameOk P g w act.tmps fr) (hc : chkVal P o.op (.slcl sz y lo hi mx) = true) (hv : val fr h (.slcl sz y lo hi mx) K) : OpTells P g w act o K := by
 simp only [chkVal] at hc
 split at hc
 ·next t x lo' hi' mx' hop =>
  simp only [Bool.and_eq_true] at hc
  obtain ⟨⟨⟨⟨⟨hc1, hc2⟩, hc3⟩, hc4⟩, hc5⟩, hc6⟩ := hc
  split at hc6
  ·next e ht =>
   have hsz := eq_of_beq hc6
   simp only [val] at hv
   split at hv
   ·next f n l he =>
    obtain ⟨h1, _⟩ := ev_ok hf hc1 he
    generalize hx : act.eval x = u at h1
    split at hv
    ·next k1 i k2 j hl hu =>
     obtain ⟨⟨i0, i1, i2, hll⟩, hv⟩ := hv
     obtain ⟨a, c, rfl, hnc, hrep⟩ : ∃ a c, u = .slice a n c ∧ n ≤ c ∧ ∀ (f' : Fl) (a' : Option Addr) (c' : Nat), (∀ e', f' ≠ .own e') → (a' = a ∧ j.toNat - i.toNat = 0 ∨ a' = a.map (·.add (i.toNat * sz))) → j.toNat - i.toNat ≤ c' → (f' = .clip → c' = j.toNat - i.toNat) →
       Rep g (.slice a' (j.toNat - i.toNat) c') (.lst f' (j.toNat - i.toNat) ((l.drop (i.toNat * sz)).take ((j.toNat - i.toNat) * sz))) := by
      cases h1 with
      | lst b off n c f vs l q1 q2 q3 q4 q5 =>
       refine ⟨_, _, rfl, q3, fun f' a' c' hf' ha' hc' hcl => ?_⟩
       rcases ha' with ⟨rfl, hz⟩ | rfl
       ·rw [hz]; simp only [Nat.zero_mul, List.take_zero]; exact .lst0 _ _ _ (fun h => by rw [hcl h, hz])
       ·simp only [Option.map_some, add_none]
        refine .lst b (off + i.toNat * sz) _ c' f' ((vs.drop (i.toNat * sz)).take ((j.toNat - i.toNat) * sz)) _ (fun q v hq => ?_) (fun a ha => q2 a (List.mem_of_mem_drop (List.mem_of_mem_take ha))) hc' hcl ((q5.drop _).take _)
        rw [List.getElem?_take] at hq
        split at hq
        ·rw [List.getElem?_drop] at hq
         rw [Nat.add_assoc]
         exact q1 _ _ hq
        ·cases hq
      | lst0 a c f q =>
       refine ⟨_, _, rfl, Nat.zero_le _, fun f' a' c' hf' ha' hc' hcl => ?_⟩
       have hz : j.toNat - i.toNat = 0 := by omega
       rw [hz]; simp only [Nat.zero_mul, List.take_zero]; exact .lst0 _ _ _ (fun h => by rw [hcl h, hz])
     have hlo : lo'.map act.eval = none ∧ i = 0 ∨ ∃ k, lo'.map act.eval = some (.int k i) := by
      rcases evD_ok hf hc2 hl with ⟨rfl, hd⟩ | hd
      ·injection hd with _ hd; exact .inl ⟨rfl, hd.symm⟩
      ·exact .inr ⟨_, hd⟩
     have hhi : hi'.map act.eval = none ∧ j = n ∨ ∃ k, hi'.map act.eval = some (.int k j) := by
      rcases evD_ok hf hc3 hu with ⟨rfl, hd⟩ | hd
      ·injection hd with _ hd; exact .inl ⟨rfl, hd.symm⟩
      ·exact .inr ⟨_, hd⟩
     have hnc' : (n : Int) ≤ c := by omega
     have hae : ∀ m : Nat, (if m = i.toNat then a else a.map (·.add (i.toNat * sz))) = a ∧ j.toNat - i.toNat = 0 ∨ (if m = i.toNat then a else a.map (·.add (i.toNat * sz))) = a.map (·.add (i.toNat * sz)) ∨ m < j.toNat := by
      intro m
      by_cases hm : m = i.toNat
      ·rw [if_pos hm]
       by_cases hj : j.toNat ≤ m
       ·exact .inl ⟨rfl, by omega⟩
       ·exact .inr (.inr (by omega))
      ·rw [if_neg hm]; exact .inr (.inl rfl)
     split at hv
     ·next hmx =>
      have hmx' : mx' = none := by
       cases mx' with
       | none => rfl
       | some _ => simp [chkO] at hc4
      subst hmx'
      have hr := slice_in (w := w) t e a n c (lo'.map act.eval) (hi'.map act.eval) none i j c sz ht hsz hlo hhi (.inl ⟨rfl, rfl⟩) i0 i1 (by omega) (by omega)
      refine OpTells.of (s := Instr.sliceAt t (.slice a n c) (lo'.map act.eval) (hi'.map act.eval) none) (by simp [execOp, hop, hx]) ⟨_, _, hr, hrep .ro _ _ (fun _ h => by cases h) ?_ (by omega) (fun h => by cases h), rfl, hv⟩
      rcases hae ((c : Int).toNat) with h | h | h
      ·exact .inl h
      ·exact .inr h
      ·exfalso; omega
     ·next mm hmx =>
      split at hv
      ·next k3 m hm =>
       obtain ⟨rfl, hv⟩ := hv
       cases mx' with
       | none => simp [chkO] at hc4
       | some m' =>
        obtain ⟨h3, _⟩ := ev_ok hf hc4 hm
        generalize hm' : act.eval m' = u3 at h3
        cases h3
        have hne : hi'.map act.eval ≠ none := by
         simp at hc5
         intro hn
         cases hi' with
         | some _ => cases hn
         | none =>
          cases hi with
          | none => simp at hc5
          | some _ => simp [chkO] at hc3
        have hr := slice_in (w := w) t e a n c (lo'.map act.eval) (hi'.map act.eval) (some (.int k3 m)) i m m sz ht hsz hlo hhi (.inr ⟨⟨k3, rfl⟩, hne⟩) i0 i1 (by omega) (by omega)
        refine OpTells.of (s := Instr.sliceAt t (.slice a n c) (lo'.map act.eval) (hi'.map act.eval) (some (.int k3 m))) (by simp [execOp, hop, hx, hm']) ⟨_, _, hr, hrep .clip _ _ (fun _ h => by cases h) ?_ (by omega) (fun _ => rfl), rfl, hv⟩
        rcases hae m.toNat with h | h | h
        ·exact .inl h
        ·exact .inr h
        ·exfalso; omega
      ·exact hv.elim
    ·exact hv.elim
   ·exact hv.elim
  ·cases hc6
 ·cases hc
theorem val_slch {o : Oper} {sz : Nat} {y z : Opd} {K : AV → Prop} (hf : FrameOk P g w act.tmps fr) (hc : chkVal P o.op (.slch sz y z) = true) (hv : val fr h (.slch sz y z) K) : OpTells P g w act o K := by
 simp only [chkVal] at hc
 split at hc
 ·next t x hi' hop =>
  simp only [Bool.and_eq_true] at hc
  obtain ⟨⟨hc1, hc2⟩, hc3⟩ := hc
  split at hc3
  ·next e ht =>
   have hsz := eq_of_beq hc3
   simp only [val] at hv
   split at hv
   ·next id n c k j he hj =>
    obtain ⟨⟨j0, j1⟩, hv⟩ := hv
    obtain ⟨h1, _⟩ := ev_ok hf hc1 he
    obtain ⟨h2, _⟩ := ev_ok hf hc2 hj
    generalize hx : act.eval x = u at h1
    generalize hx2 : act.eval hi' = u2 at h2
    cases h2
    cases h1 with
    | hsc _ b _ _ hb hn =>
     have hr := slice_in (w := w) t e (some ⟨b, 0, none⟩) n c none (some (.int k j)) none 0 j c sz ht hsz (.inl ⟨rfl, rfl⟩) (.inr ⟨k, rfl⟩) (.inl ⟨rfl, rfl⟩) (Int.le_refl _) j0 (by omega) (by omega)
     have ha : (if (c : Int).toNat = (0 : Int).toNat then some (⟨b, 0, none⟩ : Addr) else (some (⟨b, 0, none⟩ : Addr)).map (·.add ((0 : Int).toNat * sz))) = some ⟨b, 0, none⟩ := by
      split
      ·rfl
      ·simp [add_none]
     rw [ha] at hr
     simp only [Int.toNat_zero, Nat.sub_zero, Int.toNat_natCast] at hr
     exact OpTells.of (s := Instr.sliceAt t (.slice (some ⟨b, 0, none⟩) n c) none (some (.int k j)) none) (by simp [execOp, hop, hx, hx2]) ⟨_, _, hr, .hsc _ b _ c hb (by omega), rfl, hv⟩
   ·exact hv.elim
  ·cases hc3
 ·cases hc
theorem val_build {o : Oper} {tmpl : List AV} {parts : List (Nat × Nat × Opd)} {K : AV → Prop} (hf : FrameOk P g w act.tmps fr) (hc : chkVal P o.op (.build tmpl parts) = true) (hv : val fr h (.build tmpl parts) K) : OpTells P g w act o K := by
 simp only [chkVal] at hc
 split at hc
 ·next t ps hop =>
  split at hc
  ·next i fs hi hu =>
   simp only [Bool.and_eq_true] at hc
   obtain ⟨⟨hc1, hc2⟩, hc3⟩ := hc
   split at hc1
   ·next z hz =>
    obtain ⟨r1, r2, r3⟩ := chkVs_ok g hc1
    have hall : ∀ f ∈ fs.toList, ∃ inf, P.info? f.type = some inf := fun f hf => by
     have := List.all_eq_true.1 hc2 f hf
     exact Option.isSome_iff_exists.1 this
    -- the places of the fields
    have hpl : ∃ places : Array (Nat × Nat), (fs.mapM (m := Sem) fun f => do pure (f.offset, ← sizeOf f.type)).run P w = .ok places w ∧ ∀ (i : Nat) f, fs[i]? = some f → ∃ sz, (P.info? f.type).map (·.size) = some sz ∧ places[i]? = some (f.offset, sz) := by
     have key : ∀ (l : List Field), (∀ f ∈ l, ∃ inf, P.info? f.type = some inf) → ∃ ql : List (Nat × Nat), (l.mapM (m := Sem) fun f => do pure (f.offset, ← sizeOf f.type)).run P w = .ok ql w ∧ ∀ (i : Nat) f, l[i]? = some f → ∃ sz, (P.info? f.type).map (·.size) = some sz ∧ ql[i]? = some (f.offset, sz) := by
      intro l
      induction l with
      | nil => intro _; exact ⟨[], rfl, fun i f h => by simp at h⟩
      | cons f l ih =>
       intro hl
       obtain ⟨ql, h1, h2⟩ := ih (fun f hf => hl f (by simp [hf]))
       obtain ⟨inf, hinf⟩ := hl f (by simp)
       refine ⟨(f.offset, inf.size) :: ql, ?_, ?_⟩
       ·simp [sizeOf, typeInfo, hinf] at h1 ⊢; simp [h1]
       ·intro i f' hf'
        cases i with
        | zero => simp at hf'; subst hf'; exact ⟨inf.size, by simp [hinf], rfl⟩
        | succ i => simpa using h2 i f' (by simpa using hf')
     obtain ⟨ql, h1, h2⟩ := key fs.toList hall
     refine ⟨ql.toArray, ?_, fun i f hf => ?_⟩
     ·rw [Array.mapM_eq_mapM_toList]
      simp only [Sem.run_map, h1]
      rfl
     ·obtain ⟨sz, q1, q2⟩ := h2 i f (by simpa using hf)
      exact ⟨sz, q1, by simpa using q2⟩
    obtain ⟨places, hp1, hp2⟩ := hpl
    obtain ⟨cells', l, f1, f2, f3, f4, f5⟩ := fill_ok act hf hp2 ps.toList parts z.cells.toList tmpl _ hc3 r1 r2 r3 hv
    refine OpTells.of (s := Instr.build t (ps.map fun q => (q.1, act.eval q.2))) (by simp [execOp, hop]) ⟨.agg cells'.toArray, _, ?_, .agg _ _ f4 f3 f2, rfl, f5⟩
    have hz2 : (zeroValue t).run P w = .ok z w := by simp [zeroValue, typeInfo, hi, hz]
    simp only [Instr.build, Sem.run_bind, hz2, Result.andThen_ok, run_underlying hu, hp1]
    have : (Array.map (fun q => (q.1, act.eval q.2)) ps).toList = ps.toList.map fun q => (q.1, act.eval q.2) := by simp
    rw [this, show z.cells = z.cells.toList.toArray by simp, f1]
    rfl
   ·cases hc1
  ·cases hc
 ·cases hc

theorem flatK_plain {t : TypeId} {k : Nat} (h : flatK P t k = true) : P.plainKey t = true := by
 unfold flatK at h
 unfold Program.plainKey
 split at h <;> first | cases h | simp_all
theorem eqFields_flat (d : Nat) {xs ys : List Value} : ∀ (fs : List Field) (ks : List Nat) (i : Nat) (l m : List AV) (r : Bool), chkFlat P i fs ks = true → RepL g (xs.drop i) l → RepL g (ys.drop i) m → eqCells ks l m = some r →
  (Op.eqFields (d + 1) xs.toArray ys.toArray fs).run P w = .ok r w
 | [], [], i, l, m, r, _, _, _, h => by
  cases l with
  | nil =>
   cases m with
   | nil => simp only [eqCells, Option.some.injEq] at h; subst h; simp [Op.eqFields]
   | cons b m' => simp [eqCells] at h
  | cons a l' => simp [eqCells] at h
 | [], _ :: _, _, _, _, _, hc, _, _, _ => by simp [chkFlat] at hc
 | _ :: _, [], _, _, _, _, hc, _, _, _ => by simp [chkFlat] at hc
 | f :: fs, k :: ks, i, l, m, r, hc, hl, hm, h => by
  simp only [chkFlat, Bool.and_eq_true, beq_iff_eq, bne_iff_ne, ne_eq] at hc
  obtain ⟨⟨⟨ho, hn⟩, hk⟩, hc⟩ := hc
  cases l with
  | nil => simp [eqCells] at h
  | cons a l' =>
  cases m with
  | nil => simp [eqCells] at h
  | cons b m' =>
   simp only [eqCells] at h
   cases hxd : xs.drop i with
   | nil => rw [hxd] at hl; cases hl
   | cons x xs' =>
   cases hyd : ys.drop i with
   | nil => rw [hyd] at hm; cases hm
   | cons y ys' =>
   rw [hxd] at hl
   rw [hyd] at hm
   cases hl with
   | cons hx hl =>
   cases hm with
   | cons hy hm =>
   have hxi : xs.toArray[i]? = some x := by
    have := congrArg (·[0]?) hxd
    simpa using this
   have hyi : ys.toArray[i]? = some y := by
    have := congrArg (·[0]?) hyd
    simpa using this
   have hxs : xs.drop (i + 1) = xs' := by rw [← List.drop_drop, hxd]; rfl
   have hys : ys.drop (i + 1) = ys' := by rw [← List.drop_drop, hyd]; rfl
   have hp := flatK_plain hk
   split at h
   ·next p q hpq hq =>
    simp only [Option.some.injEq] at h
    subst h
    have ih := eqFields_flat d fs ks (i + 1) l' m' q hc (by rw [hxs]; exact hl) (by rw [hys]; exact hm) hq
    have hcell : (Op.equalIn (d + 1) f.type x y).run P w = .ok p w := by
     unfold flatK at hk
     unfold eqCell at hpq
     split at hpq
     ·cases hx; cases hy
      split at hk
      ·next hu =>
       split at hpq
       ·next e => subst e; simp only [Option.some.injEq] at hpq; subst hpq; rw [run_equalIn_int w d f.type _ _ _ _ hu]; congr 1
       ·cases hpq
      all_goals simp at hk
     ·cases hx; cases hy
      split at hk
      all_goals first
       | (next hu => simp only [Option.some.injEq] at hpq; subst hpq; rw [run_equalIn_string w d f.type _ _ hu]; simp only [str_iff])
       | (simp at hk; done)
     ·cases hx; cases hy
      split at hk
      all_goals first
       | (next hu => simp only [Option.some.injEq] at hpq; subst hpq; rw [run_equalIn_bool w d f.type _ _ hu]; congr 1)
       | (simp at hk; done)
     ·cases hpq
    subst ho
    simp only [Op.eqFields, hn, ne_eq, not_false_eq_true, if_true, Sem.run_bind, run_part_plain w hp hxi, run_part_plain w hp hyi, hcell, Result.andThen_ok]
    cases p with
    | false => simp
    | true => simpa using ih
   ·cases h
theorem find_ibs {fn : Func} (hn : fn.name = "internal/bytealg.IndexByteString") (ho : fn.origin = "") : Extern.find fn = some Extern.BytealgIndexByte.indexByte := by
 unfold Extern.find
 rw [hn, ho]
 rfl
theorem findNext_ibs {fn : Func} (hn : fn.name = "internal/bytealg.IndexByteString") (ho : fn.origin = "") : Extern.findNext fn = none := by
 unfold Extern.findNext
 rw [hn, ho]
 rfl
theorem ba_eq {x y : ByteArray} (h : (x == y) = true) : x = y := by
 cases x; cases y
 congr 1
 exact eq_of_beq h
theorem ba_refl {x : ByteArray} : (x == x) = true := by
 cases x
 exact beq_self_eq_true (α := Array UInt8) _
theorem pvl_rep (g : Gh) : ∀ {l : List AV} {vs : List Value}, pvl l = some vs → RepL g vs l ∧ plains l ∧ ∀ v ∈ vs, v.oneCell' = true
 | [], vs, h => by simp only [pvl, Option.some.injEq] at h; subst h; exact ⟨.nil, by intro a ha; simp at ha, by simp⟩
 | a :: l, vs, h => by
  simp only [pvl] at h
  split at h
  ·next v us h1 h2 =>
   simp only [Option.some.injEq] at h
   subst h
   obtain ⟨r1, r2, r3⟩ := pvl_rep g h2
   have ha : Rep g v a ∧ plain a = true ∧ v.oneCell' = true := by
    cases a <;> first | (simp only [pv1, Option.some.injEq] at h1; subst h1; first | exact ⟨.bool _, rfl, rfl⟩ | exact ⟨.int _ _, rfl, rfl⟩ | exact ⟨.str _, rfl, rfl⟩) | (simp [pv1] at h1)
   exact ⟨.cons ha.1 r1, by intro b hb; rcases List.mem_cons.1 hb with rfl | hb; exact ha.2.1; exact r2 b hb, by intro u hu; rcases List.mem_cons.1 hu with rfl | hu; exact ha.2.2; exact r3 u hu⟩
  ·cases h
theorem pv_rep (g : Gh) {a : AV} {v : Value} (h : pv a = some v) : Rep g v a ∧ plain a = true := by
 cases a <;> first
  | (simp only [pv, Option.some.injEq] at h; subst h; first | exact ⟨.bool _, rfl⟩ | exact ⟨.int _ _, rfl⟩ | exact ⟨.str _, rfl⟩)
  | (simp only [pv] at h; split at h; (next vs hv => simp only [Option.some.injEq] at h; subst h; obtain ⟨r1, r2, r3⟩ := pvl_rep g hv; exact ⟨.agg vs _ r3 r2 r1, rfl⟩); cases h)
  | (simp [pv] at h)
theorem pvl_eq {g : Gh} : ∀ {l : List AV} {vs us : List Value}, pvl l = some vs → RepL g us l → us = vs
 | [], vs, us, h, hr => by cases hr; simp only [pvl, Option.some.injEq] at h; exact h
 | a :: l, vs, us, h, hr => by
  simp only [pvl] at h
  split at h
  ·next v ws h1 h2 =>
   simp only [Option.some.injEq] at h
   subst h
   cases hr with
   | cons q1 q2 =>
    rw [pvl_eq h2 q2]
    congr 1
    cases a <;> first | (simp only [pv1, Option.some.injEq] at h1; subst h1; cases q1; rfl) | (simp [pv1] at h1)
  ·cases h
theorem pv_eq {g : Gh} {a : AV} {v u : Value} (h : pv a = some v) (hr : Rep g u a) : u = v := by
 cases a <;> first
  | (simp only [pv, Option.some.injEq] at h; subst h; cases hr; rfl)
  | (simp only [pv] at h; split at h; (next vs hv => simp only [Option.some.injEq] at h; subst h; cases hr with | agg us _ _ _ q => rw [pvl_eq hv q]); cases h)
  | (simp [pv] at h)
theorem pvs_get : ∀ {l : List AV} {vs : List Value} {i : Nat} {v : Value}, pvs l = some vs → vs[i]? = some v → ∃ a, l[i]? = some a ∧ pv a = some v
 | [], vs, i, v, h, hv => by simp only [pvs, Option.some.injEq] at h; subst h; simp at hv
 | a :: l, vs, i, v, h, hv => by
  simp only [pvs] at h
  split at h
  ·next u us h1 h2 =>
   simp only [Option.some.injEq] at h
   subst h
   cases i with
   | zero => simp at hv; subst hv; exact ⟨a, rfl, h1⟩
   | succ i => simp at hv; simpa using pvs_get h2 hv
  ·cases h
theorem find_now {str : Bool} {d : TypeDesc} (hd : kdOk str d = true) {key : AV} {kv : Value} (hk : isKey str key = true) (hkv : pv key = some kv) :
  ∀ {ks : List AV} {es : List MapEntry} (i : Nat), pvs ks = some (es.map (·.key)) → ks.all (kSame key) = true →
   ∃ r, Instr.findNow d kv es i = some r ∧ (match mFind key ks i with
    | some j => i ≤ j ∧ ∃ e, es[j - i]? = some e ∧ r = some (j, e.val) ∧ e.key = kv
    | none => r = none)
 | [], [], i, _, _ => ⟨none, rfl, rfl⟩
 | [], e :: es, i, h, _ => by simp [pvs] at h
 | a :: ks, [], i, h, _ => by
  simp only [pvs] at h
  split at h
  ·simp at h
  ·cases h
 | a :: ks, e :: es, i, h, hs => by
  simp only [pvs] at h
  split at h
  ·next u us h1 h2 =>
   simp only [List.map_cons, Option.some.injEq, List.cons.injEq] at h
   obtain ⟨rfl, rfl⟩ := h
   simp only [List.all_cons, Bool.and_eq_true] at hs
   obtain ⟨hs1, hs2⟩ := hs
   obtain ⟨r, hr1, hr2⟩ := find_now hd hk hkv (i + 1) h2 hs2
   have hsn : Instr.sameNow d kv e.key = some (kEq key a) ∧ (kEq key a = true → e.key = kv) := by
    cases key <;> simp [isKey] at hk
    ·cases a <;> simp [kSame] at hs1
     subst hs1
     simp only [pv, Option.some.injEq] at hkv h1
     rw [← hkv, ← h1]
     subst hk
     cases d <;> simp [kdOk] at hd
     refine ⟨by simp [Instr.sameNow, kEq], fun hh => by simp [kEq] at hh; rw [hh]⟩
    ·cases a <;> simp [kSame] at hs1
     simp only [pv, Option.some.injEq] at hkv h1
     rw [← hkv, ← h1]
     subst hk
     cases d <;> simp [kdOk] at hd
     refine ⟨by simp [Instr.sameNow, kEq], fun hh => by rw [ba_eq (show (_ == _) = true from hh)]⟩
   simp only [mFind]
   by_cases hq : kEq key a = true
   ·rw [if_pos hq]
    refine ⟨some (i, e.val), by simp only [Instr.findNow, hsn.1, hq], by omega, e, by simp, rfl, hsn.2 hq⟩
   ·rw [if_neg hq]
    refine ⟨r, by simp only [Instr.findNow, hsn.1]; cases hb : kEq key a with | true => exact absurd hb hq | false => simpa [hb] using hr1, ?_⟩
    cases hm : mFind key ks (i + 1) with
    | none => rw [hm] at hr2; exact hr2
    | some j =>
     rw [hm] at hr2
     obtain ⟨q1, e', q2, q3, q4⟩ := hr2
     refine ⟨by omega, e', ?_, q3, q4⟩
     rw [show j - i = (j - (i + 1)) + 1 by omega]
     simpa using q2
  ·cases h
theorem run_findKey {str : Bool} {kt : TypeId} {d : TypeDesc} (hu : P.underlying kt = some d) (hd : kdOk str d = true) {key : AV} {kv : Value} (hk : isKey str key = true) (hkv : pv key = some kv)
    {ks : List AV} {es : List MapEntry} (h : pvs ks = some (es.map (·.key))) (hs : ks.all (kSame key) = true) :
    ∃ r, (Instr.findKey kt kv es).run P w = .ok r w ∧ (match mFind key ks 0 with
        | some j => ∃ e, es[j]? = some e ∧ r = some (j, e.val) ∧ e.key = kv
        | none => r = none) := by
  obtain ⟨r, h1, h2⟩ := find_now hd hk hkv 0 h hs
  refine ⟨r, by simp [Instr.findKey, run_underlying hu, h1], ?_⟩
  cases hm : mFind key ks 0 with
  | none => rw [hm] at h2; exact h2
  | some j =>
    rw [hm] at h2
    obtain ⟨_, e, q2, q3, q4⟩ := h2
    exact ⟨e, by simpa using q2, q3, q4⟩
theorem run_checkKey {str : Bool} {kt : TypeId} {d : TypeDesc} (hu : P.underlying kt = some d) (hd : kdOk str d = true) (em : Bool) (v : Value) : (Instr.checkKey em 10000 kt v).run P w = .ok () w := by
 rw [show (10000 : Nat) = 9999 + 1 from rfl]
 unfold Instr.checkKey
 cases d <;> simp [kdOk] at hd <;> simp [run_underlying hu]
theorem run_lookup {str : Bool} {t kt et : TypeId} {d : TypeDesc} {inf : TypeInfo} {z : Value} (ht : P.underlying t = some (.map kt et)) (hu : P.underlying kt = some d) (hd : kdOk str d = true) (hi : P.info? et = some inf) (hz : inf.zero = some z) {key : AV} {kv : Value} (hk : isKey str key = true) (hkv : pv key = some kv)
    {b clock : Nat} {es : Array MapEntry} {ks : List AV} (hb : w.heap[b]? = some (.map es clock)) (hks : pvs ks = some (es.toList.map (·.key))) (hall : ks.all (kSame key) = true) (ok : Bool) :
    ∃ r : Value × Bool, (Instr.lookup t (.map (some b)) kv ok).run P w = .ok (if ok then .tuple #[r.1, .bool r.2] else r.1) w ∧ (match mFind key ks 0 with
      | some j => ∃ e, es.toList[j]? = some e ∧ r = (e.val, true)
      | none => r = (z, false)) := by
  obtain ⟨r, h1, h2⟩ := run_findKey (w := w) hu hd hk hkv hks hall
  have hck := run_checkKey (P := P) (w := w) hu hd es.isEmpty kv
  cases hm : mFind key ks 0 with
  | some j =>
    rw [hm] at h2
    obtain ⟨e, h3, rfl, _⟩ := h2
    refine ⟨(e.val, true), ?_, e, h3, rfl⟩
    cases ok <;> simp [Instr.lookup, run_underlying ht, getObj, Sem.run, Result.andThen, hb, hck, h1] <;> (try rfl)
  | none =>
    rw [hm] at h2
    subst h2
    refine ⟨(z, false), ?_, rfl⟩
    cases ok <;> simp [Instr.lookup, run_underlying ht, getObj, Sem.run, Result.andThen, hb, hck, h1, zeroValue, typeInfo, hi, hz] <;> (try rfl)
theorem ex_sound {o : Oper} {e : Ex} {ys : List Opd} {l : List AV} {a : AV} (hs : Sim P g h w) (hf : FrameOk P g w act.tmps fr) (hc : chkEx P o.op e ys = true) (he : evs fr ys = some l) (hx : exF e l = some a) : ∃ v, (execOp act.eval o).run P w = .ok (.value v) w ∧ Rep g v a ∧ plain a = true := by
 cases e with
 | zag z =>
  simp only [chkEx] at hc
  split at hc
  ·next t ps hop =>
   simp only [Bool.and_eq_true] at hc
   obtain ⟨⟨hy, hp⟩, hc⟩ := hc
   have hps : ps.toList = [] := List.isEmpty_iff.1 hp
   obtain rfl := List.isEmpty_iff.1 hy
   simp only [evs, Option.some.injEq] at he
   subst he
   simp only [exF, Option.some.injEq] at hx
   subst hx
   split at hc
   ·next inf m e hi hu =>
    simp only [Bool.and_eq_true] at hc
    obtain ⟨he, hc⟩ := hc
    obtain ⟨ie, hie⟩ := Option.isSome_iff_exists.1 he
    split at hc
    ·next z' hz =>
     obtain ⟨r1, r2, r3⟩ := chkVs_ok g hc
     have hz2 : (zeroValue t).run P w = .ok z' w := by simp [zeroValue, typeInfo, hi, hz]
     refine ⟨.agg z'.cells, ?_, by simpa using Rep.agg z'.cells.toList z r3 r2 r1, rfl⟩
     have hps' : (ps.map fun q => (q.1, act.eval q.2)).toList = [] := by simp [hps]
     have hrun : (Instr.build t (ps.map fun q => (q.1, act.eval q.2))).run P w = .ok (.agg z'.cells) w := by
      simp only [Instr.build, Sem.run_bind, hz2, Result.andThen_ok, run_underlying hu, hps', Instr.fill]
      simp [sizeOf, typeInfo, hie]
     simp only [execOp, hop, Sem.run_bind, hrun]
     simp
    ·cases hc
   ·cases hc
  ·cases hc
 | mlk str ag z ok =>
  simp only [chkEx] at hc
  split at hc
  ·next t x i ok' hop =>
   simp only [Bool.and_eq_true] at hc
   obtain ⟨⟨hc, hok⟩, hc3⟩ := hc
   obtain rfl := eq_of_beq hok
   split at hc3
   ·next kt et ht =>
    simp only [Bool.and_eq_true] at hc3
    obtain ⟨hkt, hzz⟩ := hc3
    obtain ⟨hr, hpl⟩ := evs_ok hf hc he
    simp only [List.map_cons, List.map_nil] at hr
    simp only [exF] at hx
    unfold mlkF at hx
    split at hx
    ·next ks vs key =>
     split at hx
     ·next hcond =>
      simp only [Bool.and_eq_true] at hcond
      obtain ⟨hk, hall⟩ := hcond
      cases hr with
      | cons q1 hr => cases hr with
       | cons q2 hr =>
        cases hr
        generalize hu : act.eval x = u at q1
        generalize hu' : act.eval i = u' at q2
        obtain ⟨d, hud, hd⟩ : ∃ d, P.underlying kt = some d ∧ kdOk str d = true := by
         split at hkt
         ·next d hh => exact ⟨d, hh, hkt⟩
         ·cases hkt
        have hkv : ∃ kv, pv key = some kv := by cases key <;> simp [isKey] at hk <;> exact ⟨_, rfl⟩
        obtain ⟨kv, hkv⟩ := hkv
        obtain rfl := pv_eq hkv q2
        cases q1 with
        | fmp b obj _ _ hX hM =>
         obtain ⟨es, clock, hobj, hks, hvs⟩ := hM
         simp only [Option.some.injEq] at hobj
         subst hobj
         have hheap := (hs.fro b _ hX).1
         obtain ⟨inf, hinf, zv, hzv, hzz⟩ : ∃ inf, P.info? et = some inf ∧ ∃ zv, inf.zero = some zv ∧ Rep g zv (zeroA ag z) ∧ plain (zeroA ag z) = true := by
          split at hzz
          ·next inf hinf =>
           split at hzz
           ·next cs hz =>
            simp only [Bool.and_eq_true] at hzz
            obtain ⟨rfl, hv⟩ := hzz
            obtain ⟨r1, r2, r3⟩ := chkVs_ok g hv
            exact ⟨inf, hinf, _, hz, by simpa [zeroA] using Rep.agg cs.toList z r3 r2 r1, rfl⟩
           ·next v _ hz =>
            simp only [Bool.and_eq_true, Bool.not_eq_true'] at hzz
            obtain ⟨⟨rfl, _⟩, hv⟩ := hzz
            obtain ⟨r1, r2, r3⟩ := chkVs_ok g hv
            cases r1 with
            | cons q1 q2 =>
             cases q2
             exact ⟨inf, hinf, v, hz, by simpa [zeroA] using q1, by simpa [zeroA] using r2 _ (List.mem_cons_self)⟩
           ·cases hzz
          ·cases hzz
         obtain ⟨r, hr1, hr2⟩ := run_lookup ht hud hd hinf hzv hk hkv hheap hks hall ok'
         cases hm : mFind key ks 0 with
         | some j =>
          rw [hm] at hr2 hx
          obtain ⟨e, he1, rfl⟩ := hr2
          obtain ⟨av, ha1, ha2⟩ := pvs_get (i := j) (v := e.val) hvs (by rw [List.getElem?_map, he1]; rfl)
          obtain ⟨p1, p2⟩ := pv_rep g ha2
          have hgd : vs.getD j .nilp = av := by simp [List.getD_eq_getElem?_getD, ha1]
          dsimp only at hx
          rw [hgd] at hx
          simp only [Option.some.injEq] at hx
          subst hx
          refine ⟨if ok' then .tuple #[e.val, .bool true] else e.val, by simp only [execOp, hop, hu, hu', Sem.run_bind, hr1]; simp, ?_⟩
          cases ok' with
          | false => exact ⟨p1, p2⟩
          | true => exact ⟨.tup [e.val, .bool true] _ (by intro c hc; simp at hc; rcases hc with rfl | rfl; exact p2; rfl) (.cons p1 (.cons (.bool _) .nil)), rfl⟩
         | none =>
          rw [hm] at hr2 hx
          subst hr2
          simp only [Option.some.injEq] at hx
          subst hx
          refine ⟨if ok' then .tuple #[zv, .bool false] else zv, by simp only [execOp, hop, hu, hu', Sem.run_bind, hr1]; simp, ?_⟩
          cases ok' with
          | false => exact hzz
          | true => exact ⟨.tup [zv, .bool false] _ (by intro c hc; simp at hc; rcases hc with rfl | rfl; exact hzz.2; rfl) (.cons hzz.1 (.cons (.bool _) .nil)), rfl⟩
     ·cases hx
    ·cases hx
   ·cases hc3
  ·cases hc
 | idp sz n =>
  simp only [chkEx] at hc
  split at hc
  ·next t x i hop =>
   simp only [Bool.and_eq_true] at hc
   obtain ⟨hc, hc3⟩ := hc
   split at hc3
   ·next n' el ht =>
    simp only [Bool.and_eq_true] at hc3
    obtain ⟨hn, hc3⟩ := hc3
    obtain rfl := eq_of_beq hn
    obtain ⟨inf, hinf, rfl⟩ := info_size (eq_of_beq hc3)
    obtain ⟨hr, hpl⟩ := evs_ok hf hc he
    simp only [List.map_cons, List.map_nil] at hr
    have hrun : ∀ (b off : Nat) (k : IntKind) (j : Int), 0 ≤ j → j < n' → (Instr.indexAt t (.pointer (some ⟨b, off, none⟩)) (.int k j)).run P w = .ok (.pointer (some ⟨b, off + j.toNat * inf.size, none⟩)) w := by
     intro b off k j h0 h1
     simp [Instr.indexAt, Instr.sureAddr, run_underlying ht, asIntOf, h0, h1, sizeOf, typeInfo, hinf, add_none]
    simp only [exF] at hx
    unfold idpF at hx
    split at hx
    ·next id off k j =>
     split at hx
     ·next hj =>
      simp only [Option.some.injEq] at hx
      subst hx
      cases hr with
      | cons q1 hr => cases hr with
       | cons q2 hr =>
        cases hr
        generalize hu : act.eval x = u at q1
        generalize hu' : act.eval i = u' at q2
        cases q2
        cases q1 with
        | ptr _ _ b hb => exact ⟨_, by simp [execOp, hop, hu, hu', hrun b off k j hj.1 hj.2], .ptr _ _ b hb, rfl⟩
     ·cases hx
    ·next l k j =>
     split at hx
     ·next hj =>
      simp only [Option.some.injEq] at hx
      subst hx
      cases hr with
      | cons q1 hr => cases hr with
       | cons q2 hr =>
        cases hr
        generalize hu : act.eval x = u at q1
        generalize hu' : act.eval i = u' at q2
        cases q2
        cases q1 with
        | fp b off vs _ p1 p2 p3 =>
         refine ⟨_, by simp [execOp, hop, hu, hu', hrun b off k j hj.1 hj.2], .fp b (off + j.toNat * inf.size) (vs.drop (j.toNat * inf.size)) _ (fun q v hq => ?_) (fun a ha => p2 a (List.mem_of_mem_drop ha)) (p3.drop _), rfl⟩
         rw [List.getElem?_drop] at hq
         rw [Nat.add_assoc]
         exact p1 _ _ hq
     ·cases hx
    ·cases hx
   ·cases hc3
  ·cases hc
 | sla n =>
  simp only [chkEx] at hc
  split at hc
  ·next t x hi hop =>
   simp only [Bool.and_eq_true] at hc
   obtain ⟨hc, hc3⟩ := hc
   split at hc3
   ·next n' el ht =>
    simp only [Bool.and_eq_true] at hc3
    obtain ⟨hn, hc3⟩ := hc3
    obtain rfl := eq_of_beq hn
    obtain ⟨inf, hinf⟩ := Option.isSome_iff_exists.1 hc3
    obtain ⟨hr, hpl⟩ := evs_ok hf hc he
    simp only [exF] at hx
    unfold slaF at hx
    split at hx
    ·next id k j =>
     split at hx
     ·next hj =>
      simp only [Option.some.injEq] at hx
      subst hx
      cases hi with
      | none =>
       simp only [Option.toList, List.map_cons, List.map_nil] at hr
       cases hr with
       | cons _ hr => cases hr
      | some i =>
       simp only [Option.toList, List.map_cons, List.map_nil] at hr
       cases hr with
       | cons q1 hr => cases hr with
        | cons q2 hr =>
         cases hr
         generalize hu : act.eval x = u at q1
         generalize hu' : act.eval i = u' at q2
         cases q2
         cases q1 with
         | ptr _ _ b hb =>
          have hrun : (Instr.sliceAt t (.pointer (some ⟨b, 0, none⟩)) none (some (.int k j)) none).run P w = .ok (.slice (some ⟨b, 0, none⟩) j.toNat n') w := by
           simp [Instr.sliceAt, Instr.sureAddr, run_underlying ht, Instr.sliceBounds, run_sliceBound_if, hj.1, hj.2, sizeOf, typeInfo, hinf, add_none]
          exact ⟨_, by simp [execOp, hop, hu, hu', hrun], .hs id b j.toNat n' hb (by omega), rfl⟩
     ·cases hx
    ·next id =>
     simp only [Option.some.injEq] at hx
     subst hx
     cases hi with
     | some i =>
      simp only [Option.toList, List.map_cons, List.map_nil] at hr
      cases hr with
      | cons _ hr => cases hr
     | none =>
      simp only [Option.toList, List.map_cons, List.map_nil] at hr
      cases hr with
      | cons q1 hr =>
       cases hr
       generalize hu : act.eval x = u at q1
       cases q1 with
       | ptr _ _ b hb =>
        have hrun : (Instr.sliceAt t (.pointer (some ⟨b, 0, none⟩)) none none none).run P w = .ok (.slice (some ⟨b, 0, none⟩) n' n') w := by
         simp [Instr.sliceAt, Instr.sureAddr, run_underlying ht, Instr.sliceBounds, sizeOf, typeInfo, hinf, add_none]
        exact ⟨_, by simp [execOp, hop, hu, hrun], .hs id b n' n' hb (Nat.le_refl _), rfl⟩
    ·cases hx
   ·cases hc3
  ·cases hc
 | mkb f =>
  simp only [chkEx] at hc
  split at hc
  ·next fn bs cs hop =>
   split at hc
   ·next f' h2 =>
    simp only [Bool.and_eq_true, decide_eq_true_eq] at hc
    obtain ⟨rfl, hc2⟩ := hc
    obtain ⟨q1, q2⟩ := evs_ok hf hc2 he
    simp only [exF, Option.some.injEq] at hx
    subst hx
    refine ⟨.func (.func f') (bs.toList.map act.eval).toArray #[], ?_, .fnb f' _ l q2 q1, rfl⟩
    have : (bs.toList.map act.eval).toArray = bs.map act.eval := by cases bs; simp
    simp [execOp, hop, Instr.makeFunc, of_toList0 h2]
    exact this.symm
   ·cases hc
  ·cases hc
 | aeq neg ks =>
  simp only [chkEx] at hc
  split at hc
  ·next op' t x y _ hop =>
   simp only [Bool.and_eq_true, decide_eq_true_eq, Bool.not_eq_true'] at hc
   obtain ⟨⟨⟨⟨rfl, hc⟩, hst⟩, hgt⟩, hfl⟩ := hc
   obtain ⟨hr, _⟩ := evs_ok hf hc he
   simp only [List.map_cons, List.map_nil] at hr
   replace hx : exF0 _ _ = some _ := hx; unfold exF0 at hx
   split at hx
   ·next h1 _ => cases h1
   ·next neg' ks' l1 m1 he1 _ =>
    injection he1 with e1 e2
    subst e1; subst e2
    cases hr with
    | cons h1 hr =>
     cases hr with
     | cons h2 hr =>
      cases hr
      generalize hu : act.eval x = u at h1
      generalize hu' : act.eval y = u' at h2
      cases h1 with
      | agg vs _ q1 q2 q3 =>
      cases h2 with
      | agg us _ p1 p2 p3 =>
      cases hq : eqCells ks l1 m1 with
      | none => rw [hq] at hx; cases hx
      | some r =>
       rw [hq] at hx
       simp only [Option.map_some, Option.some.injEq] at hx
       subst hx
       split at hfl
       ·next fs hund =>
        have hfs : P.fieldsOf t = fs := by simp [Program.fieldsOf, hund]
        have heq : (Op.equal t (.agg vs.toArray) (.agg us.toArray)).run P w = .ok r w := by
         unfold Op.equal
         rw [show Op.maxDepth = 9999 + 1 from rfl, run_equalIn_struct w 9999 t _ _ (by rw [hfs]; exact hund) hst, hfs]
         exact eqFields_flat 9998 fs.toList ks 0 l1 m1 r hfl (by simpa using q3) (by simpa using p3) hq
        have hgd : ∀ op, (eqGuard op t x y (.agg vs.toArray) (.agg us.toArray)).run P w = .ok () w := by
         intro op
         unfold eqGuard
         cases op <;> simp [hgt]
        cases neg with
        | false => exact ⟨.bool r, by simp [execOp, hop, hu, hu', hgd, binOp, heq], .bool _, rfl⟩
        | true => exact ⟨.bool (!r), by simp [execOp, hop, hu, hu', hgd, binOp, heq], .bool _, rfl⟩
       ·cases hfl
   ·next he1 _ => cases he1
   ·next he1 _ => cases he1
   ·cases hx
  ·cases hc
 | binw op =>
  simp only [chkEx] at hc
  split at hc
  ·next op' t x y _ hop =>
   simp only [Bool.and_eq_true, decide_eq_true_eq] at hc
   obtain ⟨rfl, hc⟩ := hc
   obtain ⟨hr, _⟩ := evs_ok hf hc he
   simp only [List.map_cons, List.map_nil] at hr
   replace hx : exF0 _ _ = some _ := hx; unfold exF0 at hx
   split at hx
   ·next op1 k x1 k' y1 he1 _ =>
    injection he1 with he1
    subst he1
    cases hr with
    | cons h1 hr =>
     cases hr with
     | cons h2 hr =>
      cases hr
      generalize hu : act.eval x = u at h1
      generalize hu' : act.eval y = u' at h2
      cases h1
      cases h2
      split at hx
      ·next hk =>
       subst hk
       split at hx
       all_goals first
        | (simp only [Option.some.injEq] at hx; subst hx; exact ⟨_, by simp [execOp, hop, hu, hu', eqGuard, binOp, Op.intArith], .int _ _, rfl⟩)
        | cases hx
      ·cases hx
   ·next he1 _ => cases he1
   ·next he1 _ => cases he1
   ·next he1 _ => cases he1
   ·cases hx
  ·cases hc
 | r2s =>
  simp only [chkEx] at hc
  split at hc
  ·next s t x hop =>
   simp only [Bool.and_eq_true] at hc
   obtain ⟨hc, hu⟩ := hc
   obtain ⟨hr, _⟩ := evs_ok hf hc he
   simp only [List.map_cons, List.map_nil] at hr
   replace hx : exF0 _ _ = some _ := hx; unfold exF0 at hx
   split at hx
   ·next he1 _ => cases he1
   ·next he1 _ => cases he1
   ·simp only [Option.some.injEq] at hx
    subst hx
    cases hr with
    | cons h1 hr =>
     cases hr
     generalize hu' : act.eval x = u at h1
     cases h1
     split at hu
     ·next hs ht => exact ⟨_, by simp [execOp, hop, hu', convert, run_underlying hs, run_underlying ht, Conv.intToString], .str _, rfl⟩
     ·cases hu
   ·next he1 _ => cases he1
   ·cases hx
  ·cases hc
 | ibs =>
  simp only [chkEx] at hc
  split at hc
  ·next c hop =>
   split at hc
   ·next f hcal =>
    simp only [Bool.and_eq_true] at hc
    obtain ⟨hc, hu⟩ := hc
    split at hu
    ·next fn hfn =>
     simp only [Bool.and_eq_true, beq_iff_eq] at hu
     obtain ⟨⟨hn, ho⟩, hb⟩ := hu
     obtain ⟨hr, _⟩ := evs_ok hf hc he
     replace hx : exF0 _ _ = some _ := hx; unfold exF0 at hx
     split at hx
     ·next he1 _ => cases he1
     ·next he1 _ => cases he1
     ·next he1 _ => cases he1
     ·next s b _ _ =>
      simp only [Option.some.injEq] at hx
      subst hx
      have hargs : c.args.map act.eval = (c.args.toList.map act.eval).toArray := by cases c.args; simp
      generalize c.args.toList.map act.eval = us at hr hargs
      cases hr with
      | cons h1 hr =>
       cases hr with
       | cons h2 hr =>
        cases hr
        cases h1
        cases h2
        have e1 : Extern.findNext fn = none := findNext_ibs hn ho
        have e2 := find_ibs hn ho
        have hcf := run_callFunc_extern (P := P) hfn (by rw [hn]; decide) hb e1 e2 #[.string s, .int .u8 b] w
        rw [run_indexByteString] at hcf
        refine ⟨.int .i64 (indexByte s.data.toList b.toNat.toUInt8), ?_, .int _ _, rfl⟩
        simp only [execOp, hop, resolve, hcal, Act.eval, Deferred.ofValue, invoke, hargs, pure_bind, Array.empty_append]
        simp [hcf]
     ·cases hx
    ·cases hu
   ·cases hc
  ·cases hc
theorem val_ex {o : Oper} {e : Ex} {ys : List Opd} {K : AV → Prop} (hs : Sim P g h w) (hf : FrameOk P g w act.tmps fr) (hc : chkVal P o.op (.ex e ys) = true) (hv : val fr h (.ex e ys) K) : OpTells P g w act o K := by
 simp only [val] at hv
 split at hv
 ·next l he =>
  split at hv
  ·next a hx =>
   obtain ⟨v, h1, h2, h3⟩ := ex_sound hs hf hc he hx
   exact ⟨v, a, h1, h2, h3, hv⟩
  ·exact hv.elim
 ·exact hv.elim
theorem val_sound {o : Oper} {a : AOp} {K : AV → Prop} (hs : Sim P g h w) (hf : FrameOk P g w act.tmps fr) (hc : chkVal P o.op a = true) (hv : val fr h a K) : OpTells P g w act o K := by
 cases a with
 | ex e ys => exact val_ex hs hf hc hv
 | mv y => exact val_mv hf hc hv
 | pick c x y => exact val_pick hf hc hv
 | build t p => exact val_build hf hc hv
 | load s x => exact val_load hs hf hc hv
 | lds s x =>
  refine val_load (sz := s) (y := x) hs hf hc ?_
  simp only [val] at hv ⊢
  split at hv
  ·split at hv
   ·next heq => rw [heq]; exact hv
   ·exact hv.elim
  ·exact hv
  ·exact hv.elim
 | nilck x => exact val_nilck hf hc hv
 | bin op x y => exact val_bin hf hc hv
 | pnil n x => exact val_pnil hf hc hv
 | bbin n x y => exact val_bbin hf hc hv
 | not x => exact val_not hf hc hv
 | conv k x => exact val_conv hf hc hv
 | cstr x => exact val_cstr hf hc hv
 | b2s x => exact val_b2s hs hf hc hv
 | fld o x => exact val_fld hf hc hv
 | idxa s x i => exact val_idxa hf hc hv
 | idxs x i => exact val_idxs hf hc hv
 | slcs x l u => exact val_slcs hf hc hv
 | slcl s x l u m => exact val_slcl hf hc hv
 | slch s x j => exact val_slch hf hc hv
 | ext i x => exact val_ext hf hc hv
 | lens x => exact val_lens hf hc hv
 | lenl x => exact val_lenl hf hc hv
 | mn x y => exact val_mn hf hc hv
 | mx x y => exact val_mx hf hc hv
 | mkfn f c => exact val_mkfn hf hc hv
 | _ => exact hv.elim

end
def entersB (P : Program) (f : FuncId) : Bool :=
 match P.funcs[f]? with
 | some fn => !(fn.name == "runtime.NumGoroutine") && fn.body.isSome
 | none => false
def ACalls (P : Program) (f : FuncId) (args : List AV) (h : Hp) (R : AV → Hp → Prop) : Prop :=
 entersB P f = true ∧ ∀ g w vargs, Sim P g h w → (∀ b k, g.own b ≠ some (.slot k)) → RepL g vargs args → plains args →
  Calls P f vargs.toArray w fun e w' => ∃ x a h' g', e = .returned x ∧ Ev g w g' w' ∧ Sim P g' h' w' ∧ (∀ b k, g'.own b ≠ some (.slot k)) ∧ Rep g' x a ∧ plain a = true ∧ R a h'
theorem ACalls.mono {P : Program} {f : FuncId} {args : List AV} {h : Hp} {R R' : AV → Hp → Prop} (hc : ACalls P f args h R) (hr : ∀ a h', R a h' → R' a h') : ACalls P f args h R' :=
 ⟨hc.1, fun g w vargs h1 h2 h3 h4 => (hc.2 g w vargs h1 h2 h3 h4).mono fun _ _ ⟨x, a, h', g', q1, q2, q3, q4, q5, q6, q7⟩ => ⟨x, a, h', g', q1, q2, q3, q4, q5, q6, hr _ _ q7⟩⟩

def put (d : Option Nat) (a : AV) (fr : Fr) : Fr :=
 match d with
 | some k => (k, a) :: fr
 | none => fr
def upgK : List (Nat × Nat × Nat) → List AV → (List AV → Prop) → Prop
 | [], l, K => K l
 | (i, e, sz) :: r, l, K => match l[i]? with
  | some (.lst .clip n c) => c.length = n * sz ∧ upgK r (l.set i (.lst (.own e) n c)) K
  | _ => False
def kbox (d : Option Nat) (fr : Fr) (h : Hp) (K : Fr → Hp → Prop) (l : List AV) : Prop := K (put d (.ptr h.length 0) fr) (h ++ [some (false, l)])
def kstu (fr : Fr) (h : Hp) (K : Fr → Hp → Prop) (id : Nat) (l l' : List AV) : Prop := K fr (h.set id (some (false, splice l 0 l')))
def klst (d : Option Nat) (e n : Nat) (fr : Fr) (h : Hp) (K : Fr → Hp → Prop) (l : List AV) : Prop := K (put d (.lst (.own e) n l) fr) h
def kcall (d : Option Nat) (fr : Fr) (K : Fr → Hp → Prop) (a : AV) (h : Hp) : Prop := K (put d a fr) h
def kval (d : Option Nat) (fr : Fr) (h : Hp) (K : Fr → Hp → Prop) (a : AV) : Prop := K (put d a fr) h

def cutV : Value → Nat → Value
 | .slice a _ c, m => .slice a m c
 | v, _ => v
def ksetK : List (Nat × Nat) → List AV → (List AV → Prop) → Prop
 | [], l, K => K l
 | (i, e) :: r, l, K => match l[i]? with
  | some (.lst .clip 0 []) => ksetK r (l.set i (.stk e none [])) K
  | _ => False
def kF (o : KOp) (fr : Fr) (h : Hp) (R : AV → Hp → Prop) : Prop :=
 match o with
 | .mk e x => match ev fr x with
  | some (.lst .clip 0 []) => R (.stk e none []) h
  | _ => False
 | .mv k => match lk fr k with
  | some (.stk e o l) => R (.stk e o l) h
  | _ => False
 | .ld x => match ev fr x with
  | some (.ptr id off) => (match h[id]? with
   | some (some (false, c)) => (match c[off]? with
    | some (.stk e o l) => R (.stk e o l) (h.set id (some (false, c.set off .opq)))
    | _ => False)
   | _ => False)
  | _ => False
 | .st a k => match ev fr a, lk fr k with
  | some (.ptr id off), some (.stk e o l) => (match h[id]? with
   | some (some (false, c)) => off < c.length ∧ R .nilp (h.set id (some (false, c.set off (.stk e o l))))
   | _ => False)
  | _, _ => False
 | .ap e bytes k y => match lk fr k, ev fr y with
  | some (.stk e' _ l), some (.lst _ 1 [.int .i64 x]) => (e' = e ∧ l.length + 1 ≤ 9223372036854775807 ∧ (l.length + 1) * bytes ≤ 140737488355328) ∧ R (.stk e none (l ++ [x])) h
  | _, _ => False
 | .cut k j => match lk fr k, ev fr j with
  | some (.stk e _ l), some (.int _ m) => (0 ≤ m ∧ m ≤ l.length) ∧ R (.stk e none (l.take m.toNat)) h
  | _, _ => False
 | .pop a x => match ev fr a, ev fr x with
  | some (.ptr id off), some (.raw v n) => (match h[id]? with
   | some (some (false, c)) => (match c[off]? with
    | some (.stk e (some u) l) => (n ≤ l.length ∧ v = cutV u n) ∧ R .nilp (h.set id (some (false, c.set off (.stk e (some v) (l.take n)))))
    | _ => False)
   | _ => False)
  | _, _ => False
 | .pk k x => match lk fr k, ev fr x with
  | some (.stk _ (some u) l), some (.rawp v i) => (v = u ∧ i < l.length) ∧ R (.int .i64 (l.getD i 0)) h
  | _, _ => False
 | .po a x => match ev fr a, ev fr x with
  | some (.ptr id off), some (.rawp v i) => (match h[id]? with
   | some (some (false, c)) => (match c[off]? with
    | some (.stk _ (some u) l) => (v = u ∧ i < l.length) ∧ R (.int .i64 (l.getD i 0)) h
    | _ => False)
   | _ => False)
  | _, _ => False
 | .len x => match ev fr x with
  | some (.raw _ n) => R (.int .i64 n) h
  | _ => False
 | .sl x j => match ev fr x, ev fr j with
  | some (.raw v n), some (.int _ m) => (0 ≤ m ∧ m ≤ n) ∧ R (.raw (cutV v m.toNat) m.toNat) h
  | _, _ => False
 | .ix x i => match ev fr x, ev fr i with
  | some (.raw v n), some (.int _ i) => (0 ≤ i ∧ i < n) ∧ R (.rawp v i.toNat) h
  | _, _ => False
 | .new l ups ks => upgK ups l (fun l' => ksetK ks l' (fun l'' => R (.ptr h.length 0) (h ++ [some (false, l'')])))
def ktk (o : KOp) (fr : Fr) : Fr :=
 match o with
 | .mv k | .st _ k | .ap _ _ k _ | .cut k _ => degr k fr
 | _ => fr

def rowA (h : Hp) (sz : Nat) : AV → Option (Nat × List AV)
 | .lst _ m l => some (m, l)
 | .hs id m => match h[id]? with
  | some (some (_, l)) => if m * sz ≤ l.length then some (m, (l.take (m * sz)).map deg) else none
  | _ => none
 | _ => none
def rowB (h : Hp) : AV → Option (Nat × List AV)
 | .lst _ m l => some (m, l)
 | .hsc id m _ => match h[id]? with
  | some (some (_, l)) => if m ≤ l.length then some (m, l.take m) else none
  | _ => none
 | _ => none
def isLst : Option AV → Bool
 | some (.lst _ _ _) => true
 | _ => false
def zrow (zero : List AV) (sz n : Nat) : List AV := (List.range n).map fun j => zero.getD (j % sz) .nilp
theorem zrow_len (zero : List AV) (sz n : Nat) : (zrow zero sz n).length = n := by simp [zrow]
def wop (P : Program) (d : Option Nat) (o : AOp) (fr : Fr) (h : Hp) (K : Fr → Hp → Prop) : Prop :=
 match o with
 | .mvu e sz x => match ev fr x with
  | some (.lst .clip n l) => l.length = n * sz ∧ K (put d (.lst (.own e) n l) fr) h
  | _ => False
 | .mvo k => match lk fr k with
  | some (.lst (.own e) n l) => K (put d (.lst (.own e) n l) (degr k fr)) h
  | _ => False
 | .new l ups => upgK ups l (kbox d fr h K)
 | .box x ups => match ev fr x with
  | some a => isTup a = false ∧ upgK ups (cellsOf a) (kbox d fr h K)
  | none => False
 | .bsl e sz n tmpl parts => buildK fr tmpl parts (klst d e n fr h K)
 | .mmk => ∀ b, K (put d (.omp b [] []) fr) h
 | .mup str k m x y => match lk fr k, ev fr m, ev fr x, ev fr y with
  | some (.omp q ks vs), some (.mp q'), some a, some b => (q' = q ∧ (isKey str a && ks.all (kSame a) && (pv b).isSome) = true) ∧ K ((k, .omp q (mKeys a ks) (mVals a b ks vs)) :: fr) h
  | _, _, _, _ => False
 | .mmv k => match lk fr k with
  | some (.omp b ks vs) => K (put d (.omp b ks vs) (degr k fr)) h
  | _ => False
 | .mra k => match lk fr k with
  | some (.omp b _ _) => K (put d (.mp b) fr) h
  | _ => False
 | .cpy sz x y => match ev fr x, ev fr y with
  | some (.hs id n), some (.lst _ m l') => (match h[id]? with
   | some (some (false, l)) => (l'.length = m * sz ∧ n * sz ≤ l.length) ∧ K (put d (.int .i64 (min m n : Nat)) fr) (h.set id (some (false, splice l 0 (l'.take (min m n * sz)))))
   | _ => False)
  | _, _ => False
 | .mfz k => match lk fr k with
  | some (.omp _ ks vs) => K (put d (.fmp ks vs) (degr k fr)) h
  | _ => False
 | .bslc _ _ n tmpl parts => buildK fr tmpl parts (fun l => K (put d (.lst .clip n l) fr) h)
 | .b2h x => match (ev fr x).bind (rowB h) with
  | some (n, l) => ∃ bs : List UInt8, l = bs.map (fun b => AV.int .u8 b.toNat) ∧ n = bs.length ∧ K (put d (.str ⟨bs.toArray⟩) fr) h
  | _ => False
 | .bsh _ _ n tmpl parts => buildK fr tmpl parts (fun l => K (put d (.hs h.length n) fr) (h ++ [some (false, l)]))
 | .bar _ tmpl parts => buildK fr tmpl parts (fun l => K (put d (.agg l) fr) h)
 | .mk0 e _ bytes c => match ev fr c with
  | some (.int _ n) => (0 ≤ n ∧ bytes * n ≤ 140737488355328 ∧ n ≤ 9223372036854775807) ∧ K (put d (.lst (.own e) 0 []) fr) h
  | _ => False
 | .apz _ sz bytes _ y => match ev fr y with
  | some (.lst _ m l') => (l'.length = m * sz ∧ m ≤ 9223372036854775807 ∧ m * bytes ≤ 140737488355328) ∧ K (put d (if m = 0 then .lst .clip 0 [] else .hs h.length m) fr) (h ++ [if m = 0 then none else some (false, l')])
  | _ => False
 | .mkn _ sz bytes zero n => match ev fr n with
  | some (.int _ n) => (0 ≤ n ∧ bytes * n ≤ 140737488355328 ∧ n ≤ 9223372036854775807) ∧ K (put d (.hs h.length n.toNat) fr) (h ++ [some (false, (List.range (n.toNat * sz)).map fun i => zero.getD (i % sz) .nilp)])
  | _ => False
 | .loado x => match ev fr x with
  | some (.ptr id off) => (match h[id]? with
   | some (some (false, l)) => (match l[off]? with
    | some (.lst (.own e) n c) => K (put d (.lst (.own e) n c) fr) (h.set id (some (false, l.set off (.lst .ro n c))))
    | _ => False)
   | _ => False)
  | _ => False
 | .store n a x => match ev fr a, ev fr x with
  | some (.ptr id off), some v => (match h[id]? with
   | some (some (false, l)) => (isTup v = false ∧ (cellsOf v).length = n ∧ off + n ≤ l.length) ∧ K fr (h.set id (some (false, splice l off (cellsOf v))))
   | _ => False)
  | _, _ => False
 | .stores n a x => match ev fr a, ev fr x with
  | some (.ptr id off), some v => (match h[id]? with
   | some (some (false, l)) => (isTup v = false ∧ (cellsOf v).length = n ∧ off + n ≤ l.length) ∧ K fr (h.set id (some (true, splice l off (cellsOf v))))
   | _ => False)
  | _, _ => False
 | .storeo a k => match ev fr a, lk fr k with
  | some (.ptr id off), some (.lst (.own e) n c) => (match h[id]? with
   | some (some (false, l)) => off < l.length ∧ K (degr k fr) (h.set id (some (false, l.set off (.lst (.own e) n c))))
   | _ => False)
  | _, _ => False
 | .aph e sz bytes x y => match ev fr x, ev fr y with
  | some (.lst .clip n l), some (.hs id m) => (match h[id]? with
   | some (some (_, l')) => (l.length = n * sz ∧ m * sz ≤ l'.length ∧ n + m ≤ 9223372036854775807 ∧ (n + m) * bytes ≤ 140737488355328) ∧ K (put d (.lst (.own e) (n + m) (l ++ (l'.take (m * sz)).map deg)) fr) h
   | _ => False)
  | _, _ => False
 | .apc _ sz bytes zero x y => match ev fr x, (ev fr y).bind (rowA h sz) with
  | some (.lst .clip n l), some (m, l') => (l.length = n * sz ∧ l'.length = m * sz ∧ n + m ≤ 9223372036854775807 ∧ (n + m) * bytes ≤ 140737488355328) ∧ (m = 0 → K (put d (.lst .clip n l) fr) h) ∧ (0 < m → ∀ k : Nat, K (put d (.hsc h.length (n + m) (n + m + k)) fr) (h ++ [some (false, (l ++ l') ++ zrow zero sz (k * sz))]))
  | some (.hsc id n c), some (m, l') => (match h[id]?, isLst (ev fr y) with
   | some (some (false, l)), true => (l.length = c * sz ∧ l'.length = m * sz ∧ 0 < m ∧ n ≤ c ∧ n + m ≤ 9223372036854775807 ∧ (n + m) * bytes ≤ 140737488355328) ∧ (n + m ≤ c → K (put d (.hsc id (n + m) c) fr) (h.set id (some (false, splice l (n * sz) l')))) ∧ (c < n + m → ∀ k : Nat, K (put d (.hsc h.length (n + m) (n + m + k)) fr) (h ++ [some (false, ((l.take (n * sz)).map deg ++ l') ++ zrow zero sz (k * sz))]))
   | _, _ => False)
  | _, _ => False
 | .app e sz bytes x y => match ev fr x, ev fr y with
  | some (.lst .clip n l), some (.lst _ m l') => (l.length = n * sz ∧ l'.length = m * sz ∧ n + m ≤ 9223372036854775807 ∧ (n + m) * bytes ≤ 140737488355328) ∧ K (put d (.lst (.own e) (n + m) (l ++ l')) fr) h
  | _, _ => False
 | .appo e sz bytes k y => match lk fr k, ev fr y with
  | some (.lst (.own e') n l), some (.lst _ m l') => (e' = e ∧ l'.length = m * sz ∧ n + m ≤ 9223372036854775807 ∧ (n + m) * bytes ≤ 140737488355328) ∧ K (put d (.lst (.own e) (n + m) (l ++ l')) (degr k fr)) h
  | _, _ => False
 | .appso e k y => match lk fr k, ev fr y with
  | some (.lst (.own e') n l), some (.str s) => (e' = e ∧ n + s.size ≤ 140737488355328) ∧ K (put d (.lst (.own e) (n + s.size) (l ++ s.data.toList.map fun b => AV.int .u8 b.toNat)) (degr k fr)) h
  | _, _ => False
 | .call f args => match ev fr f, evs fr args with
  | some (.fn f' caps), some l => ACalls P f' (l ++ caps) h (kcall d fr K)
  | some (.fnb f' bnd), some l => ACalls P f' (bnd ++ l) h (kcall d fr K)
  | _, _ => False
 | .calli f args => match ev fr f, evs fr args with
  | some (.fn f' caps), some l => ACalls P f' (l ++ caps) h (kcall d fr K)
  | _, _ => False
 | .storeu n u a x => match ev fr a, ev fr x with
  | some (.ptr id 0), some v => (match h[id]? with
   | some (some (false, l)) => (isTup v = false ∧ (cellsOf v).length = n ∧ n ≤ l.length) ∧ upgK u (cellsOf v) (kstu fr h K id l)
   | _ => False)
  | _, _ => False
 | .snil neg x => match ev fr x with
  | some (.lst _ n _) => K (put d (.bool neg) fr) h ∧ (n = 0 → K (put d (.bool (!neg)) fr) h)
  | some (.hs _ _) => K (put d (.bool neg) fr) h
  | some (.hsc _ _ _) => K (put d (.bool neg) fr) h
  | _ => False
 | .rngs x => match ev fr x with
  | some (.str s) => K (put d (.itr s 0) fr) h
  | _ => False
 | .nxt k => match lk fr k with
  | some (.itr s pos) => if pos < s.size then K (put d (.tup [.bool true, .int .i64 pos, .int .i32 (Utf8.decode s pos).1]) ((k, .itr s (pos + (Utf8.decode s pos).2)) :: fr)) h else K (put d (.tup [.bool false]) fr) h
  | _ => False
 | .k o => kF o fr h (fun a h' => K (put d a (ktk o fr)) h')
 | .callr f args => match ev fr f, evs fr args with
  | some (.fn f' caps), some l => ACalls P f' (l ++ caps) h (kcall d fr K)
  | _, _ => False
 | o => val fr h o (kval d fr h K)

def elemOk (P : Program) (e sz bytes : Nat) : Bool :=
 match P.info? e with
 | some i => i.size == sz && i.bytes == bytes && sz != 0 && (match i.zero with
  | some z => z.cells.size == sz
  | none => false)
 | none => false
def isSliceOf (P : Program) (t e : TypeId) : Bool :=
 match P.underlying t with
 | some (.slice e') => e' == e
 | _ => false
def chkPartsE (sz : Nat) : List (Nat × Operand) → List (Nat × Nat × Opd) → Bool
 | [], [] => true
 | (i, x) :: r, (off, sz', y) :: r' => i * sz == off && sz' == sz && chkOpd x y && chkPartsE sz r r'
 | _, _ => false
def upsOk (P : Program) (ups : List (Nat × Nat × Nat)) : Bool := ups.all fun u => (P.info? u.2.1).map (·.size) == some u.2.2

def intSlice (P : Program) (t : TypeId) : Bool :=
 match P.underlying t with
 | some (.slice e) => (P.info? e).map (·.size) == some 1
 | _ => false
def oneT (P : Program) (t : TypeId) : Bool :=
 match P.underlying t with
 | some d => !isAggT d
 | none => false
def kchk (P : Program) (o : Op) (dst : Option Nat) (a : KOp) : Bool :=
 match a with
 | .mk e y => (match o with
  | .move x => chkOpd x y
  | .assign x => chkOpd x y
  | _ => false) && (P.info? e).map (·.size) == some 1 && dst.isSome
 | .mv k => (match o with
  | .move (.tmp j) => j == k
  | .assign (.tmp j) => j == k
  | _ => false) && dst.isSome
 | .ld y => (match o with
  | .load t x => chkOpd x y && oneT P t
  | _ => false) && dst.isSome
 | .st a k => (match o with
  | .store t x (.tmp j) => chkOpd x a && j == k && (P.info? t).map (·.size) == some 1
  | _ => false) && dst.isNone
 | .ap e bytes k z => (match o with
  | .call c => (match c.callee, c.args.toList, c.argTypes.toList with
   | .builtin .append, [.tmp j, x'], [t, t'] => isSliceOf P t e && isSliceOf P t' e && j == k && chkOpd x' z
   | _, _, _ => false)
  | _ => false) && elemOk P e 1 bytes && dst.isSome
 | .cut k j => (match o with
  | .slice t (.tmp q) none (some m) none => q == k && chkOpd m j && intSlice P t
  | _ => false) && dst.isSome
 | .pop a y => (match o with
  | .store t x v => chkOpd x a && chkOpd v y && (P.info? t).map (·.size) == some 1
  | _ => false) && dst.isNone
 | .pk _ y => match o with
  | .load t x => chkOpd x y && oneT P t
  | _ => false
 | .po _ y => match o with
  | .load t x => chkOpd x y && oneT P t
  | _ => false
 | .len y => match o with
  | .call c => (match c.callee, c.args.toList, c.argTypes.toList with
   | .builtin .len, [x], [t] => chkOpd x y && (match P.underlying t with
    | some (.slice _) => true
    | _ => false)
   | _, _, _ => false)
  | _ => false
 | .sl y j => match o with
  | .slice t x none (some m) none => chkOpd x y && chkOpd m j && intSlice P t
  | _ => false
 | .ix y i => match o with
  | .indexAddr t x j => chkOpd x y && chkOpd j i && intSlice P t
  | _ => false
 | .new l ups ks => (match o with
  | .alloc t => (match P.info? t with
   | some i => (match i.zero with
    | some z => chkVs z.cells.toList l
    | none => false)
   | none => false)
  | _ => false) && upsOk P ups && ks.all fun u => (P.info? u.2).map (·.size) == some 1

def chkEff (P : Program) (o : Op) (dst : Option Nat) (a : AOp) : Bool :=
 match a with
 | .mvu e sz y => (match o with
  | .move x => chkOpd x y
  | .assign x => chkOpd x y
  | _ => false) && (P.info? e).map (·.size) == some sz && dst.isSome
 | .mvo k => (match o with
  | .move (.tmp j) => j == k
  | .assign (.tmp j) => j == k
  | _ => false) && dst.isSome
 | .new l ups => (match o with
  | .alloc t => (match P.info? t with
   | some i => (match i.zero with
    | some z => chkVs z.cells.toList l
    | none => false)
   | none => false)
  | _ => false) && upsOk P ups
 | .box y ups => (match o with
  | .box _ x => chkOpd x y
  | _ => false) && upsOk P ups
 | .bsl e sz n tmpl parts => (match o with
  | .buildSlice t n' ps => isSliceOf P t e && n' == n && decide (n * sz ≤ 16777216 ∧ n ≤ 16777216) && (match P.info? e with
   | some i => i.size == sz && (match i.zero with
    | some z => z.cells.size == sz && chkVs ((List.range (n * sz)).map fun j => z.cells[j % z.cells.size]!) tmpl
    | none => false)
   | none => false) && chkPartsE sz ps.toList parts
  | _ => false) && dst.isSome
 | .b2h y => chkVal P o (.b2s y)
 | .bslc e sz n tmpl parts => (match o with
  | .buildSlice t n' ps => isSliceOf P t e && n' == n && decide (n * sz ≤ 16777216 ∧ n ≤ 16777216) && (match P.info? e with
   | some i => i.size == sz && (match i.zero with
    | some z => z.cells.size == sz && chkVs ((List.range (n * sz)).map fun j => z.cells[j % z.cells.size]!) tmpl
    | none => false)
   | none => false) && chkPartsE sz ps.toList parts
  | _ => false) && dst.isSome
 | .mmk => (match o with
  | .makeMap t none => true
  | _ => false) && dst.isSome
 | .cpy sz y z => (match o with
  | .call c => (match c.callee, c.args.toList, c.argTypes.toList with
   | .builtin .copy, [x, x'], [t, t'] => (match P.underlying t with
    | some (.slice e) => (P.info? e).map (·.size) == some sz
    | _ => false) && chkOpd x y && chkOpd x' z
   | _, _, _ => false)
  | _ => false)
 | .mmv k | .mra k => (match o with
  | .move (.tmp j) => j == k
  | .assign (.tmp j) => j == k
  | _ => false) && dst.isSome
 | .mup str k m x y => (match o with
  | .mapUpdate t mx kx vx => chkOpd mx m && chkOpd kx x && chkOpd vx y && (match P.underlying t with
   | some (.map kt _) => (match P.underlying kt with
    | some d => kdOk str d
    | none => false)
   | _ => false)
  | _ => false) && dst.isNone
 | .mfz k => (match o with
  | .move (.tmp j) => j == k
  | .assign (.tmp j) => j == k
  | _ => false) && dst.isSome
 | .bar sz tmpl parts => (match o with
  | .build t ps => (match P.underlying t with
   | some (.array _ e) => (P.info? e).map (·.size) == some sz
   | _ => false) && (match P.info? t with
   | some i => (match i.zero with
    | some z => chkVs z.cells.toList tmpl
    | none => false)
   | none => false) && chkPartsE sz ps.toList parts
  | _ => false) && dst.isSome
 | .bsh e sz n tmpl parts => (match o with
  | .buildSlice t n' ps => isSliceOf P t e && n' == n && decide (n * sz ≤ 16777216 ∧ n ≤ 16777216) && (match P.info? e with
   | some i => i.size == sz && (match i.zero with
    | some z => z.cells.size == sz && chkVs ((List.range (n * sz)).map fun j => z.cells[j % z.cells.size]!) tmpl
    | none => false)
   | none => false) && chkPartsE sz ps.toList parts
  | _ => false) && dst.isSome
 | .mk0 e sz bytes c => (match o with
  | .makeSlice t l c' => isSliceOf P t e && chkOpd l (.c (.int .i64 0)) && chkOpd c' c
  | _ => false) && elemOk P e sz bytes && dst.isSome
 | .mkn e sz bytes zero n => (match o with
  | .makeSlice t l c => isSliceOf P t e && chkOpd l n && chkOpd c n
  | _ => false) && elemOk P e sz bytes && (match P.info? e with
   | some i => (match i.zero with
    | some z => chkVs z.cells.toList zero
    | none => false)
   | none => false)
 | .loado y => (match o with
  | .load t x => chkOpd x y && (match P.underlying t with
   | some d => !isAggT d
   | none => false)
  | _ => false) && dst.isSome
 | .store n a y => (match o with
  | .store t x v => chkOpd x a && chkOpd v y && (P.info? t).map (·.size) == some n
  | _ => false) && dst.isNone
 | .storeu n u a y => (match o with
  | .store t x v => chkOpd x a && chkOpd v y && (P.info? t).map (·.size) == some n
  | _ => false) && dst.isNone && upsOk P u
 | .stores n a y => (match o with
  | .store t x v => chkOpd x a && chkOpd v y && (P.info? t).map (·.size) == some n
  | _ => false) && dst.isNone
 | .storeo a k => (match o with
  | .store t x (.tmp j) => chkOpd x a && j == k && (P.info? t).map (·.size) == some 1
  | _ => false) && dst.isNone
 | .app e sz bytes y z | .aph e sz bytes y z => (match o with
  | .call c => (match c.callee, c.args.toList, c.argTypes.toList with
   | .builtin .append, [x, x'], [t, t'] => isSliceOf P t e && isSliceOf P t' e && chkOpd x y && chkOpd x' z
   | _, _, _ => false)
  | _ => false) && elemOk P e sz bytes && dst.isSome
 | .apz e sz bytes zero z => (match o with
  | .call c => (match c.callee, c.args.toList, c.argTypes.toList with
   | .builtin .append, [x, x'], [t, t'] => isSliceOf P t e && isSliceOf P t' e && chkOpd x (.c (.lst .clip 0 [])) && chkOpd x' z
   | _, _, _ => false)
  | _ => false) && elemOk P e sz bytes && (match P.info? e with
   | some i => (match i.zero with
    | some z => chkVs z.cells.toList zero
    | none => false)
   | none => false) && dst.isSome
 | .apc e sz bytes zero y z => (match o with
  | .call c => (match c.callee, c.args.toList, c.argTypes.toList with
   | .builtin .append, [x, x'], [t, t'] => isSliceOf P t e && isSliceOf P t' e && chkOpd x y && chkOpd x' z
   | _, _, _ => false)
  | _ => false) && elemOk P e sz bytes && (match P.info? e with
   | some i => (match i.zero with
    | some z => chkVs z.cells.toList zero
    | none => false)
   | none => false) && dst.isSome
 | .appo e sz bytes k z => (match o with
  | .call c => (match c.callee, c.args.toList, c.argTypes.toList with
   | .builtin .append, [.tmp j, x'], [t, t'] => isSliceOf P t e && isSliceOf P t' e && j == k && chkOpd x' z
   | _, _, _ => false)
  | _ => false) && elemOk P e sz bytes && dst.isSome
 | .appso e k z => (match o with
  | .call c => (match c.callee, c.args.toList, c.argTypes.toList with
   | .builtin .append, [.tmp j, x'], [t, u] => isSliceOf P t e && j == k && chkOpd x' z && (match P.underlying u with
    | some .string => true
    | _ => false)
   | _, _, _ => false)
  | _ => false) && elemOk P e 1 1 && (match P.info? e with
   | some i => (match i.zero with
    | some (.int .u8 0) => true
    | _ => false)
   | none => false) && dst.isSome
 | .call f args => match o with
  | .call c => (match c.callee with
   | .value x => chkOpd x f && chkOpds c.args.toList args
   | _ => false)
  | _ => false
 | .calli f args => match o with
  | .call c => (match c.callee with
   | .value x => chkOpd x f && chkOpds c.args.toList args
   | _ => false)
  | _ => false
 | .snil neg y => match o with
  | .binOp op' t x y' _ => decide (op' = if neg then .neq else .eql) && chkOpd x y && chkOpd y' (.c (.lst .clip 0 [])) && (match P.underlying t with
   | some (.slice _) => true
   | _ => false)
  | _ => false
 | .rngs y => dst.isSome && (match o with
  | .range t x => chkOpd x y && (match P.underlying t with
   | some .string => true
   | _ => false)
  | _ => false)
 | .nxt k => (match o with
  | .next (.tmp k') true => k == k'
  | _ => false)
 | .k a => kchk P o dst a
 | .callr f args => match o with
  | .call c => (match c.callee with
   | .value x => chkOpd x f && chkOpds c.args.toList args
   | _ => false)
  | _ => false
 | a => chkVal P o a
def Ok (P : Program) (g0 : Gh) (w0 : World) (N : Nat) (K : Fr → Hp → Prop) (act : Act) (w : World) : Prop :=
 ∃ g fr h, K fr h ∧ Ev g0 w0 g w ∧ Sim P g h w ∧ FrameOk P g w act.tmps fr ∧ act.defers = [] ∧ act.tmps.size = N

section
variable {P : Program} {g : Gh} {h : Hp} {w : World} {fr : Fr} {act : Act} {N : Nat} {K : Fr → Hp → Prop} {Q : Exit → Act → World → Prop} {o : Oper}

theorem FrameOk.put {tmps : Array Value} {k : Nat} {v : Value} {a : AV} (hf : FrameOk P g w tmps fr) (hk : k < tmps.size) (hr : Rep g v a) (ho : Owned P g w (.slot k) v a) : FrameOk P g w (tmps.setIfInBounds k v) ((k, a) :: fr) := by
 intro j b hj
 rw [lk_cons] at hj
 by_cases e : k = j
 ·subst e
  rw [if_pos rfl] at hj
  simp only [Option.some.injEq] at hj
  subst hj
  exact ⟨v, by simp [hk], hr, ho⟩
 ·rw [if_neg e] at hj
  obtain ⟨u, h1, h2, h3⟩ := hf j b hj
  exact ⟨u, by rw [Array.getElem?_setIfInBounds_ne e]; exact h1, h2, h3⟩
theorem put_size (a : Act) (d : Option Tmp) (v : Value) : (a.put d v).tmps.size = a.tmps.size ∧ (a.put d v).defers = a.defers := by
 cases d <;> simp [Act.put]
theorem ok_put {g' : Gh} {w' : World} {h' : Hp} {fr' : Fr} {v : Value} {a : AV} (hN : act.tmps.size = N) (hd : act.defers = []) (hdst : ∀ d, o.dst = some d → d < N) (hev : Ev g w g' w') (hs' : Sim P g' h' w') (hf' : FrameOk P g' w' act.tmps fr') (hr : Rep g' v a) (ho : ∀ k, o.dst = some k → Owned P g' w' (.slot k) v a) (hK : K (put o.dst a fr') h') :
  Ok P g w N K (act.put o.dst v) w' := by
 obtain ⟨p1, p2⟩ := put_size act o.dst v
 refine ⟨g', put o.dst a fr', h', hK, hev, hs', ?_, by rw [p2, hd], by rw [p1, hN]⟩
 cases hod : o.dst with
 | none => simpa [Act.put, Go.Proofs.Ytpiofcjkekpboaa.put] using hf'
 | some k => exact hf'.put (by rw [hN]; exact hdst k hod) hr (ho k hod)
theorem wp_value {next : Act → World → Prop} {v : Value} {w' : World} (hr : (execOp act.eval o).run P w = .ok (.value v) w') (hn : next (act.put o.dst v) w') : o.wp P act w next Q := by
 unfold Oper.wp; rw [hr]; exact hn

theorem sound_val {a : AOp} (hs : Sim P g h w) (hf : FrameOk P g w act.tmps fr) (hd : act.defers = []) (hN : act.tmps.size = N) (hdst : ∀ d, o.dst = some d → d < N) (hc : chkVal P o.op a = true) (hw : val fr h a (kval o.dst fr h K)) : o.wp P act w (Ok P g w N K) Q := by
 obtain ⟨v, b, h1, h2, h3, h4⟩ := val_sound hs hf hc hw
 exact wp_value h1 (ok_put hN hd hdst (.refl g w) hs hf h2 (fun _ _ => Owned.plain h3) h4)

theorem rep_up {v : Value} {e n : Nat} {l : List AV} (hr : Rep g v (.lst .clip n l)) : Rep g v (.lst (.own e) n l) ∧ ∃ a, v = .slice a n n := by
 cases hr with
 | lst b off n c f vs l q1 q2 q3 q4 q5 => rw [q4 rfl]; exact ⟨.lst b off n n _ vs l q1 q2 (Nat.le_refl _) (fun h => by cases h) q5, _, rfl⟩
 | lst0 a c f q => rw [q rfl]; exact ⟨.lst0 a 0 _ (fun h => by cases h), _, rfl⟩

theorem sound_mvu {e sz : Nat} {y : Opd} (hs : Sim P g h w) (hf : FrameOk P g w act.tmps fr) (hd : act.defers = []) (hN : act.tmps.size = N) (hdst : ∀ d, o.dst = some d → d < N) (hc : chkEff P o.op o.dst (.mvu e sz y) = true) (hw : wop P o.dst (.mvu e sz y) fr h K) : o.wp P act w (Ok P g w N K) Q := by
 simp only [chkEff, Bool.and_eq_true, beq_iff_eq] at hc
 obtain ⟨⟨hc1, hc2⟩, _⟩ := hc
 simp only [wop] at hw
 split at hw
 ·next n l he =>
  obtain ⟨hl, hK⟩ := hw
  obtain ⟨x, hx, hco⟩ : ∃ x, (execOp act.eval o).run P w = .ok (.value (act.eval x)) w ∧ chkOpd x y = true := by
   split at hc1
   ·next x hop => exact ⟨x, by simp [execOp, hop], hc1⟩
   ·next x hop => exact ⟨x, by simp [execOp, hop], hc1⟩
   ·cases hc1
  obtain ⟨h1, _⟩ := ev_ok hf hco he
  obtain ⟨h2, h3⟩ := rep_up (e := e) h1
  exact wp_value hx (ok_put hN hd hdst (.refl g w) hs hf h2 (fun _ _ => ⟨sz, hc2, hl, .inr h3⟩) hK)
 ·exact hw.elim

theorem own_give {k : Nat} {x : Loc} {v : Value} {e n : Nat} {l : List AV} (ho : Owned P g w (.slot k) v (.lst (.own e) n l)) :
  ∃ ob, (∀ b, ob = some b → g.own b = some (.slot k) ∧ ¬ g.F b ∧ ∀ id, g.io id ≠ some b) ∧ Owned P (g.give ob x) w x v (.lst (.own e) n l) := by
 obtain ⟨sz, h1, h2, ⟨vs, h3, h4⟩ | h3⟩ := ho
 ·refine ⟨v.ownBlock, fun b hb => ⟨(h4 b hb).1, (h4 b hb).2.2⟩, sz, h1, h2, .inl ⟨vs, h3, fun b hb => ⟨?_, (h4 b hb).2⟩⟩⟩
  simp only [Gh.give]; rw [if_pos hb]
 ·exact ⟨none, fun b hb => (by cases hb), sz, h1, h2, .inr h3⟩

theorem sound_mvo {k : Nat} (hs : Sim P g h w) (hf : FrameOk P g w act.tmps fr) (hd : act.defers = []) (hN : act.tmps.size = N) (hdst : ∀ d, o.dst = some d → d < N) (hc : chkEff P o.op o.dst (.mvo k) = true) (hw : wop P o.dst (.mvo k) fr h K) : o.wp P act w (Ok P g w N K) Q := by
 simp only [chkEff, Bool.and_eq_true] at hc
 obtain ⟨hc1, hc2⟩ := hc
 simp only [wop] at hw
 split at hw
 ·next e n l he =>
  have hx : (execOp act.eval o).run P w = .ok (.value (act.eval (.tmp k))) w := by
   split at hc1
   ·next j hop => obtain rfl := eq_of_beq hc1; simp [execOp, hop]
   ·next j hop => obtain rfl := eq_of_beq hc1; simp [execOp, hop]
   ·cases hc1
  obtain ⟨v, h1, h2, h3⟩ := hf k _ he
  have hv : act.eval (.tmp k) = v := by simp only [Act.eval, Array.getD_eq_getD_getElem?, h1, Option.getD_some]
  rw [hv] at hx
  cases hod : o.dst with
  | none => rw [hod] at hc2; cases hc2
  | some d =>
   obtain ⟨ob, q1, q2⟩ := own_give (x := .slot d) h3
   obtain ⟨r1, r2⟩ := hs.give (x := .slot d) q1
   refine wp_value hx (ok_put hN hd hdst r2 r1 (hf.give (.slot d) q1) (h2.mono (gle_give _ _ _)) (fun k' hk' => ?_) hw)
   rw [hod] at hk'
   simp only [Option.some.injEq] at hk'
   subst hk'
   exact q2
 ·exact hw.elim

theorem RepL.setR {g : Gh} : ∀ {vs : List Value} {l : List AV} (i : Nat) {v : Value} {a : AV}, RepL g vs l → vs[i]? = some v → Rep g v a → RepL g vs (l.set i a)
 | _, _, _, _, _, .nil, _, _ => by simp; exact .nil
 | _, _, 0, _, _, .cons _ hl, e, h => by simp at e; subst e; exact .cons h hl
 | _, _, i + 1, _, _, .cons h0 hl, e, h => .cons h0 (RepL.setR i hl (by simpa using e) h)
theorem upg_ok {id : Nat} {vs : List Value} : ∀ {ups : List (Nat × Nat × Nat)} {l : List AV} {K : List AV → Prop}, upsOk P ups = true → RepL g vs l → (∀ (i : Nat) v a, vs[i]? = some v → l[i]? = some a → Owned P g w (.cell id i) v a) → upgK ups l K →
  ∃ l', RepL g vs l' ∧ (∀ (i : Nat) v a, vs[i]? = some v → l'[i]? = some a → Owned P g w (.cell id i) v a) ∧ K l'
 | [], l, K, _, h1, h2, h3 => ⟨l, h1, h2, h3⟩
 | (i, e, sz) :: r, l, K, hu, h1, h2, h3 => by
  simp only [upsOk, List.all_cons, Bool.and_eq_true, beq_iff_eq] at hu
  simp only [upgK] at h3
  split at h3
  ·next n c hl =>
   obtain ⟨v, hv, hr⟩ := h1.get i _ hl
   obtain ⟨r1, a, r2⟩ := rep_up (e := e) hr
   refine upg_ok (ups := r) hu.2 (h1.setR i hv r1) (fun j u b hu' hb => ?_) h3.2
   rw [List.getElem?_set] at hb
   split at hb
   ·next hij =>
    subst hij
    split at hb
    ·simp only [Option.some.injEq] at hb
     subst hb
     rw [hv] at hu'
     simp only [Option.some.injEq] at hu'
     subst hu'
     exact ⟨sz, hu.1, h3.1, .inr ⟨a, r2⟩⟩
    ·cases hb
   ·exact h2 j u b hu' hb
  ·exact h3.elim
theorem cells_of {v : Value} {a : AV} (hr : Rep g v a) (hp : plain a = true) (hnt : isTup a = false) : ∃ us : List Value, v.cells = us.toArray ∧ RepL g us (cellsOf a) ∧ (∀ v ∈ us, v.oneCell' = true) ∧ plains (cellsOf a) := by
 cases hr with
 | agg vs l q1 q2 q3 => exact ⟨vs, by rfl, q3, q1, q2⟩
 | tup vs l q1 q2 => simp [isTup] at hnt
 | itr b s p => simp [plain] at hp
 | omp b ks vs => simp [plain] at hp
 | mp b => exact ⟨[_], by rfl, .cons (.mp b) .nil, by intro v hv; simp at hv; subst hv; rfl, by intro b hb; simp only [cellsOf, List.mem_singleton] at hb; subst hb; rfl⟩
 | fmp b obj ks vs k3 k4 => exact ⟨[_], by rfl, .cons (.fmp b obj ks vs k3 k4) .nil, by intro v hv; simp at hv; subst hv; rfl, by intro b hb; simp only [cellsOf, List.mem_singleton] at hb; subst hb; rfl⟩
 | stk _ _ _ _ _ _ _ _ => simp [plain] at hp
 | opq v h h' => exact ⟨[_], cells_one h, .cons (.opq _ h h') .nil, by simpa using h, by intro b hb; simp only [cellsOf, List.mem_singleton] at hb; subst hb; rfl⟩
 | frn v Q S W0 h h' k3 k4 => exact ⟨[_], cells_one h, .cons (.frn _ Q S W0 h h' k3 k4) .nil, by simpa using h, by intro b hb; simp only [cellsOf, List.mem_singleton] at hb; subst hb; rfl⟩
 | _ => exact ⟨[_], by rfl, .cons (by first | exact .bool _ | exact .int _ _ | exact .str _ | exact .nilp | (exact .ptr _ _ _ ‹_›) | (exact .fp _ _ _ _ ‹_› ‹_› ‹_›) | (exact .lst _ _ _ _ _ _ _ ‹_› ‹_› ‹_› ‹_› ‹_›) | (exact .lst0 _ _ _ ‹_›) | (exact .hs _ _ _ _ ‹_› ‹_›) | (exact .hsc _ _ _ _ ‹_› ‹_›) | (exact .fn _ _ _ ‹_› ‹_›) | (exact .fnb _ _ _ ‹_› ‹_›) | exact .nilf | (exact .raw _ _ _ ‹_› ‹_›) | exact .rawp _ _ _ _) .nil, by simp [Value.oneCell'], by intro b hb; simp only [cellsOf, List.mem_singleton] at hb; subst hb; exact hp⟩

theorem set_end (h : Hp) (x : Option (Bool × List AV)) : (h ++ List.replicate 1 none).set h.length x = h ++ [x] := by simp
theorem sound_allocH {e : TypeId} {us : List Value} {l : List AV} {ups : List (Nat × Nat × Nat)} {id : Nat} (hs : Sim P g h w) (hid0 : h[id]? = some none) (hf : FrameOk P g w act.tmps fr) (hd : act.defers = []) (hN : act.tmps.size = N) (hdst : ∀ d, o.dst = some d → d < N)
  (hx : (execOp act.eval o).run P w = .ok (.value (.pointer (some ⟨w.heap.size, 0, none⟩))) (w.alloc (.cells us.toArray e))) (hr : RepL g us l) (h1 : ∀ v ∈ us, v.oneCell' = true) (hp : plains l) (hu : upsOk P ups = true) (hw : upgK ups l (fun l' => K (put o.dst (.ptr id 0) fr) (h.set id (some (false, l'))))) : o.wp P act w (Ok P g w N K) Q := by
 obtain ⟨l', q1, q2, q3⟩ := upg_ok (w := w) (id := id) hu hr (fun i v a _ ha => Owned.plain (hp a (List.mem_of_getElem? ha))) hw
 obtain ⟨r1, r2⟩ := hs.allocAt hid0 us.toArray e l' q1 h1 q2
 exact wp_value hx (ok_put hN hd hdst r2 r1 (hf.allocAt hs hid0 _) (.ptr id 0 w.heap.size (by simp [Gh.obj])) (fun _ _ => trivial) q3)
theorem sound_newH {l : List AV} {ups : List (Nat × Nat × Nat)} {id : Nat} (hs : Sim P g h w) (hid0 : h[id]? = some none) (hf : FrameOk P g w act.tmps fr) (hd : act.defers = []) (hN : act.tmps.size = N) (hdst : ∀ d, o.dst = some d → d < N) (hc : chkEff P o.op o.dst (.new l ups) = true) (hw : upgK ups l (fun l' => K (put o.dst (.ptr id 0) fr) (h.set id (some (false, l'))))) : o.wp P act w (Ok P g w N K) Q := by
 simp only [chkEff, Bool.and_eq_true] at hc
 obtain ⟨hc1, hc2⟩ := hc
 split at hc1
 ·next t hop =>
  split at hc1
  ·next i hi =>
   split at hc1
   ·next z hz =>
    obtain ⟨r1, r2, r3⟩ := chkVs_ok g hc1
    refine sound_allocH (e := t) (us := z.cells.toList) hs hid0 hf hd hN hdst ?_ r1 r3 r2 hc2 hw
    simp [execOp, hop, Instr.alloc, zeroValue, typeInfo, hi, hz, newVar, newRow]
   ·cases hc1
  ·cases hc1
 ·cases hc1
theorem sound_boxH {y : Opd} {ups : List (Nat × Nat × Nat)} {id : Nat} (hs : Sim P g h w) (hid0 : h[id]? = some none) (hf : FrameOk P g w act.tmps fr) (hd : act.defers = []) (hN : act.tmps.size = N) (hdst : ∀ d, o.dst = some d → d < N) (hc : chkEff P o.op o.dst (.box y ups) = true) (hw : match ev fr y with
  | some a => isTup a = false ∧ upgK ups (cellsOf a) (fun l' => K (put o.dst (.ptr id 0) fr) (h.set id (some (false, l'))))
  | none => False) : o.wp P act w (Ok P g w N K) Q := by
 simp only [chkEff, Bool.and_eq_true] at hc
 obtain ⟨hc1, hc2⟩ := hc
 split at hc1
 ·next t x hop =>
  split at hw
  ·next a he =>
   obtain ⟨h1, h2⟩ := ev_ok hf hc1 he
   obtain ⟨us, q1, q2, q3, q4⟩ := cells_of h1 h2 hw.1
   refine sound_allocH (e := t) (us := us) hs hid0 hf hd hN hdst ?_ q2 q3 q4 hc2 hw.2
   simp [execOp, hop, Instr.box, newVar, newRow, q1]
  ·exact hw.elim
 ·cases hc1
theorem sound_new {l : List AV} {ups : List (Nat × Nat × Nat)} (hs : Sim P g h w) (hf : FrameOk P g w act.tmps fr) (hd : act.defers = []) (hN : act.tmps.size = N) (hdst : ∀ d, o.dst = some d → d < N) (hc : chkEff P o.op o.dst (.new l ups) = true) (hw : wop P o.dst (.new l ups) fr h K) : o.wp P act w (Ok P g w N K) Q := by
 refine sound_newH (id := h.length) (hs.holes 1) (hole1 h) hf hd hN hdst hc ?_
 simp only [set_end]
 exact hw
theorem sound_box {y : Opd} {ups : List (Nat × Nat × Nat)} (hs : Sim P g h w) (hf : FrameOk P g w act.tmps fr) (hd : act.defers = []) (hN : act.tmps.size = N) (hdst : ∀ d, o.dst = some d → d < N) (hc : chkEff P o.op o.dst (.box y ups) = true) (hw : wop P o.dst (.box y ups) fr h K) : o.wp P act w (Ok P g w N K) Q := by
 refine sound_boxH (id := h.length) (hs.holes 1) (hole1 h) hf hd hN hdst hc ?_
 simp only [set_end]
 exact hw

theorem FrameOk.newRow {tmps : Array Value} {w' : World} {v' : Value} {e : TypeId} {sz m : Nat} {news : List Value} (hf : FrameOk P g w tmps fr) (hs : Sim P g h w) (hown' : w'.ownsRow 0 e sz v' m ([] ++ news)) (hgr : Grew w w' (.slice none 0 0) v')
  (h1x : ∀ u ∈ [] ++ news, u.oneCell' = true) (d : Nat) : FrameOk P (g.row v'.ownBlock ([] ++ news) (.slot d)) w' tmps fr := by
 have hv : ∀ b, (Value.slice none 0 0).ownBlock = some b → g.own b = some (.slot 0) ∧ (∀ o, ([] : List Value).length ≤ o → g.C b o = none) ∧ ¬ g.F b ∧ ∀ id, g.io id ≠ some b := fun b hb => by cases hb
 obtain ⟨f1, f2, f3⟩ := row_facts (sz := sz) (e := e) hs (World.ownsRow_nil w 0 e sz) hown' hgr hv
 have hle := (Sim.row hs (World.ownsRow_nil w 0 e sz) hown' hgr h1x d hv).2.2
 refine hf.keep hle (fun b k o1 o3 o4 => ?_)
 have hne : v'.ownBlock ≠ some b := fun e' => by
  rcases hgr.way with ⟨q1, _⟩ | ⟨q1, _⟩
  ·rw [q1] at e'; cases e'
  ·rw [q1] at e'
   simp only [Option.some.injEq] at e'
   have := hs.olt _ _ o1
   omega
 refine ⟨f3 b (hs.olt _ _ o1) hne (fun e' => by cases e'), ?_, ?_, o3, o4⟩
 ·simp only [Gh.row]; rw [if_neg hne]; exact o1
 ·intro o; simp only [Gh.row]; rw [if_neg (fun hh => hne hh.1)]

theorem rep_row {v' : Value} {e : TypeId} {sz m : Nat} {xs : List Value} {l : List AV} {d : Loc} {w' : World} (hown' : w'.ownsRow 0 e sz v' m xs) (hr : RepL (g.row v'.ownBlock xs d) xs l) (hp : plains l) : Rep (g.row v'.ownBlock xs d) v' (.lst (.own e) m l) := by
 rcases hown'.2 with ⟨rfl, rfl⟩ | ⟨b, c, cur, rfl, _, _, hmc, _, _, ht⟩
 ·have : xs = [] := List.eq_nil_of_length_eq_zero (by simpa using hown'.1)
  subst this
  cases hr
  exact .lst0 _ _ _ (fun h => by cases h)
 ·refine .lst b 0 m c _ xs l (fun i v hi => ?_) hp hmc (fun h => by cases h) hr
  simp only [Gh.row, Value.ownBlock, Nat.zero_add, true_and]
  rw [if_pos (List.getElem?_eq_some_iff.1 hi).1]
  exact hi
theorem owned_row {v' : Value} {e : TypeId} {sz m : Nat} {xs : List Value} {l : List AV} {d : Loc} {w' : World} (hi : (P.info? e).map (·.size) = some sz) (hown' : w'.ownsRow 0 e sz v' m xs) (hl : xs.length = l.length) (hC : ∀ b o, v'.ownBlock = some b → l.length ≤ o → g.C b o = none)
  (hF : ∀ b, v'.ownBlock = some b → ¬ g.F b ∧ ∀ id, g.io id ≠ some b) : Owned P (g.row v'.ownBlock xs d) w' d v' (.lst (.own e) m l) := by
 refine ⟨sz, hi, by rw [← hl]; exact hown'.1, .inl ⟨xs, hown', fun b hb => ⟨?_, fun o ho => ?_, (hF b hb).1, (hF b hb).2⟩⟩⟩
 ·simp only [Gh.row]; rw [if_pos hb]
 ·simp only [Gh.row]; rw [if_neg (fun hh => by omega)]; exact hC b o hb ho

theorem sound_row {e sz m : Nat} {news : List Value} {l : List AV} {v' : Value} {w' : World} (hs : Sim P g h w) (hf : FrameOk P g w act.tmps fr) (hd : act.defers = []) (hN : act.tmps.size = N) (hdst : ∀ d, o.dst = some d → d < N) (hds : o.dst.isSome = true) (hi : (P.info? e).map (·.size) = some sz)
  (hx : (execOp act.eval o).run P w = .ok (.value v') w') (hown' : w'.ownsRow 0 e sz v' m news) (hgr : Grew w w' (.slice none 0 0) v') (hr : RepL g news l) (h1 : ∀ v ∈ news, v.oneCell' = true) (hp : plains l) (hK : K (put o.dst (.lst (.own e) m l) fr) h) : o.wp P act w (Ok P g w N K) Q := by
 obtain ⟨d, hod⟩ := Option.isSome_iff_exists.1 hds
 have hv : ∀ b, (Value.slice none 0 0).ownBlock = some b → g.own b = some (.slot 0) ∧ (∀ o, ([] : List Value).length ≤ o → g.C b o = none) ∧ ¬ g.F b ∧ ∀ id, g.io id ≠ some b := fun b hb => by cases hb
 obtain ⟨f1, f2, f3⟩ := row_facts (xs := []) (news := news) hs (World.ownsRow_nil w 0 e sz) hown' hgr hv
 obtain ⟨r1, r2, r3⟩ := Sim.row (xs := []) (news := news) hs (World.ownsRow_nil w 0 e sz) hown' hgr h1 d hv
 have hfr := hf.newRow hs (news := news) hown' hgr h1 d
 refine wp_value hx (ok_put hN hd hdst r2 r1 hfr (rep_row hown' (hr.mono r3) hp) (fun k hk => ?_) hK)
 rw [hod] at hk
 simp only [Option.some.injEq] at hk
 subst hk
 refine owned_row hi hown' hr.length (fun b o' hb ho => ?_) (fun b hb => ⟨(f2 b hb).1, (f2 b hb).2.1⟩)
 rcases hgr.way with ⟨q1, _⟩ | ⟨q1, _⟩
 ·rw [q1] at hb; cases hb
 ·rw [q1] at hb
  simp only [Option.some.injEq] at hb
  exact hs.cnew (by omega) o'

theorem rep_clip {g : Gh} {a : Option Addr} {m e : Nat} {l : List AV} (h : Rep g (.slice a m m) (.lst (.own e) m l)) : Rep g (.slice a m m) (.lst .clip m l) := by
 cases h with
 | lst b off n c f vs l h1 h2 h3 h4 h5 => exact .lst b off _ _ .clip vs l h1 h2 h3 (fun _ => rfl) h5
 | lst0 a c f h => exact .lst0 _ _ _ (fun _ => rfl)
theorem sound_rowc {e sz m : Nat} {news : List Value} {l : List AV} {a : Option Addr} {w' : World} (hs : Sim P g h w) (hf : FrameOk P g w act.tmps fr) (hd : act.defers = []) (hN : act.tmps.size = N) (hdst : ∀ d, o.dst = some d → d < N) (hds : o.dst.isSome = true) (hi : (P.info? e).map (·.size) = some sz)
  (hx : (execOp act.eval o).run P w = .ok (.value (.slice a m m)) w') (hown' : w'.ownsRow 0 e sz (.slice a m m) m news) (hgr : Grew w w' (.slice none 0 0) (.slice a m m)) (hr : RepL g news l) (h1 : ∀ v ∈ news, v.oneCell' = true) (hp : plains l) (hK : K (put o.dst (.lst .clip m l) fr) h) : o.wp P act w (Ok P g w N K) Q := by
 obtain ⟨d, hod⟩ := Option.isSome_iff_exists.1 hds
 have hv : ∀ b, (Value.slice none 0 0).ownBlock = some b → g.own b = some (.slot 0) ∧ (∀ o, ([] : List Value).length ≤ o → g.C b o = none) ∧ ¬ g.F b ∧ ∀ id, g.io id ≠ some b := fun b hb => by cases hb
 obtain ⟨f1, f2, f3⟩ := row_facts (xs := []) (news := news) hs (World.ownsRow_nil w 0 e sz) hown' hgr hv
 obtain ⟨r1, r2, r3⟩ := Sim.row (xs := []) (news := news) hs (World.ownsRow_nil w 0 e sz) hown' hgr h1 d hv
 have hfr := hf.newRow hs (news := news) hown' hgr h1 d
 exact wp_value hx (ok_put hN hd hdst r2 r1 hfr (rep_clip (rep_row hown' (hr.mono r3) hp)) (fun k hk => trivial) hK)

theorem fillE_ok (act : Act) (hf : FrameOk P g w act.tmps fr) {sz : Nat} :
  ∀ (ps : List (Nat × Operand)) (parts : List (Nat × Nat × Opd)) (cells : List Value) (tmpl : List AV) (K : List AV → Prop), chkPartsE sz ps parts = true → RepL g cells tmpl → plains tmpl → (∀ v ∈ cells, v.oneCell' = true) → buildK fr tmpl parts K →
   ∃ cells' l, Instr.fill (fun i => some (i * sz, sz)) cells.toArray (ps.map fun q => (q.1, act.eval q.2)) = some cells'.toArray ∧ RepL g cells' l ∧ plains l ∧ (∀ v ∈ cells', v.oneCell' = true) ∧ K l ∧ cells'.length = cells.length
 | [], [], cells, tmpl, K, _, h1, h2, h3, h4 => ⟨cells, tmpl, rfl, h1, h2, h3, h4, rfl⟩
 | [], _ :: _, _, _, _, h, _, _, _, _ => by simp [chkPartsE] at h
 | _ :: _, [], _, _, _, h, _, _, _, _ => by simp [chkPartsE] at h
 | (i, x) :: r, (off, sz', y) :: r', cells, tmpl, K, hc, h1, h2, h3, h4 => by
  simp only [chkPartsE, Bool.and_eq_true, beq_iff_eq] at hc
  obtain ⟨⟨⟨rfl, rfl⟩, hco⟩, hc2⟩ := hc
  simp only [buildK] at h4
  split at h4
  ·next a hev =>
   obtain ⟨⟨hnt, hlen, hfit⟩, h4⟩ := h4
   obtain ⟨hra, hpa⟩ := ev_ok hf hco hev
   obtain ⟨us, hus, hru, hone, hplain⟩ := cells_of hra hpa hnt
   have hul : us.length = sz' := by rw [hru.length]; exact hlen
   have hfold : (us.toArray.zipIdx.foldl (fun cs (c, j) => cs.setIfInBounds (i * sz' + j) c) cells.toArray) = (splice cells (i * sz') us).toArray := by
    have key : ∀ (us : List Value) (k : Nat) (cs : List Value), ((us.zipIdx k).foldl (fun (cs : Array Value) (q : Value × Nat) => cs.setIfInBounds (i * sz' + q.2) q.1) cs.toArray) = (splice cs (i * sz' + k) us).toArray := by
     intro us
     induction us with
     | nil => intro k cs; rfl
     | cons u us ih =>
      intro k cs
      rw [List.zipIdx_cons, List.foldl_cons, splice_cons]
      have := ih (k + 1) (cs.set (i * sz' + k) u)
      simpa [Nat.add_assoc] using this
    have := key us 0 cells
    simpa using this
   obtain ⟨cells', l, q1, q2, q3, q4, q5, q6⟩ := fillE_ok act hf r r' (splice cells (i * sz') us) (splice tmpl (i * sz') (cellsOf a)) K hc2 (h1.splice _ hru) (fun b hb => (mem_splice hb).elim (h2 b) (hplain b)) (fun v hv => (mem_splice hv).elim (h3 v) (hone v)) h4
   refine ⟨cells', l, ?_, q2, q3, q4, q5, by rw [q6, splice_length]⟩
   rw [← q1]
   simp only [List.map_cons, Instr.fill, hus]
   have hcond : (us.toArray.size ≠ sz' || i * sz' + us.toArray.size > cells.toArray.size) = false := by
    simp only [List.size_toArray, hul, h1.length]
    simp; omega
   simp only [List.size_toArray] at hcond ⊢
   rw [hcond]
   simp only [Bool.false_eq_true, if_false]
   rw [hfold]
  ·exact h4.elim

theorem isSlice_of {t e : TypeId} (h : isSliceOf P t e = true) : P.underlying t = some (.slice e) := by
 unfold isSliceOf at h
 split at h
 ·next e' he => obtain rfl := eq_of_beq h; exact he
 ·cases h
theorem elem_of {e sz bytes : Nat} (h : elemOk P e sz bytes = true) : ∃ i z, P.info? e = some i ∧ i.zero = some z ∧ i.size = sz ∧ i.bytes = bytes ∧ z.cells.size = sz ∧ 0 < sz := by
 unfold elemOk at h
 split at h
 ·next i hi =>
  simp only [Bool.and_eq_true, beq_iff_eq] at h
  obtain ⟨⟨⟨h1, h2⟩, h3⟩, h4⟩ := h
  split at h4
  ·next z hz =>
   have h3 : sz ≠ 0 := by simpa using h3
   exact ⟨i, z, hi, hz, h1, h2, eq_of_beq h4, by omega⟩
  ·cases h4
 ·cases h

theorem sound_bsl {e sz n : Nat} {tmpl : List AV} {parts : List (Nat × Nat × Opd)} (hs : Sim P g h w) (hf : FrameOk P g w act.tmps fr) (hd : act.defers = []) (hN : act.tmps.size = N) (hdst : ∀ d, o.dst = some d → d < N) (hc : chkEff P o.op o.dst (.bsl e sz n tmpl parts) = true) (hw : wop P o.dst (.bsl e sz n tmpl parts) fr h K) : o.wp P act w (Ok P g w N K) Q := by
 simp only [chkEff, Bool.and_eq_true] at hc
 obtain ⟨hc1, hds⟩ := hc
 split at hc1
 ·next t n' ps hop =>
  simp only [Bool.and_eq_true, beq_iff_eq, decide_eq_true_eq] at hc1
  obtain ⟨⟨⟨⟨ht, rfl⟩, hsm⟩, hinf⟩, hps⟩ := hc1
  have ht := isSlice_of ht
  split at hinf
  ·next i hi =>
   simp only [Bool.and_eq_true, beq_iff_eq] at hinf
   obtain ⟨rfl, hinf⟩ := hinf
   split at hinf
   ·next z hz =>
    simp only [Bool.and_eq_true, beq_iff_eq] at hinf
    obtain ⟨hzs, hvs⟩ := hinf
    obtain ⟨r1, r2, r3⟩ := chkVs_ok g hvs
    obtain ⟨cells', l, f1, f2, f3, f4, f5, f6⟩ := fillE_ok act hf (sz := i.size) ps.toList parts _ tmpl _ hps r1 r2 r3 hw
    have hlen : cells'.length = n' * i.size := by rw [f6]; simp
    have hm : n' ≤ maxLen := by unfold maxLen; omega
    have hz2 : (zeroValue e).run P w = .ok z w := by simp [zeroValue, typeInfo, hi, hz]
    have hcells : (Array.range (n' * i.size)).map (z.cells[· % z.cells.size]!) = ((List.range (n' * i.size)).map fun j => z.cells[j % z.cells.size]!).toArray := by
     apply Array.ext'; simp
    have hx : (execOp act.eval o).run P w = .ok (.value (.slice (some ⟨w.heap.size, 0, none⟩) n' n')) (w.alloc (.cells cells'.toArray e)) := by
     have hmap : (Array.map (fun q => (q.1, act.eval q.2)) ps).toList = ps.toList.map fun q => (q.1, act.eval q.2) := by simp
     have hno : ¬ (n' * i.size > 2 ^ 24) := by simp; omega
     simp only [execOp, hop, Instr.buildSlice, Sem.run_bind, run_underlying ht, Result.andThen_ok, sizeOf, typeInfo, run_program, hi, Sem.run_pure, if_neg hno, hmap]
     by_cases h0 : n' * i.size = 0
     ·have f1' : Instr.fill (fun j => some (j * i.size, i.size)) #[] (ps.toList.map fun q => (q.1, act.eval q.2)) = some cells'.toArray := by simpa [h0] using f1
      have e0 : ∀ f : Nat → Value, (Array.range (n' * i.size)).map f = #[] := by intro f; rw [h0]; simp
      simp only [if_pos h0, e0, f1']
      simp [newRow]
     ·simp only [if_neg h0, Sem.run_bind, hz2, Sem.run_pure, Result.andThen_ok, hcells, f1]
      simp [newRow]
    refine sound_row (v' := .slice (some ⟨w.heap.size, 0, none⟩) n' n') (m := n') hs hf hd hN hdst hds (by simp [hi]) hx ⟨hlen, .inr ⟨w.heap.size, n', cells'.toArray, rfl, Nat.zero_le _, heap_new w _, Nat.le_refl _, hm, by simpa using hlen, by simp [← hlen]⟩⟩ ⟨rfl, rfl, rfl, by simp, .inr ⟨rfl, fun k hk => Below.heap_alloc _ _ _ hk⟩⟩ f2 f4 f3 f5
   ·cases hinf
  ·cases hinf
 ·cases hc1

theorem sound_bslc {e sz n : Nat} {tmpl : List AV} {parts : List (Nat × Nat × Opd)} (hs : Sim P g h w) (hf : FrameOk P g w act.tmps fr) (hd : act.defers = []) (hN : act.tmps.size = N) (hdst : ∀ d, o.dst = some d → d < N) (hc : chkEff P o.op o.dst (.bslc e sz n tmpl parts) = true) (hw : wop P o.dst (.bslc e sz n tmpl parts) fr h K) : o.wp P act w (Ok P g w N K) Q := by
 simp only [chkEff, Bool.and_eq_true] at hc
 obtain ⟨hc1, hds⟩ := hc
 split at hc1
 ·next t n' ps hop =>
  simp only [Bool.and_eq_true, beq_iff_eq, decide_eq_true_eq] at hc1
  obtain ⟨⟨⟨⟨ht, rfl⟩, hsm⟩, hinf⟩, hps⟩ := hc1
  have ht := isSlice_of ht
  split at hinf
  ·next i hi =>
   simp only [Bool.and_eq_true, beq_iff_eq] at hinf
   obtain ⟨rfl, hinf⟩ := hinf
   split at hinf
   ·next z hz =>
    simp only [Bool.and_eq_true, beq_iff_eq] at hinf
    obtain ⟨hzs, hvs⟩ := hinf
    obtain ⟨r1, r2, r3⟩ := chkVs_ok g hvs
    obtain ⟨cells', l, f1, f2, f3, f4, f5, f6⟩ := fillE_ok act hf (sz := i.size) ps.toList parts _ tmpl _ hps r1 r2 r3 hw
    have hlen : cells'.length = n' * i.size := by rw [f6]; simp
    have hm : n' ≤ maxLen := by unfold maxLen; omega
    have hz2 : (zeroValue e).run P w = .ok z w := by simp [zeroValue, typeInfo, hi, hz]
    have hcells : (Array.range (n' * i.size)).map (z.cells[· % z.cells.size]!) = ((List.range (n' * i.size)).map fun j => z.cells[j % z.cells.size]!).toArray := by
     apply Array.ext'; simp
    have hx : (execOp act.eval o).run P w = .ok (.value (.slice (some ⟨w.heap.size, 0, none⟩) n' n')) (w.alloc (.cells cells'.toArray e)) := by
     have hmap : (Array.map (fun q => (q.1, act.eval q.2)) ps).toList = ps.toList.map fun q => (q.1, act.eval q.2) := by simp
     have hno : ¬ (n' * i.size > 2 ^ 24) := by simp; omega
     simp only [execOp, hop, Instr.buildSlice, Sem.run_bind, run_underlying ht, Result.andThen_ok, sizeOf, typeInfo, run_program, hi, Sem.run_pure, if_neg hno, hmap]
     by_cases h0 : n' * i.size = 0
     ·have f1' : Instr.fill (fun j => some (j * i.size, i.size)) #[] (ps.toList.map fun q => (q.1, act.eval q.2)) = some cells'.toArray := by simpa [h0] using f1
      have e0 : ∀ f : Nat → Value, (Array.range (n' * i.size)).map f = #[] := by intro f; rw [h0]; simp
      simp only [if_pos h0, e0, f1']
      simp [newRow]
     ·simp only [if_neg h0, Sem.run_bind, hz2, Sem.run_pure, Result.andThen_ok, hcells, f1]
      simp [newRow]
    refine sound_rowc (a := some ⟨w.heap.size, 0, none⟩) (m := n') hs hf hd hN hdst hds (by simp [hi]) hx ⟨hlen, .inr ⟨w.heap.size, n', cells'.toArray, rfl, Nat.zero_le _, heap_new w _, Nat.le_refl _, hm, by simpa using hlen, by simp [← hlen]⟩⟩ ⟨rfl, rfl, rfl, by simp, .inr ⟨rfl, fun k hk => Below.heap_alloc _ _ _ hk⟩⟩ f2 f4 f3 f5
   ·cases hinf
  ·cases hinf
 ·cases hc1

theorem sound_bar {sz : Nat} {tmpl : List AV} {parts : List (Nat × Nat × Opd)} (hs : Sim P g h w) (hf : FrameOk P g w act.tmps fr) (hd : act.defers = []) (hN : act.tmps.size = N) (hdst : ∀ d, o.dst = some d → d < N) (hc : chkEff P o.op o.dst (.bar sz tmpl parts) = true) (hw : wop P o.dst (.bar sz tmpl parts) fr h K) : o.wp P act w (Ok P g w N K) Q := by
 simp only [chkEff, Bool.and_eq_true] at hc
 obtain ⟨hc1, hds⟩ := hc
 split at hc1
 ·next t ps hop =>
  simp only [Bool.and_eq_true] at hc1
  obtain ⟨⟨hty, hzz⟩, hps⟩ := hc1
  split at hty
  ·next n e ht =>
   obtain ⟨ie, hie, rfl⟩ := info_size (eq_of_beq hty)
   split at hzz
   ·next i hi =>
    split at hzz
    ·next z hz =>
     obtain ⟨r1, r2, r3⟩ := chkVs_ok g hzz
     obtain ⟨cells', l, f1, f2, f3, f4, f5, f6⟩ := fillE_ok act hf (sz := ie.size) ps.toList parts _ tmpl _ hps r1 r2 r3 hw
     have hz2 : (zeroValue t).run P w = .ok z w := by simp [zeroValue, typeInfo, hi, hz]
     have hmap : (Array.map (fun q => (q.1, act.eval q.2)) ps).toList = ps.toList.map fun q => (q.1, act.eval q.2) := by simp
     have hx : (execOp act.eval o).run P w = .ok (.value (.agg cells'.toArray)) w := by
      simp only [Array.toArray_toList] at f1
      simp only [execOp, hop, Instr.build, Sem.run_bind, hz2, run_underlying ht, Result.andThen_ok, sizeOf, typeInfo, run_program, hie, Sem.run_pure, hmap, f1]
     exact wp_value hx (ok_put hN hd hdst (.refl g w) hs hf (.agg cells' l f4 f3 f2) (fun _ _ => trivial) f5)
    ·cases hzz
   ·cases hzz
  ·cases hty
 ·cases hc1
theorem sound_bsh {e sz n : Nat} {tmpl : List AV} {parts : List (Nat × Nat × Opd)} (hs : Sim P g h w) (hf : FrameOk P g w act.tmps fr) (hd : act.defers = []) (hN : act.tmps.size = N) (hdst : ∀ d, o.dst = some d → d < N) (hc : chkEff P o.op o.dst (.bsh e sz n tmpl parts) = true) (hw : wop P o.dst (.bsh e sz n tmpl parts) fr h K) : o.wp P act w (Ok P g w N K) Q := by
 simp only [chkEff, Bool.and_eq_true] at hc
 obtain ⟨hc1, hds⟩ := hc
 split at hc1
 ·next t n' ps hop =>
  simp only [Bool.and_eq_true, beq_iff_eq, decide_eq_true_eq] at hc1
  obtain ⟨⟨⟨⟨ht, rfl⟩, hsm⟩, hinf⟩, hps⟩ := hc1
  have ht := isSlice_of ht
  split at hinf
  ·next i hi =>
   simp only [Bool.and_eq_true, beq_iff_eq] at hinf
   obtain ⟨rfl, hinf⟩ := hinf
   split at hinf
   ·next z hz =>
    simp only [Bool.and_eq_true, beq_iff_eq] at hinf
    obtain ⟨hzs, hvs⟩ := hinf
    obtain ⟨r1, r2, r3⟩ := chkVs_ok g hvs
    obtain ⟨cells', l, f1, f2, f3, f4, f5, f6⟩ := fillE_ok act hf (sz := i.size) ps.toList parts _ tmpl _ hps r1 r2 r3 hw
    have hlen : cells'.length = n' * i.size := by rw [f6]; simp
    have hm : n' ≤ maxLen := by unfold maxLen; omega
    have hz2 : (zeroValue e).run P w = .ok z w := by simp [zeroValue, typeInfo, hi, hz]
    have hcells : (Array.range (n' * i.size)).map (z.cells[· % z.cells.size]!) = ((List.range (n' * i.size)).map fun j => z.cells[j % z.cells.size]!).toArray := by
     apply Array.ext'; simp
    have hx : (execOp act.eval o).run P w = .ok (.value (.slice (some ⟨w.heap.size, 0, none⟩) n' n')) (w.alloc (.cells cells'.toArray e)) := by
     have hmap : (Array.map (fun q => (q.1, act.eval q.2)) ps).toList = ps.toList.map fun q => (q.1, act.eval q.2) := by simp
     have hno : ¬ (n' * i.size > 2 ^ 24) := by simp; omega
     simp only [execOp, hop, Instr.buildSlice, Sem.run_bind, run_underlying ht, Result.andThen_ok, sizeOf, typeInfo, run_program, hi, Sem.run_pure, if_neg hno, hmap]
     by_cases h0 : n' * i.size = 0
     ·have f1' : Instr.fill (fun j => some (j * i.size, i.size)) #[] (ps.toList.map fun q => (q.1, act.eval q.2)) = some cells'.toArray := by simpa [h0] using f1
      have e0 : ∀ f : Nat → Value, (Array.range (n' * i.size)).map f = #[] := by intro f; rw [h0]; simp
      simp only [if_pos h0, e0, f1']
      simp [newRow]
     ·simp only [if_neg h0, Sem.run_bind, hz2, Sem.run_pure, Result.andThen_ok, hcells, f1]
      simp [newRow]
    obtain ⟨s1, s2⟩ := hs.alloc cells'.toArray e l (by simpa using f2) (by simpa using f4) (fun j v a _ ha => Owned.plain (f3 a (List.mem_of_getElem? ha)))
    exact wp_value hx (ok_put hN hd hdst s2 s1 (hf.alloc hs _) (.hs h.length w.heap.size n' n' (by simp [Gh.obj]) (Nat.le_refl _)) (fun _ _ => trivial) f5)
   ·cases hinf
  ·cases hinf
 ·cases hc1

end
end Go.Proofs.Ytpiofcjkekpboaa
/- The plain part of sets: words in order, each once; what comes of words and of sets. No program in sight. -/
namespace Go.Proofs.Ytpiofcjkekpboaa
open Go.RowKit

def ins (x : ByteArray) : List ByteArray → List ByteArray
 | [] => [x]
 | y :: l => if wless x y then x :: y :: l else if wless y x then y :: ins x l else y :: l
def nrm : List ByteArray → List ByteArray
 | [] => []
 | x :: l => ins x (nrm l)
end Go.Proofs.Ytpiofcjkekpboaa
