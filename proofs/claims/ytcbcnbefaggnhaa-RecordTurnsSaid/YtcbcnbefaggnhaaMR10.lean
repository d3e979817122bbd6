/- Texts of one proof, laid together: Ab15 Ab16 Ab17 FnP Pw Sa Ra Po Pi Pj. -/
import Derived.Test.YtcbcnbefaggnhaaMR9
import Derived.Test.YtcbcnbefaggnhaaProg
import Derived.Test.YtcbcnbefaggnhaaMR8
import Derived.Test.YtcbcnbefaggnhaaMR2
import Derived.Test.YtcbcnbefaggnhaaMR7

/- The abstract layer, sixteenth part: one law an operation, for the walk (written by genlem.py). -/
namespace Go.Proofs.Ytcbcnbefaggnhaa
set_option linter.unusedSimpArgs false
set_option linter.unusedVariables false
open Go.RowKit Go.Lib

section
variable (P : Program)
theorem wop_mv (d : Option Nat) (x : Opd) (fr : Fr) (h : Hp) (K : Fr → Hp → Prop) : wop P d (.mv x) fr h K = (match ev fr x with
    | some a => K (put d a fr) h
    | none => False) := id rfl
theorem eff_mv (x : Opd) (fr : Fr) (h : Hp) (R : AV → Hp → Prop) : eff P (.mv x) fr h R = (match ev fr x with
    | some a => R a h
    | none => False) := id rfl
theorem wop_pick (d : Option Nat) (c x y : Opd) (fr : Fr) (h : Hp) (K : Fr → Hp → Prop) : wop P d (.pick c x y) fr h K = (match ev fr c with
    | some (.bool p) => (p = true → match ev fr x with
      | some a => K (put d a fr) h
      | none => False) ∧ (p = false → match ev fr y with
      | some a => K (put d a fr) h
      | none => False)
    | _ => False) := id rfl
theorem eff_pick (c x y : Opd) (fr : Fr) (h : Hp) (R : AV → Hp → Prop) : eff P (.pick c x y) fr h R = (match ev fr c with
    | some (.bool p) => (p = true → match ev fr x with
      | some a => R a h
      | none => False) ∧ (p = false → match ev fr y with
      | some a => R a h
      | none => False)
    | _ => False) := id rfl
theorem wop_build (d : Option Nat) (t : List AV) (ps : List (Nat × Nat × Opd)) (fr : Fr) (h : Hp) (K : Fr → Hp → Prop) : wop P d (.build t ps) fr h K = (buildK fr t ps (fun l => K (put d (.agg l) fr) h)) := id rfl
theorem eff_build (t : List AV) (ps : List (Nat × Nat × Opd)) (fr : Fr) (h : Hp) (R : AV → Hp → Prop) : eff P (.build t ps) fr h R = (buildK fr t ps (fun l => R (.agg l) h)) := id rfl
theorem wop_load (d : Option Nat) (s : Option Nat) (x : Opd) (fr : Fr) (h : Hp) (K : Fr → Hp → Prop) : wop P d (.load s x) fr h K = (match ev fr x with
    | some (.ptr id off) => (match h[id]? with
      | some (some (_, l)) => loadK s (l.drop off) (kval d fr h K)
      | _ => False)
    | some (.fp l) => loadK s l (kval d fr h K)
    | _ => False) := id rfl
theorem eff_load (s : Option Nat) (x : Opd) (fr : Fr) (h : Hp) (R : AV → Hp → Prop) : eff P (.load s x) fr h R = (match ev fr x with
    | some (.ptr id off) => (match h[id]? with
      | some (some (_, l)) => loadK s (l.drop off) (kv h R)
      | _ => False)
    | some (.fp l) => loadK s l (kv h R)
    | _ => False) := id rfl
theorem wop_lds (d : Option Nat) (s : Option Nat) (x : Opd) (fr : Fr) (h : Hp) (K : Fr → Hp → Prop) : wop P d (.lds s x) fr h K = (match ev fr x with
    | some (.ptr id off) => (match h[id]? with
      | some (some (true, l)) => loadK s (l.drop off) (kval d fr h K)
      | _ => False)
    | some (.fp l) => loadK s l (kval d fr h K)
    | _ => False) := id rfl
theorem eff_lds (s : Option Nat) (x : Opd) (fr : Fr) (h : Hp) (R : AV → Hp → Prop) : eff P (.lds s x) fr h R = (match ev fr x with
    | some (.ptr id off) => (match h[id]? with
      | some (some (true, l)) => loadK s (l.drop off) (kv h R)
      | _ => False)
    | some (.fp l) => loadK s l (kv h R)
    | _ => False) := id rfl
theorem wop_nilck (d : Option Nat) (x : Opd) (fr : Fr) (h : Hp) (K : Fr → Hp → Prop) : wop P d (.nilck x) fr h K = (match ev fr x with
    | some (.ptr id off) => K (put d (.ptr id off) fr) h
    | some (.fp l) => K (put d (.fp l) fr) h
    | some (.fn f l) => K (put d (.fn f l) fr) h
    | _ => False) := id rfl
theorem eff_nilck (x : Opd) (fr : Fr) (h : Hp) (R : AV → Hp → Prop) : eff P (.nilck x) fr h R = (match ev fr x with
    | some (.ptr id off) => R (.ptr id off) h
    | some (.fp l) => R (.fp l) h
    | some (.fn f l) => R (.fn f l) h
    | _ => False) := id rfl
theorem wop_bin (d : Option Nat) (op : BinOp) (x y : Opd) (fr : Fr) (h : Hp) (K : Fr → Hp → Prop) : wop P d (.bin op x y) fr h K = (match ev fr x, ev fr y with
    | some a, some b => bin2 op a b (kval d fr h K)
    | _, _ => False) := id rfl
theorem eff_bin (op : BinOp) (x y : Opd) (fr : Fr) (h : Hp) (R : AV → Hp → Prop) : eff P (.bin op x y) fr h R = (match ev fr x, ev fr y with
    | some a, some b => bin2 op a b (kv h R)
    | _, _ => False) := id rfl
theorem wop_pnil (d : Option Nat) (n : Bool) (x : Opd) (fr : Fr) (h : Hp) (K : Fr → Hp → Prop) : wop P d (.pnil n x) fr h K = (match ev fr x with
    | some .nilp => K (put d (.bool (!n)) fr) h
    | some (.ptr _ _) => K (put d (.bool n) fr) h
    | some (.fp _) => K (put d (.bool n) fr) h
    | _ => False) := id rfl
theorem eff_pnil (n : Bool) (x : Opd) (fr : Fr) (h : Hp) (R : AV → Hp → Prop) : eff P (.pnil n x) fr h R = (match ev fr x with
    | some .nilp => R (.bool (!n)) h
    | some (.ptr _ _) => R (.bool n) h
    | some (.fp _) => R (.bool n) h
    | _ => False) := id rfl
theorem wop_bbin (d : Option Nat) (n : Bool) (x y : Opd) (fr : Fr) (h : Hp) (K : Fr → Hp → Prop) : wop P d (.bbin n x y) fr h K = (match ev fr x, ev fr y with
    | some (.bool a), some (.bool b) => K (put d (.bool (if n then decide (a ≠ b) else decide (a = b))) fr) h
    | _, _ => False) := id rfl
theorem eff_bbin (n : Bool) (x y : Opd) (fr : Fr) (h : Hp) (R : AV → Hp → Prop) : eff P (.bbin n x y) fr h R = (match ev fr x, ev fr y with
    | some (.bool a), some (.bool b) => R (.bool (if n then decide (a ≠ b) else decide (a = b))) h
    | _, _ => False) := id rfl
theorem wop_not (d : Option Nat) (x : Opd) (fr : Fr) (h : Hp) (K : Fr → Hp → Prop) : wop P d (.not x) fr h K = (match ev fr x with
    | some (.bool p) => K (put d (.bool (!p)) fr) h
    | _ => False) := id rfl
theorem eff_not (x : Opd) (fr : Fr) (h : Hp) (R : AV → Hp → Prop) : eff P (.not x) fr h R = (match ev fr x with
    | some (.bool p) => R (.bool (!p)) h
    | _ => False) := id rfl
theorem wop_conv (d : Option Nat) (i : IntKind) (x : Opd) (fr : Fr) (h : Hp) (K : Fr → Hp → Prop) : wop P d (.conv i x) fr h K = (match ev fr x with
    | some (.int _ n) => K (put d (.int i (i.wrap n)) fr) h
    | _ => False) := id rfl
theorem eff_conv (i : IntKind) (x : Opd) (fr : Fr) (h : Hp) (R : AV → Hp → Prop) : eff P (.conv i x) fr h R = (match ev fr x with
    | some (.int _ n) => R (.int i (i.wrap n)) h
    | _ => False) := id rfl
theorem wop_cstr (d : Option Nat) (x : Opd) (fr : Fr) (h : Hp) (K : Fr → Hp → Prop) : wop P d (.cstr x) fr h K = (match ev fr x with
    | some (.str s) => K (put d (.str s) fr) h
    | _ => False) := id rfl
theorem eff_cstr (x : Opd) (fr : Fr) (h : Hp) (R : AV → Hp → Prop) : eff P (.cstr x) fr h R = (match ev fr x with
    | some (.str s) => R (.str s) h
    | _ => False) := id rfl
theorem wop_b2s (d : Option Nat) (x : Opd) (fr : Fr) (h : Hp) (K : Fr → Hp → Prop) : wop P d (.b2s x) fr h K = (match ev fr x with
    | some (.lst _ n l) => ∃ bs : List UInt8, l = bs.map (fun b => AV.int .u8 b.toNat) ∧ n = bs.length ∧ K (put d (.str ⟨bs.toArray⟩) fr) h
    | _ => False) := id rfl
theorem eff_b2s (x : Opd) (fr : Fr) (h : Hp) (R : AV → Hp → Prop) : eff P (.b2s x) fr h R = (match ev fr x with
    | some (.lst _ n l) => ∃ bs : List UInt8, l = bs.map (fun b => AV.int .u8 b.toNat) ∧ n = bs.length ∧ R (.str ⟨bs.toArray⟩) h
    | _ => False) := id rfl
theorem wop_fld (d : Option Nat) (o : Nat) (x : Opd) (fr : Fr) (h : Hp) (K : Fr → Hp → Prop) : wop P d (.fld o x) fr h K = (match ev fr x with
    | some (.ptr id q) => K (put d (.ptr id (q + o)) fr) h
    | some (.fp l) => K (put d (.fp (l.drop o)) fr) h
    | _ => False) := id rfl
theorem eff_fld (o : Nat) (x : Opd) (fr : Fr) (h : Hp) (R : AV → Hp → Prop) : eff P (.fld o x) fr h R = (match ev fr x with
    | some (.ptr id q) => R (.ptr id (q + o)) h
    | some (.fp l) => R (.fp (l.drop o)) h
    | _ => False) := id rfl
theorem wop_idxa (d : Option Nat) (s : Nat) (x y : Opd) (fr : Fr) (h : Hp) (K : Fr → Hp → Prop) : wop P d (.idxa s x y) fr h K = (match ev fr x, ev fr y with
    | some (.lst _ n l), some (.int _ i) => (0 ≤ i ∧ i < n) ∧ K (put d (.fp (l.drop (i.toNat * s))) fr) h
    | some (.hs id n), some (.int _ i) => (0 ≤ i ∧ i < n) ∧ K (put d (.ptr id (i.toNat * s)) fr) h
    | _, _ => False) := id rfl
theorem eff_idxa (s : Nat) (x y : Opd) (fr : Fr) (h : Hp) (R : AV → Hp → Prop) : eff P (.idxa s x y) fr h R = (match ev fr x, ev fr y with
    | some (.lst _ n l), some (.int _ i) => (0 ≤ i ∧ i < n) ∧ R (.fp (l.drop (i.toNat * s))) h
    | some (.hs id n), some (.int _ i) => (0 ≤ i ∧ i < n) ∧ R (.ptr id (i.toNat * s)) h
    | _, _ => False) := id rfl
theorem wop_idxs (d : Option Nat) (x y : Opd) (fr : Fr) (h : Hp) (K : Fr → Hp → Prop) : wop P d (.idxs x y) fr h K = (match ev fr x, ev fr y with
    | some (.str s), some (.int _ i) => (0 ≤ i ∧ i < s.size) ∧ K (put d (.int .u8 (byteAt s i.toNat)) fr) h
    | _, _ => False) := id rfl
theorem eff_idxs (x y : Opd) (fr : Fr) (h : Hp) (R : AV → Hp → Prop) : eff P (.idxs x y) fr h R = (match ev fr x, ev fr y with
    | some (.str s), some (.int _ i) => (0 ≤ i ∧ i < s.size) ∧ R (.int .u8 (byteAt s i.toNat)) h
    | _, _ => False) := id rfl
theorem wop_slcs (d : Option Nat) (x : Opd) (lo hi : Option Opd) (fr : Fr) (h : Hp) (K : Fr → Hp → Prop) : wop P d (.slcs x lo hi) fr h K = (match ev fr x with
    | some (.str s) => (match evD fr (.int .i64 0) lo, evD fr (.int .i64 s.size) hi with
      | some (.int _ l), some (.int _ u) => (0 ≤ l ∧ l ≤ u ∧ u ≤ s.size) ∧ K (put d (.str (s.extract l.toNat u.toNat)) fr) h
      | _, _ => False)
    | _ => False) := id rfl
theorem eff_slcs (x : Opd) (lo hi : Option Opd) (fr : Fr) (h : Hp) (R : AV → Hp → Prop) : eff P (.slcs x lo hi) fr h R = (match ev fr x with
    | some (.str s) => (match evD fr (.int .i64 0) lo, evD fr (.int .i64 s.size) hi with
      | some (.int _ l), some (.int _ u) => (0 ≤ l ∧ l ≤ u ∧ u ≤ s.size) ∧ R (.str (s.extract l.toNat u.toNat)) h
      | _, _ => False)
    | _ => False) := id rfl
theorem wop_slcl (d : Option Nat) (s : Nat) (x : Opd) (lo hi mx : Option Opd) (fr : Fr) (h : Hp) (K : Fr → Hp → Prop) : wop P d (.slcl s x lo hi mx) fr h K = (match ev fr x with
    | some (.lst _ n l) => (match evD fr (.int .i64 0) lo, evD fr (.int .i64 n) hi with
      | some (.int _ i), some (.int _ j) => (0 ≤ i ∧ i ≤ j ∧ j ≤ n ∧ l.length = n * s) ∧ (match mx with
        | none => K (put d (.lst .ro (j.toNat - i.toNat) ((l.drop (i.toNat * s)).take ((j.toNat - i.toNat) * s))) fr) h
        | some m => match ev fr m with
          | some (.int _ m) => m = j ∧ K (put d (.lst .clip (j.toNat - i.toNat) ((l.drop (i.toNat * s)).take ((j.toNat - i.toNat) * s))) fr) h
          | _ => False)
      | _, _ => False)
    | _ => False) := id rfl
theorem eff_slcl (s : Nat) (x : Opd) (lo hi mx : Option Opd) (fr : Fr) (h : Hp) (R : AV → Hp → Prop) : eff P (.slcl s x lo hi mx) fr h R = (match ev fr x with
    | some (.lst _ n l) => (match evD fr (.int .i64 0) lo, evD fr (.int .i64 n) hi with
      | some (.int _ i), some (.int _ j) => (0 ≤ i ∧ i ≤ j ∧ j ≤ n ∧ l.length = n * s) ∧ (match mx with
        | none => R (.lst .ro (j.toNat - i.toNat) ((l.drop (i.toNat * s)).take ((j.toNat - i.toNat) * s))) h
        | some m => match ev fr m with
          | some (.int _ m) => m = j ∧ R (.lst .clip (j.toNat - i.toNat) ((l.drop (i.toNat * s)).take ((j.toNat - i.toNat) * s))) h
          | _ => False)
      | _, _ => False)
    | _ => False) := id rfl
theorem wop_ext (d : Option Nat) (i : Nat) (x : Opd) (fr : Fr) (h : Hp) (K : Fr → Hp → Prop) : wop P d (.ext i x) fr h K = (match ev fr x with
    | some (.tup l) => (match l[i]? with
      | some a => K (put d a fr) h
      | none => False)
    | _ => False) := id rfl
theorem eff_ext (i : Nat) (x : Opd) (fr : Fr) (h : Hp) (R : AV → Hp → Prop) : eff P (.ext i x) fr h R = (match ev fr x with
    | some (.tup l) => (match l[i]? with
      | some a => R a h
      | none => False)
    | _ => False) := id rfl
theorem wop_lens (d : Option Nat) (x : Opd) (fr : Fr) (h : Hp) (K : Fr → Hp → Prop) : wop P d (.lens x) fr h K = (match ev fr x with
    | some (.str s) => K (put d (.int .i64 s.size) fr) h
    | _ => False) := id rfl
theorem eff_lens (x : Opd) (fr : Fr) (h : Hp) (R : AV → Hp → Prop) : eff P (.lens x) fr h R = (match ev fr x with
    | some (.str s) => R (.int .i64 s.size) h
    | _ => False) := id rfl
theorem wop_lenl (d : Option Nat) (x : Opd) (fr : Fr) (h : Hp) (K : Fr → Hp → Prop) : wop P d (.lenl x) fr h K = (match ev fr x with
    | some (.lst _ n _) => K (put d (.int .i64 n) fr) h
    | some (.hs _ n) => K (put d (.int .i64 n) fr) h
    | _ => False) := id rfl
theorem eff_lenl (x : Opd) (fr : Fr) (h : Hp) (R : AV → Hp → Prop) : eff P (.lenl x) fr h R = (match ev fr x with
    | some (.lst _ n _) => R (.int .i64 n) h
    | some (.hs _ n) => R (.int .i64 n) h
    | _ => False) := id rfl
theorem wop_mn (d : Option Nat) (x y : Opd) (fr : Fr) (h : Hp) (K : Fr → Hp → Prop) : wop P d (.mn x y) fr h K = (match ev fr x, ev fr y with
    | some (.int i a), some (.int _ b) => K (put d (.int i (if b < a then b else a)) fr) h
    | _, _ => False) := id rfl
theorem eff_mn (x y : Opd) (fr : Fr) (h : Hp) (R : AV → Hp → Prop) : eff P (.mn x y) fr h R = (match ev fr x, ev fr y with
    | some (.int i a), some (.int _ b) => R (.int i (if b < a then b else a)) h
    | _, _ => False) := id rfl
theorem wop_mx (d : Option Nat) (x y : Opd) (fr : Fr) (h : Hp) (K : Fr → Hp → Prop) : wop P d (.mx x y) fr h K = (match ev fr x, ev fr y with
    | some (.int i a), some (.int _ b) => K (put d (.int i (if a < b then b else a)) fr) h
    | _, _ => False) := id rfl
theorem eff_mx (x y : Opd) (fr : Fr) (h : Hp) (R : AV → Hp → Prop) : eff P (.mx x y) fr h R = (match ev fr x, ev fr y with
    | some (.int i a), some (.int _ b) => R (.int i (if a < b then b else a)) h
    | _, _ => False) := id rfl
theorem wop_ex (d : Option Nat) (e : Ex) (xs : List Opd) (fr : Fr) (h : Hp) (K : Fr → Hp → Prop) : wop P d (.ex e xs) fr h K = (match evs fr xs with
    | some l => (match exF e l with
      | some a => K (put d a fr) h
      | none => False)
    | none => False) := id rfl
theorem eff_ex (e : Ex) (xs : List Opd) (fr : Fr) (h : Hp) (R : AV → Hp → Prop) : eff P (.ex e xs) fr h R = (match evs fr xs with
    | some l => (match exF e l with
      | some a => R a h
      | none => False)
    | none => False) := id rfl
theorem wop_mkfn (d : Option Nat) (f : FuncId) (c : List Opd) (fr : Fr) (h : Hp) (K : Fr → Hp → Prop) : wop P d (.mkfn f c) fr h K = (match evs fr c with
    | some l => K (put d (.fn f l) fr) h
    | none => False) := id rfl
theorem eff_mkfn (f : FuncId) (c : List Opd) (fr : Fr) (h : Hp) (R : AV → Hp → Prop) : eff P (.mkfn f c) fr h R = (match evs fr c with
    | some l => R (.fn f l) h
    | none => False) := id rfl
theorem wop_mvu (d : Option Nat) (e s : Nat) (x : Opd) (fr : Fr) (h : Hp) (K : Fr → Hp → Prop) : wop P d (.mvu e s x) fr h K = (match ev fr x with
    | some (.lst .clip n l) => l.length = n * s ∧ K (put d (.lst (.own e) n l) fr) h
    | _ => False) := id rfl
theorem eff_mvu (e s : Nat) (x : Opd) (fr : Fr) (h : Hp) (R : AV → Hp → Prop) : eff P (.mvu e s x) fr h R = (match ev fr x with
    | some (.lst .clip n l) => l.length = n * s ∧ R (.lst (.own e) n l) h
    | _ => False) := id rfl
theorem wop_mvo (d : Option Nat) (q : Nat) (fr : Fr) (h : Hp) (K : Fr → Hp → Prop) : wop P d (.mvo q) fr h K = (match lk fr q with
    | some (.lst (.own e) n l) => K (put d (.lst (.own e) n l) (degr q fr)) h
    | _ => False) := id rfl
theorem eff_mvo (q : Nat) (fr : Fr) (h : Hp) (R : AV → Hp → Prop) : eff P (.mvo q) fr h R = (match lk fr q with
    | some (.lst (.own e) n l) => R (.lst (.own e) n l) h
    | _ => False) := id rfl
theorem wop_new (d : Option Nat) (l : List AV) (u : List (Nat × Nat × Nat)) (fr : Fr) (h : Hp) (K : Fr → Hp → Prop) : wop P d (.new l u) fr h K = (upgK u l (fun l' => K (put d (.ptr h.length 0) fr) (h ++ [some (false, l')]))) := id rfl
theorem eff_new (l : List AV) (u : List (Nat × Nat × Nat)) (fr : Fr) (h : Hp) (R : AV → Hp → Prop) : eff P (.new l u) fr h R = (upgK u l (fun l' => R (.ptr h.length 0) (h ++ [some (false, l')]))) := id rfl
theorem wop_box (d : Option Nat) (x : Opd) (u : List (Nat × Nat × Nat)) (fr : Fr) (h : Hp) (K : Fr → Hp → Prop) : wop P d (.box x u) fr h K = (match ev fr x with
    | some a => isTup a = false ∧ upgK u (cellsOf a) (fun l' => K (put d (.ptr h.length 0) fr) (h ++ [some (false, l')]))
    | none => False) := id rfl
theorem eff_box (x : Opd) (u : List (Nat × Nat × Nat)) (fr : Fr) (h : Hp) (R : AV → Hp → Prop) : eff P (.box x u) fr h R = (match ev fr x with
    | some a => isTup a = false ∧ upgK u (cellsOf a) (fun l' => R (.ptr h.length 0) (h ++ [some (false, l')]))
    | none => False) := id rfl
theorem wop_bsl (d : Option Nat) (e s n : Nat) (t : List AV) (ps : List (Nat × Nat × Opd)) (fr : Fr) (h : Hp) (K : Fr → Hp → Prop) : wop P d (.bsl e s n t ps) fr h K = (buildK fr t ps (fun l => K (put d (.lst (.own e) n l) fr) h)) := id rfl
theorem eff_bsl (e s n : Nat) (t : List AV) (ps : List (Nat × Nat × Opd)) (fr : Fr) (h : Hp) (R : AV → Hp → Prop) : eff P (.bsl e s n t ps) fr h R = (buildK fr t ps (fun l => R (.lst (.own e) n l) h)) := id rfl
theorem wop_mk0 (d : Option Nat) (e s b : Nat) (c : Opd) (fr : Fr) (h : Hp) (K : Fr → Hp → Prop) : wop P d (.mk0 e s b c) fr h K = (match ev fr c with
    | some (.int _ n) => (0 ≤ n ∧ b * n ≤ 140737488355328 ∧ n ≤ 9223372036854775807) ∧ K (put d (.lst (.own e) 0 []) fr) h
    | _ => False) := id rfl
theorem eff_mk0 (e s b : Nat) (c : Opd) (fr : Fr) (h : Hp) (R : AV → Hp → Prop) : eff P (.mk0 e s b c) fr h R = (match ev fr c with
    | some (.int _ n) => (0 ≤ n ∧ b * n ≤ 140737488355328 ∧ n ≤ 9223372036854775807) ∧ R (.lst (.own e) 0 []) h
    | _ => False) := id rfl
theorem wop_mkn (d : Option Nat) (e s b : Nat) (z : List AV) (c : Opd) (fr : Fr) (h : Hp) (K : Fr → Hp → Prop) : wop P d (.mkn e s b z c) fr h K = (match ev fr c with
    | some (.int _ n) => (0 ≤ n ∧ b * n ≤ 140737488355328 ∧ n ≤ 9223372036854775807) ∧ K (put d (.hs h.length n.toNat) fr) (h ++ [some (false, (List.range (n.toNat * s)).map fun i => z.getD (i % s) .nilp)])
    | _ => False) := id rfl
theorem eff_mkn (e s b : Nat) (z : List AV) (c : Opd) (fr : Fr) (h : Hp) (R : AV → Hp → Prop) : eff P (.mkn e s b z c) fr h R = (match ev fr c with
    | some (.int _ n) => (0 ≤ n ∧ b * n ≤ 140737488355328 ∧ n ≤ 9223372036854775807) ∧ R (.hs h.length n.toNat) (h ++ [some (false, (List.range (n.toNat * s)).map fun i => z.getD (i % s) .nilp)])
    | _ => False) := id rfl
theorem wop_loado (d : Option Nat) (x : Opd) (fr : Fr) (h : Hp) (K : Fr → Hp → Prop) : wop P d (.loado x) fr h K = (match ev fr x with
    | some (.ptr id off) => (match h[id]? with
      | some (some (false, l)) => (match l[off]? with
        | some (.lst (.own e) n c) => K (put d (.lst (.own e) n c) fr) (h.set id (some (false, l.set off (.lst .ro n c))))
        | _ => False)
      | _ => False)
    | _ => False) := id rfl
theorem eff_loado (x : Opd) (fr : Fr) (h : Hp) (R : AV → Hp → Prop) : eff P (.loado x) fr h R = (match ev fr x with
    | some (.ptr id off) => (match h[id]? with
      | some (some (false, l)) => (match l[off]? with
        | some (.lst (.own e) n c) => R (.lst (.own e) n c) (h.set id (some (false, l.set off (.lst .ro n c))))
        | _ => False)
      | _ => False)
    | _ => False) := id rfl
theorem wop_app (d : Option Nat) (e s b : Nat) (x y : Opd) (fr : Fr) (h : Hp) (K : Fr → Hp → Prop) : wop P d (.app e s b x y) fr h K = (match ev fr x, ev fr y with
    | some (.lst .clip n l), some (.lst _ m l') => (l.length = n * s ∧ l'.length = m * s ∧ n + m ≤ 9223372036854775807 ∧ (n + m) * b ≤ 140737488355328) ∧ K (put d (.lst (.own e) (n + m) (l ++ l')) fr) h
    | _, _ => False) := id rfl
theorem eff_app (e s b : Nat) (x y : Opd) (fr : Fr) (h : Hp) (R : AV → Hp → Prop) : eff P (.app e s b x y) fr h R = (match ev fr x, ev fr y with
    | some (.lst .clip n l), some (.lst _ m l') => (l.length = n * s ∧ l'.length = m * s ∧ n + m ≤ 9223372036854775807 ∧ (n + m) * b ≤ 140737488355328) ∧ R (.lst (.own e) (n + m) (l ++ l')) h
    | _, _ => False) := id rfl
theorem wop_appo (d : Option Nat) (e s b q : Nat) (y : Opd) (fr : Fr) (h : Hp) (K : Fr → Hp → Prop) : wop P d (.appo e s b q y) fr h K = (match lk fr q, ev fr y with
    | some (.lst (.own e') n l), some (.lst _ m l') => (e' = e ∧ l'.length = m * s ∧ n + m ≤ 9223372036854775807 ∧ (n + m) * b ≤ 140737488355328) ∧ K (put d (.lst (.own e) (n + m) (l ++ l')) (degr q fr)) h
    | _, _ => False) := id rfl
theorem eff_appo (e s b q : Nat) (y : Opd) (fr : Fr) (h : Hp) (R : AV → Hp → Prop) : eff P (.appo e s b q y) fr h R = (match lk fr q, ev fr y with
    | some (.lst (.own e') n l), some (.lst _ m l') => (e' = e ∧ l'.length = m * s ∧ n + m ≤ 9223372036854775807 ∧ (n + m) * b ≤ 140737488355328) ∧ R (.lst (.own e) (n + m) (l ++ l')) h
    | _, _ => False) := id rfl
theorem wop_appso (d : Option Nat) (e q : Nat) (y : Opd) (fr : Fr) (h : Hp) (K : Fr → Hp → Prop) : wop P d (.appso e q y) fr h K = (match lk fr q, ev fr y with
    | some (.lst (.own e') n l), some (.str s) => (e' = e ∧ n + s.size ≤ 140737488355328) ∧ K (put d (.lst (.own e) (n + s.size) (l ++ s.data.toList.map fun b => AV.int .u8 b.toNat)) (degr q fr)) h
    | _, _ => False) := id rfl
theorem eff_appso (e q : Nat) (y : Opd) (fr : Fr) (h : Hp) (R : AV → Hp → Prop) : eff P (.appso e q y) fr h R = (match lk fr q, ev fr y with
    | some (.lst (.own e') n l), some (.str s) => (e' = e ∧ n + s.size ≤ 140737488355328) ∧ R (.lst (.own e) (n + s.size) (l ++ s.data.toList.map fun b => AV.int .u8 b.toNat)) h
    | _, _ => False) := id rfl
theorem wop_store (d : Option Nat) (n : Nat) (a x : Opd) (fr : Fr) (h : Hp) (K : Fr → Hp → Prop) : wop P d (.store n a x) fr h K = (match ev fr a, ev fr x with
    | some (.ptr id off), some v => (match h[id]? with
      | some (some (false, l)) => (isTup v = false ∧ (cellsOf v).length = n ∧ off + n ≤ l.length) ∧ K fr (h.set id (some (false, splice l off (cellsOf v))))
      | _ => False)
    | _, _ => False) := id rfl
theorem wop_storeo (d : Option Nat) (a : Opd) (q : Nat) (fr : Fr) (h : Hp) (K : Fr → Hp → Prop) : wop P d (.storeo a q) fr h K = (match ev fr a, lk fr q with
    | some (.ptr id off), some (.lst (.own e) n c) => (match h[id]? with
      | some (some (false, l)) => off < l.length ∧ K (degr q fr) (h.set id (some (false, l.set off (.lst (.own e) n c))))
      | _ => False)
    | _, _ => False) := id rfl
theorem wop_stores (d : Option Nat) (n : Nat) (a x : Opd) (fr : Fr) (h : Hp) (K : Fr → Hp → Prop) : wop P d (.stores n a x) fr h K = (match ev fr a, ev fr x with
    | some (.ptr id off), some v => (match h[id]? with
      | some (some (false, l)) => (isTup v = false ∧ (cellsOf v).length = n ∧ off + n ≤ l.length) ∧ K fr (h.set id (some (true, splice l off (cellsOf v))))
      | _ => False)
    | _, _ => False) := id rfl
theorem eff_store (n : Nat) (a x : Opd) (fr : Fr) (h : Hp) (R : AV → Hp → Prop) : eff P (.store n a x) fr h R = (match ev fr a, ev fr x with
    | some (.ptr id off), some v => (match h[id]? with
      | some (some (false, l)) => (isTup v = false ∧ (cellsOf v).length = n ∧ off + n ≤ l.length) ∧ R .nilp (h.set id (some (false, splice l off (cellsOf v))))
      | _ => False)
    | _, _ => False) := id rfl
theorem eff_storeo (a : Opd) (q : Nat) (fr : Fr) (h : Hp) (R : AV → Hp → Prop) : eff P (.storeo a q) fr h R = (match ev fr a, lk fr q with
    | some (.ptr id off), some (.lst (.own e) n c) => (match h[id]? with
      | some (some (false, l)) => off < l.length ∧ R .nilp (h.set id (some (false, l.set off (.lst (.own e) n c))))
      | _ => False)
    | _, _ => False) := id rfl
theorem eff_stores (n : Nat) (a x : Opd) (fr : Fr) (h : Hp) (R : AV → Hp → Prop) : eff P (.stores n a x) fr h R = (match ev fr a, ev fr x with
    | some (.ptr id off), some v => (match h[id]? with
      | some (some (false, l)) => (isTup v = false ∧ (cellsOf v).length = n ∧ off + n ≤ l.length) ∧ R .nilp (h.set id (some (true, splice l off (cellsOf v))))
      | _ => False)
    | _, _ => False) := id rfl
theorem wop_call (d : Option Nat) (f : Opd) (l : List Opd) (fr : Fr) (h : Hp) (K : Fr → Hp → Prop) : wop P d (.call f l) fr h K = (match ev fr f, evs fr l with
    | some (.fn f' caps), some l => ACalls P f' (l ++ caps) h (kcall d fr K)
    | _, _ => False) := id rfl
theorem eff_call (f : Opd) (l : List Opd) (fr : Fr) (h : Hp) (R : AV → Hp → Prop) : eff P (.call f l) fr h R = (match ev fr f, evs fr l with
    | some (.fn f' caps), some l => ∃ v, PCalls P f' (l ++ caps) v ∧ R v h
    | _, _ => False) := id rfl
theorem wop_calli (d : Option Nat) (f : Opd) (l : List Opd) (fr : Fr) (h : Hp) (K : Fr → Hp → Prop) : wop P d (.calli f l) fr h K = (match ev fr f, evs fr l with
    | some (.fn f' caps), some l => ACalls P f' (l ++ caps) h (kcall d fr K)
    | _, _ => False) := id rfl
theorem eff_calli (f : Opd) (l : List Opd) (fr : Fr) (h : Hp) (R : AV → Hp → Prop) : eff P (.calli f l) fr h R = (match ev fr f, evs fr l with
    | some (.fn f' caps), some l => ∃ v hv, ACalls P f' (l ++ caps) h (fun a h' => a = v ∧ h' = hv) ∧ SealEq h hv ∧ R v hv
    | _, _ => False) := id rfl
theorem wop_snil (d : Option Nat) (n : Bool) (x : Opd) (fr : Fr) (h : Hp) (K : Fr → Hp → Prop) : wop P d (.snil n x) fr h K = (match ev fr x with
    | some (.lst _ m _) => K (put d (.bool n) fr) h ∧ (m = 0 → K (put d (.bool (!n)) fr) h)
    | some (.hs _ _) => K (put d (.bool n) fr) h
    | _ => False) := id rfl
theorem eff_snil (n : Bool) (x : Opd) (fr : Fr) (h : Hp) (R : AV → Hp → Prop) : eff P (.snil n x) fr h R = (match ev fr x with
    | some (.lst _ m _) => m ≠ 0 ∧ R (.bool n) h
    | some (.hs _ _) => R (.bool n) h
    | _ => False) := id rfl
theorem wop_storeu (d : Option Nat) (n : Nat) (u : List (Nat × Nat × Nat)) (a x : Opd) (fr : Fr) (h : Hp) (K : Fr → Hp → Prop) : wop P d (.storeu n u a x) fr h K = (match ev fr a, ev fr x with
    | some (.ptr id 0), some v => (match h[id]? with
      | some (some (false, l)) => (isTup v = false ∧ (cellsOf v).length = n ∧ n ≤ l.length) ∧ upgK u (cellsOf v) (fun l' => K fr (h.set id (some (false, splice l 0 l'))))
      | _ => False)
    | _, _ => False) := id rfl
theorem wop_rngs (d : Option Nat) (x : Opd) (fr : Fr) (h : Hp) (K : Fr → Hp → Prop) : wop P d (.rngs x) fr h K = (match ev fr x with
    | some (.str s) => K (put d (.itr s 0) fr) h
    | _ => False) := id rfl
theorem wop_nxt (d : Option Nat) (k : Nat) (fr : Fr) (h : Hp) (K : Fr → Hp → Prop) : wop P d (.nxt k) fr h K = (match lk fr k with
    | some (.itr s pos) => if pos < s.size then K (put d (.tup [.bool true, .int .i64 pos, .int .i32 (Utf8.decode s pos).1]) ((k, .itr s (pos + (Utf8.decode s pos).2)) :: fr)) h else K (put d (.tup [.bool false]) fr) h
    | _ => False) := id rfl
theorem tk_mv (x : Opd) (fr : Fr) : tk (.mv x) fr = fr := id rfl
theorem tk_pick (c x y : Opd) (fr : Fr) : tk (.pick c x y) fr = fr := id rfl
theorem tk_build (t : List AV) (ps : List (Nat × Nat × Opd)) (fr : Fr) : tk (.build t ps) fr = fr := id rfl
theorem tk_load (s : Option Nat) (x : Opd) (fr : Fr) : tk (.load s x) fr = fr := id rfl
theorem tk_lds (s : Option Nat) (x : Opd) (fr : Fr) : tk (.lds s x) fr = fr := id rfl
theorem tk_nilck (x : Opd) (fr : Fr) : tk (.nilck x) fr = fr := id rfl
theorem tk_bin (op : BinOp) (x y : Opd) (fr : Fr) : tk (.bin op x y) fr = fr := id rfl
theorem tk_pnil (n : Bool) (x : Opd) (fr : Fr) : tk (.pnil n x) fr = fr := id rfl
theorem tk_bbin (n : Bool) (x y : Opd) (fr : Fr) : tk (.bbin n x y) fr = fr := id rfl
theorem tk_not (x : Opd) (fr : Fr) : tk (.not x) fr = fr := id rfl
theorem tk_conv (i : IntKind) (x : Opd) (fr : Fr) : tk (.conv i x) fr = fr := id rfl
theorem tk_cstr (x : Opd) (fr : Fr) : tk (.cstr x) fr = fr := id rfl
theorem tk_b2s (x : Opd) (fr : Fr) : tk (.b2s x) fr = fr := id rfl
theorem tk_fld (o : Nat) (x : Opd) (fr : Fr) : tk (.fld o x) fr = fr := id rfl
theorem tk_idxa (s : Nat) (x y : Opd) (fr : Fr) : tk (.idxa s x y) fr = fr := id rfl
theorem tk_idxs (x y : Opd) (fr : Fr) : tk (.idxs x y) fr = fr := id rfl
theorem tk_slcs (x : Opd) (lo hi : Option Opd) (fr : Fr) : tk (.slcs x lo hi) fr = fr := id rfl
theorem tk_slcl (s : Nat) (x : Opd) (lo hi mx : Option Opd) (fr : Fr) : tk (.slcl s x lo hi mx) fr = fr := id rfl
theorem tk_ext (i : Nat) (x : Opd) (fr : Fr) : tk (.ext i x) fr = fr := id rfl
theorem tk_lens (x : Opd) (fr : Fr) : tk (.lens x) fr = fr := id rfl
theorem tk_lenl (x : Opd) (fr : Fr) : tk (.lenl x) fr = fr := id rfl
theorem tk_mn (x y : Opd) (fr : Fr) : tk (.mn x y) fr = fr := id rfl
theorem tk_mx (x y : Opd) (fr : Fr) : tk (.mx x y) fr = fr := id rfl
theorem tk_ex (e : Ex) (xs : List Opd) (fr : Fr) : tk (.ex e xs) fr = fr := id rfl
theorem tk_mkfn (f : FuncId) (c : List Opd) (fr : Fr) : tk (.mkfn f c) fr = fr := id rfl
theorem tk_mvu (e s : Nat) (x : Opd) (fr : Fr) : tk (.mvu e s x) fr = fr := id rfl
theorem tk_mvo (q : Nat) (fr : Fr) : tk (.mvo q) fr = degr q fr := id rfl
theorem tk_new (l : List AV) (u : List (Nat × Nat × Nat)) (fr : Fr) : tk (.new l u) fr = fr := id rfl
theorem tk_box (x : Opd) (u : List (Nat × Nat × Nat)) (fr : Fr) : tk (.box x u) fr = fr := id rfl
theorem tk_bsl (e s n : Nat) (t : List AV) (ps : List (Nat × Nat × Opd)) (fr : Fr) : tk (.bsl e s n t ps) fr = fr := id rfl
theorem tk_mk0 (e s b : Nat) (c : Opd) (fr : Fr) : tk (.mk0 e s b c) fr = fr := id rfl
theorem tk_mkn (e s b : Nat) (z : List AV) (c : Opd) (fr : Fr) : tk (.mkn e s b z c) fr = fr := id rfl
theorem tk_loado (x : Opd) (fr : Fr) : tk (.loado x) fr = fr := id rfl
theorem tk_app (e s b : Nat) (x y : Opd) (fr : Fr) : tk (.app e s b x y) fr = fr := id rfl
theorem tk_appo (e s b q : Nat) (y : Opd) (fr : Fr) : tk (.appo e s b q y) fr = degr q fr := id rfl
theorem tk_appso (e q : Nat) (y : Opd) (fr : Fr) : tk (.appso e q y) fr = degr q fr := id rfl
theorem tk_store (n : Nat) (a x : Opd) (fr : Fr) : tk (.store n a x) fr = fr := id rfl
theorem tk_storeo (a : Opd) (q : Nat) (fr : Fr) : tk (.storeo a q) fr = degr q fr := id rfl
theorem tk_call (f : Opd) (l : List Opd) (fr : Fr) : tk (.call f l) fr = fr := id rfl
theorem tk_stores (n : Nat) (a x : Opd) (fr : Fr) : tk (.stores n a x) fr = fr := id rfl
theorem tk_calli (f : Opd) (l : List Opd) (fr : Fr) : tk (.calli f l) fr = fr := id rfl
theorem tk_snil (n : Bool) (x : Opd) (fr : Fr) : tk (.snil n x) fr = fr := id rfl
theorem ex_wadd (k : IntKind) (x y : Int) : exF (.binw .add) [.int k x, .int k y] = some (.int k (k.wrap (x + y))) := by simp [exF]
theorem ex_wsub (k : IntKind) (x y : Int) : exF (.binw .sub) [.int k x, .int k y] = some (.int k (k.wrap (x - y))) := by simp [exF]
theorem ex_wmul (k : IntKind) (x y : Int) : exF (.binw .mul) [.int k x, .int k y] = some (.int k (k.wrap (x * y))) := by simp [exF]
theorem ex_aeq (n : Bool) (ks : List Nat) (l m : List AV) : exF (.aeq n ks) [.agg l, .agg m] = (eqCells ks l m).map (fun r => .bool (if n then !r else r)) := id rfl
theorem ex_r2s (k : IntKind) (n : Int) : exF .r2s [.int k n] = some (.str (Utf8.encode n)) := id rfl
theorem deg_itr (s : ByteArray) (p : Nat) : deg (.itr s p) = .opq := id rfl
theorem int_add (i j : IntKind) (x y : Int) (K : AV → Prop) : bin2 .add (.int i x) (.int j y) K = (i = j ∧ arith i (x + y) K) := id rfl
theorem int_sub (i j : IntKind) (x y : Int) (K : AV → Prop) : bin2 .sub (.int i x) (.int j y) K = (i = j ∧ arith i (x - y) K) := id rfl
theorem int_mul (i j : IntKind) (x y : Int) (K : AV → Prop) : bin2 .mul (.int i x) (.int j y) K = (i = j ∧ arith i (x * y) K) := id rfl
theorem int_quo (i j : IntKind) (x y : Int) (K : AV → Prop) : bin2 .quo (.int i x) (.int j y) K = (i = j ∧ y ≠ 0 ∧ arith i (x.tdiv y) K) := id rfl
theorem int_rem (i j : IntKind) (x y : Int) (K : AV → Prop) : bin2 .rem (.int i x) (.int j y) K = (i = j ∧ y ≠ 0 ∧ K (.int i (x.tmod y))) := id rfl
theorem int_and (i j : IntKind) (x y : Int) (K : AV → Prop) : bin2 .and (.int i x) (.int j y) K = (i = j ∧ K (.int i (bitV .and i x y))) := id rfl
theorem int_or (i j : IntKind) (x y : Int) (K : AV → Prop) : bin2 .or (.int i x) (.int j y) K = (i = j ∧ K (.int i (bitV .or i x y))) := id rfl
theorem int_xor (i j : IntKind) (x y : Int) (K : AV → Prop) : bin2 .xor (.int i x) (.int j y) K = (i = j ∧ K (.int i (bitV .xor i x y))) := id rfl
theorem int_eql (i j : IntKind) (x y : Int) (K : AV → Prop) : bin2 .eql (.int i x) (.int j y) K = (i = j ∧ K (.bool (decide (x = y)))) := id rfl
theorem int_neq (i j : IntKind) (x y : Int) (K : AV → Prop) : bin2 .neq (.int i x) (.int j y) K = (i = j ∧ K (.bool (decide (x ≠ y)))) := id rfl
theorem int_lss (i j : IntKind) (x y : Int) (K : AV → Prop) : bin2 .lss (.int i x) (.int j y) K = (i = j ∧ K (.bool (decide (x < y)))) := id rfl
theorem int_leq (i j : IntKind) (x y : Int) (K : AV → Prop) : bin2 .leq (.int i x) (.int j y) K = (i = j ∧ K (.bool (decide (x ≤ y)))) := id rfl
theorem int_gtr (i j : IntKind) (x y : Int) (K : AV → Prop) : bin2 .gtr (.int i x) (.int j y) K = (i = j ∧ K (.bool (decide (y < x)))) := id rfl
theorem int_geq (i j : IntKind) (x y : Int) (K : AV → Prop) : bin2 .geq (.int i x) (.int j y) K = (i = j ∧ K (.bool (decide (y ≤ x)))) := id rfl
theorem int_shl (i j : IntKind) (x y : Int) (K : AV → Prop) : bin2 .shl (.int i x) (.int j y) K = (0 ≤ y ∧ K (.int i (i.wrap (x * 2 ^ (min y.toNat i.bits))))) := id rfl
theorem int_shr (i j : IntKind) (x y : Int) (K : AV → Prop) : bin2 .shr (.int i x) (.int j y) K = (0 ≤ y ∧ K (.int i (x.fdiv (2 ^ (min y.toNat i.bits))))) := id rfl
theorem str_add (x y : ByteArray) (K : AV → Prop) : bin2 .add (.str x) (.str y) K = (x.size + y.size ≤ 9223372036854775807 ∧ K (.str (x ++ y))) := id rfl
theorem str_eql (x y : ByteArray) (K : AV → Prop) : bin2 .eql (.str x) (.str y) K = (K (.bool (decide (x = y)))) := id rfl
theorem str_neq (x y : ByteArray) (K : AV → Prop) : bin2 .neq (.str x) (.str y) K = (K (.bool (decide (x ≠ y)))) := id rfl
theorem str_lss (x y : ByteArray) (K : AV → Prop) : bin2 .lss (.str x) (.str y) K = (K (.bool (Op.bytesLess x.toList y.toList))) := id rfl
theorem arith_i8 (z : Int) (K : AV → Prop) : arith .i8 z K = K (.int .i8 (IntKind.i8.wrap z)) := id rfl
theorem arith_i16 (z : Int) (K : AV → Prop) : arith .i16 z K = K (.int .i16 (IntKind.i16.wrap z)) := id rfl
theorem arith_i32 (z : Int) (K : AV → Prop) : arith .i32 z K = K (.int .i32 (IntKind.i32.wrap z)) := id rfl
theorem arith_u8 (z : Int) (K : AV → Prop) : arith .u8 z K = K (.int .u8 (IntKind.u8.wrap z)) := id rfl
theorem arith_u16 (z : Int) (K : AV → Prop) : arith .u16 z K = K (.int .u16 (IntKind.u16.wrap z)) := id rfl
theorem arith_u32 (z : Int) (K : AV → Prop) : arith .u32 z K = K (.int .u32 (IntKind.u32.wrap z)) := id rfl
theorem arith_u64 (z : Int) (K : AV → Prop) : arith .u64 z K = K (.int .u64 (IntKind.u64.wrap z)) := id rfl
theorem arith_i64 (z : Int) (K : AV → Prop) : arith .i64 z K = (inR z ∧ K (.int .i64 z)) := id rfl
theorem loadK_none (a : AV) (l : List AV) (K : AV → Prop) : loadK none (a :: l) K = K (deg a) := id rfl
theorem loadK_some (n : Nat) (l : List AV) (K : AV → Prop) : loadK (some n) l K = (n ≤ l.length ∧ K (.agg ((l.take n).map deg))) := id rfl
theorem deg_bool (b : Bool) : deg (.bool b) = (.bool b) := id rfl
theorem isTup_bool (b : Bool) : isTup (.bool b) = false := id rfl
theorem cellsOf_bool (b : Bool) : cellsOf (.bool b) = [.bool b] := id rfl
theorem deg_int (i : IntKind) (n : Int) : deg (.int i n) = (.int i n) := id rfl
theorem isTup_int (i : IntKind) (n : Int) : isTup (.int i n) = false := id rfl
theorem cellsOf_int (i : IntKind) (n : Int) : cellsOf (.int i n) = [.int i n] := id rfl
theorem deg_str (s : ByteArray) : deg (.str s) = (.str s) := id rfl
theorem isTup_str (s : ByteArray) : isTup (.str s) = false := id rfl
theorem cellsOf_str (s : ByteArray) : cellsOf (.str s) = [.str s] := id rfl
theorem deg_nilp  : deg .nilp = .nilp := id rfl
theorem isTup_nilp  : isTup .nilp = false := id rfl
theorem cellsOf_nilp  : cellsOf .nilp = [.nilp] := id rfl
theorem deg_ptr (i o : Nat) : deg (.ptr i o) = (.ptr i o) := id rfl
theorem isTup_ptr (i o : Nat) : isTup (.ptr i o) = false := id rfl
theorem cellsOf_ptr (i o : Nat) : cellsOf (.ptr i o) = [.ptr i o] := id rfl
theorem deg_fp (l : List AV) : deg (.fp l) = (.fp l) := id rfl
theorem isTup_fp (l : List AV) : isTup (.fp l) = false := id rfl
theorem cellsOf_fp (l : List AV) : cellsOf (.fp l) = [.fp l] := id rfl
theorem deg_hs (i n : Nat) : deg (.hs i n) = (.hs i n) := id rfl
theorem isTup_hs (i n : Nat) : isTup (.hs i n) = false := id rfl
theorem cellsOf_hs (i n : Nat) : cellsOf (.hs i n) = [.hs i n] := id rfl
theorem deg_agg (l : List AV) : deg (.agg l) = (.agg l) := id rfl
theorem isTup_agg (l : List AV) : isTup (.agg l) = false := id rfl
theorem cellsOf_agg (l : List AV) : cellsOf (.agg l) = l := id rfl
theorem deg_tup (l : List AV) : deg (.tup l) = (.tup l) := id rfl
theorem isTup_tup (l : List AV) : isTup (.tup l) = true := id rfl
theorem cellsOf_tup (l : List AV) : cellsOf (.tup l) = [.tup l] := id rfl
theorem deg_fn (f : FuncId) (l : List AV) : deg (.fn f l) = (.fn f l) := id rfl
theorem isTup_fn (f : FuncId) (l : List AV) : isTup (.fn f l) = false := id rfl
theorem cellsOf_fn (f : FuncId) (l : List AV) : cellsOf (.fn f l) = [.fn f l] := id rfl
theorem deg_nilf  : deg .nilf = .nilf := id rfl
theorem isTup_nilf  : isTup .nilf = false := id rfl
theorem cellsOf_nilf  : cellsOf .nilf = [.nilf] := id rfl
theorem deg_opq  : deg .opq = .opq := id rfl
theorem isTup_opq  : isTup .opq = false := id rfl
theorem cellsOf_opq  : cellsOf .opq = [.opq] := id rfl
theorem deg_ro (n : Nat) (l : List AV) : deg (.lst .ro n l) = .lst .ro n l := id rfl
theorem deg_clip (n : Nat) (l : List AV) : deg (.lst .clip n l) = .lst .clip n l := id rfl
theorem deg_own (e : TypeId) (n : Nat) (l : List AV) : deg (.lst (.own e) n l) = .lst .ro n l := id rfl
theorem isTup_lst (f : Fl) (n : Nat) (l : List AV) : isTup (.lst f n l) = false := id rfl
theorem cellsOf_lst (f : Fl) (n : Nat) (l : List AV) : cellsOf (.lst f n l) = [.lst f n l] := id rfl
end
end Go.Proofs.Ytcbcnbefaggnhaa

/- The abstract layer: branches that are not taken are not walked. -/
namespace Go.Proofs.Ytcbcnbefaggnhaa
set_option linter.unusedSimpArgs false
set_option linter.unusedVariables false
open Go.RowKit Go.Lib

theorem sel (p : Bool) (A B : Prop) : ((p = true → A) ∧ (p = false → B)) = (if p = true then A else B) := by cases p <;> simp
theorem selg (p want : Bool) (A B : Prop) : ((p = want → A) ∧ (p = !want → B)) = (if p = want then A else B) := by cases p <;> cases want <;> simp
theorem ite_and (c : Prop) [Decidable c] (A B : Prop) : (if c then A else B) = ((c → A) ∧ (¬ c → B)) := by
  by_cases h : c <;> simp [h]
theorem end_get (h : Hp) (x : Option (Bool × List AV)) : (h ++ [x])[h.length]? = some x := by simp
theorem end_set (h : Hp) (x y : Option (Bool × List AV)) : (h ++ [x]).set h.length y = h ++ [y] := by simp
section
variable (P : Program)
theorem W_cond2 (c : Opd) (a b : ACode) (fr : Fr) (h : Hp) (Q : Exit → Fr → Hp → Prop) : W P (.cond c a b) fr h Q = match ev fr c with
    | some (.bool p) => (if p = true then W P a fr h Q else W P b fr h Q)
    | _ => False := by
  rw [W_cond]
  simp only [sel] <;> rfl
theorem WOps_gd2 (d : Option Nat) (q : Nat) (want : Bool) (o : AOp) (f : Option (FB × List Nat)) (r : List AStm) (fr : Fr) (h : Hp) (K : Fr → Hp → Prop) : WOps P (⟨d, some (q, want), o, f⟩ :: r) fr h K = match lk fr q with
      | some (.bool p) => (if p = want then wop P d o ((q, .bool want) :: fr) h (kops P r K) else WOps P r (put d (.tup []) ((q, .bool (!want)) :: fr)) h K)
      | some (.tup []) => WOps P r (put d (.tup []) fr) h K
      | _ => False := by
  rw [WOps_gd']
  simp only [selg] <;> rfl
theorem VOps_gd2 (d : Option Nat) (q : Nat) (want : Bool) (o : AOp) (r : List AStm) (fr : Fr) (h : Hp) (K : Fr → Hp → Prop) : VOps P (⟨d, some (q, want), o, none⟩ :: r) fr h K = match lk fr q with
      | some (.bool p) => (if p = want then eff P o ((q, .bool want) :: fr) h (kput d o ((q, .bool want) :: fr) (kvops P r K)) else VOps P r (put d (.tup []) ((q, .bool (!want)) :: fr)) h K)
      | some (.tup []) => VOps P r (put d (.tup []) fr) h K
      | _ => False := by
  rw [VOps_gd']
  simp only [selg] <;> rfl
theorem VOps_gdft2 (d : Option Nat) (q : Nat) (want : Bool) (o : AOp) (b : FB) (ps : List Nat) (r : List AStm) (fr : Fr) (h : Hp) (K : Fr → Hp → Prop) : VOps P (⟨d, some (q, want), o, some (b, ps)⟩ :: r) fr h K = match lk fr q with
      | some (.bool p) => (if p = want then (apart ((q, .bool want) :: fr) (fbId b ((q, .bool want) :: fr) h) ps ∧ effF P b o ((q, .bool want) :: fr) h (kput d o ((q, .bool want) :: fr) (kvops P r K))) else VOps P r (put d (.tup []) ((q, .bool (!want)) :: fr)) h K)
      | some (.tup []) => VOps P r (put d (.tup []) fr) h K
      | _ => False := by
  rw [VOps_gdft']
  simp only [selg] <;> rfl
theorem wop_pick2 (d : Option Nat) (c x y : Opd) (fr : Fr) (h : Hp) (K : Fr → Hp → Prop) : wop P d (.pick c x y) fr h K = (match ev fr c with
    | some (.bool p) => (if p = true then (match ev fr x with
      | some a => K (put d a fr) h
      | none => False) else (match ev fr y with
      | some a => K (put d a fr) h
      | none => False))
    | _ => False) := by
  rw [wop_pick]
  simp only [sel] <;> rfl
theorem eff_pick2 (c x y : Opd) (fr : Fr) (h : Hp) (R : AV → Hp → Prop) : eff P (.pick c x y) fr h R = (match ev fr c with
    | some (.bool p) => (if p = true then (match ev fr x with
      | some a => R a h
      | none => False) else (match ev fr y with
      | some a => R a h
      | none => False))
    | _ => False) := by
  rw [eff_pick]
  simp only [sel] <;> rfl
end
end Go.Proofs.Ytcbcnbefaggnhaa

/- The abstract layer: the walk's laws as one. (Written by bundle.py.) -/
namespace Go.Proofs.Ytcbcnbefaggnhaa
set_option linter.unusedSimpArgs false
set_option linter.unusedVariables false
open Go.RowKit Go.Lib

theorem wk : type_of% (And.intro (And.intro (And.intro (And.intro (And.intro (And.intro (And.intro (And.intro (@W_skip) (@W_ops)) (And.intro (@W_draw) (And.intro (@W_seq) (@W_cond2)))) (And.intro (And.intro (@W_block) (@W_exit)) (And.intro (@W_ret) (And.intro (@W_keep) (@kseq_normal))))) (And.intro (And.intro (And.intro (@kseq_exit) (@kseq_ret)) (And.intro (@kblock_normal) (And.intro (@kblock_exit) (@kblock_ret)))) (And.intro (And.intro (@kloop_normal) (And.intro (@kloop_exit) (@kloop_ret))) (And.intro (@kret_normal) (And.intro (@kret_ret) (@kdraw_eq)))))) (And.intro (And.intro (And.intro (And.intro (@kval_eq) (@kv_eq)) (And.intro (@kput_eq) (And.intro (@kbox_eq) (@kobj_eq)))) (And.intro (And.intro (@klst_eq) (And.intro (@krow_eq) (@kcall_eq))) (And.intro (@put_some) (And.intro (@put_none) (@lk_cons'))))) (And.intro (And.intro (And.intro (@lk_nil) (@restr_nil)) (And.intro (@restr_cons) (And.intro (@ev_t) (@ev_c)))) (And.intro (And.intro (@ev_f) (And.intro (@evs_nil) (@evs_cons))) (And.intro (@evD_none) (And.intro (@evD_some) (@degr_nil))))))) (And.intro (And.intro (And.intro (And.intro (And.intro (@degr_cons) (@args0_nil)) (And.intro (@args0_cons) (And.intro (@buildK_nil) (@buildK_cons)))) (And.intro (And.intro (@upgK_nil) (@upgK_cons)) (And.intro (@resL_nil) (And.intro (@resL_t) (@resL_c))))) (And.intro (And.intro (And.intro (@res1_one) (@res1_nil)) (And.intro (@res1_two) (And.intro (@WOps_nil') (@WOps_cons')))) (And.intro (And.intro (@WOps_gd2) (And.intro (@kops_eq') (@VOps_nil'))) (And.intro (@VOps_cons') (And.intro (@VOps_gd2) (@VOps_ft')))))) (And.intro (And.intro (And.intro (And.intro (@VOps_gdft2) (@apart_nil)) (And.intro (@apart_cons) (And.intro (@ptrId_ptr) (@ptrId_hs)))) (And.intro (And.intro (@sameId_eq) (And.intro (@fbId_s) (@fbId_h))) (And.intro (@effF_load) (And.intro (@effF_loado) (@effF_store))))) (And.intro (And.intro (And.intro (@effF_stores) (@effF_storeo)) (And.intro (@effF_calli) (And.intro (@effF_new) (@effF_box)))) (And.intro (And.intro (@effF_mkn) (And.intro (@W_holes) (@rep2))) (And.intro (@rep3) (And.intro (@kvops_eq') (@splice_cons')))))))) (And.intro (And.intro (And.intro (And.intro (And.intro (And.intro (@splice_nil') (@wop_mv)) (And.intro (@eff_mv) (And.intro (@wop_pick2) (@eff_pick2)))) (And.intro (And.intro (@wop_build) (@eff_build)) (And.intro (@wop_load) (And.intro (@eff_load) (@wop_lds))))) (And.intro (And.intro (And.intro (@eff_lds) (@wop_nilck)) (And.intro (@eff_nilck) (And.intro (@wop_bin) (@eff_bin)))) (And.intro (And.intro (@wop_pnil) (And.intro (@eff_pnil) (@wop_bbin))) (And.intro (@eff_bbin) (And.intro (@wop_not) (@eff_not)))))) (And.intro (And.intro (And.intro (And.intro (@wop_conv) (@eff_conv)) (And.intro (@wop_cstr) (And.intro (@eff_cstr) (@wop_b2s)))) (And.intro (And.intro (@eff_b2s) (And.intro (@wop_fld) (@eff_fld))) (And.intro (@wop_idxa) (And.intro (@eff_idxa) (@wop_idxs))))) (And.intro (And.intro (And.intro (@eff_idxs) (@wop_slcs)) (And.intro (@eff_slcs) (And.intro (@wop_slcl) (@eff_slcl)))) (And.intro (And.intro (@wop_ext) (And.intro (@eff_ext) (@wop_lens))) (And.intro (@eff_lens) (And.intro (@wop_lenl) (@eff_lenl))))))) (And.intro (And.intro (And.intro (And.intro (And.intro (@wop_mn) (@eff_mn)) (And.intro (@wop_mx) (And.intro (@eff_mx) (@wop_ex)))) (And.intro (And.intro (@eff_ex) (@wop_mkfn)) (And.intro (@eff_mkfn) (And.intro (@wop_mvu) (@eff_mvu))))) (And.intro (And.intro (And.intro (@wop_mvo) (@eff_mvo)) (And.intro (@wop_new) (And.intro (@eff_new) (@wop_box)))) (And.intro (And.intro (@eff_box) (And.intro (@wop_bsl) (@eff_bsl))) (And.intro (@wop_mk0) (And.intro (@eff_mk0) (@wop_mkn)))))) (And.intro (And.intro (And.intro (And.intro (@eff_mkn) (@wop_loado)) (And.intro (@eff_loado) (And.intro (@wop_app) (@eff_app)))) (And.intro (And.intro (@wop_appo) (And.intro (@eff_appo) (@wop_appso))) (And.intro (@eff_appso) (And.intro (@wop_store) (@wop_storeo))))) (And.intro (And.intro (And.intro (@wop_stores) (@eff_store)) (And.intro (@eff_storeo) (And.intro (@eff_stores) (@wop_rngs)))) (And.intro (And.intro (@wop_nxt) (And.intro (@wop_call) (@eff_call))) (And.intro (@wop_calli) (And.intro (@eff_calli) (@wop_snil))))))))) (And.intro (And.intro (And.intro (And.intro (And.intro (And.intro (And.intro (@eff_snil) (@wop_storeu)) (And.intro (@tk_mv) (And.intro (@tk_pick) (@tk_build)))) (And.intro (And.intro (@tk_load) (@tk_lds)) (And.intro (@tk_nilck) (And.intro (@tk_bin) (@tk_pnil))))) (And.intro (And.intro (And.intro (@tk_bbin) (@tk_not)) (And.intro (@tk_conv) (And.intro (@tk_cstr) (@tk_b2s)))) (And.intro (And.intro (@tk_fld) (And.intro (@tk_idxa) (@tk_idxs))) (And.intro (@tk_slcs) (And.intro (@tk_slcl) (@tk_ext)))))) (And.intro (And.intro (And.intro (And.intro (@tk_lens) (@tk_lenl)) (And.intro (@tk_mn) (And.intro (@tk_mx) (@tk_ex)))) (And.intro (And.intro (@tk_mkfn) (And.intro (@tk_mvu) (@tk_mvo))) (And.intro (@tk_new) (And.intro (@tk_box) (@tk_bsl))))) (And.intro (And.intro (And.intro (@tk_mk0) (@tk_mkn)) (And.intro (@tk_loado) (And.intro (@tk_app) (@tk_appo)))) (And.intro (And.intro (@tk_appso) (And.intro (@tk_store) (@tk_storeo))) (And.intro (@tk_call) (And.intro (@tk_stores) (@tk_calli))))))) (And.intro (And.intro (And.intro (And.intro (And.intro (@tk_snil) (@ex_wadd)) (And.intro (@ex_wsub) (And.intro (@ex_wmul) (@ex_aeq)))) (And.intro (And.intro (@ex_r2s) (@deg_itr)) (And.intro (@int_add) (And.intro (@int_sub) (@int_mul))))) (And.intro (And.intro (And.intro (@int_quo) (@int_rem)) (And.intro (@int_and) (And.intro (@int_or) (@int_xor)))) (And.intro (And.intro (@int_eql) (And.intro (@int_neq) (@int_lss))) (And.intro (@int_leq) (And.intro (@int_gtr) (@int_geq)))))) (And.intro (And.intro (And.intro (And.intro (@int_shl) (@int_shr)) (And.intro (@str_add) (And.intro (@str_eql) (@str_neq)))) (And.intro (And.intro (@str_lss) (And.intro (@arith_i8) (@arith_i16))) (And.intro (@arith_i32) (And.intro (@arith_u8) (@arith_u16))))) (And.intro (And.intro (And.intro (@arith_u32) (@arith_u64)) (And.intro (@arith_i64) (And.intro (@loadK_none) (@loadK_some)))) (And.intro (And.intro (@deg_bool) (And.intro (@isTup_bool) (@cellsOf_bool))) (And.intro (@deg_int) (And.intro (@isTup_int) (@cellsOf_int)))))))) (And.intro (And.intro (And.intro (And.intro (And.intro (And.intro (@deg_str) (@isTup_str)) (And.intro (@cellsOf_str) (And.intro (@deg_nilp) (@isTup_nilp)))) (And.intro (And.intro (@cellsOf_nilp) (@deg_ptr)) (And.intro (@isTup_ptr) (And.intro (@cellsOf_ptr) (@deg_fp))))) (And.intro (And.intro (And.intro (@isTup_fp) (@cellsOf_fp)) (And.intro (@deg_hs) (And.intro (@isTup_hs) (@cellsOf_hs)))) (And.intro (And.intro (@deg_agg) (And.intro (@isTup_agg) (@cellsOf_agg))) (And.intro (@deg_tup) (And.intro (@isTup_tup) (@cellsOf_tup)))))) (And.intro (And.intro (And.intro (And.intro (@deg_fn) (@isTup_fn)) (And.intro (@cellsOf_fn) (And.intro (@deg_nilf) (@isTup_nilf)))) (And.intro (And.intro (@cellsOf_nilf) (And.intro (@deg_opq) (@isTup_opq))) (And.intro (@cellsOf_opq) (And.intro (@deg_ro) (@deg_clip))))) (And.intro (And.intro (And.intro (@deg_own) (@isTup_lst)) (And.intro (@cellsOf_lst) (And.intro (@Option.map_some.{0, 0}) (@Option.map_none.{0, 0})))) (And.intro (And.intro (@Nat.zero_mul) (And.intro (@Nat.add_zero) (@Nat.zero_add))) (And.intro (@Nat.mul_one) (And.intro (@Nat.succ_ne_self) (@Nat.one_ne_zero))))))) (And.intro (And.intro (And.intro (And.intro (And.intro (@Nat.zero_ne_one) (@List.length_cons.{0})) (And.intro (@List.length_nil.{0}) (And.intro (@List.set_cons_zero.{0}) (@List.set_cons_succ.{0})))) (And.intro (And.intro (@List.getElem?_cons_zero.{0}) (@List.getElem?_cons_succ.{0})) (And.intro (@List.getElem?_nil.{0}) (And.intro (@List.drop_zero.{0}) (@List.drop_succ_cons.{0}))))) (And.intro (And.intro (And.intro (@List.take_succ_cons.{0}) (@List.take_zero.{0})) (And.intro (@List.map_cons.{0, 0}) (And.intro (@List.map_nil.{0, 0}) (@List.nil_append.{0})))) (And.intro (And.intro (@List.append_nil.{0}) (And.intro (@List.cons_append.{0}) (@Bool.not_true))) (And.intro (@Bool.not_false) (And.intro (@Bool.true_eq_false) (@Bool.false_eq_true)))))) (And.intro (And.intro (And.intro (And.intro (@true_and) (@and_true)) (And.intro (@and_self) (And.intro (@true_implies) (@false_implies)))) (And.intro (And.intro (@Bool.not_eq_true') (And.intro (@Bool.not_eq_false') (@Bool.not_eq_eq_eq_not))) (And.intro (@decide_eq_true_eq) (And.intro (@decide_eq_false_iff_not) (@Int.toNat_zero))))) (And.intro (And.intro (And.intro (@not_true_eq_false) (@not_false_eq_true)) (And.intro (@List.set_set.{0}) (And.intro (@end_get) (@end_set)))) (And.intro (And.intro (@ite_and) (And.intro (@decide_true) (@decide_false))) (And.intro (@Bool.not_eq_true) (And.intro (@Bool.not_eq_false) (@Decidable.not_not)))))))))) :=
  And.intro (And.intro (And.intro (And.intro (And.intro (And.intro (And.intro (And.intro (@W_skip) (@W_ops)) (And.intro (@W_draw) (And.intro (@W_seq) (@W_cond2)))) (And.intro (And.intro (@W_block) (@W_exit)) (And.intro (@W_ret) (And.intro (@W_keep) (@kseq_normal))))) (And.intro (And.intro (And.intro (@kseq_exit) (@kseq_ret)) (And.intro (@kblock_normal) (And.intro (@kblock_exit) (@kblock_ret)))) (And.intro (And.intro (@kloop_normal) (And.intro (@kloop_exit) (@kloop_ret))) (And.intro (@kret_normal) (And.intro (@kret_ret) (@kdraw_eq)))))) (And.intro (And.intro (And.intro (And.intro (@kval_eq) (@kv_eq)) (And.intro (@kput_eq) (And.intro (@kbox_eq) (@kobj_eq)))) (And.intro (And.intro (@klst_eq) (And.intro (@krow_eq) (@kcall_eq))) (And.intro (@put_some) (And.intro (@put_none) (@lk_cons'))))) (And.intro (And.intro (And.intro (@lk_nil) (@restr_nil)) (And.intro (@restr_cons) (And.intro (@ev_t) (@ev_c)))) (And.intro (And.intro (@ev_f) (And.intro (@evs_nil) (@evs_cons))) (And.intro (@evD_none) (And.intro (@evD_some) (@degr_nil))))))) (And.intro (And.intro (And.intro (And.intro (And.intro (@degr_cons) (@args0_nil)) (And.intro (@args0_cons) (And.intro (@buildK_nil) (@buildK_cons)))) (And.intro (And.intro (@upgK_nil) (@upgK_cons)) (And.intro (@resL_nil) (And.intro (@resL_t) (@resL_c))))) (And.intro (And.intro (And.intro (@res1_one) (@res1_nil)) (And.intro (@res1_two) (And.intro (@WOps_nil') (@WOps_cons')))) (And.intro (And.intro (@WOps_gd2) (And.intro (@kops_eq') (@VOps_nil'))) (And.intro (@VOps_cons') (And.intro (@VOps_gd2) (@VOps_ft')))))) (And.intro (And.intro (And.intro (And.intro (@VOps_gdft2) (@apart_nil)) (And.intro (@apart_cons) (And.intro (@ptrId_ptr) (@ptrId_hs)))) (And.intro (And.intro (@sameId_eq) (And.intro (@fbId_s) (@fbId_h))) (And.intro (@effF_load) (And.intro (@effF_loado) (@effF_store))))) (And.intro (And.intro (And.intro (@effF_stores) (@effF_storeo)) (And.intro (@effF_calli) (And.intro (@effF_new) (@effF_box)))) (And.intro (And.intro (@effF_mkn) (And.intro (@W_holes) (@rep2))) (And.intro (@rep3) (And.intro (@kvops_eq') (@splice_cons')))))))) (And.intro (And.intro (And.intro (And.intro (And.intro (And.intro (@splice_nil') (@wop_mv)) (And.intro (@eff_mv) (And.intro (@wop_pick2) (@eff_pick2)))) (And.intro (And.intro (@wop_build) (@eff_build)) (And.intro (@wop_load) (And.intro (@eff_load) (@wop_lds))))) (And.intro (And.intro (And.intro (@eff_lds) (@wop_nilck)) (And.intro (@eff_nilck) (And.intro (@wop_bin) (@eff_bin)))) (And.intro (And.intro (@wop_pnil) (And.intro (@eff_pnil) (@wop_bbin))) (And.intro (@eff_bbin) (And.intro (@wop_not) (@eff_not)))))) (And.intro (And.intro (And.intro (And.intro (@wop_conv) (@eff_conv)) (And.intro (@wop_cstr) (And.intro (@eff_cstr) (@wop_b2s)))) (And.intro (And.intro (@eff_b2s) (And.intro (@wop_fld) (@eff_fld))) (And.intro (@wop_idxa) (And.intro (@eff_idxa) (@wop_idxs))))) (And.intro (And.intro (And.intro (@eff_idxs) (@wop_slcs)) (And.intro (@eff_slcs) (And.intro (@wop_slcl) (@eff_slcl)))) (And.intro (And.intro (@wop_ext) (And.intro (@eff_ext) (@wop_lens))) (And.intro (@eff_lens) (And.intro (@wop_lenl) (@eff_lenl))))))) (And.intro (And.intro (And.intro (And.intro (And.intro (@wop_mn) (@eff_mn)) (And.intro (@wop_mx) (And.intro (@eff_mx) (@wop_ex)))) (And.intro (And.intro (@eff_ex) (@wop_mkfn)) (And.intro (@eff_mkfn) (And.intro (@wop_mvu) (@eff_mvu))))) (And.intro (And.intro (And.intro (@wop_mvo) (@eff_mvo)) (And.intro (@wop_new) (And.intro (@eff_new) (@wop_box)))) (And.intro (And.intro (@eff_box) (And.intro (@wop_bsl) (@eff_bsl))) (And.intro (@wop_mk0) (And.intro (@eff_mk0) (@wop_mkn)))))) (And.intro (And.intro (And.intro (And.intro (@eff_mkn) (@wop_loado)) (And.intro (@eff_loado) (And.intro (@wop_app) (@eff_app)))) (And.intro (And.intro (@wop_appo) (And.intro (@eff_appo) (@wop_appso))) (And.intro (@eff_appso) (And.intro (@wop_store) (@wop_storeo))))) (And.intro (And.intro (And.intro (@wop_stores) (@eff_store)) (And.intro (@eff_storeo) (And.intro (@eff_stores) (@wop_rngs)))) (And.intro (And.intro (@wop_nxt) (And.intro (@wop_call) (@eff_call))) (And.intro (@wop_calli) (And.intro (@eff_calli) (@wop_snil))))))))) (And.intro (And.intro (And.intro (And.intro (And.intro (And.intro (And.intro (@eff_snil) (@wop_storeu)) (And.intro (@tk_mv) (And.intro (@tk_pick) (@tk_build)))) (And.intro (And.intro (@tk_load) (@tk_lds)) (And.intro (@tk_nilck) (And.intro (@tk_bin) (@tk_pnil))))) (And.intro (And.intro (And.intro (@tk_bbin) (@tk_not)) (And.intro (@tk_conv) (And.intro (@tk_cstr) (@tk_b2s)))) (And.intro (And.intro (@tk_fld) (And.intro (@tk_idxa) (@tk_idxs))) (And.intro (@tk_slcs) (And.intro (@tk_slcl) (@tk_ext)))))) (And.intro (And.intro (And.intro (And.intro (@tk_lens) (@tk_lenl)) (And.intro (@tk_mn) (And.intro (@tk_mx) (@tk_ex)))) (And.intro (And.intro (@tk_mkfn) (And.intro (@tk_mvu) (@tk_mvo))) (And.intro (@tk_new) (And.intro (@tk_box) (@tk_bsl))))) (And.intro (And.intro (And.intro (@tk_mk0) (@tk_mkn)) (And.intro (@tk_loado) (And.intro (@tk_app) (@tk_appo)))) (And.intro (And.intro (@tk_appso) (And.intro (@tk_store) (@tk_storeo))) (And.intro (@tk_call) (And.intro (@tk_stores) (@tk_calli))))))) (And.intro (And.intro (And.intro (And.intro (And.intro (@tk_snil) (@ex_wadd)) (And.intro (@ex_wsub) (And.intro (@ex_wmul) (@ex_aeq)))) (And.intro (And.intro (@ex_r2s) (@deg_itr)) (And.intro (@int_add) (And.intro (@int_sub) (@int_mul))))) (And.intro (And.intro (And.intro (@int_quo) (@int_rem)) (And.intro (@int_and) (And.intro (@int_or) (@int_xor)))) (And.intro (And.intro (@int_eql) (And.intro (@int_neq) (@int_lss))) (And.intro (@int_leq) (And.intro (@int_gtr) (@int_geq)))))) (And.intro (And.intro (And.intro (And.intro (@int_shl) (@int_shr)) (And.intro (@str_add) (And.intro (@str_eql) (@str_neq)))) (And.intro (And.intro (@str_lss) (And.intro (@arith_i8) (@arith_i16))) (And.intro (@arith_i32) (And.intro (@arith_u8) (@arith_u16))))) (And.intro (And.intro (And.intro (@arith_u32) (@arith_u64)) (And.intro (@arith_i64) (And.intro (@loadK_none) (@loadK_some)))) (And.intro (And.intro (@deg_bool) (And.intro (@isTup_bool) (@cellsOf_bool))) (And.intro (@deg_int) (And.intro (@isTup_int) (@cellsOf_int)))))))) (And.intro (And.intro (And.intro (And.intro (And.intro (And.intro (@deg_str) (@isTup_str)) (And.intro (@cellsOf_str) (And.intro (@deg_nilp) (@isTup_nilp)))) (And.intro (And.intro (@cellsOf_nilp) (@deg_ptr)) (And.intro (@isTup_ptr) (And.intro (@cellsOf_ptr) (@deg_fp))))) (And.intro (And.intro (And.intro (@isTup_fp) (@cellsOf_fp)) (And.intro (@deg_hs) (And.intro (@isTup_hs) (@cellsOf_hs)))) (And.intro (And.intro (@deg_agg) (And.intro (@isTup_agg) (@cellsOf_agg))) (And.intro (@deg_tup) (And.intro (@isTup_tup) (@cellsOf_tup)))))) (And.intro (And.intro (And.intro (And.intro (@deg_fn) (@isTup_fn)) (And.intro (@cellsOf_fn) (And.intro (@deg_nilf) (@isTup_nilf)))) (And.intro (And.intro (@cellsOf_nilf) (And.intro (@deg_opq) (@isTup_opq))) (And.intro (@cellsOf_opq) (And.intro (@deg_ro) (@deg_clip))))) (And.intro (And.intro (And.intro (@deg_own) (@isTup_lst)) (And.intro (@cellsOf_lst) (And.intro (@Option.map_some.{0, 0}) (@Option.map_none.{0, 0})))) (And.intro (And.intro (@Nat.zero_mul) (And.intro (@Nat.add_zero) (@Nat.zero_add))) (And.intro (@Nat.mul_one) (And.intro (@Nat.succ_ne_self) (@Nat.one_ne_zero))))))) (And.intro (And.intro (And.intro (And.intro (And.intro (@Nat.zero_ne_one) (@List.length_cons.{0})) (And.intro (@List.length_nil.{0}) (And.intro (@List.set_cons_zero.{0}) (@List.set_cons_succ.{0})))) (And.intro (And.intro (@List.getElem?_cons_zero.{0}) (@List.getElem?_cons_succ.{0})) (And.intro (@List.getElem?_nil.{0}) (And.intro (@List.drop_zero.{0}) (@List.drop_succ_cons.{0}))))) (And.intro (And.intro (And.intro (@List.take_succ_cons.{0}) (@List.take_zero.{0})) (And.intro (@List.map_cons.{0, 0}) (And.intro (@List.map_nil.{0, 0}) (@List.nil_append.{0})))) (And.intro (And.intro (@List.append_nil.{0}) (And.intro (@List.cons_append.{0}) (@Bool.not_true))) (And.intro (@Bool.not_false) (And.intro (@Bool.true_eq_false) (@Bool.false_eq_true)))))) (And.intro (And.intro (And.intro (And.intro (@true_and) (@and_true)) (And.intro (@and_self) (And.intro (@true_implies) (@false_implies)))) (And.intro (And.intro (@Bool.not_eq_true') (And.intro (@Bool.not_eq_false') (@Bool.not_eq_eq_eq_not))) (And.intro (@decide_eq_true_eq) (And.intro (@decide_eq_false_iff_not) (@Int.toNat_zero))))) (And.intro (And.intro (And.intro (@not_true_eq_false) (@not_false_eq_true)) (And.intro (@List.set_set.{0}) (And.intro (@end_get) (@end_set)))) (And.intro (And.intro (@ite_and) (And.intro (@decide_true) (@decide_false))) (And.intro (@Bool.not_eq_true) (And.intro (@Bool.not_eq_false) (@Decidable.not_not)))))))))
end Go.Proofs.Ytcbcnbefaggnhaa

/- The functions' abstract code, written by a program (acode.py), and that it is theirs. -/
namespace Go.Proofs.Ytcbcnbefaggnhaa
open Go.RowKit

/-- attorney/attorneyref02.Of -/
def F_ref02_Of : AFn :=
  ⟨29, [.t 2], .seq (.ops [⟨some 2, none, .mv (.c (.str ⟨#[]⟩)), none⟩])
   (.keep [0] (.seq (.ops [⟨some 5, none, .bsl 5 1 0 [] [], none⟩,
      ⟨some 3, none, .mvo 5, none⟩])
    (.keep [0, 3] (.seq (.seq (.ops [⟨some 4, none, .mv (.c (.int .i64 0)), none⟩])
      (.keep [0, 3, 4] (.block 0 (.loop [0, 3, 4] (.seq (.seq (.ops [⟨some 6, none, .mv (.t 4), none⟩,
      ⟨some 7, none, .mv (.t 0), none⟩,
      ⟨some 8, none, .lenl (.t 7), none⟩,
      ⟨some 9, none, .bin .lss (.t 6) (.t 8), none⟩])
          (.keep [0, 3, 4, 9] (.cond (.t 9)
           (.skip)
           (.exit 0))))
         (.keep [0, 3, 4] (.seq (.block 1 (.draw [0, 3, 4] [⟨some 12, none, .mvo 3, none⟩,
      ⟨some 13, none, .mv (.t 0), none⟩,
      ⟨some 14, none, .mv (.t 4), none⟩,
      ⟨some 15, none, .idxa 1 (.t 13) (.t 14), none⟩,
      ⟨some 16, none, .load none (.t 15), none⟩,
      ⟨some 17, none, .bin .quo (.t 16) (.c (.int .u16 256)), none⟩,
      ⟨some 18, none, .conv .u8 (.t 17), none⟩,
      ⟨some 19, none, .mv (.t 0), none⟩,
      ⟨some 20, none, .mv (.t 4), none⟩,
      ⟨some 21, none, .idxa 1 (.t 19) (.t 20), none⟩,
      ⟨some 22, none, .load none (.t 21), none⟩,
      ⟨some 23, none, .bin .rem (.t 22) (.c (.int .u16 256)), none⟩,
      ⟨some 24, none, .conv .u8 (.t 23), none⟩,
      ⟨some 25, none, .bsl 5 1 2 [(.int .u8 0), (.int .u8 0)] [(0, 1, (.t 18)), (1, 1, (.t 24))], none⟩,
      ⟨some 26, none, .appo 5 1 1 12 (.t 25), none⟩,
      ⟨some 3, none, .mvo 26, none⟩]))
          (.keep [0, 3, 4] (.ops [⟨some 10, none, .mv (.t 4), none⟩,
      ⟨some 11, none, .bin .add (.t 10) (.c (.int .i64 1)), none⟩,
      ⟨some 4, none, .mv (.t 11), none⟩])))))))))
     (.keep [3] (.seq (.ops [⟨some 27, none, .mv (.t 3), none⟩,
      ⟨some 28, none, .b2s (.t 27), none⟩,
      ⟨some 2, none, .mv (.t 28), none⟩])
      (.ret)))))))⟩
theorem F_ref02_Of_ok : chkFn Try.prog 41 F_ref02_Of = true := by kernel_rfl

/-- attorney/set.May -/
def F_set_May : AFn :=
  ⟨36, [.t 2], .seq (.ops [⟨some 2, none, .mv (.c (.bool false)), none⟩])
   (.keep [0] (.seq (.seq (.ops [⟨some 5, none, .mv (.t 0), none⟩,
      ⟨some 6, none, .lenl (.t 5), none⟩,
      ⟨some 7, none, .bin .lss (.t 6) (.c (.int .i64 1)), none⟩,
      ⟨some 8, none, .mv (.t 7), none⟩,
      ⟨some 9, (some (8, false)), .mv (.t 0), none⟩,
      ⟨some 10, (some (8, false)), .lenl (.t 9), none⟩,
      ⟨some 11, (some (8, false)), .bin .gtr (.t 10) (.c (.int .i64 16)), none⟩,
      ⟨some 12, none, .pick (.t 8) (.c (.bool true)) (.t 11), none⟩])
     (.keep [0, 12] (.cond (.t 12)
      (.seq (.ops [⟨some 2, none, .mv (.c (.bool false)), none⟩])
       (.ret))
      (.skip))))
    (.keep [0] (.seq (.seq (.ops [⟨some 13, none, .mv (.t 0), none⟩,
      ⟨some 14, none, .lenl (.t 13), none⟩,
      ⟨some 15, none, .mv (.c (.int .i64 0)), none⟩])
      (.keep [0, 13, 14, 15] (.block 0 (.loop [0, 13, 14, 15] (.seq (.ops [⟨some 16, none, .bin .lss (.t 15) (.t 14), none⟩])
         (.keep [0, 13, 14, 15, 16] (.seq (.cond (.t 16)
           (.skip)
           (.exit 0))
          (.keep [0, 13, 14, 15] (.seq (.block 1 (.seq (.ops [⟨some 17, none, .mv (.t 15), none⟩,
      ⟨some 18, none, .idxa 1 (.t 13) (.t 15), none⟩,
      ⟨some 19, none, .load none (.t 18), none⟩,
      ⟨some 3, none, .mv (.t 17), none⟩,
      ⟨some 4, none, .mv (.t 19), none⟩])
             (.keep [0, 3, 4, 13, 14, 15] (.seq (.seq (.ops [⟨some 20, none, .mv (.t 4), none⟩,
      ⟨some 21, none, .call (.f 87) [(.t 20)], none⟩,
      ⟨some 22, none, .not (.t 21), none⟩])
               (.keep [0, 3, 4, 13, 14, 15, 22] (.cond (.t 22)
                (.seq (.ops [⟨some 2, none, .mv (.c (.bool false)), none⟩])
                 (.ret))
                (.skip))))
              (.keep [0, 3, 4, 13, 14, 15] (.seq (.ops [⟨some 23, none, .mv (.t 3), none⟩,
      ⟨some 24, none, .bin .gtr (.t 23) (.c (.int .i64 0)), none⟩,
      ⟨some 25, none, .mv (.t 24), none⟩,
      ⟨some 26, (some (25, true)), .mv (.t 0), none⟩,
      ⟨some 27, (some (25, true)), .mv (.t 3), none⟩,
      ⟨some 28, (some (25, true)), .bin .sub (.t 27) (.c (.int .i64 1)), none⟩,
      ⟨some 29, (some (25, true)), .idxa 1 (.t 26) (.t 28), none⟩,
      ⟨some 30, (some (25, true)), .load none (.t 29), none⟩,
      ⟨some 31, (some (25, true)), .mv (.t 4), none⟩,
      ⟨some 32, (some (25, true)), .call (.f 88) [(.t 30), (.t 31)], none⟩,
      ⟨some 33, (some (25, true)), .not (.t 32), none⟩,
      ⟨some 34, none, .pick (.t 25) (.t 33) (.c (.bool false)), none⟩])
               (.keep [0, 13, 14, 15, 34] (.cond (.t 34)
                (.seq (.ops [⟨some 2, none, .mv (.c (.bool false)), none⟩])
                 (.ret))
                (.skip)))))))))
           (.keep [0, 13, 14, 15] (.ops [⟨some 35, none, .bin .add (.t 15) (.c (.int .i64 1)), none⟩,
      ⟨some 15, none, .mv (.t 35), none⟩])))))))))))
     (.keep [] (.seq (.ops [⟨some 2, none, .mv (.c (.bool true)), none⟩])
      (.ret)))))))⟩
theorem F_set_May_ok : chkFn Try.prog 52 F_set_May = true := by kernel_rfl

/-- attorney/attorneyref03.May -/
def F_ref03_May : AFn :=
  ⟨41, [.t 2], .seq (.ops [⟨some 2, none, .mv (.c (.bool false)), none⟩])
   (.keep [0] (.seq (.seq (.ops [⟨some 4, none, .mv (.t 0), none⟩,
      ⟨some 5, none, .lenl (.t 4), none⟩,
      ⟨some 6, none, .bin .lss (.t 5) (.c (.int .i64 1)), none⟩,
      ⟨some 7, none, .mv (.t 6), none⟩,
      ⟨some 8, (some (7, false)), .mv (.t 0), none⟩,
      ⟨some 9, (some (7, false)), .lenl (.t 8), none⟩,
      ⟨some 10, (some (7, false)), .bin .gtr (.t 9) (.c (.int .i64 16)), none⟩,
      ⟨some 11, none, .pick (.t 7) (.c (.bool true)) (.t 10), none⟩])
     (.keep [0, 11] (.cond (.t 11)
      (.seq (.ops [⟨some 2, none, .mv (.c (.bool false)), none⟩])
       (.ret))
      (.skip))))
    (.keep [0] (.seq (.seq (.ops [⟨some 3, none, .mv (.c (.int .i64 0)), none⟩])
      (.keep [0, 3] (.block 0 (.loop [0, 3] (.seq (.seq (.ops [⟨some 12, none, .mv (.t 3), none⟩,
      ⟨some 13, none, .mv (.t 0), none⟩,
      ⟨some 14, none, .lenl (.t 13), none⟩,
      ⟨some 15, none, .bin .lss (.t 12) (.t 14), none⟩])
          (.keep [0, 3, 15] (.cond (.t 15)
           (.skip)
           (.exit 0))))
         (.keep [0, 3] (.seq (.block 1 (.seq (.draw [0, 3, 40] [⟨some 18, none, .mv (.t 0), none⟩,
      ⟨some 19, none, .mv (.t 3), none⟩,
      ⟨some 20, none, .idxa 1 (.t 18) (.t 19), none⟩,
      ⟨some 21, none, .load none (.t 20), none⟩,
      ⟨some 22, none, .call (.f 89) [(.t 21)], none⟩,
      ⟨some 23, none, .not (.t 22), none⟩,
      ⟨some 24, none, .mv (.t 23), none⟩,
      ⟨some 25, (some (24, false)), .mv (.t 3), none⟩,
      ⟨some 26, (some (24, false)), .bin .gtr (.t 25) (.c (.int .i64 0)), none⟩,
      ⟨some 27, (some (24, false)), .mv (.t 26), none⟩,
      ⟨some 28, (some (27, true)), .mv (.t 0), none⟩,
      ⟨some 29, (some (27, true)), .mv (.t 3), none⟩,
      ⟨some 30, (some (27, true)), .bin .sub (.t 29) (.c (.int .i64 1)), none⟩,
      ⟨some 31, (some (27, true)), .idxa 1 (.t 28) (.t 30), none⟩,
      ⟨some 32, (some (27, true)), .load none (.t 31), none⟩,
      ⟨some 33, (some (27, true)), .mv (.t 0), none⟩,
      ⟨some 34, (some (27, true)), .mv (.t 3), none⟩,
      ⟨some 35, (some (27, true)), .idxa 1 (.t 33) (.t 34), none⟩,
      ⟨some 36, (some (27, true)), .load none (.t 35), none⟩,
      ⟨some 37, (some (27, true)), .call (.f 90) [(.t 32), (.t 36)], none⟩,
      ⟨some 38, (some (27, true)), .not (.t 37), none⟩,
      ⟨some 39, (some (24, false)), .pick (.t 27) (.t 38) (.c (.bool false)), none⟩,
      ⟨some 40, none, .pick (.t 24) (.c (.bool true)) (.t 39), none⟩])
            (.keep [0, 3, 40] (.cond (.t 40)
             (.seq (.ops [⟨some 2, none, .mv (.c (.bool false)), none⟩])
              (.ret))
             (.skip)))))
          (.keep [0, 3] (.ops [⟨some 16, none, .mv (.t 3), none⟩,
      ⟨some 17, none, .bin .add (.t 16) (.c (.int .i64 1)), none⟩,
      ⟨some 3, none, .mv (.t 17), none⟩])))))))))
     (.keep [] (.seq (.ops [⟨some 2, none, .mv (.c (.bool true)), none⟩])
      (.ret)))))))⟩
theorem F_ref03_May_ok : chkFn Try.prog 53 F_ref03_May = true := by kernel_rfl

/-- (*attorney/pack.Out).Num -/
def F_pack_Out_Num : AFn :=
  ⟨46, [], .seq (.seq (.ops [⟨some 4, none, .mv (.t 1), none⟩,
      ⟨some 5, none, .bin .lss (.t 4) (.c (.int .i64 0)), none⟩,
      ⟨some 6, none, .mv (.t 5), none⟩,
      ⟨some 7, (some (6, false)), .mv (.t 1), none⟩,
      ⟨some 8, (some (6, false)), .bin .gtr (.t 7) (.c (.int .i64 4611686018427387904)), none⟩,
      ⟨some 9, none, .pick (.t 6) (.c (.bool true)) (.t 8), none⟩])
    (.keep [0, 1, 9] (.cond (.t 9)
     (.ops [⟨some 10, none, .mv (.t 0), none⟩,
      ⟨some 11, none, .nilck (.t 10), none⟩,
      ⟨some 12, none, .fld 0 (.t 11), none⟩,
      ⟨some 13, none, .call (.f 91) [(.t 12)], none⟩])
     (.skip))))
   (.keep [0, 1] (.seq (.seq (.ops [⟨some 14, none, .mv (.t 0), none⟩,
      ⟨some 15, none, .nilck (.t 14), none⟩,
      ⟨some 16, none, .fld 0 (.t 15), none⟩,
      ⟨some 17, none, .call (.f 92) [(.t 16)], none⟩,
      ⟨some 18, none, .not (.t 17), none⟩])
     (.keep [0, 1, 18] (.cond (.t 18)
      (.ret)
      (.skip))))
    (.keep [0, 1] (.seq (.block 0 (.loop [0, 1] (.seq (.seq (.ops [⟨some 19, none, .mv (.t 1), none⟩,
      ⟨some 20, none, .bin .geq (.t 19) (.c (.int .i64 128)), none⟩])
         (.keep [0, 1, 20] (.cond (.t 20)
          (.skip)
          (.exit 0))))
        (.keep [0, 1] (.block 1 (.seq (.ops [⟨some 21, none, .mv (.t 0), none⟩,
      ⟨some 22, none, .mv (.t 0), none⟩,
      ⟨some 23, none, .nilck (.t 22), none⟩,
      ⟨some 24, none, .fld 1 (.t 23), none⟩,
      ⟨some 25, none, .loado (.t 24), none⟩,
      ⟨some 26, none, .mv (.t 1), none⟩,
      ⟨some 27, none, .conv .u8 (.t 26), none⟩,
      ⟨some 28, none, .bin .or (.t 27) (.c (.int .u8 128)), none⟩,
      ⟨some 29, none, .bsl 5 1 1 [(.int .u8 0)] [(0, 1, (.t 28))], none⟩,
      ⟨some 30, none, .appo 5 1 1 25 (.t 29), none⟩,
      ⟨some 31, none, .nilck (.t 21), none⟩,
      ⟨some 32, none, .fld 1 (.t 31), none⟩,
      ⟨none, none, .storeo (.t 32) 30, none⟩])
          (.keep [0, 1] (.ops [⟨some 33, none, .mv (.t 1), none⟩,
      ⟨some 34, none, .bin .shr (.t 33) (.c (.int .u64 7)), none⟩,
      ⟨some 1, none, .mv (.t 34), none⟩]))))))))
     (.keep [0, 1] (.ops [⟨some 35, none, .mv (.t 0), none⟩,
      ⟨some 36, none, .mv (.t 0), none⟩,
      ⟨some 37, none, .nilck (.t 36), none⟩,
      ⟨some 38, none, .fld 1 (.t 37), none⟩,
      ⟨some 39, none, .loado (.t 38), none⟩,
      ⟨some 40, none, .mv (.t 1), none⟩,
      ⟨some 41, none, .conv .u8 (.t 40), none⟩,
      ⟨some 42, none, .bsl 5 1 1 [(.int .u8 0)] [(0, 1, (.t 41))], none⟩,
      ⟨some 43, none, .appo 5 1 1 39 (.t 42), none⟩,
      ⟨some 44, none, .nilck (.t 35), none⟩,
      ⟨some 45, none, .fld 1 (.t 44), none⟩,
      ⟨none, none, .storeo (.t 45) 43, none⟩]))))))⟩
theorem F_pack_Out_Num_ok : chkFn Try.prog 54 F_pack_Out_Num = true := by kernel_rfl

/-- (*attorney/pack.Out).Set -/
def F_pack_Out_Set : AFn :=
  ⟨40, [], .seq (.seq (.ops [⟨some 6, none, .mv (.t 1), none⟩,
      ⟨some 7, none, .call (.f 52) [(.t 6)], none⟩,
      ⟨some 8, none, .not (.t 7), none⟩])
    (.keep [0, 1, 8] (.cond (.t 8)
     (.ops [⟨some 9, none, .mv (.t 0), none⟩,
      ⟨some 10, none, .nilck (.t 9), none⟩,
      ⟨some 11, none, .fld 0 (.t 10), none⟩,
      ⟨some 12, none, .call (.f 91) [(.t 11)], none⟩])
     (.skip))))
   (.keep [0, 1] (.seq (.seq (.ops [⟨some 13, none, .mv (.t 0), none⟩,
      ⟨some 14, none, .nilck (.t 13), none⟩,
      ⟨some 15, none, .fld 0 (.t 14), none⟩,
      ⟨some 16, none, .call (.f 92) [(.t 15)], none⟩,
      ⟨some 17, none, .not (.t 16), none⟩])
     (.keep [0, 1, 17] (.cond (.t 17)
      (.ret)
      (.skip))))
    (.keep [0, 1] (.seq (.ops [⟨some 18, none, .mv (.t 0), none⟩,
      ⟨some 19, none, .mv (.t 0), none⟩,
      ⟨some 20, none, .nilck (.t 19), none⟩,
      ⟨some 21, none, .fld 1 (.t 20), none⟩,
      ⟨some 22, none, .loado (.t 21), none⟩,
      ⟨some 23, none, .mv (.t 1), none⟩,
      ⟨some 24, none, .lenl (.t 23), none⟩,
      ⟨some 25, none, .conv .u8 (.t 24), none⟩,
      ⟨some 26, none, .bsl 5 1 1 [(.int .u8 0)] [(0, 1, (.t 25))], none⟩,
      ⟨some 27, none, .appo 5 1 1 22 (.t 26), none⟩,
      ⟨some 28, none, .nilck (.t 18), none⟩,
      ⟨some 29, none, .fld 1 (.t 28), none⟩,
      ⟨none, none, .storeo (.t 29) 27, none⟩])
     (.keep [0, 1] (.seq (.ops [⟨some 30, none, .mv (.t 1), none⟩,
      ⟨some 31, none, .lenl (.t 30), none⟩,
      ⟨some 32, none, .mv (.c (.int .i64 0)), none⟩])
      (.keep [0, 30, 31, 32] (.block 0 (.loop [0, 30, 31, 32] (.seq (.ops [⟨some 33, none, .bin .lss (.t 32) (.t 31), none⟩])
         (.keep [0, 30, 31, 32, 33] (.seq (.cond (.t 33)
           (.skip)
           (.exit 0))
          (.keep [0, 30, 31, 32] (.seq (.block 1 (.seq (.ops [⟨some 34, none, .idxa 1 (.t 30) (.t 32), none⟩,
      ⟨some 35, none, .load none (.t 34), none⟩,
      ⟨some 5, none, .mv (.t 35), none⟩])
             (.keep [0, 5, 30, 31, 32] (.ops [⟨some 36, none, .mv (.t 0), none⟩,
      ⟨some 37, none, .mv (.t 5), none⟩,
      ⟨some 38, none, .call (.f 93) [(.t 36), (.t 37)], none⟩]))))
           (.keep [0, 30, 31, 32] (.ops [⟨some 39, none, .bin .add (.t 32) (.c (.int .i64 1)), none⟩,
      ⟨some 32, none, .mv (.t 39), none⟩]))))))))))))))))⟩
theorem F_pack_Out_Set_ok : chkFn Try.prog 55 F_pack_Out_Set = true := by kernel_rfl

/-- (*attorney/pack.Out).Done -/
def F_pack_Out_Done : AFn :=
  ⟨19, [.t 2, .t 3], .seq (.ops [⟨some 2, none, .mv (.c (.str ⟨#[]⟩)), none⟩,
      ⟨some 3, none, .mv (.c (.int .i64 0)), none⟩])
   (.keep [0] (.seq (.seq (.ops [⟨some 4, none, .mv (.t 0), none⟩,
      ⟨some 5, none, .nilck (.t 4), none⟩,
      ⟨some 6, none, .fld 0 (.t 5), none⟩,
      ⟨some 7, none, .call (.f 92) [(.t 6)], none⟩,
      ⟨some 8, none, .not (.t 7), none⟩])
     (.keep [0, 8] (.cond (.t 8)
      (.seq (.draw [2, 3] [⟨some 9, none, .mv (.t 0), none⟩,
      ⟨some 10, none, .nilck (.t 9), none⟩,
      ⟨some 11, none, .fld 0 (.t 10), none⟩,
      ⟨some 12, none, .fld 0 (.t 11), none⟩,
      ⟨some 13, none, .load none (.t 12), none⟩,
      ⟨some 2, none, .mv (.c (.str ⟨#[]⟩)), none⟩,
      ⟨some 3, none, .mv (.t 13), none⟩])
       (.ret))
      (.skip))))
    (.keep [0] (.seq (.ops [⟨some 14, none, .mv (.t 0), none⟩,
      ⟨some 15, none, .nilck (.t 14), none⟩,
      ⟨some 16, none, .fld 1 (.t 15), none⟩,
      ⟨some 17, none, .load none (.t 16), none⟩,
      ⟨some 18, none, .b2s (.t 17), none⟩,
      ⟨some 2, none, .mv (.t 18), none⟩,
      ⟨some 3, none, .mv (.c (.int .i64 0)), none⟩])
     (.ret)))))⟩
theorem F_pack_Out_Done_ok : chkFn Try.prog 56 F_pack_Out_Done = true := by kernel_rfl

/-- attorney/attorneyref07.Num -/
def F_ref07_Num : AFn :=
  ⟨22, [.t 2], .seq (.ops [⟨some 2, none, .mv (.c (.str ⟨#[]⟩)), none⟩])
   (.keep [0] (.seq (.ops [⟨some 4, none, .bsl 5 1 0 [] [], none⟩,
      ⟨some 3, none, .mvo 4, none⟩])
    (.keep [0, 3] (.seq (.block 0 (.loop [0, 3] (.seq (.seq (.ops [⟨some 5, none, .mv (.t 0), none⟩,
      ⟨some 6, none, .bin .geq (.t 5) (.c (.int .i64 128)), none⟩])
         (.keep [0, 3, 6] (.cond (.t 6)
          (.skip)
          (.exit 0))))
        (.keep [0, 3] (.block 1 (.seq (.ops [⟨some 7, none, .mvo 3, none⟩,
      ⟨some 8, none, .mv (.t 0), none⟩,
      ⟨some 9, none, .bin .rem (.t 8) (.c (.int .i64 128)), none⟩,
      ⟨some 10, none, .bin .add (.t 9) (.c (.int .i64 128)), none⟩,
      ⟨some 11, none, .conv .u8 (.t 10), none⟩,
      ⟨some 12, none, .bsl 5 1 1 [(.int .u8 0)] [(0, 1, (.t 11))], none⟩,
      ⟨some 13, none, .appo 5 1 1 7 (.t 12), none⟩,
      ⟨some 3, none, .mvo 13, none⟩])
          (.keep [0, 3] (.ops [⟨some 14, none, .mv (.t 0), none⟩,
      ⟨some 15, none, .bin .quo (.t 14) (.c (.int .i64 128)), none⟩,
      ⟨some 0, none, .mv (.t 15), none⟩]))))))))
     (.keep [0, 3] (.seq (.ops [⟨some 16, none, .mvo 3, none⟩,
      ⟨some 17, none, .mv (.t 0), none⟩,
      ⟨some 18, none, .conv .u8 (.t 17), none⟩,
      ⟨some 19, none, .bsl 5 1 1 [(.int .u8 0)] [(0, 1, (.t 18))], none⟩,
      ⟨some 20, none, .appo 5 1 1 16 (.t 19), none⟩,
      ⟨some 21, none, .b2s (.t 20), none⟩,
      ⟨some 2, none, .mv (.t 21), none⟩])
      (.ret)))))))⟩
theorem F_ref07_Num_ok : chkFn Try.prog 57 F_ref07_Num = true := by kernel_rfl

/-- attorney/attorneyref07.Set -/
def F_ref07_Set : AFn :=
  ⟨24, [.t 2], .seq (.ops [⟨some 2, none, .mv (.c (.str ⟨#[]⟩)), none⟩])
   (.keep [0] (.seq (.ops [⟨some 5, none, .mv (.t 0), none⟩,
      ⟨some 6, none, .lenl (.t 5), none⟩,
      ⟨some 7, none, .conv .u8 (.t 6), none⟩,
      ⟨some 8, none, .bsl 5 1 1 [(.int .u8 0)] [(0, 1, (.t 7))], none⟩,
      ⟨some 9, none, .b2s (.t 8), none⟩,
      ⟨some 3, none, .mv (.t 9), none⟩])
    (.keep [0, 3] (.seq (.seq (.ops [⟨some 4, none, .mv (.c (.int .i64 0)), none⟩])
      (.keep [0, 3, 4] (.block 0 (.loop [0, 3, 4] (.seq (.seq (.ops [⟨some 10, none, .mv (.t 4), none⟩,
      ⟨some 11, none, .mv (.t 0), none⟩,
      ⟨some 12, none, .lenl (.t 11), none⟩,
      ⟨some 13, none, .bin .lss (.t 10) (.t 12), none⟩])
          (.keep [0, 3, 4, 13] (.cond (.t 13)
           (.skip)
           (.exit 0))))
         (.keep [0, 3, 4] (.seq (.block 1 (.ops [⟨some 16, none, .mv (.t 3), none⟩,
      ⟨some 17, none, .mv (.t 0), none⟩,
      ⟨some 18, none, .mv (.t 4), none⟩,
      ⟨some 19, none, .idxa 1 (.t 17) (.t 18), none⟩,
      ⟨some 20, none, .load none (.t 19), none⟩,
      ⟨some 21, none, .call (.f 94) [(.t 20)], none⟩,
      ⟨some 22, none, .bin .add (.t 16) (.t 21), none⟩,
      ⟨some 3, none, .mv (.t 22), none⟩]))
          (.keep [0, 3, 4] (.ops [⟨some 14, none, .mv (.t 4), none⟩,
      ⟨some 15, none, .bin .add (.t 14) (.c (.int .i64 1)), none⟩,
      ⟨some 4, none, .mv (.t 15), none⟩])))))))))
     (.keep [3] (.seq (.ops [⟨some 23, none, .mv (.t 3), none⟩,
      ⟨some 2, none, .mv (.t 23), none⟩])
      (.ret)))))))⟩
theorem F_ref07_Set_ok : chkFn Try.prog 58 F_ref07_Set = true := by kernel_rfl

/-- attorney/pack.From -/
def F_pack_From : AFn :=
  ⟨6, [.t 2], .seq (.ops [⟨some 2, none, .mv (.c .nilp), none⟩])
   (.keep [0] (.seq (.ops [⟨some 3, none, .mv (.t 0), none⟩,
      ⟨some 4, none, .build [(.int .i64 0), (.str ⟨#[]⟩), (.int .i64 0)] [(1, 1, (.t 3))], none⟩,
      ⟨some 5, none, .box (.t 4) [], none⟩,
      ⟨some 2, none, .mv (.t 5), none⟩])
    (.ret)))⟩
theorem F_pack_From_ok : chkFn Try.prog 59 F_pack_From = true := by kernel_rfl

/-- (*attorney/pack.In).Num -/
def F_pack_In_Num : AFn :=
  ⟨45, [.t 4], .seq (.ops [⟨some 4, none, .mv (.c (.int .i64 0)), none⟩])
   (.keep [0, 1] (.seq (.seq (.ops [⟨some 7, none, .mv (.t 0), none⟩,
      ⟨some 8, none, .nilck (.t 7), none⟩,
      ⟨some 9, none, .fld 0 (.t 8), none⟩,
      ⟨some 10, none, .call (.f 92) [(.t 9)], none⟩,
      ⟨some 11, none, .not (.t 10), none⟩])
     (.keep [0, 1, 11] (.cond (.t 11)
      (.seq (.ops [⟨some 4, none, .mv (.c (.int .i64 0)), none⟩])
       (.ret))
      (.skip))))
    (.keep [0, 1] (.seq (.draw [0, 1, 5, 6] [⟨some 13, none, .mv (.t 0), none⟩,
      ⟨some 14, none, .nilck (.t 13), none⟩,
      ⟨some 15, none, .fld 1 (.t 14), none⟩,
      ⟨some 16, none, .load none (.t 15), none⟩,
      ⟨some 17, none, .mv (.t 0), none⟩,
      ⟨some 18, none, .nilck (.t 17), none⟩,
      ⟨some 19, none, .fld 2 (.t 18), none⟩,
      ⟨some 20, none, .load none (.t 19), none⟩,
      ⟨some 21, none, .slcs (.t 16) (some (.t 20)) none, none⟩,
      ⟨some 22, none, .call (.f 95) [(.t 21)], none⟩,
      ⟨some 12, none, .mv (.t 22), none⟩,
      ⟨some 23, none, .ext 0 (.t 12), none⟩,
      ⟨some 24, none, .ext 1 (.t 12), none⟩,
      ⟨some 5, none, .mv (.t 23), none⟩,
      ⟨some 6, none, .mv (.t 24), none⟩])
     (.keep [0, 1, 5, 6] (.seq (.seq (.ops [⟨some 25, none, .mv (.t 6), none⟩,
      ⟨some 26, none, .bin .eql (.t 25) (.c (.int .i64 0)), none⟩,
      ⟨some 27, none, .mv (.t 26), none⟩,
      ⟨some 28, (some (27, false)), .mv (.t 5), none⟩,
      ⟨some 29, (some (27, false)), .mv (.t 1), none⟩,
      ⟨some 30, (some (27, false)), .bin .gtr (.t 28) (.t 29), none⟩,
      ⟨some 31, none, .pick (.t 27) (.c (.bool true)) (.t 30), none⟩])
       (.keep [0, 5, 6, 31] (.cond (.t 31)
        (.seq (.ops [⟨some 32, none, .mv (.t 0), none⟩,
      ⟨some 33, none, .nilck (.t 32), none⟩,
      ⟨some 34, none, .fld 0 (.t 33), none⟩,
      ⟨some 35, none, .call (.f 91) [(.t 34)], none⟩])
         (.keep [] (.seq (.ops [⟨some 4, none, .mv (.c (.int .i64 0)), none⟩])
          (.ret))))
        (.skip))))
      (.keep [0, 5, 6] (.seq (.ops [⟨some 36, none, .mv (.t 0), none⟩,
      ⟨some 37, none, .nilck (.t 36), none⟩,
      ⟨some 38, none, .fld 2 (.t 37), none⟩,
      ⟨some 39, none, .load none (.t 38), none⟩,
      ⟨some 40, none, .mv (.t 6), none⟩,
      ⟨some 41, none, .bin .add (.t 39) (.t 40), none⟩,
      ⟨some 42, none, .nilck (.t 36), none⟩,
      ⟨some 43, none, .fld 2 (.t 42), none⟩,
      ⟨none, none, .store 1 (.t 43) (.t 41), none⟩])
       (.keep [5] (.seq (.ops [⟨some 44, none, .mv (.t 5), none⟩,
      ⟨some 4, none, .mv (.t 44), none⟩])
        (.ret)))))))))))⟩
theorem F_pack_In_Num_ok : chkFn Try.prog 60 F_pack_In_Num = true := by kernel_rfl

/-- (*attorney/pack.In).Set -/
def F_pack_In_Set : AFn :=
  ⟨33, [.t 2], .seq (.ops [⟨some 2, none, .mv (.c (.lst .clip 0 [])), none⟩])
   (.keep [0] (.seq (.ops [⟨some 5, none, .mv (.t 0), none⟩,
      ⟨some 6, none, .call (.f 96) [(.t 5), (.c (.int .i64 16))], none⟩,
      ⟨some 3, none, .mv (.t 6), none⟩])
    (.keep [0, 3] (.seq (.ops [⟨some 7, none, .mv (.t 3), none⟩,
      ⟨some 8, none, .mk0 44 1 16 (.t 7), none⟩,
      ⟨some 4, none, .mvo 8, none⟩])
     (.keep [0, 3, 4] (.seq (.seq (.ops [⟨some 9, none, .mv (.t 3), none⟩,
      ⟨some 10, none, .mv (.c (.int .i64 0)), none⟩])
       (.keep [0, 4, 9, 10] (.block 0 (.loop [0, 4, 9, 10] (.seq (.ops [⟨some 11, none, .bin .lss (.t 10) (.t 9), none⟩])
          (.keep [0, 4, 9, 10, 11] (.seq (.cond (.t 11)
            (.skip)
            (.exit 0))
           (.keep [0, 4, 9, 10] (.seq (.block 1 (.ops [⟨some 12, none, .mvo 4, none⟩,
      ⟨some 13, none, .mv (.t 0), none⟩,
      ⟨some 14, none, .call (.f 97) [(.t 13)], none⟩,
      ⟨some 15, none, .bsl 44 1 1 [(.str ⟨#[]⟩)] [(0, 1, (.t 14))], none⟩,
      ⟨some 16, none, .appo 44 1 16 12 (.t 15), none⟩,
      ⟨some 4, none, .mvo 16, none⟩]))
            (.keep [0, 4, 9, 10] (.ops [⟨some 17, none, .bin .add (.t 10) (.c (.int .i64 1)), none⟩,
      ⟨some 10, none, .mv (.t 17), none⟩])))))))))))
      (.keep [0, 4] (.seq (.seq (.ops [⟨some 18, none, .mv (.t 0), none⟩,
      ⟨some 19, none, .nilck (.t 18), none⟩,
      ⟨some 20, none, .fld 0 (.t 19), none⟩,
      ⟨some 21, none, .call (.f 92) [(.t 20)], none⟩,
      ⟨some 22, none, .not (.t 21), none⟩,
      ⟨some 23, none, .mv (.t 22), none⟩,
      ⟨some 24, (some (23, false)), .mv (.t 4), none⟩,
      ⟨some 25, (some (23, false)), .call (.f 52) [(.t 24)], none⟩,
      ⟨some 26, (some (23, false)), .not (.t 25), none⟩,
      ⟨some 27, none, .pick (.t 23) (.c (.bool true)) (.t 26), none⟩])
        (.keep [0, 4, 27] (.cond (.t 27)
         (.seq (.ops [⟨some 28, none, .mv (.t 0), none⟩,
      ⟨some 29, none, .nilck (.t 28), none⟩,
      ⟨some 30, none, .fld 0 (.t 29), none⟩,
      ⟨some 31, none, .call (.f 91) [(.t 30)], none⟩])
          (.keep [] (.seq (.ops [⟨some 2, none, .mv (.c (.lst .clip 0 [])), none⟩])
           (.ret))))
         (.skip))))
       (.keep [4] (.seq (.ops [⟨some 32, none, .mv (.t 4), none⟩,
      ⟨some 2, none, .mv (.t 32), none⟩])
        (.ret)))))))))))⟩
theorem F_pack_In_Set_ok : chkFn Try.prog 61 F_pack_In_Set = true := by kernel_rfl

/-- (*attorney/pack.In).Done -/
def F_pack_In_Done : AFn :=
  ⟨15, [.t 2], .seq (.ops [⟨some 2, none, .mv (.c (.int .i64 0)), none⟩])
   (.keep [0] (.seq (.seq (.ops [⟨some 3, none, .mv (.t 0), none⟩,
      ⟨some 4, none, .call (.f 98) [(.t 3)], none⟩,
      ⟨some 5, none, .bin .gtr (.t 4) (.c (.int .i64 0)), none⟩])
     (.keep [0, 5] (.cond (.t 5)
      (.ops [⟨some 6, none, .mv (.t 0), none⟩,
      ⟨some 7, none, .nilck (.t 6), none⟩,
      ⟨some 8, none, .fld 0 (.t 7), none⟩,
      ⟨some 9, none, .call (.f 91) [(.t 8)], none⟩])
      (.skip))))
    (.keep [0] (.seq (.ops [⟨some 10, none, .mv (.t 0), none⟩,
      ⟨some 11, none, .nilck (.t 10), none⟩,
      ⟨some 12, none, .fld 0 (.t 11), none⟩,
      ⟨some 13, none, .fld 0 (.t 12), none⟩,
      ⟨some 14, none, .load none (.t 13), none⟩,
      ⟨some 2, none, .mv (.t 14), none⟩])
     (.ret)))))⟩
theorem F_pack_In_Done_ok : chkFn Try.prog 62 F_pack_In_Done = true := by kernel_rfl

/-- (*attorney/attorneyref07.In).Num -/
def F_ref07_In_Num : AFn :=
  ⟨71, [.t 4], .seq (.ops [⟨some 4, none, .mv (.c (.int .i64 0)), none⟩])
   (.keep [0, 1] (.seq (.seq (.ops [⟨some 9, none, .mv (.t 0), none⟩,
      ⟨some 10, none, .nilck (.t 9), none⟩,
      ⟨some 11, none, .fld 2 (.t 10), none⟩,
      ⟨some 12, none, .load none (.t 11), none⟩])
     (.keep [0, 1, 12] (.cond (.t 12)
      (.seq (.ops [⟨some 4, none, .mv (.c (.int .i64 0)), none⟩])
       (.ret))
      (.skip))))
    (.keep [0, 1] (.seq (.ops [⟨some 5, none, .mv (.c (.int .i64 0)), none⟩])
     (.keep [0, 1, 5] (.seq (.ops [⟨some 6, none, .mv (.c (.int .i64 1)), none⟩])
      (.keep [0, 1, 5, 6] (.seq (.seq (.ops [⟨some 7, none, .mv (.c (.int .i64 0)), none⟩])
        (.keep [0, 1, 5, 6, 7] (.block 0 (.loop [0, 1, 5, 6, 7] (.seq (.seq (.ops [⟨some 13, none, .mv (.t 7), none⟩,
      ⟨some 14, none, .bin .lss (.t 13) (.c (.int .i64 9)), none⟩])
            (.keep [0, 1, 5, 6, 7, 14] (.cond (.t 14)
             (.skip)
             (.exit 0))))
           (.keep [0, 1, 5, 6, 7] (.seq (.block 1 (.seq (.seq (.draw [0, 1, 5, 6, 7, 26] [⟨some 17, none, .mv (.t 0), none⟩,
      ⟨some 18, none, .nilck (.t 17), none⟩,
      ⟨some 19, none, .fld 1 (.t 18), none⟩,
      ⟨some 20, none, .load none (.t 19), none⟩,
      ⟨some 21, none, .mv (.t 0), none⟩,
      ⟨some 22, none, .nilck (.t 21), none⟩,
      ⟨some 23, none, .fld 0 (.t 22), none⟩,
      ⟨some 24, none, .load none (.t 23), none⟩,
      ⟨some 25, none, .lens (.t 24), none⟩,
      ⟨some 26, none, .bin .geq (.t 20) (.t 25), none⟩])
               (.keep [0, 1, 5, 6, 7, 26] (.cond (.t 26)
                (.exit 0)
                (.skip))))
              (.keep [0, 1, 5, 6, 7] (.seq (.draw [0, 1, 5, 6, 7, 8] [⟨some 27, none, .mv (.t 0), none⟩,
      ⟨some 28, none, .nilck (.t 27), none⟩,
      ⟨some 29, none, .fld 0 (.t 28), none⟩,
      ⟨some 30, none, .load none (.t 29), none⟩,
      ⟨some 31, none, .mv (.t 0), none⟩,
      ⟨some 32, none, .nilck (.t 31), none⟩,
      ⟨some 33, none, .fld 1 (.t 32), none⟩,
      ⟨some 34, none, .load none (.t 33), none⟩,
      ⟨some 35, none, .idxs (.t 30) (.t 34), none⟩,
      ⟨some 36, none, .conv .i64 (.t 35), none⟩,
      ⟨some 8, none, .mv (.t 36), none⟩])
               (.keep [0, 1, 5, 6, 7, 8] (.seq (.ops [⟨some 37, none, .mv (.t 0), none⟩,
      ⟨some 38, none, .nilck (.t 37), none⟩,
      ⟨some 39, none, .fld 1 (.t 38), none⟩,
      ⟨some 40, none, .load none (.t 39), none⟩,
      ⟨some 41, none, .bin .add (.t 40) (.c (.int .i64 1)), none⟩,
      ⟨some 42, none, .nilck (.t 37), none⟩,
      ⟨some 43, none, .fld 1 (.t 42), none⟩,
      ⟨none, none, .store 1 (.t 43) (.t 41), none⟩])
                (.keep [0, 1, 5, 6, 7, 8] (.seq (.seq (.ops [⟨some 44, none, .mv (.t 7), none⟩,
      ⟨some 45, none, .bin .gtr (.t 44) (.c (.int .i64 0)), none⟩,
      ⟨some 46, none, .mv (.t 45), none⟩,
      ⟨some 47, (some (46, true)), .mv (.t 8), none⟩,
      ⟨some 48, (some (46, true)), .bin .eql (.t 47) (.c (.int .i64 0)), none⟩,
      ⟨some 49, none, .pick (.t 46) (.t 48) (.c (.bool false)), none⟩])
                  (.keep [0, 1, 5, 6, 7, 8, 49] (.cond (.t 49)
                   (.exit 0)
                   (.skip))))
                 (.keep [0, 1, 5, 6, 7, 8] (.seq (.ops [⟨some 50, none, .mv (.t 5), none⟩,
      ⟨some 51, none, .mv (.t 8), none⟩,
      ⟨some 52, none, .bin .rem (.t 51) (.c (.int .i64 128)), none⟩,
      ⟨some 53, none, .mv (.t 6), none⟩,
      ⟨some 54, none, .ex (.binw .mul) [(.t 52), (.t 53)], none⟩,
      ⟨some 55, none, .bin .add (.t 50) (.t 54), none⟩,
      ⟨some 5, none, .mv (.t 55), none⟩])
                  (.keep [0, 1, 5, 6, 7, 8] (.seq (.seq (.ops [⟨some 56, none, .mv (.t 8), none⟩,
      ⟨some 57, none, .bin .lss (.t 56) (.c (.int .i64 128)), none⟩])
                    (.keep [0, 1, 5, 6, 7, 57] (.cond (.t 57)
                     (.seq (.seq (.ops [⟨some 58, none, .mv (.t 5), none⟩,
      ⟨some 59, none, .mv (.t 1), none⟩,
      ⟨some 60, none, .bin .gtr (.t 58) (.t 59), none⟩,
      ⟨some 61, none, .mv (.t 60), none⟩,
      ⟨some 62, (some (61, false)), .mv (.t 5), none⟩,
      ⟨some 63, (some (61, false)), .bin .gtr (.t 62) (.c (.int .i64 4611686018427387904)), none⟩,
      ⟨some 64, none, .pick (.t 61) (.c (.bool true)) (.t 63), none⟩])
                       (.keep [0, 5, 64] (.cond (.t 64)
                        (.exit 0)
                        (.skip))))
                      (.keep [5] (.seq (.ops [⟨some 65, none, .mv (.t 5), none⟩,
      ⟨some 4, none, .mv (.t 65), none⟩])
                       (.ret))))
                     (.skip))))
                   (.keep [0, 1, 5, 6, 7] (.ops [⟨some 66, none, .mv (.t 6), none⟩,
      ⟨some 67, none, .ex (.binw .mul) [(.t 66), (.c (.int .i64 128))], none⟩,
      ⟨some 6, none, .mv (.t 67), none⟩]))))))))))))))
            (.keep [0, 1, 5, 6, 7] (.ops [⟨some 15, none, .mv (.t 7), none⟩,
      ⟨some 16, none, .bin .add (.t 15) (.c (.int .i64 1)), none⟩,
      ⟨some 7, none, .mv (.t 16), none⟩])))))))))
       (.keep [0] (.seq (.ops [⟨some 68, none, .mv (.t 0), none⟩,
      ⟨some 69, none, .nilck (.t 68), none⟩,
      ⟨some 70, none, .fld 2 (.t 69), none⟩,
      ⟨none, none, .store 1 (.t 70) (.c (.bool true)), none⟩])
        (.keep [] (.seq (.ops [⟨some 4, none, .mv (.c (.int .i64 0)), none⟩])
         (.ret)))))))))))))⟩
theorem F_ref07_In_Num_ok : chkFn Try.prog 63 F_ref07_In_Num = true := by kernel_rfl

/-- (*attorney/attorneyref07.In).Set -/
def F_ref07_In_Set : AFn :=
  ⟨73, [.t 2], .seq (.ops [⟨some 2, none, .mv (.c (.lst .clip 0 [])), none⟩])
   (.keep [0] (.seq (.seq (.draw [0, 21] [⟨some 6, none, .mv (.t 0), none⟩,
      ⟨some 7, none, .nilck (.t 6), none⟩,
      ⟨some 8, none, .fld 2 (.t 7), none⟩,
      ⟨some 9, none, .load none (.t 8), none⟩,
      ⟨some 10, none, .mv (.t 9), none⟩,
      ⟨some 11, (some (10, false)), .mv (.t 0), none⟩,
      ⟨some 12, (some (10, false)), .nilck (.t 11), none⟩,
      ⟨some 13, (some (10, false)), .fld 1 (.t 12), none⟩,
      ⟨some 14, (some (10, false)), .load none (.t 13), none⟩,
      ⟨some 15, (some (10, false)), .mv (.t 0), none⟩,
      ⟨some 16, (some (10, false)), .nilck (.t 15), none⟩,
      ⟨some 17, (some (10, false)), .fld 0 (.t 16), none⟩,
      ⟨some 18, (some (10, false)), .load none (.t 17), none⟩,
      ⟨some 19, (some (10, false)), .lens (.t 18), none⟩,
      ⟨some 20, (some (10, false)), .bin .geq (.t 14) (.t 19), none⟩,
      ⟨some 21, none, .pick (.t 10) (.c (.bool true)) (.t 20), none⟩])
     (.keep [0, 21] (.cond (.t 21)
      (.seq (.ops [⟨some 22, none, .mv (.t 0), none⟩,
      ⟨some 23, none, .nilck (.t 22), none⟩,
      ⟨some 24, none, .fld 2 (.t 23), none⟩,
      ⟨none, none, .store 1 (.t 24) (.c (.bool true)), none⟩])
       (.keep [] (.seq (.ops [⟨some 2, none, .mv (.c (.lst .clip 0 [])), none⟩])
        (.ret))))
      (.skip))))
    (.keep [0] (.seq (.draw [0, 3] [⟨some 25, none, .mv (.t 0), none⟩,
      ⟨some 26, none, .nilck (.t 25), none⟩,
      ⟨some 27, none, .fld 0 (.t 26), none⟩,
      ⟨some 28, none, .load none (.t 27), none⟩,
      ⟨some 29, none, .mv (.t 0), none⟩,
      ⟨some 30, none, .nilck (.t 29), none⟩,
      ⟨some 31, none, .fld 1 (.t 30), none⟩,
      ⟨some 32, none, .load none (.t 31), none⟩,
      ⟨some 33, none, .idxs (.t 28) (.t 32), none⟩,
      ⟨some 34, none, .conv .i64 (.t 33), none⟩,
      ⟨some 3, none, .mv (.t 34), none⟩])
     (.keep [0, 3] (.seq (.ops [⟨some 35, none, .mv (.t 0), none⟩,
      ⟨some 36, none, .nilck (.t 35), none⟩,
      ⟨some 37, none, .fld 1 (.t 36), none⟩,
      ⟨some 38, none, .load none (.t 37), none⟩,
      ⟨some 39, none, .bin .add (.t 38) (.c (.int .i64 1)), none⟩,
      ⟨some 40, none, .nilck (.t 35), none⟩,
      ⟨some 41, none, .fld 1 (.t 40), none⟩,
      ⟨none, none, .store 1 (.t 41) (.t 39), none⟩])
      (.keep [0, 3] (.seq (.ops [⟨some 42, none, .bsl 44 1 0 [] [], none⟩,
      ⟨some 4, none, .mvo 42, none⟩])
       (.keep [0, 3, 4] (.seq (.seq (.ops [⟨some 5, none, .mv (.c (.int .i64 0)), none⟩])
         (.keep [0, 3, 4, 5] (.block 0 (.loop [0, 3, 4, 5] (.seq (.seq (.ops [⟨some 43, none, .mv (.t 5), none⟩,
      ⟨some 44, none, .mv (.t 3), none⟩,
      ⟨some 45, none, .bin .lss (.t 43) (.t 44), none⟩,
      ⟨some 46, none, .mv (.t 45), none⟩,
      ⟨some 47, (some (46, true)), .mv (.t 0), none⟩,
      ⟨some 48, (some (46, true)), .nilck (.t 47), none⟩,
      ⟨some 49, (some (46, true)), .fld 2 (.t 48), none⟩,
      ⟨some 50, (some (46, true)), .load none (.t 49), none⟩,
      ⟨some 51, (some (46, true)), .not (.t 50), none⟩,
      ⟨some 52, none, .pick (.t 46) (.t 51) (.c (.bool false)), none⟩])
             (.keep [0, 3, 4, 5, 52] (.cond (.t 52)
              (.skip)
              (.exit 0))))
            (.keep [0, 3, 4, 5] (.seq (.block 1 (.ops [⟨some 55, none, .mvo 4, none⟩,
      ⟨some 56, none, .mv (.t 0), none⟩,
      ⟨some 57, none, .call (.f 99) [(.t 56)], none⟩,
      ⟨some 58, none, .bsl 44 1 1 [(.str ⟨#[]⟩)] [(0, 1, (.t 57))], none⟩,
      ⟨some 59, none, .appo 44 1 16 55 (.t 58), none⟩,
      ⟨some 4, none, .mvo 59, none⟩]))
             (.keep [0, 3, 4, 5] (.ops [⟨some 53, none, .mv (.t 5), none⟩,
      ⟨some 54, none, .bin .add (.t 53) (.c (.int .i64 1)), none⟩,
      ⟨some 5, none, .mv (.t 54), none⟩])))))))))
        (.keep [0, 4] (.seq (.seq (.ops [⟨some 60, none, .mv (.t 0), none⟩,
      ⟨some 61, none, .nilck (.t 60), none⟩,
      ⟨some 62, none, .fld 2 (.t 61), none⟩,
      ⟨some 63, none, .load none (.t 62), none⟩,
      ⟨some 64, none, .mv (.t 63), none⟩,
      ⟨some 65, (some (64, false)), .mv (.t 4), none⟩,
      ⟨some 66, (some (64, false)), .call (.f 53) [(.t 65)], none⟩,
      ⟨some 67, (some (64, false)), .not (.t 66), none⟩,
      ⟨some 68, none, .pick (.t 64) (.c (.bool true)) (.t 67), none⟩])
          (.keep [0, 4, 68] (.cond (.t 68)
           (.seq (.ops [⟨some 69, none, .mv (.t 0), none⟩,
      ⟨some 70, none, .nilck (.t 69), none⟩,
      ⟨some 71, none, .fld 2 (.t 70), none⟩,
      ⟨none, none, .store 1 (.t 71) (.c (.bool true)), none⟩])
            (.keep [] (.seq (.ops [⟨some 2, none, .mv (.c (.lst .clip 0 [])), none⟩])
             (.ret))))
           (.skip))))
         (.keep [4] (.seq (.ops [⟨some 72, none, .mv (.t 4), none⟩,
      ⟨some 2, none, .mv (.t 72), none⟩])
          (.ret)))))))))))))))⟩
theorem F_ref07_In_Set_ok : chkFn Try.prog 64 F_ref07_In_Set = true := by kernel_rfl

/-- (*attorney/attorneyref07.In).Done -/
def F_ref07_In_Done : AFn :=
  ⟨22, [.t 2], .seq (.ops [⟨some 2, none, .mv (.c (.int .i64 0)), none⟩])
   (.keep [0] (.seq (.seq (.draw [0, 18] [⟨some 3, none, .mv (.t 0), none⟩,
      ⟨some 4, none, .nilck (.t 3), none⟩,
      ⟨some 5, none, .fld 2 (.t 4), none⟩,
      ⟨some 6, none, .load none (.t 5), none⟩,
      ⟨some 7, none, .mv (.t 6), none⟩,
      ⟨some 8, (some (7, false)), .mv (.t 0), none⟩,
      ⟨some 9, (some (7, false)), .nilck (.t 8), none⟩,
      ⟨some 10, (some (7, false)), .fld 1 (.t 9), none⟩,
      ⟨some 11, (some (7, false)), .load none (.t 10), none⟩,
      ⟨some 12, (some (7, false)), .mv (.t 0), none⟩,
      ⟨some 13, (some (7, false)), .nilck (.t 12), none⟩,
      ⟨some 14, (some (7, false)), .fld 0 (.t 13), none⟩,
      ⟨some 15, (some (7, false)), .load none (.t 14), none⟩,
      ⟨some 16, (some (7, false)), .lens (.t 15), none⟩,
      ⟨some 17, (some (7, false)), .bin .lss (.t 11) (.t 16), none⟩,
      ⟨some 18, none, .pick (.t 7) (.c (.bool true)) (.t 17), none⟩])
     (.keep [0, 18] (.cond (.t 18)
      (.seq (.ops [⟨some 19, none, .mv (.t 0), none⟩,
      ⟨some 20, none, .nilck (.t 19), none⟩,
      ⟨some 21, none, .fld 2 (.t 20), none⟩,
      ⟨none, none, .store 1 (.t 21) (.c (.bool true)), none⟩])
       (.keep [] (.seq (.ops [⟨some 2, none, .mv (.c (.int .i64 2)), none⟩])
        (.ret))))
      (.skip))))
    (.keep [] (.seq (.ops [⟨some 2, none, .mv (.c (.int .i64 0)), none⟩])
     (.ret)))))⟩
theorem F_ref07_In_Done_ok : chkFn Try.prog 65 F_ref07_In_Done = true := by kernel_rfl

/-- attorney/attorneyref03.Equal -/
def F_ref03_Equal : AFn :=
  ⟨26, [.t 4], .seq (.ops [⟨some 4, none, .mv (.c (.bool false)), none⟩])
   (.keep [0, 1] (.seq (.seq (.ops [⟨some 6, none, .mv (.t 0), none⟩,
      ⟨some 7, none, .lenl (.t 6), none⟩,
      ⟨some 8, none, .mv (.t 1), none⟩,
      ⟨some 9, none, .lenl (.t 8), none⟩,
      ⟨some 10, none, .bin .neq (.t 7) (.t 9), none⟩])
     (.keep [0, 1, 10] (.cond (.t 10)
      (.seq (.ops [⟨some 4, none, .mv (.c (.bool false)), none⟩])
       (.ret))
      (.skip))))
    (.keep [0, 1] (.seq (.seq (.ops [⟨some 5, none, .mv (.c (.int .i64 0)), none⟩])
      (.keep [0, 1, 5] (.block 0 (.loop [0, 1, 5] (.seq (.seq (.ops [⟨some 11, none, .mv (.t 5), none⟩,
      ⟨some 12, none, .mv (.t 0), none⟩,
      ⟨some 13, none, .lenl (.t 12), none⟩,
      ⟨some 14, none, .bin .lss (.t 11) (.t 13), none⟩])
          (.keep [0, 1, 5, 14] (.cond (.t 14)
           (.skip)
           (.exit 0))))
         (.keep [0, 1, 5] (.seq (.block 1 (.seq (.draw [0, 1, 5, 25] [⟨some 17, none, .mv (.t 0), none⟩,
      ⟨some 18, none, .mv (.t 5), none⟩,
      ⟨some 19, none, .idxa 1 (.t 17) (.t 18), none⟩,
      ⟨some 20, none, .load none (.t 19), none⟩,
      ⟨some 21, none, .mv (.t 1), none⟩,
      ⟨some 22, none, .mv (.t 5), none⟩,
      ⟨some 23, none, .idxa 1 (.t 21) (.t 22), none⟩,
      ⟨some 24, none, .load none (.t 23), none⟩,
      ⟨some 25, none, .bin .neq (.t 20) (.t 24), none⟩])
            (.keep [0, 1, 5, 25] (.cond (.t 25)
             (.seq (.ops [⟨some 4, none, .mv (.c (.bool false)), none⟩])
              (.ret))
             (.skip)))))
          (.keep [0, 1, 5] (.ops [⟨some 15, none, .mv (.t 5), none⟩,
      ⟨some 16, none, .bin .add (.t 15) (.c (.int .i64 1)), none⟩,
      ⟨some 5, none, .mv (.t 16), none⟩])))))))))
     (.keep [] (.seq (.ops [⟨some 4, none, .mv (.c (.bool true)), none⟩])
      (.ret)))))))⟩
theorem F_ref03_Equal_ok : chkFn Try.prog 67 F_ref03_Equal = true := by kernel_rfl

/-- attorney/word.May -/
def F_word_May : AFn :=
  ⟨26, [.t 2], .seq (.ops [⟨some 2, none, .mv (.c (.bool false)), none⟩])
   (.keep [0] (.seq (.seq (.ops [⟨some 4, none, .mv (.t 0), none⟩,
      ⟨some 5, none, .call (.f 121) [(.t 4)], none⟩,
      ⟨some 6, none, .mv (.t 5), none⟩,
      ⟨some 7, (some (6, false)), .mv (.t 0), none⟩,
      ⟨some 8, (some (6, false)), .call (.f 122) [(.t 7)], none⟩,
      ⟨some 9, (some (6, false)), .bin .lss (.t 8) (.c (.int .i64 1)), none⟩,
      ⟨some 10, none, .pick (.t 6) (.c (.bool true)) (.t 9), none⟩,
      ⟨some 11, none, .mv (.t 10), none⟩,
      ⟨some 12, (some (11, false)), .mv (.t 0), none⟩,
      ⟨some 13, (some (11, false)), .call (.f 122) [(.t 12)], none⟩,
      ⟨some 14, (some (11, false)), .bin .gtr (.t 13) (.c (.int .i64 8)), none⟩,
      ⟨some 15, none, .pick (.t 11) (.c (.bool true)) (.t 14), none⟩])
     (.keep [0, 15] (.cond (.t 15)
      (.seq (.ops [⟨some 2, none, .mv (.c (.bool false)), none⟩])
       (.ret))
      (.skip))))
    (.keep [0] (.seq (.seq (.ops [⟨some 16, none, .mv (.t 0), none⟩,
      ⟨some 17, none, .call (.f 122) [(.t 16)], none⟩,
      ⟨some 18, none, .mv (.c (.int .i64 0)), none⟩])
      (.keep [0, 17, 18] (.block 0 (.loop [0, 17, 18] (.seq (.ops [⟨some 19, none, .bin .lss (.t 18) (.t 17), none⟩])
         (.keep [0, 17, 18, 19] (.seq (.cond (.t 19)
           (.skip)
           (.exit 0))
          (.keep [0, 17, 18] (.seq (.block 1 (.seq (.ops [⟨some 20, none, .mv (.t 18), none⟩,
      ⟨some 3, none, .mv (.t 20), none⟩])
             (.keep [0, 3, 17, 18] (.seq (.ops [⟨some 21, none, .mv (.t 0), none⟩,
      ⟨some 22, none, .mv (.t 3), none⟩,
      ⟨some 23, none, .call (.f 123) [(.t 21), (.t 22)], none⟩,
      ⟨some 24, none, .bin .eql (.t 23) (.c (.int .u16 0)), none⟩])
              (.keep [0, 17, 18, 24] (.cond (.t 24)
               (.seq (.ops [⟨some 2, none, .mv (.c (.bool false)), none⟩])
                (.ret))
               (.skip)))))))
           (.keep [0, 17, 18] (.ops [⟨some 25, none, .bin .add (.t 18) (.c (.int .i64 1)), none⟩,
      ⟨some 18, none, .mv (.t 25), none⟩])))))))))))
     (.keep [] (.seq (.ops [⟨some 2, none, .mv (.c (.bool true)), none⟩])
      (.ret)))))))⟩
theorem F_word_May_ok : chkFn Try.prog 87 F_word_May = true := by kernel_rfl

/-- attorney/word.Less -/
def F_word_Less : AFn :=
  ⟨18, [.t 4], .seq (.ops [⟨some 4, none, .mv (.c (.bool false)), none⟩])
   (.keep [0, 1] (.seq (.seq (.ops [⟨some 5, none, .mv (.t 0), none⟩,
      ⟨some 6, none, .lens (.t 5), none⟩,
      ⟨some 7, none, .mv (.t 1), none⟩,
      ⟨some 8, none, .lens (.t 7), none⟩,
      ⟨some 9, none, .bin .neq (.t 6) (.t 8), none⟩])
     (.keep [0, 1, 9] (.cond (.t 9)
      (.seq (.ops [⟨some 10, none, .mv (.t 0), none⟩,
      ⟨some 11, none, .lens (.t 10), none⟩,
      ⟨some 12, none, .mv (.t 1), none⟩,
      ⟨some 13, none, .lens (.t 12), none⟩,
      ⟨some 14, none, .bin .lss (.t 11) (.t 13), none⟩,
      ⟨some 4, none, .mv (.t 14), none⟩])
       (.ret))
      (.skip))))
    (.keep [0, 1] (.seq (.ops [⟨some 15, none, .mv (.t 0), none⟩,
      ⟨some 16, none, .mv (.t 1), none⟩,
      ⟨some 17, none, .bin .lss (.t 15) (.t 16), none⟩,
      ⟨some 4, none, .mv (.t 17), none⟩])
     (.ret)))))⟩
theorem F_word_Less_ok : chkFn Try.prog 88 F_word_Less = true := by kernel_rfl

/-- attorney/attorneyref02.May -/
def F_ref02_May : AFn :=
  ⟨32, [.t 2], .seq (.ops [⟨some 2, none, .mv (.c (.bool false)), none⟩])
   (.keep [0] (.seq (.ops [⟨some 5, none, .mv (.t 0), none⟩,
      ⟨some 6, none, .call (.f 124) [(.t 5)], none⟩,
      ⟨some 3, none, .mv (.t 6), none⟩])
    (.keep [0, 3] (.seq (.seq (.ops [⟨some 4, none, .mv (.c (.int .i64 0)), none⟩])
      (.keep [0, 3, 4] (.block 0 (.loop [0, 3, 4] (.seq (.seq (.ops [⟨some 7, none, .mv (.t 4), none⟩,
      ⟨some 8, none, .mv (.t 3), none⟩,
      ⟨some 9, none, .lenl (.t 8), none⟩,
      ⟨some 10, none, .bin .lss (.t 7) (.t 9), none⟩])
          (.keep [0, 3, 4, 10] (.cond (.t 10)
           (.skip)
           (.exit 0))))
         (.keep [0, 3, 4] (.seq (.block 1 (.seq (.ops [⟨some 13, none, .mv (.t 3), none⟩,
      ⟨some 14, none, .mv (.t 4), none⟩,
      ⟨some 15, none, .idxa 1 (.t 13) (.t 14), none⟩,
      ⟨some 16, none, .load none (.t 15), none⟩,
      ⟨some 17, none, .bin .eql (.t 16) (.c (.int .u16 0)), none⟩])
            (.keep [0, 3, 4, 17] (.cond (.t 17)
             (.seq (.ops [⟨some 2, none, .mv (.c (.bool false)), none⟩])
              (.ret))
             (.skip)))))
          (.keep [0, 3, 4] (.ops [⟨some 11, none, .mv (.t 4), none⟩,
      ⟨some 12, none, .bin .add (.t 11) (.c (.int .i64 1)), none⟩,
      ⟨some 4, none, .mv (.t 12), none⟩])))))))))
     (.keep [0, 3] (.seq (.ops [⟨some 18, none, .mv (.t 0), none⟩,
      ⟨some 19, none, .lens (.t 18), none⟩,
      ⟨some 20, none, .bin .rem (.t 19) (.c (.int .i64 2)), none⟩,
      ⟨some 21, none, .bin .eql (.t 20) (.c (.int .i64 0)), none⟩,
      ⟨some 22, none, .mv (.t 21), none⟩,
      ⟨some 23, (some (22, true)), .mv (.t 3), none⟩,
      ⟨some 24, (some (22, true)), .lenl (.t 23), none⟩,
      ⟨some 25, (some (22, true)), .bin .geq (.t 24) (.c (.int .i64 1)), none⟩,
      ⟨some 26, none, .pick (.t 22) (.t 25) (.c (.bool false)), none⟩,
      ⟨some 27, none, .mv (.t 26), none⟩,
      ⟨some 28, (some (27, true)), .mv (.t 3), none⟩,
      ⟨some 29, (some (27, true)), .lenl (.t 28), none⟩,
      ⟨some 30, (some (27, true)), .bin .leq (.t 29) (.c (.int .i64 8)), none⟩,
      ⟨some 31, none, .pick (.t 27) (.t 30) (.c (.bool false)), none⟩,
      ⟨some 2, none, .mv (.t 31), none⟩])
      (.ret)))))))⟩
theorem F_ref02_May_ok : chkFn Try.prog 89 F_ref02_May = true := by kernel_rfl

/-- attorney/attorneyref02.Less -/
def F_ref02_Less : AFn :=
  ⟨36, [.t 4], .seq (.ops [⟨some 4, none, .mv (.c (.bool false)), none⟩])
   (.keep [0, 1] (.seq (.seq (.ops [⟨some 6, none, .mv (.t 0), none⟩,
      ⟨some 7, none, .lens (.t 6), none⟩,
      ⟨some 8, none, .mv (.t 1), none⟩,
      ⟨some 9, none, .lens (.t 8), none⟩,
      ⟨some 10, none, .bin .neq (.t 7) (.t 9), none⟩])
     (.keep [0, 1, 10] (.cond (.t 10)
      (.seq (.ops [⟨some 11, none, .mv (.t 0), none⟩,
      ⟨some 12, none, .lens (.t 11), none⟩,
      ⟨some 13, none, .mv (.t 1), none⟩,
      ⟨some 14, none, .lens (.t 13), none⟩,
      ⟨some 15, none, .bin .lss (.t 12) (.t 14), none⟩,
      ⟨some 4, none, .mv (.t 15), none⟩])
       (.ret))
      (.skip))))
    (.keep [0, 1] (.seq (.seq (.ops [⟨some 5, none, .mv (.c (.int .i64 0)), none⟩])
      (.keep [0, 1, 5] (.block 0 (.loop [0, 1, 5] (.seq (.seq (.ops [⟨some 16, none, .mv (.t 5), none⟩,
      ⟨some 17, none, .mv (.t 0), none⟩,
      ⟨some 18, none, .lens (.t 17), none⟩,
      ⟨some 19, none, .bin .lss (.t 16) (.t 18), none⟩])
          (.keep [0, 1, 5, 19] (.cond (.t 19)
           (.skip)
           (.exit 0))))
         (.keep [0, 1, 5] (.seq (.block 1 (.seq (.draw [0, 1, 5, 28] [⟨some 22, none, .mv (.t 0), none⟩,
      ⟨some 23, none, .mv (.t 5), none⟩,
      ⟨some 24, none, .idxs (.t 22) (.t 23), none⟩,
      ⟨some 25, none, .mv (.t 1), none⟩,
      ⟨some 26, none, .mv (.t 5), none⟩,
      ⟨some 27, none, .idxs (.t 25) (.t 26), none⟩,
      ⟨some 28, none, .bin .neq (.t 24) (.t 27), none⟩])
            (.keep [0, 1, 5, 28] (.cond (.t 28)
             (.seq (.draw [4] [⟨some 29, none, .mv (.t 0), none⟩,
      ⟨some 30, none, .mv (.t 5), none⟩,
      ⟨some 31, none, .idxs (.t 29) (.t 30), none⟩,
      ⟨some 32, none, .mv (.t 1), none⟩,
      ⟨some 33, none, .mv (.t 5), none⟩,
      ⟨some 34, none, .idxs (.t 32) (.t 33), none⟩,
      ⟨some 35, none, .bin .lss (.t 31) (.t 34), none⟩,
      ⟨some 4, none, .mv (.t 35), none⟩])
              (.ret))
             (.skip)))))
          (.keep [0, 1, 5] (.ops [⟨some 20, none, .mv (.t 5), none⟩,
      ⟨some 21, none, .bin .add (.t 20) (.c (.int .i64 1)), none⟩,
      ⟨some 5, none, .mv (.t 21), none⟩])))))))))
     (.keep [] (.seq (.ops [⟨some 4, none, .mv (.c (.bool false)), none⟩])
      (.ret)))))))⟩
theorem F_ref02_Less_ok : chkFn Try.prog 90 F_ref02_Less = true := by kernel_rfl

/-- (*attorney/pack.met).fail -/
def F_pack_met_fail : AFn :=
  ⟨7, [], .seq (.ops [⟨some 2, none, .mv (.t 0), none⟩,
      ⟨some 3, none, .call (.f 92) [(.t 2)], none⟩])
   (.keep [0, 3] (.cond (.t 3)
    (.ops [⟨some 4, none, .mv (.t 0), none⟩,
      ⟨some 5, none, .nilck (.t 4), none⟩,
      ⟨some 6, none, .fld 0 (.t 5), none⟩,
      ⟨none, none, .store 1 (.t 6) (.c (.int .i64 2)), none⟩])
    (.skip)))⟩
theorem F_pack_met_fail_ok : chkFn Try.prog 91 F_pack_met_fail = true := by kernel_rfl

/-- (*attorney/pack.met).well -/
def F_pack_met_well : AFn :=
  ⟨8, [.t 2], .seq (.ops [⟨some 2, none, .mv (.c (.bool false)), none⟩])
   (.keep [0] (.seq (.ops [⟨some 3, none, .mv (.t 0), none⟩,
      ⟨some 4, none, .nilck (.t 3), none⟩,
      ⟨some 5, none, .fld 0 (.t 4), none⟩,
      ⟨some 6, none, .load none (.t 5), none⟩,
      ⟨some 7, none, .bin .eql (.t 6) (.c (.int .i64 0)), none⟩,
      ⟨some 2, none, .mv (.t 7), none⟩])
    (.ret)))⟩
theorem F_pack_met_well_ok : chkFn Try.prog 92 F_pack_met_well = true := by kernel_rfl

/-- (*attorney/pack.Out).Word -/
def F_pack_Out_Word : AFn :=
  ⟨36, [], .seq (.seq (.ops [⟨some 4, none, .mv (.t 1), none⟩,
      ⟨some 5, none, .call (.f 87) [(.t 4)], none⟩,
      ⟨some 6, none, .not (.t 5), none⟩])
    (.keep [0, 1, 6] (.cond (.t 6)
     (.ops [⟨some 7, none, .mv (.t 0), none⟩,
      ⟨some 8, none, .nilck (.t 7), none⟩,
      ⟨some 9, none, .fld 0 (.t 8), none⟩,
      ⟨some 10, none, .call (.f 91) [(.t 9)], none⟩])
     (.skip))))
   (.keep [0, 1] (.seq (.ops [⟨some 11, none, .mv (.t 0), none⟩,
      ⟨some 12, none, .nilck (.t 11), none⟩,
      ⟨some 13, none, .fld 0 (.t 12), none⟩,
      ⟨some 14, none, .call (.f 92) [(.t 13)], none⟩])
    (.keep [0, 1, 14] (.cond (.t 14)
     (.seq (.draw [0, 1] [⟨some 15, none, .mv (.t 0), none⟩,
      ⟨some 16, none, .mv (.t 0), none⟩,
      ⟨some 17, none, .nilck (.t 16), none⟩,
      ⟨some 18, none, .fld 1 (.t 17), none⟩,
      ⟨some 19, none, .loado (.t 18), none⟩,
      ⟨some 20, none, .mv (.t 1), none⟩,
      ⟨some 21, none, .call (.f 122) [(.t 20)], none⟩,
      ⟨some 22, none, .conv .u8 (.t 21), none⟩,
      ⟨some 23, none, .bsl 5 1 1 [(.int .u8 0)] [(0, 1, (.t 22))], none⟩,
      ⟨some 24, none, .appo 5 1 1 19 (.t 23), none⟩,
      ⟨some 25, none, .nilck (.t 15), none⟩,
      ⟨some 26, none, .fld 1 (.t 25), none⟩,
      ⟨none, none, .storeo (.t 26) 24, none⟩])
      (.keep [0, 1] (.ops [⟨some 27, none, .mv (.t 0), none⟩,
      ⟨some 28, none, .mv (.t 0), none⟩,
      ⟨some 29, none, .nilck (.t 28), none⟩,
      ⟨some 30, none, .fld 1 (.t 29), none⟩,
      ⟨some 31, none, .loado (.t 30), none⟩,
      ⟨some 32, none, .mv (.t 1), none⟩,
      ⟨some 33, none, .appso 5 31 (.t 32), none⟩,
      ⟨some 34, none, .nilck (.t 27), none⟩,
      ⟨some 35, none, .fld 1 (.t 34), none⟩,
      ⟨none, none, .storeo (.t 35) 33, none⟩])))
     (.skip)))))⟩
theorem F_pack_Out_Word_ok : chkFn Try.prog 93 F_pack_Out_Word = true := by kernel_rfl

/-- attorney/attorneyref07.Word -/
def F_ref07_Word : AFn :=
  ⟨11, [.t 2], .seq (.ops [⟨some 2, none, .mv (.c (.str ⟨#[]⟩)), none⟩])
   (.keep [0] (.seq (.ops [⟨some 3, none, .mv (.t 0), none⟩,
      ⟨some 4, none, .lens (.t 3), none⟩,
      ⟨some 5, none, .bin .quo (.t 4) (.c (.int .i64 2)), none⟩,
      ⟨some 6, none, .conv .u8 (.t 5), none⟩,
      ⟨some 7, none, .bsl 5 1 1 [(.int .u8 0)] [(0, 1, (.t 6))], none⟩,
      ⟨some 8, none, .b2s (.t 7), none⟩,
      ⟨some 9, none, .mv (.t 0), none⟩,
      ⟨some 10, none, .bin .add (.t 8) (.t 9), none⟩,
      ⟨some 2, none, .mv (.t 10), none⟩])
    (.ret)))⟩
theorem F_ref07_Word_ok : chkFn Try.prog 94 F_ref07_Word = true := by kernel_rfl

/-- attorney/pack.number -/
def F_pack_number : AFn :=
  ⟨44, [.t 2, .t 3], .seq (.ops [⟨some 2, none, .mv (.c (.int .i64 0)), none⟩,
      ⟨some 3, none, .mv (.c (.int .i64 0)), none⟩])
   (.keep [0] (.seq (.ops [⟨some 4, none, .mv (.c (.int .u64 0)), none⟩])
    (.keep [0, 4] (.seq (.seq (.ops [⟨some 5, none, .mv (.c (.int .i64 0)), none⟩])
      (.keep [0, 4, 5] (.block 0 (.loop [0, 4, 5] (.seq (.seq (.ops [⟨some 7, none, .mv (.t 5), none⟩,
      ⟨some 8, none, .mv (.t 0), none⟩,
      ⟨some 9, none, .lens (.t 8), none⟩,
      ⟨some 10, none, .bin .lss (.t 7) (.t 9), none⟩,
      ⟨some 11, none, .mv (.t 10), none⟩,
      ⟨some 12, (some (11, true)), .mv (.t 5), none⟩,
      ⟨some 13, (some (11, true)), .bin .lss (.t 12) (.c (.int .i64 9)), none⟩,
      ⟨some 14, none, .pick (.t 11) (.t 13) (.c (.bool false)), none⟩])
          (.keep [0, 4, 5, 14] (.cond (.t 14)
           (.skip)
           (.exit 0))))
         (.keep [0, 4, 5] (.seq (.block 1 (.seq (.ops [⟨some 17, none, .mv (.t 0), none⟩,
      ⟨some 18, none, .mv (.t 5), none⟩,
      ⟨some 19, none, .idxs (.t 17) (.t 18), none⟩,
      ⟨some 6, none, .mv (.t 19), none⟩])
            (.keep [0, 4, 5, 6] (.seq (.ops [⟨some 20, none, .mv (.t 4), none⟩,
      ⟨some 21, none, .mv (.t 6), none⟩,
      ⟨some 22, none, .bin .and (.t 21) (.c (.int .u8 127)), none⟩,
      ⟨some 23, none, .conv .u64 (.t 22), none⟩,
      ⟨some 24, none, .mv (.t 5), none⟩,
      ⟨some 25, none, .bin .mul (.c (.int .i64 7)) (.t 24), none⟩,
      ⟨some 26, none, .bin .shl (.t 23) (.t 25), none⟩,
      ⟨some 27, none, .bin .or (.t 20) (.t 26), none⟩,
      ⟨some 4, none, .mv (.t 27), none⟩])
             (.keep [0, 4, 5, 6] (.seq (.seq (.ops [⟨some 28, none, .mv (.t 6), none⟩,
      ⟨some 29, none, .bin .geq (.t 28) (.c (.int .u8 128)), none⟩])
               (.keep [0, 4, 5, 6, 29] (.cond (.t 29)
                (.exit 1)
                (.skip))))
              (.keep [4, 5, 6] (.seq (.seq (.ops [⟨some 30, none, .mv (.t 5), none⟩,
      ⟨some 31, none, .bin .gtr (.t 30) (.c (.int .i64 0)), none⟩,
      ⟨some 32, none, .mv (.t 31), none⟩,
      ⟨some 33, (some (32, true)), .mv (.t 6), none⟩,
      ⟨some 34, (some (32, true)), .bin .eql (.t 33) (.c (.int .u8 0)), none⟩,
      ⟨some 35, none, .pick (.t 32) (.t 34) (.c (.bool false)), none⟩,
      ⟨some 36, none, .mv (.t 35), none⟩,
      ⟨some 37, (some (36, false)), .mv (.t 4), none⟩,
      ⟨some 38, (some (36, false)), .bin .gtr (.t 37) (.c (.int .u64 4611686018427387904)), none⟩,
      ⟨some 39, none, .pick (.t 36) (.c (.bool true)) (.t 38), none⟩])
                (.keep [4, 5, 39] (.cond (.t 39)
                 (.seq (.ops [⟨some 2, none, .mv (.c (.int .i64 0)), none⟩,
      ⟨some 3, none, .mv (.c (.int .i64 0)), none⟩])
                  (.ret))
                 (.skip))))
               (.keep [4, 5] (.seq (.ops [⟨some 40, none, .mv (.t 4), none⟩,
      ⟨some 41, none, .conv .i64 (.t 40), none⟩,
      ⟨some 42, none, .mv (.t 5), none⟩,
      ⟨some 43, none, .bin .add (.t 42) (.c (.int .i64 1)), none⟩,
      ⟨some 2, none, .mv (.t 41), none⟩,
      ⟨some 3, none, .mv (.t 43), none⟩])
                (.ret)))))))))))
          (.keep [0, 4, 5] (.ops [⟨some 15, none, .mv (.t 5), none⟩,
      ⟨some 16, none, .bin .add (.t 15) (.c (.int .i64 1)), none⟩,
      ⟨some 5, none, .mv (.t 16), none⟩])))))))))
     (.keep [] (.seq (.ops [⟨some 2, none, .mv (.c (.int .i64 0)), none⟩,
      ⟨some 3, none, .mv (.c (.int .i64 0)), none⟩])
      (.ret)))))))⟩
theorem F_pack_number_ok : chkFn Try.prog 95 F_pack_number = true := by kernel_rfl

/-- (*attorney/pack.In).count -/
def F_pack_In_count : AFn :=
  ⟨29, [.t 4], .seq (.ops [⟨some 4, none, .mv (.c (.int .i64 0)), none⟩])
   (.keep [0, 1] (.seq (.ops [⟨some 7, none, .mv (.t 0), none⟩,
      ⟨some 8, none, .call (.f 125) [(.t 7), (.c (.int .i64 1))], none⟩,
      ⟨some 5, none, .mv (.t 8), none⟩])
    (.keep [0, 1, 5] (.seq (.seq (.ops [⟨some 9, none, .mv (.t 0), none⟩,
      ⟨some 10, none, .nilck (.t 9), none⟩,
      ⟨some 11, none, .fld 0 (.t 10), none⟩,
      ⟨some 12, none, .call (.f 92) [(.t 11)], none⟩,
      ⟨some 13, none, .not (.t 12), none⟩])
      (.keep [0, 1, 5, 13] (.cond (.t 13)
       (.seq (.ops [⟨some 4, none, .mv (.c (.int .i64 0)), none⟩])
        (.ret))
       (.skip))))
     (.keep [0, 1, 5] (.seq (.ops [⟨some 14, none, .mv (.t 5), none⟩,
      ⟨some 15, none, .idxs (.t 14) (.c (.int .i64 0)), none⟩,
      ⟨some 16, none, .conv .i64 (.t 15), none⟩,
      ⟨some 6, none, .mv (.t 16), none⟩])
      (.keep [0, 1, 6] (.seq (.seq (.ops [⟨some 17, none, .mv (.t 6), none⟩,
      ⟨some 18, none, .bin .lss (.t 17) (.c (.int .i64 1)), none⟩,
      ⟨some 19, none, .mv (.t 18), none⟩,
      ⟨some 20, (some (19, false)), .mv (.t 6), none⟩,
      ⟨some 21, (some (19, false)), .mv (.t 1), none⟩,
      ⟨some 22, (some (19, false)), .bin .gtr (.t 20) (.t 21), none⟩,
      ⟨some 23, none, .pick (.t 19) (.c (.bool true)) (.t 22), none⟩])
        (.keep [0, 6, 23] (.cond (.t 23)
         (.seq (.ops [⟨some 24, none, .mv (.t 0), none⟩,
      ⟨some 25, none, .nilck (.t 24), none⟩,
      ⟨some 26, none, .fld 0 (.t 25), none⟩,
      ⟨some 27, none, .call (.f 91) [(.t 26)], none⟩])
          (.keep [] (.seq (.ops [⟨some 4, none, .mv (.c (.int .i64 0)), none⟩])
           (.ret))))
         (.skip))))
       (.keep [6] (.seq (.ops [⟨some 28, none, .mv (.t 6), none⟩,
      ⟨some 4, none, .mv (.t 28), none⟩])
        (.ret)))))))))))⟩
theorem F_pack_In_count_ok : chkFn Try.prog 96 F_pack_In_count = true := by kernel_rfl

/-- (*attorney/pack.In).Word -/
def F_pack_In_Word : AFn :=
  ⟨17, [.t 2], .seq (.ops [⟨some 2, none, .mv (.c (.str ⟨#[]⟩)), none⟩])
   (.keep [0] (.seq (.ops [⟨some 4, none, .mv (.t 0), none⟩,
      ⟨some 5, none, .mv (.t 0), none⟩,
      ⟨some 6, none, .call (.f 96) [(.t 5), (.c (.int .i64 8))], none⟩,
      ⟨some 7, none, .bin .mul (.c (.int .i64 2)) (.t 6), none⟩,
      ⟨some 8, none, .call (.f 125) [(.t 4), (.t 7)], none⟩,
      ⟨some 3, none, .mv (.t 8), none⟩])
    (.keep [0, 3] (.seq (.seq (.ops [⟨some 9, none, .mv (.t 3), none⟩,
      ⟨some 10, none, .call (.f 87) [(.t 9)], none⟩,
      ⟨some 11, none, .not (.t 10), none⟩])
      (.keep [0, 3, 11] (.cond (.t 11)
       (.seq (.ops [⟨some 12, none, .mv (.t 0), none⟩,
      ⟨some 13, none, .nilck (.t 12), none⟩,
      ⟨some 14, none, .fld 0 (.t 13), none⟩,
      ⟨some 15, none, .call (.f 91) [(.t 14)], none⟩])
        (.keep [] (.seq (.ops [⟨some 2, none, .mv (.c (.str ⟨#[]⟩)), none⟩])
         (.ret))))
       (.skip))))
     (.keep [3] (.seq (.ops [⟨some 16, none, .mv (.t 3), none⟩,
      ⟨some 2, none, .mv (.t 16), none⟩])
      (.ret)))))))⟩
theorem F_pack_In_Word_ok : chkFn Try.prog 97 F_pack_In_Word = true := by kernel_rfl

/-- (*attorney/pack.In).Left -/
def F_pack_In_Left : AFn :=
  ⟨18, [.t 2], .seq (.ops [⟨some 2, none, .mv (.c (.int .i64 0)), none⟩])
   (.keep [0] (.seq (.seq (.ops [⟨some 3, none, .mv (.t 0), none⟩,
      ⟨some 4, none, .nilck (.t 3), none⟩,
      ⟨some 5, none, .fld 0 (.t 4), none⟩,
      ⟨some 6, none, .call (.f 92) [(.t 5)], none⟩,
      ⟨some 7, none, .not (.t 6), none⟩])
     (.keep [0, 7] (.cond (.t 7)
      (.seq (.ops [⟨some 2, none, .mv (.c (.int .i64 0)), none⟩])
       (.ret))
      (.skip))))
    (.keep [0] (.seq (.draw [2] [⟨some 8, none, .mv (.t 0), none⟩,
      ⟨some 9, none, .nilck (.t 8), none⟩,
      ⟨some 10, none, .fld 1 (.t 9), none⟩,
      ⟨some 11, none, .load none (.t 10), none⟩,
      ⟨some 12, none, .lens (.t 11), none⟩,
      ⟨some 13, none, .mv (.t 0), none⟩,
      ⟨some 14, none, .nilck (.t 13), none⟩,
      ⟨some 15, none, .fld 2 (.t 14), none⟩,
      ⟨some 16, none, .load none (.t 15), none⟩,
      ⟨some 17, none, .bin .sub (.t 12) (.t 16), none⟩,
      ⟨some 2, none, .mv (.t 17), none⟩])
     (.ret)))))⟩
theorem F_pack_In_Left_ok : chkFn Try.prog 98 F_pack_In_Left = true := by kernel_rfl

/-- (*attorney/attorneyref07.In).Word -/
def F_ref07_In_Word : AFn :=
  ⟨99, [.t 2], .seq (.ops [⟨some 2, none, .mv (.c (.str ⟨#[]⟩)), none⟩])
   (.keep [0] (.seq (.seq (.draw [0, 20] [⟨some 5, none, .mv (.t 0), none⟩,
      ⟨some 6, none, .nilck (.t 5), none⟩,
      ⟨some 7, none, .fld 2 (.t 6), none⟩,
      ⟨some 8, none, .load none (.t 7), none⟩,
      ⟨some 9, none, .mv (.t 8), none⟩,
      ⟨some 10, (some (9, false)), .mv (.t 0), none⟩,
      ⟨some 11, (some (9, false)), .nilck (.t 10), none⟩,
      ⟨some 12, (some (9, false)), .fld 1 (.t 11), none⟩,
      ⟨some 13, (some (9, false)), .load none (.t 12), none⟩,
      ⟨some 14, (some (9, false)), .mv (.t 0), none⟩,
      ⟨some 15, (some (9, false)), .nilck (.t 14), none⟩,
      ⟨some 16, (some (9, false)), .fld 0 (.t 15), none⟩,
      ⟨some 17, (some (9, false)), .load none (.t 16), none⟩,
      ⟨some 18, (some (9, false)), .lens (.t 17), none⟩,
      ⟨some 19, (some (9, false)), .bin .geq (.t 13) (.t 18), none⟩,
      ⟨some 20, none, .pick (.t 9) (.c (.bool true)) (.t 19), none⟩])
     (.keep [0, 20] (.cond (.t 20)
      (.seq (.ops [⟨some 21, none, .mv (.t 0), none⟩,
      ⟨some 22, none, .nilck (.t 21), none⟩,
      ⟨some 23, none, .fld 2 (.t 22), none⟩,
      ⟨none, none, .store 1 (.t 23) (.c (.bool true)), none⟩])
       (.keep [] (.seq (.ops [⟨some 2, none, .mv (.c (.str ⟨#[]⟩)), none⟩])
        (.ret))))
      (.skip))))
    (.keep [0] (.seq (.draw [0, 3] [⟨some 24, none, .mv (.t 0), none⟩,
      ⟨some 25, none, .nilck (.t 24), none⟩,
      ⟨some 26, none, .fld 0 (.t 25), none⟩,
      ⟨some 27, none, .load none (.t 26), none⟩,
      ⟨some 28, none, .mv (.t 0), none⟩,
      ⟨some 29, none, .nilck (.t 28), none⟩,
      ⟨some 30, none, .fld 1 (.t 29), none⟩,
      ⟨some 31, none, .load none (.t 30), none⟩,
      ⟨some 32, none, .idxs (.t 27) (.t 31), none⟩,
      ⟨some 33, none, .conv .i64 (.t 32), none⟩,
      ⟨some 34, none, .bin .mul (.c (.int .i64 2)) (.t 33), none⟩,
      ⟨some 3, none, .mv (.t 34), none⟩])
     (.keep [0, 3] (.seq (.seq (.draw [0, 3, 68] [⟨some 35, none, .mv (.t 0), none⟩,
      ⟨some 36, none, .nilck (.t 35), none⟩,
      ⟨some 37, none, .fld 1 (.t 36), none⟩,
      ⟨some 38, none, .load none (.t 37), none⟩,
      ⟨some 39, none, .bin .add (.t 38) (.c (.int .i64 1)), none⟩,
      ⟨some 40, none, .mv (.t 3), none⟩,
      ⟨some 41, none, .bin .add (.t 39) (.t 40), none⟩,
      ⟨some 42, none, .mv (.t 0), none⟩,
      ⟨some 43, none, .nilck (.t 42), none⟩,
      ⟨some 44, none, .fld 0 (.t 43), none⟩,
      ⟨some 45, none, .load none (.t 44), none⟩,
      ⟨some 46, none, .lens (.t 45), none⟩,
      ⟨some 47, none, .bin .gtr (.t 41) (.t 46), none⟩,
      ⟨some 48, none, .mv (.t 47), none⟩,
      ⟨some 49, (some (48, false)), .mv (.t 0), none⟩,
      ⟨some 50, (some (48, false)), .nilck (.t 49), none⟩,
      ⟨some 51, (some (48, false)), .fld 0 (.t 50), none⟩,
      ⟨some 52, (some (48, false)), .load none (.t 51), none⟩,
      ⟨some 53, (some (48, false)), .mv (.t 0), none⟩,
      ⟨some 54, (some (48, false)), .nilck (.t 53), none⟩,
      ⟨some 55, (some (48, false)), .fld 1 (.t 54), none⟩,
      ⟨some 56, (some (48, false)), .load none (.t 55), none⟩,
      ⟨some 57, (some (48, false)), .bin .add (.t 56) (.c (.int .i64 1)), none⟩,
      ⟨some 58, (some (48, false)), .mv (.t 0), none⟩,
      ⟨some 59, (some (48, false)), .nilck (.t 58), none⟩,
      ⟨some 60, (some (48, false)), .fld 1 (.t 59), none⟩,
      ⟨some 61, (some (48, false)), .load none (.t 60), none⟩,
      ⟨some 62, (some (48, false)), .bin .add (.t 61) (.c (.int .i64 1)), none⟩,
      ⟨some 63, (some (48, false)), .mv (.t 3), none⟩,
      ⟨some 64, (some (48, false)), .bin .add (.t 62) (.t 63), none⟩,
      ⟨some 65, (some (48, false)), .slcs (.t 52) (some (.t 57)) (some (.t 64)), none⟩,
      ⟨some 66, (some (48, false)), .call (.f 89) [(.t 65)], none⟩,
      ⟨some 67, (some (48, false)), .not (.t 66), none⟩,
      ⟨some 68, none, .pick (.t 48) (.c (.bool true)) (.t 67), none⟩])
       (.keep [0, 3, 68] (.cond (.t 68)
        (.seq (.ops [⟨some 69, none, .mv (.t 0), none⟩,
      ⟨some 70, none, .nilck (.t 69), none⟩,
      ⟨some 71, none, .fld 2 (.t 70), none⟩,
      ⟨none, none, .store 1 (.t 71) (.c (.bool true)), none⟩])
         (.keep [] (.seq (.ops [⟨some 2, none, .mv (.c (.str ⟨#[]⟩)), none⟩])
          (.ret))))
        (.skip))))
      (.keep [0, 3] (.seq (.draw [0, 3, 4] [⟨some 72, none, .mv (.t 0), none⟩,
      ⟨some 73, none, .nilck (.t 72), none⟩,
      ⟨some 74, none, .fld 0 (.t 73), none⟩,
      ⟨some 75, none, .load none (.t 74), none⟩,
      ⟨some 76, none, .mv (.t 0), none⟩,
      ⟨some 77, none, .nilck (.t 76), none⟩,
      ⟨some 78, none, .fld 1 (.t 77), none⟩,
      ⟨some 79, none, .load none (.t 78), none⟩,
      ⟨some 80, none, .bin .add (.t 79) (.c (.int .i64 1)), none⟩,
      ⟨some 81, none, .mv (.t 0), none⟩,
      ⟨some 82, none, .nilck (.t 81), none⟩,
      ⟨some 83, none, .fld 1 (.t 82), none⟩,
      ⟨some 84, none, .load none (.t 83), none⟩,
      ⟨some 85, none, .bin .add (.t 84) (.c (.int .i64 1)), none⟩,
      ⟨some 86, none, .mv (.t 3), none⟩,
      ⟨some 87, none, .bin .add (.t 85) (.t 86), none⟩,
      ⟨some 88, none, .slcs (.t 75) (some (.t 80)) (some (.t 87)), none⟩,
      ⟨some 4, none, .mv (.t 88), none⟩])
       (.keep [0, 3, 4] (.seq (.ops [⟨some 89, none, .mv (.t 0), none⟩,
      ⟨some 90, none, .nilck (.t 89), none⟩,
      ⟨some 91, none, .fld 1 (.t 90), none⟩,
      ⟨some 92, none, .load none (.t 91), none⟩,
      ⟨some 93, none, .mv (.t 3), none⟩,
      ⟨some 94, none, .bin .add (.c (.int .i64 1)) (.t 93), none⟩,
      ⟨some 95, none, .bin .add (.t 92) (.t 94), none⟩,
      ⟨some 96, none, .nilck (.t 89), none⟩,
      ⟨some 97, none, .fld 1 (.t 96), none⟩,
      ⟨none, none, .store 1 (.t 97) (.t 95), none⟩])
        (.keep [4] (.seq (.ops [⟨some 98, none, .mv (.t 4), none⟩,
      ⟨some 2, none, .mv (.t 98), none⟩])
         (.ret)))))))))))))⟩
theorem F_ref07_In_Word_ok : chkFn Try.prog 99 F_ref07_In_Word = true := by kernel_rfl

/-- attorney/word.odd -/
def F_word_odd : AFn :=
  ⟨7, [.t 2], .seq (.ops [⟨some 2, none, .mv (.c (.bool false)), none⟩])
   (.keep [0] (.seq (.ops [⟨some 3, none, .mv (.t 0), none⟩,
      ⟨some 4, none, .lens (.t 3), none⟩,
      ⟨some 5, none, .bin .rem (.t 4) (.c (.int .i64 2)), none⟩,
      ⟨some 6, none, .bin .neq (.t 5) (.c (.int .i64 0)), none⟩,
      ⟨some 2, none, .mv (.t 6), none⟩])
    (.ret)))⟩
theorem F_word_odd_ok : chkFn Try.prog 121 F_word_odd = true := by kernel_rfl

/-- attorney/word.Len -/
def F_word_Len : AFn :=
  ⟨6, [.t 2], .seq (.ops [⟨some 2, none, .mv (.c (.int .i64 0)), none⟩])
   (.keep [0] (.seq (.ops [⟨some 3, none, .mv (.t 0), none⟩,
      ⟨some 4, none, .lens (.t 3), none⟩,
      ⟨some 5, none, .bin .quo (.t 4) (.c (.int .i64 2)), none⟩,
      ⟨some 2, none, .mv (.t 5), none⟩])
    (.ret)))⟩
theorem F_word_Len_ok : chkFn Try.prog 122 F_word_Len = true := by kernel_rfl

/-- attorney/word.At -/
def F_word_At : AFn :=
  ⟨26, [.t 4], .seq (.ops [⟨some 4, none, .mv (.c (.int .u16 0)), none⟩])
   (.keep [0, 1] (.seq (.seq (.ops [⟨some 5, none, .mv (.t 1), none⟩,
      ⟨some 6, none, .bin .lss (.t 5) (.c (.int .i64 0)), none⟩,
      ⟨some 7, none, .mv (.t 6), none⟩,
      ⟨some 8, (some (7, false)), .mv (.t 1), none⟩,
      ⟨some 9, (some (7, false)), .mv (.t 0), none⟩,
      ⟨some 10, (some (7, false)), .call (.f 122) [(.t 9)], none⟩,
      ⟨some 11, (some (7, false)), .bin .geq (.t 8) (.t 10), none⟩,
      ⟨some 12, none, .pick (.t 7) (.c (.bool true)) (.t 11), none⟩])
     (.keep [0, 1, 12] (.cond (.t 12)
      (.seq (.ops [⟨some 4, none, .mv (.c (.int .u16 0)), none⟩])
       (.ret))
      (.skip))))
    (.keep [0, 1] (.seq (.draw [4] [⟨some 13, none, .mv (.t 0), none⟩,
      ⟨some 14, none, .mv (.t 1), none⟩,
      ⟨some 15, none, .bin .mul (.c (.int .i64 2)) (.t 14), none⟩,
      ⟨some 16, none, .idxs (.t 13) (.t 15), none⟩,
      ⟨some 17, none, .conv .u16 (.t 16), none⟩,
      ⟨some 18, none, .bin .shl (.t 17) (.c (.int .u64 8)), none⟩,
      ⟨some 19, none, .mv (.t 0), none⟩,
      ⟨some 20, none, .mv (.t 1), none⟩,
      ⟨some 21, none, .bin .mul (.c (.int .i64 2)) (.t 20), none⟩,
      ⟨some 22, none, .bin .add (.t 21) (.c (.int .i64 1)), none⟩,
      ⟨some 23, none, .idxs (.t 19) (.t 22), none⟩,
      ⟨some 24, none, .conv .u16 (.t 23), none⟩,
      ⟨some 25, none, .bin .or (.t 18) (.t 24), none⟩,
      ⟨some 4, none, .mv (.t 25), none⟩])
     (.ret)))))⟩
theorem F_word_At_ok : chkFn Try.prog 123 F_word_At = true := by kernel_rfl

/-- attorney/attorneyref02.Atoms -/
def F_ref02_Atoms : AFn :=
  ⟨28, [.t 2], .seq (.ops [⟨some 2, none, .mv (.c (.lst .clip 0 [])), none⟩])
   (.keep [0] (.seq (.ops [⟨some 5, none, .bsl 69 1 0 [] [], none⟩,
      ⟨some 3, none, .mvo 5, none⟩])
    (.keep [0, 3] (.seq (.seq (.ops [⟨some 4, none, .mv (.c (.int .i64 0)), none⟩])
      (.keep [0, 3, 4] (.block 0 (.loop [0, 3, 4] (.seq (.seq (.ops [⟨some 6, none, .mv (.t 4), none⟩,
      ⟨some 7, none, .bin .add (.t 6) (.c (.int .i64 1)), none⟩,
      ⟨some 8, none, .mv (.t 0), none⟩,
      ⟨some 9, none, .lens (.t 8), none⟩,
      ⟨some 10, none, .bin .lss (.t 7) (.t 9), none⟩])
          (.keep [0, 3, 4, 10] (.cond (.t 10)
           (.skip)
           (.exit 0))))
         (.keep [0, 3, 4] (.seq (.block 1 (.draw [0, 3, 4] [⟨some 13, none, .mvo 3, none⟩,
      ⟨some 14, none, .mv (.t 0), none⟩,
      ⟨some 15, none, .mv (.t 4), none⟩,
      ⟨some 16, none, .idxs (.t 14) (.t 15), none⟩,
      ⟨some 17, none, .conv .u16 (.t 16), none⟩,
      ⟨some 18, none, .bin .mul (.t 17) (.c (.int .u16 256)), none⟩,
      ⟨some 19, none, .mv (.t 0), none⟩,
      ⟨some 20, none, .mv (.t 4), none⟩,
      ⟨some 21, none, .bin .add (.t 20) (.c (.int .i64 1)), none⟩,
      ⟨some 22, none, .idxs (.t 19) (.t 21), none⟩,
      ⟨some 23, none, .conv .u16 (.t 22), none⟩,
      ⟨some 24, none, .bin .add (.t 18) (.t 23), none⟩,
      ⟨some 25, none, .bsl 69 1 1 [(.int .u16 0)] [(0, 1, (.t 24))], none⟩,
      ⟨some 26, none, .appo 69 1 2 13 (.t 25), none⟩,
      ⟨some 3, none, .mvo 26, none⟩]))
          (.keep [0, 3, 4] (.ops [⟨some 11, none, .mv (.t 4), none⟩,
      ⟨some 12, none, .bin .add (.t 11) (.c (.int .i64 2)), none⟩,
      ⟨some 4, none, .mv (.t 12), none⟩])))))))))
     (.keep [3] (.seq (.ops [⟨some 27, none, .mv (.t 3), none⟩,
      ⟨some 2, none, .mv (.t 27), none⟩])
      (.ret)))))))⟩
theorem F_ref02_Atoms_ok : chkFn Try.prog 124 F_ref02_Atoms = true := by kernel_rfl

/-- (*attorney/pack.In).take -/
def F_pack_In_take : AFn :=
  ⟨57, [.t 4], .seq (.ops [⟨some 4, none, .mv (.c (.str ⟨#[]⟩)), none⟩])
   (.keep [0, 1] (.seq (.seq (.draw [0, 1, 23] [⟨some 6, none, .mv (.t 0), none⟩,
      ⟨some 7, none, .nilck (.t 6), none⟩,
      ⟨some 8, none, .fld 0 (.t 7), none⟩,
      ⟨some 9, none, .calli (.f 92) [(.t 8)], none⟩,
      ⟨some 10, none, .mv (.t 9), none⟩,
      ⟨some 11, (some (10, true)), .mv (.t 1), none⟩,
      ⟨some 12, (some (10, true)), .mv (.t 0), none⟩,
      ⟨some 13, (some (10, true)), .nilck (.t 12), none⟩,
      ⟨some 14, (some (10, true)), .fld 1 (.t 13), none⟩,
      ⟨some 15, (some (10, true)), .load none (.t 14), none⟩,
      ⟨some 16, (some (10, true)), .lens (.t 15), none⟩,
      ⟨some 17, (some (10, true)), .mv (.t 0), none⟩,
      ⟨some 18, (some (10, true)), .nilck (.t 17), none⟩,
      ⟨some 19, (some (10, true)), .fld 2 (.t 18), none⟩,
      ⟨some 20, (some (10, true)), .load none (.t 19), none⟩,
      ⟨some 21, (some (10, true)), .bin .sub (.t 16) (.t 20), none⟩,
      ⟨some 22, (some (10, true)), .bin .gtr (.t 11) (.t 21), none⟩,
      ⟨some 23, none, .pick (.t 10) (.t 22) (.c (.bool false)), none⟩])
     (.keep [0, 1, 23] (.cond (.t 23)
      (.ops [⟨some 24, none, .mv (.t 0), none⟩,
      ⟨some 25, none, .nilck (.t 24), none⟩,
      ⟨some 26, none, .fld 0 (.t 25), none⟩,
      ⟨some 27, none, .call (.f 91) [(.t 26)], none⟩])
      (.skip))))
    (.keep [0, 1] (.seq (.seq (.ops [⟨some 28, none, .mv (.t 0), none⟩,
      ⟨some 29, none, .nilck (.t 28), none⟩,
      ⟨some 30, none, .fld 0 (.t 29), none⟩,
      ⟨some 31, none, .call (.f 92) [(.t 30)], none⟩,
      ⟨some 32, none, .not (.t 31), none⟩])
      (.keep [0, 1, 32] (.cond (.t 32)
       (.seq (.ops [⟨some 4, none, .mv (.c (.str ⟨#[]⟩)), none⟩])
        (.ret))
       (.skip))))
     (.keep [0, 1] (.seq (.draw [0, 1, 5] [⟨some 33, none, .mv (.t 0), none⟩,
      ⟨some 34, none, .nilck (.t 33), none⟩,
      ⟨some 35, none, .fld 1 (.t 34), none⟩,
      ⟨some 36, none, .load none (.t 35), none⟩,
      ⟨some 37, none, .mv (.t 0), none⟩,
      ⟨some 38, none, .nilck (.t 37), none⟩,
      ⟨some 39, none, .fld 2 (.t 38), none⟩,
      ⟨some 40, none, .load none (.t 39), none⟩,
      ⟨some 41, none, .mv (.t 0), none⟩,
      ⟨some 42, none, .nilck (.t 41), none⟩,
      ⟨some 43, none, .fld 2 (.t 42), none⟩,
      ⟨some 44, none, .load none (.t 43), none⟩,
      ⟨some 45, none, .mv (.t 1), none⟩,
      ⟨some 46, none, .bin .add (.t 44) (.t 45), none⟩,
      ⟨some 47, none, .slcs (.t 36) (some (.t 40)) (some (.t 46)), none⟩,
      ⟨some 5, none, .mv (.t 47), none⟩])
      (.keep [0, 1, 5] (.seq (.ops [⟨some 48, none, .mv (.t 0), none⟩,
      ⟨some 49, none, .nilck (.t 48), none⟩,
      ⟨some 50, none, .fld 2 (.t 49), none⟩,
      ⟨some 51, none, .load none (.t 50), none⟩,
      ⟨some 52, none, .mv (.t 1), none⟩,
      ⟨some 53, none, .bin .add (.t 51) (.t 52), none⟩,
      ⟨some 54, none, .nilck (.t 48), none⟩,
      ⟨some 55, none, .fld 2 (.t 54), none⟩,
      ⟨none, none, .store 1 (.t 55) (.t 53), none⟩])
       (.keep [5] (.seq (.ops [⟨some 56, none, .mv (.t 5), none⟩,
      ⟨some 4, none, .mv (.t 56), none⟩])
        (.ret)))))))))))⟩
theorem F_pack_In_take_ok : chkFn Try.prog 125 F_pack_In_take = true := by kernel_rfl

end Go.Proofs.Ytcbcnbefaggnhaa

/- What the functions of packages word and set tell, over the abstract code. -/
namespace Go.Proofs.Ytcbcnbefaggnhaa
set_option linter.unusedSimpArgs false
set_option linter.unusedVariables false
open Go.RowKit Go.Lib

theorem bool_eq {p q : Bool} (h : p = q) : AV.bool p = .bool q := by rw [h]
theorem int_eq {k : IntKind} {a b : Int} (h : a = b) : AV.int k a = .int k b := by rw [h]
theorem byteAt_eq {s : ByteArray} {i : Nat} (h : i < s.size) : byteAt s i = s[i].toNat := by
  have : i < s.data.toList.length := by simpa using h
  simp only [byteAt, List.getElem?_eq_getElem this]; rfl

theorem p_wlen (s : ByteArray) (hs : s.size ≤ 9223372036854775807) : PCalls Try.prog 122 [.str s] (.int .i64 ((s.size / 2 : Nat) : Int)) := by
  refine pcalls_of (by first | rfl | simp [free, free.frees, frees_str, frees_u8, frees_u16]) (by first | rfl | simp [free, free.frees, frees_str, frees_u8, frees_u16]) (acalls_of mixed F_word_Len_ok (Nat.le_of_ble_eq_true rfl) ?_); simp only [F_word_Len, wk,if_true,if_false,forall_const,implies_true,ne_eq,eq_self,Nat.reduceEqDiff,Nat.reduceAdd,Nat.reduceMul,Nat.reduceSub,Nat.reduceLeDiff,Nat.reduceLT,Int.reduceEq,Int.reduceLT,Int.reduceLE,Int.reduceAdd,Int.reduceSub,Int.reduceMul,Int.reduceNeg,Int.reduceNe,reduceCtorEq,Int.reduceToNat,↓reduceIte]
  rw [Int.tdiv_eq_ediv_of_nonneg (by omega)]
  exact ⟨inR_of (by omega) (by omega), rfl⟩
theorem p_wodd (s : ByteArray) : PCalls Try.prog 121 [.str s] (.bool (decide (s.size % 2 ≠ 0))) := by
  refine pcalls_of (by first | rfl | simp [free, free.frees, frees_str, frees_u8, frees_u16]) (by first | rfl | simp [free, free.frees, frees_str, frees_u8, frees_u16]) (acalls_of mixed F_word_odd_ok (Nat.le_of_ble_eq_true rfl) ?_); simp only [F_word_odd, wk,if_true,if_false,forall_const,implies_true,ne_eq,eq_self,Nat.reduceEqDiff,Nat.reduceAdd,Nat.reduceMul,Nat.reduceSub,Nat.reduceLeDiff,Nat.reduceLT,Int.reduceEq,Int.reduceLT,Int.reduceLE,Int.reduceAdd,Int.reduceSub,Int.reduceMul,Int.reduceNeg,Int.reduceNe,reduceCtorEq,Int.reduceToNat,↓reduceIte]
  rw [Int.tmod_eq_emod_of_nonneg (by omega)]
  refine bool_eq ?_
  rw [Bool.eq_iff_iff]; simp; omega
theorem or_word' (x y : Nat) (hx : x < 256) (hy : y < 256) : bitV .or .u16 (IntKind.u16.wrap (IntKind.u16.wrap (x : Int) * 2 ^ (min 8 IntKind.u16.bits))) (IntKind.u16.wrap (y : Int)) = ((x * 256 + y : Nat) : Int) := by
  have e1 : IntKind.u16.wrap (x : Int) = x := by rw [IntKind.wrap_u16]; omega
  have e2 : IntKind.u16.wrap (y : Int) = y := by rw [IntKind.wrap_u16]; omega
  have e3 : IntKind.u16.wrap ((x : Int) * 2 ^ (min 8 IntKind.u16.bits)) = ((x * 256 : Nat) : Int) := by
    rw [show (min 8 IntKind.u16.bits) = 8 by decide, IntKind.wrap_u16]; omega
  rw [e1, e2, e3]
  show bits .or .u16 _ _ = _
  rw [u16_or_nat _ _ (by omega) (by omega), nat_join 8 _ _ (by omega) (by omega)]
theorem p_wat (s : ByteArray) (i : Nat) (hs : s.size ≤ 9223372036854775807) (hi : 2 * i + 1 < s.size) : PCalls Try.prog 123 [.str s, .int .i64 i] (.int .u16 (atomAt s i)) := by
  refine pcalls_of (by first | rfl | simp [free, free.frees, frees_str, frees_u8, frees_u16]) (by first | rfl | simp [free, free.frees, frees_str, frees_u8, frees_u16]) (acalls_of mixed F_word_At_ok (Nat.le_of_ble_eq_true rfl) ?_); simp only [F_word_At, wk,if_true,if_false,forall_const,implies_true,ne_eq,eq_self,Nat.reduceEqDiff,Nat.reduceAdd,Nat.reduceMul,Nat.reduceSub,Nat.reduceLeDiff,Nat.reduceLT,Int.reduceEq,Int.reduceLT,Int.reduceLE,Int.reduceAdd,Int.reduceSub,Int.reduceMul,Int.reduceNeg,Int.reduceNe,reduceCtorEq,Int.reduceToNat,↓reduceIte]
  refine ⟨fun _ => ?_, fun h => by omega⟩
  refine PCalls.use (p_wlen s hs) ?_; simp only [wk,if_true,if_false,forall_const,implies_true,ne_eq,eq_self,Nat.reduceEqDiff,Nat.reduceAdd,Nat.reduceMul,Nat.reduceSub,Nat.reduceLeDiff,Nat.reduceLT,Int.reduceEq,Int.reduceLT,Int.reduceLE,Int.reduceAdd,Int.reduceSub,Int.reduceMul,Int.reduceNeg,Int.reduceNe,reduceCtorEq,Int.reduceToNat,↓reduceIte]
  refine ⟨fun h => by omega, fun _ => ?_⟩
  (repeat (refine And.intro (by first | omega | exact inR_of (by omega) (by omega) | exact ⟨by omega, by omega⟩ | exact ⟨by omega, by omega, by omega⟩ | rfl) ?_))
  refine int_eq ?_
  rw [show (2 * (i : Int)).toNat = 2 * i by omega, show (2 * (i : Int) + 1).toNat = 2 * i + 1 by omega, byteAt_eq (by omega), byteAt_eq hi, or_word' _ _ s[2 * i].toNat_lt s[2 * i + 1].toNat_lt]
  simp [atomAt, hi]
theorem p_wless (a b : ByteArray) : PCalls Try.prog 88 [.str a, .str b] (.bool (wless a b)) := by
  refine pcalls_of (by first | rfl | simp [free, free.frees, frees_str, frees_u8, frees_u16]) (by first | rfl | simp [free, free.frees, frees_str, frees_u8, frees_u16]) (acalls_of mixed F_word_Less_ok (Nat.le_of_ble_eq_true rfl) ?_); simp only [F_word_Less, wk,if_true,if_false,forall_const,implies_true,ne_eq,eq_self,Nat.reduceEqDiff,Nat.reduceAdd,Nat.reduceMul,Nat.reduceSub,Nat.reduceLeDiff,Nat.reduceLT,Int.reduceEq,Int.reduceLT,Int.reduceLE,Int.reduceAdd,Int.reduceSub,Int.reduceMul,Int.reduceNeg,Int.reduceNe,reduceCtorEq,Int.reduceToNat,↓reduceIte]
  refine ⟨fun h => bool_eq ?_, fun h => bool_eq ?_⟩
  · unfold wless; rw [if_neg (by omega)]; simp
  · unfold wless; rw [if_pos (by omega)]
theorem p_wmay (s : ByteArray) (hs : s.size ≤ 9223372036854775807) : PCalls Try.prog 87 [.str s] (.bool (wordMay s)) := by
  refine pcalls_of (by first | rfl | simp [free, free.frees, frees_str, frees_u8, frees_u16]) (by first | rfl | simp [free, free.frees, frees_str, frees_u8, frees_u16]) (acalls_of mixed F_word_May_ok (Nat.le_of_ble_eq_true rfl) ?_); simp only [F_word_May, wk,if_true,if_false,forall_const,implies_true,ne_eq,eq_self,Nat.reduceEqDiff,Nat.reduceAdd,Nat.reduceMul,Nat.reduceSub,Nat.reduceLeDiff,Nat.reduceLT,Int.reduceEq,Int.reduceLT,Int.reduceLE,Int.reduceAdd,Int.reduceSub,Int.reduceMul,Int.reduceNeg,Int.reduceNe,reduceCtorEq,Int.reduceToNat,↓reduceIte]
  refine PCalls.use (p_wodd s) ?_; simp only [wk,if_true,if_false,forall_const,implies_true,ne_eq,eq_self,Nat.reduceEqDiff,Nat.reduceAdd,Nat.reduceMul,Nat.reduceSub,Nat.reduceLeDiff,Nat.reduceLT,Int.reduceEq,Int.reduceLT,Int.reduceLE,Int.reduceAdd,Int.reduceSub,Int.reduceMul,Int.reduceNeg,Int.reduceNe,reduceCtorEq,Int.reduceToNat,↓reduceIte]
  refine ⟨fun ho => ?_, fun ho => bool_eq ?_⟩
  rotate_left
  · simp only [wordMay]; symm; rw [decide_eq_false_iff_not]; omega
  refine PCalls.use (p_wlen s hs) ?_; simp only [wk,if_true,if_false,forall_const,implies_true,ne_eq,eq_self,Nat.reduceEqDiff,Nat.reduceAdd,Nat.reduceMul,Nat.reduceSub,Nat.reduceLeDiff,Nat.reduceLT,Int.reduceEq,Int.reduceLT,Int.reduceLE,Int.reduceAdd,Int.reduceSub,Int.reduceMul,Int.reduceNeg,Int.reduceNe,reduceCtorEq,Int.reduceToNat,↓reduceIte]
  refine ⟨fun h1 => ?_, fun h1 => bool_eq ?_⟩
  rotate_left
  · simp only [wordMay]; symm; rw [decide_eq_false_iff_not]; omega
  refine PCalls.use (p_wlen s hs) ?_; simp only [wk,if_true,if_false,forall_const,implies_true,ne_eq,eq_self,Nat.reduceEqDiff,Nat.reduceAdd,Nat.reduceMul,Nat.reduceSub,Nat.reduceLeDiff,Nat.reduceLT,Int.reduceEq,Int.reduceLT,Int.reduceLE,Int.reduceAdd,Int.reduceSub,Int.reduceMul,Int.reduceNeg,Int.reduceNe,reduceCtorEq,Int.reduceToNat,↓reduceIte]
  refine ⟨fun h2 => bool_eq ?_, fun h2 => ?_⟩
  · simp only [wordMay]; symm; rw [decide_eq_false_iff_not]; omega
  refine PCalls.use (p_wlen s hs) ?_; simp only [wk,if_true,if_false,forall_const,implies_true,ne_eq,eq_self,Nat.reduceEqDiff,Nat.reduceAdd,Nat.reduceMul,Nat.reduceSub,Nat.reduceLeDiff,Nat.reduceLT,Int.reduceEq,Int.reduceLT,Int.reduceLE,Int.reduceAdd,Int.reduceSub,Int.reduceMul,Int.reduceNeg,Int.reduceNe,reduceCtorEq,Int.reduceToNat,↓reduceIte]
  refine W_loop (fun n fr h => ∃ i : Nat, i ≤ s.size / 2 ∧ n = s.size / 2 - i ∧ fr = [(0, .str s), (17, .int .i64 ((s.size / 2 : Nat) : Int)), (18, .int .i64 i)] ∧ (∀ j, j < i → atomAt s j ≠ 0)) (s.size / 2) ⟨0, by omega, by omega, rfl, fun j hj => by omega⟩ ?_
  rintro n fr h ⟨i, hi, rfl, rfl, hall⟩
  simp only [wk,if_true,if_false,forall_const,implies_true,ne_eq,eq_self,Nat.reduceEqDiff,Nat.reduceAdd,Nat.reduceMul,Nat.reduceSub,Nat.reduceLeDiff,Nat.reduceLT,Int.reduceEq,Int.reduceLT,Int.reduceLE,Int.reduceAdd,Int.reduceSub,Int.reduceMul,Int.reduceNeg,Int.reduceNe,reduceCtorEq,Int.reduceToNat,↓reduceIte]
  refine ⟨fun hlt => ?_, fun hge => bool_eq ?_⟩
  · refine PCalls.use (p_wat s i hs (by omega)) ?_; simp only [wk,if_true,if_false,forall_const,implies_true,ne_eq,eq_self,Nat.reduceEqDiff,Nat.reduceAdd,Nat.reduceMul,Nat.reduceSub,Nat.reduceLeDiff,Nat.reduceLT,Int.reduceEq,Int.reduceLT,Int.reduceLE,Int.reduceAdd,Int.reduceSub,Int.reduceMul,Int.reduceNeg,Int.reduceNe,reduceCtorEq,Int.reduceToNat,↓reduceIte]
    refine ⟨fun h0 => bool_eq ?_, fun h0 => ⟨inR_of (by omega) (by omega), s.size / 2 - (i + 1), by omega, i + 1, by omega, rfl, rfl, fun j hj => ?_⟩⟩
    · simp only [wordMay]; symm; rw [decide_eq_false_iff_not]; rintro ⟨_, _, _, h4⟩; exact h4 i (by omega) (by omega)
    · by_cases e : j = i
      · subst e; omega
      · exact hall j (by omega)
  · simp only [wordMay]; symm; rw [decide_eq_true_eq]; exact ⟨by omega, by omega, by omega, fun j hj => hall j (by omega)⟩

/-- a word of a list of words -/
theorem drop_str {l : List ByteArray} {i : Nat} (h : i < l.length) : (l.map AV.str).drop i = AV.str l[i] :: (l.map AV.str).drop (i + 1) := by
  rw [List.drop_eq_getElem_cons (by simpa using h)]; simp
theorem p_smay (l : List ByteArray) (hl : l.length ≤ 9223372036854775807) (hs : ∀ x ∈ l, x.size ≤ 9223372036854775807) : PCalls Try.prog 52 [.lst .ro l.length (l.map .str)] (.bool (setMay l)) := by
  refine pcalls_of (by first | rfl | simp [free, free.frees, frees_str, frees_u8, frees_u16]) (by first | rfl | simp [free, free.frees, frees_str, frees_u8, frees_u16]) (acalls_of mixed F_set_May_ok (Nat.le_of_ble_eq_true rfl) ?_); simp only [F_set_May, wk,if_true,if_false,forall_const,implies_true,ne_eq,eq_self,Nat.reduceEqDiff,Nat.reduceAdd,Nat.reduceMul,Nat.reduceSub,Nat.reduceLeDiff,Nat.reduceLT,Int.reduceEq,Int.reduceLT,Int.reduceLE,Int.reduceAdd,Int.reduceSub,Int.reduceMul,Int.reduceNeg,Int.reduceNe,reduceCtorEq,Int.reduceToNat,↓reduceIte]
  refine ⟨fun h1 => ?_, fun h1 => bool_eq (setMay_len (by omega)).symm⟩
  refine ⟨fun h2 => bool_eq (setMay_len (by omega)).symm, fun h2 => ?_⟩
  refine W_loop (fun n fr h => ∃ i : Nat, i ≤ l.length ∧ n = l.length - i ∧ fr = [(0, .lst .ro l.length (l.map .str)), (13, .lst .ro l.length (l.map .str)), (14, .int .i64 l.length), (15, .int .i64 i)] ∧ risingTo l i = true) l.length ⟨0, by omega, by omega, rfl, risingTo_zero l⟩ ?_
  rintro n fr h ⟨i, hi, rfl, rfl, hris⟩
  simp only [wk,if_true,if_false,forall_const,implies_true,ne_eq,eq_self,Nat.reduceEqDiff,Nat.reduceAdd,Nat.reduceMul,Nat.reduceSub,Nat.reduceLeDiff,Nat.reduceLT,Int.reduceEq,Int.reduceLT,Int.reduceLE,Int.reduceAdd,Int.reduceSub,Int.reduceMul,Int.reduceNeg,Int.reduceNe,reduceCtorEq,Int.reduceToNat,↓reduceIte]
  refine ⟨fun hlt => ?_, fun hge => bool_eq ?_⟩
  · have hil : i < l.length := by omega
    have hget : l[i]? = some l[i] := by simp [hil]
    refine ⟨⟨by omega, hlt⟩, ?_⟩
    rw [show (i : Int).toNat = i by omega, drop_str hil]
    simp only [wk,if_true,if_false,forall_const,implies_true,ne_eq,eq_self,Nat.reduceEqDiff,Nat.reduceAdd,Nat.reduceMul,Nat.reduceSub,Nat.reduceLeDiff,Nat.reduceLT,Int.reduceEq,Int.reduceLT,Int.reduceLE,Int.reduceAdd,Int.reduceSub,Int.reduceMul,Int.reduceNeg,Int.reduceNe,reduceCtorEq,Int.reduceToNat,↓reduceIte]
    refine PCalls.use (p_wmay l[i] (hs _ (List.getElem_mem hil))) ?_; simp only [wk,if_true,if_false,forall_const,implies_true,ne_eq,eq_self,Nat.reduceEqDiff,Nat.reduceAdd,Nat.reduceMul,Nat.reduceSub,Nat.reduceLeDiff,Nat.reduceLT,Int.reduceEq,Int.reduceLT,Int.reduceLE,Int.reduceAdd,Int.reduceSub,Int.reduceMul,Int.reduceNeg,Int.reduceNe,reduceCtorEq,Int.reduceToNat,↓reduceIte]
    refine ⟨fun hw => bool_eq ?_, fun hw => ⟨fun h0 => ?_, fun h0 => ?_⟩⟩
    · symm
      refine setMay_no (k := i + 1) (by omega) ?_
      cases hi0 : i with
      | zero => subst hi0; rw [risingTo_one hget, hw]
      | succ m => subst hi0; rw [risingTo_succ (x := l[m]'(by omega)) (List.getElem?_eq_getElem (by omega)) hget, hw]; simp
    · obtain ⟨m, rfl⟩ : ∃ m, i = m + 1 := ⟨i - 1, by omega⟩
      (repeat (refine And.intro (by first | omega | exact inR_of (by omega) (by omega) | exact ⟨by omega, by omega⟩ | exact ⟨by omega, by omega, by omega⟩ | rfl) ?_))
      rw [show (((m + 1 : Nat) : Int) - 1).toNat = m by omega, drop_str (show m < l.length by omega)]
      simp only [wk,if_true,if_false,forall_const,implies_true,ne_eq,eq_self,Nat.reduceEqDiff,Nat.reduceAdd,Nat.reduceMul,Nat.reduceSub,Nat.reduceLeDiff,Nat.reduceLT,Int.reduceEq,Int.reduceLT,Int.reduceLE,Int.reduceAdd,Int.reduceSub,Int.reduceMul,Int.reduceNeg,Int.reduceNe,reduceCtorEq,Int.reduceToNat,↓reduceIte]
      refine PCalls.use (p_wless l[m] l[m + 1]) ?_; simp only [wk,if_true,if_false,forall_const,implies_true,ne_eq,eq_self,Nat.reduceEqDiff,Nat.reduceAdd,Nat.reduceMul,Nat.reduceSub,Nat.reduceLeDiff,Nat.reduceLT,Int.reduceEq,Int.reduceLT,Int.reduceLE,Int.reduceAdd,Int.reduceSub,Int.reduceMul,Int.reduceNeg,Int.reduceNe,reduceCtorEq,Int.reduceToNat,↓reduceIte]
      refine ⟨fun hw2 => bool_eq ?_, fun hw2 => ⟨inR_of (by omega) (by omega), l.length - (m + 2), by omega, m + 2, by omega, rfl, rfl, ?_⟩⟩
      · symm
        refine setMay_no (k := m + 2) (by omega) ?_
        rw [risingTo_succ (x := l[m]) (List.getElem?_eq_getElem (by omega)) hget, hw2]; simp
      · rw [risingTo_succ (x := l[m]) (List.getElem?_eq_getElem (by omega)) hget, hw2, hw, hris]; rfl
    · have hi0 : i = 0 := by omega
      subst hi0
      refine ⟨inR_of (by omega) (by omega), l.length - 1, by omega, 1, by omega, rfl, rfl, ?_⟩
      rw [risingTo_one hget, hw]
  · rw [setMay_eq l (by omega) (by omega), show l.length = i by omega, hris]

/-- the atoms of a word -/
def atomsL (s : ByteArray) (k : Nat) : List AV := (List.range k).map fun i => AV.int .u16 (atomAt s i)
theorem atomsL_succ (s : ByteArray) (k : Nat) : atomsL s (k + 1) = atomsL s k ++ [.int .u16 (atomAt s k)] := by simp [atomsL, List.range_succ]
theorem atomsL_len (s : ByteArray) (k : Nat) : (atomsL s k).length = k := by simp [atomsL]
theorem atomsL_drop {s : ByteArray} {k i : Nat} (h : i < k) : (atomsL s k).drop i = .int .u16 (atomAt s i) :: (atomsL s k).drop (i + 1) := by
  rw [List.drop_eq_getElem_cons (by rw [atomsL_len]; exact h)]; simp [atomsL]
theorem frees_atoms (s : ByteArray) (k : Nat) : free.frees (atomsL s k) = true := by
  have : atomsL s k = ((List.range k).map (atomAt s)).map fun (b : Nat) => AV.int .u16 (b : Int) := by simp [atomsL]
  rw [this, frees_u16]
theorem p_ratoms (s : ByteArray) (hs : s.size ≤ 140737488355328) : PCalls Try.prog 124 [.str s] (.lst .ro (s.size / 2) (atomsL s (s.size / 2))) := by
  refine pcalls_of rfl (by simp [free, frees_atoms]) (acalls_of mixed F_ref02_Atoms_ok (Nat.le_of_ble_eq_true rfl) ?_); simp only [F_ref02_Atoms, wk,if_true,if_false,forall_const,implies_true,ne_eq,eq_self,Nat.reduceEqDiff,Nat.reduceAdd,Nat.reduceMul,Nat.reduceSub,Nat.reduceLeDiff,Nat.reduceLT,Int.reduceEq,Int.reduceLT,Int.reduceLE,Int.reduceAdd,Int.reduceSub,Int.reduceMul,Int.reduceNeg,Int.reduceNe,reduceCtorEq,Int.reduceToNat,↓reduceIte]
  refine W_loop (fun n fr h => ∃ k : Nat, k ≤ s.size / 2 ∧ n = s.size / 2 - k ∧ fr = [(0, .str s), (3, .lst (.own 69) k (atomsL s k)), (4, .int .i64 (2 * (k : Int)))]) (s.size / 2) ⟨0, by omega, by omega, rfl⟩ ?_
  rintro n fr h ⟨k, hk, rfl, rfl⟩
  simp only [wk,if_true,if_false,forall_const,implies_true,ne_eq,eq_self,Nat.reduceEqDiff,Nat.reduceAdd,Nat.reduceMul,Nat.reduceSub,Nat.reduceLeDiff,Nat.reduceLT,Int.reduceEq,Int.reduceLT,Int.reduceLE,Int.reduceAdd,Int.reduceSub,Int.reduceMul,Int.reduceNeg,Int.reduceNe,reduceCtorEq,Int.reduceToNat,↓reduceIte]
  refine ⟨inR_of (by omega) (by omega), fun hlt => ?_, fun hge => ?_⟩
  · (repeat (refine And.intro (by first | omega | exact inR_of (by omega) (by omega) | exact ⟨by omega, by omega⟩ | exact ⟨by omega, by omega, by omega⟩ | rfl) ?_))
    refine ⟨s.size / 2 - (k + 1), by omega, k + 1, by omega, rfl, ?_⟩
    have hin : 2 * k + 1 < s.size := by omega
    have hx : s[2 * k].toNat < 256 := s[2 * k].toNat_lt
    have hy : s[2 * k + 1].toNat < 256 := s[2 * k + 1].toNat_lt
    have e1 : (2 * (k : Int)).toNat = 2 * k := by omega
    have e2 : (2 * (k : Int) + 1).toNat = 2 * k + 1 := by omega
    rw [e1, e2, byteAt_eq (by omega), byteAt_eq hin, atomsL_succ]
    have e3 : IntKind.u16.wrap (IntKind.u16.wrap (IntKind.u16.wrap ((s[2 * k].toNat : Nat) : Int) * 256) + IntKind.u16.wrap ((s[2 * k + 1].toNat : Nat) : Int)) = ((atomAt s k : Nat) : Int) := by
      simp only [atomAt, hin, dif_pos, IntKind.wrap_u16]; omega
    rw [e3]
    have e4 : (2 * ((k + 1 : Nat) : Int)) = 2 * (k : Int) + 2 := by omega
    rw [e4]
  · obtain rfl : k = s.size / 2 := by omega
    rfl
theorem p_rwless (a b : ByteArray) (ha : a.size ≤ 9223372036854775807) : PCalls Try.prog 90 [.str a, .str b] (.bool (wless a b)) := by
  refine pcalls_of (by first | rfl | simp [free, free.frees, frees_str, frees_u8, frees_u16]) (by first | rfl | simp [free, free.frees, frees_str, frees_u8, frees_u16]) (acalls_of mixed F_ref02_Less_ok (Nat.le_of_ble_eq_true rfl) ?_); simp only [F_ref02_Less, wk,if_true,if_false,forall_const,implies_true,ne_eq,eq_self,Nat.reduceEqDiff,Nat.reduceAdd,Nat.reduceMul,Nat.reduceSub,Nat.reduceLeDiff,Nat.reduceLT,Int.reduceEq,Int.reduceLT,Int.reduceLE,Int.reduceAdd,Int.reduceSub,Int.reduceMul,Int.reduceNeg,Int.reduceNe,reduceCtorEq,Int.reduceToNat,↓reduceIte]
  refine ⟨fun h => bool_eq ?_, fun h => ?_⟩
  · unfold wless; rw [if_neg (by omega)]; simp
  have hsz : a.size = b.size := by omega
  refine W_loop (fun n fr h => ∃ i : Nat, i ≤ a.size ∧ n = a.size - i ∧ fr = [(0, .str a), (1, .str b), (5, .int .i64 i)] ∧ ∀ j, (h1 : j < a.size) → j < i → a[j] = b[j]'(by omega)) a.size ⟨0, by omega, by omega, rfl, fun j _ hj => by omega⟩ ?_
  rintro n fr h ⟨i, hi, rfl, rfl, hall⟩
  simp only [wk,if_true,if_false,forall_const,implies_true,ne_eq,eq_self,Nat.reduceEqDiff,Nat.reduceAdd,Nat.reduceMul,Nat.reduceSub,Nat.reduceLeDiff,Nat.reduceLT,Int.reduceEq,Int.reduceLT,Int.reduceLE,Int.reduceAdd,Int.reduceSub,Int.reduceMul,Int.reduceNeg,Int.reduceNe,reduceCtorEq,Int.reduceToNat,↓reduceIte]
  refine ⟨fun hlt => ?_, fun hge => bool_eq ?_⟩
  · have hia : i < a.size := by omega
    have hib : i < b.size := by omega
    (repeat (refine And.intro (by first | omega | exact inR_of (by omega) (by omega) | exact ⟨by omega, by omega⟩ | exact ⟨by omega, by omega, by omega⟩ | rfl) ?_))
    rw [show (i : Int).toNat = i by omega, byteAt_eq hia, byteAt_eq hib]
    refine ⟨fun hne => ?_, fun he => ?_⟩
    · (repeat (refine And.intro (by first | omega | exact inR_of (by omega) (by omega) | exact ⟨by omega, by omega⟩ | exact ⟨by omega, by omega, by omega⟩ | rfl) ?_))
      refine bool_eq ?_
      have hne' : a[i] ≠ b[i] := fun e => hne (by rw [e])
      rw [wless_at hsz hia (fun j h1 h2 => hall j h1 h2) hne']
      simp
    · refine ⟨inR_of (by omega) (by omega), a.size - (i + 1), by omega, i + 1, by omega, rfl, rfl, fun j h1 hj => ?_⟩
      by_cases e : j = i
      · subst e; exact UInt8.toNat_inj.1 (by omega)
      · exact hall j h1 (by omega)
  · rw [wless_same hsz (fun j h1 => hall j h1 (by omega))]
theorem p_rwmay (s : ByteArray) (hs : s.size ≤ 140737488355328) : PCalls Try.prog 89 [.str s] (.bool (wordMay s)) := by
  refine pcalls_of (by first | rfl | simp [free, free.frees, frees_str, frees_u8, frees_u16]) (by first | rfl | simp [free, free.frees, frees_str, frees_u8, frees_u16]) (acalls_of mixed F_ref02_May_ok (Nat.le_of_ble_eq_true rfl) ?_); simp only [F_ref02_May, wk,if_true,if_false,forall_const,implies_true,ne_eq,eq_self,Nat.reduceEqDiff,Nat.reduceAdd,Nat.reduceMul,Nat.reduceSub,Nat.reduceLeDiff,Nat.reduceLT,Int.reduceEq,Int.reduceLT,Int.reduceLE,Int.reduceAdd,Int.reduceSub,Int.reduceMul,Int.reduceNeg,Int.reduceNe,reduceCtorEq,Int.reduceToNat,↓reduceIte]
  refine PCalls.use (p_ratoms s hs) ?_; simp only [wk,if_true,if_false,forall_const,implies_true,ne_eq,eq_self,Nat.reduceEqDiff,Nat.reduceAdd,Nat.reduceMul,Nat.reduceSub,Nat.reduceLeDiff,Nat.reduceLT,Int.reduceEq,Int.reduceLT,Int.reduceLE,Int.reduceAdd,Int.reduceSub,Int.reduceMul,Int.reduceNeg,Int.reduceNe,reduceCtorEq,Int.reduceToNat,↓reduceIte]
  refine W_loop (fun n fr h => ∃ i : Nat, i ≤ s.size / 2 ∧ n = s.size / 2 - i ∧ fr = [(0, .str s), (3, .lst .ro (s.size / 2) (atomsL s (s.size / 2))), (4, .int .i64 i)] ∧ (∀ j, j < i → atomAt s j ≠ 0)) (s.size / 2) ⟨0, by omega, by omega, rfl, fun j hj => by omega⟩ ?_
  rintro n fr h ⟨i, hi, rfl, rfl, hall⟩
  simp only [wk,if_true,if_false,forall_const,implies_true,ne_eq,eq_self,Nat.reduceEqDiff,Nat.reduceAdd,Nat.reduceMul,Nat.reduceSub,Nat.reduceLeDiff,Nat.reduceLT,Int.reduceEq,Int.reduceLT,Int.reduceLE,Int.reduceAdd,Int.reduceSub,Int.reduceMul,Int.reduceNeg,Int.reduceNe,reduceCtorEq,Int.reduceToNat,↓reduceIte]
  refine ⟨fun hlt => ?_, fun hge => ?_⟩
  · (repeat (refine And.intro (by first | omega | exact inR_of (by omega) (by omega) | exact ⟨by omega, by omega⟩ | exact ⟨by omega, by omega, by omega⟩ | rfl) ?_))
    rw [show (i : Int).toNat = i by omega, atomsL_drop (by omega)]
    simp only [wk,if_true,if_false,forall_const,implies_true,ne_eq,eq_self,Nat.reduceEqDiff,Nat.reduceAdd,Nat.reduceMul,Nat.reduceSub,Nat.reduceLeDiff,Nat.reduceLT,Int.reduceEq,Int.reduceLT,Int.reduceLE,Int.reduceAdd,Int.reduceSub,Int.reduceMul,Int.reduceNeg,Int.reduceNe,reduceCtorEq,Int.reduceToNat,↓reduceIte]
    refine ⟨fun h0 => bool_eq ?_, fun h0 => ⟨inR_of (by omega) (by omega), s.size / 2 - (i + 1), by omega, i + 1, by omega, rfl, rfl, fun j hj => ?_⟩⟩
    · simp only [wordMay]; symm; rw [decide_eq_false_iff_not]; rintro ⟨_, _, _, h4⟩; exact h4 i (by omega) (by omega)
    · by_cases e : j = i
      · subst e; omega
      · exact hall j (by omega)
  · rw [Int.tmod_eq_emod_of_nonneg (by omega)]
    have hall' : ∀ j, j < s.size / 2 → atomAt s j ≠ 0 := fun j hj => hall j (by omega)
    refine ⟨fun h1 => ⟨fun h2 => bool_eq ?_, fun h2 => bool_eq ?_⟩, fun h1 => bool_eq ?_⟩
    · simp only [wordMay]; rw [Bool.eq_iff_iff, decide_eq_true_eq, decide_eq_true_eq]
      exact ⟨fun h3 => ⟨by omega, by omega, by omega, hall'⟩, fun h3 => by omega⟩
    · simp only [wordMay]; symm; rw [decide_eq_false_iff_not]; omega
    · simp only [wordMay]; symm; rw [decide_eq_false_iff_not]; omega
set_option maxRecDepth 100000 in
set_option maxHeartbeats 2000000 in
theorem p_rsmay (l : List ByteArray) (hl : l.length ≤ 9223372036854775807) (hs : ∀ x ∈ l, x.size ≤ 140737488355328) : PCalls Try.prog 53 [.lst .ro l.length (l.map .str)] (.bool (setMay l)) := by
  refine pcalls_of (by first | rfl | simp [free, free.frees, frees_str, frees_u8, frees_u16]) (by first | rfl | simp [free, free.frees, frees_str, frees_u8, frees_u16]) (acalls_of mixed F_ref03_May_ok (Nat.le_of_ble_eq_true rfl) ?_); simp only [F_ref03_May, wk,if_true,if_false,forall_const,implies_true,ne_eq,eq_self,Nat.reduceEqDiff,Nat.reduceAdd,Nat.reduceMul,Nat.reduceSub,Nat.reduceLeDiff,Nat.reduceLT,Int.reduceEq,Int.reduceLT,Int.reduceLE,Int.reduceAdd,Int.reduceSub,Int.reduceMul,Int.reduceNeg,Int.reduceNe,reduceCtorEq,Int.reduceToNat,↓reduceIte]
  refine ⟨fun h1 => ?_, fun h1 => bool_eq (setMay_len (by omega)).symm⟩
  refine ⟨fun h2 => bool_eq (setMay_len (by omega)).symm, fun h2 => ?_⟩
  refine W_loop (fun n fr h => ∃ i : Nat, i ≤ l.length ∧ n = l.length - i ∧ fr = [(0, .lst .ro l.length (l.map .str)), (3, .int .i64 i)] ∧ risingTo l i = true) l.length ⟨0, by omega, by omega, rfl, risingTo_zero l⟩ ?_
  rintro n fr h ⟨i, hi, rfl, rfl, hris⟩
  simp only [wk,if_true,if_false,forall_const,implies_true,ne_eq,eq_self,Nat.reduceEqDiff,Nat.reduceAdd,Nat.reduceMul,Nat.reduceSub,Nat.reduceLeDiff,Nat.reduceLT,Int.reduceEq,Int.reduceLT,Int.reduceLE,Int.reduceAdd,Int.reduceSub,Int.reduceMul,Int.reduceNeg,Int.reduceNe,reduceCtorEq,Int.reduceToNat,↓reduceIte]
  refine ⟨fun hlt => ?_, fun hge => bool_eq ?_⟩
  · have hil : i < l.length := by omega
    have hget : l[i]? = some l[i] := by simp [hil]
    (repeat (refine And.intro (by first | omega | exact inR_of (by omega) (by omega) | exact ⟨by omega, by omega⟩ | exact ⟨by omega, by omega, by omega⟩ | rfl) ?_))
    rw [show (i : Int).toNat = i by omega, drop_str hil]
    simp only [wk,if_true,if_false,forall_const,implies_true,ne_eq,eq_self,Nat.reduceEqDiff,Nat.reduceAdd,Nat.reduceMul,Nat.reduceSub,Nat.reduceLeDiff,Nat.reduceLT,Int.reduceEq,Int.reduceLT,Int.reduceLE,Int.reduceAdd,Int.reduceSub,Int.reduceMul,Int.reduceNeg,Int.reduceNe,reduceCtorEq,Int.reduceToNat,↓reduceIte]
    refine ⟨_, p_rwmay l[i] (hs _ (List.getElem_mem hil)), ?_⟩; simp only [wk,if_true,if_false,forall_const,implies_true,ne_eq,eq_self,Nat.reduceEqDiff,Nat.reduceAdd,Nat.reduceMul,Nat.reduceSub,Nat.reduceLeDiff,Nat.reduceLT,Int.reduceEq,Int.reduceLT,Int.reduceLE,Int.reduceAdd,Int.reduceSub,Int.reduceMul,Int.reduceNeg,Int.reduceNe,reduceCtorEq,Int.reduceToNat,↓reduceIte]
    refine ⟨fun hw => ⟨fun h0 => ?_, fun h0 => ?_⟩, fun hw => bool_eq ?_⟩
    · obtain ⟨m, rfl⟩ : ∃ m, i = m + 1 := ⟨i - 1, by omega⟩
      (repeat (refine And.intro (by first | omega | exact inR_of (by omega) (by omega) | exact ⟨by omega, by omega⟩ | exact ⟨by omega, by omega, by omega⟩ | rfl) ?_))
      rw [show (((m + 1 : Nat) : Int) - 1).toNat = m by omega, drop_str (show m < l.length by omega)]
      simp only [wk,if_true,if_false,forall_const,implies_true,ne_eq,eq_self,Nat.reduceEqDiff,Nat.reduceAdd,Nat.reduceMul,Nat.reduceSub,Nat.reduceLeDiff,Nat.reduceLT,Int.reduceEq,Int.reduceLT,Int.reduceLE,Int.reduceAdd,Int.reduceSub,Int.reduceMul,Int.reduceNeg,Int.reduceNe,reduceCtorEq,Int.reduceToNat,↓reduceIte]
      (repeat (refine And.intro (by first | omega | exact inR_of (by omega) (by omega) | exact ⟨by omega, by omega⟩ | exact ⟨by omega, by omega, by omega⟩ | rfl) ?_))
      rw [show ((m + 1 : Nat) : Int).toNat = m + 1 by omega, drop_str hil]
      simp only [wk,if_true,if_false,forall_const,implies_true,ne_eq,eq_self,Nat.reduceEqDiff,Nat.reduceAdd,Nat.reduceMul,Nat.reduceSub,Nat.reduceLeDiff,Nat.reduceLT,Int.reduceEq,Int.reduceLT,Int.reduceLE,Int.reduceAdd,Int.reduceSub,Int.reduceMul,Int.reduceNeg,Int.reduceNe,reduceCtorEq,Int.reduceToNat,↓reduceIte]
      refine ⟨_, p_rwless l[m] l[m + 1] (by have := hs l[m] (List.getElem_mem (by omega)); omega), ?_⟩; simp only [wk,if_true,if_false,forall_const,implies_true,ne_eq,eq_self,Nat.reduceEqDiff,Nat.reduceAdd,Nat.reduceMul,Nat.reduceSub,Nat.reduceLeDiff,Nat.reduceLT,Int.reduceEq,Int.reduceLT,Int.reduceLE,Int.reduceAdd,Int.reduceSub,Int.reduceMul,Int.reduceNeg,Int.reduceNe,reduceCtorEq,Int.reduceToNat,↓reduceIte]
      refine ⟨fun hw2 => bool_eq ?_, fun hw2 => ⟨inR_of (by omega) (by omega), l.length - (m + 2), by omega, m + 2, by omega, rfl, rfl, ?_⟩⟩
      · symm
        refine setMay_no (k := m + 2) (by omega) ?_
        rw [risingTo_succ (x := l[m]) (List.getElem?_eq_getElem (by omega)) hget, hw2]; simp
      · rw [risingTo_succ (x := l[m]) (List.getElem?_eq_getElem (by omega)) hget, hw2, hw, hris]; rfl
    · have hi0 : i = 0 := by omega
      subst hi0
      refine ⟨inR_of (by omega) (by omega), l.length - 1, by omega, 1, by omega, rfl, rfl, ?_⟩
      rw [risingTo_one hget, hw]
    · symm
      refine setMay_no (k := i + 1) (by omega) ?_
      cases hi0 : i with
      | zero => subst hi0; rw [risingTo_one hget, hw]
      | succ m => subst hi0; rw [risingTo_succ (x := l[m]'(by omega)) (List.getElem?_eq_getElem (by omega)) hget, hw]; simp
  · rw [setMay_eq l (by omega) (by omega), show l.length = i by omega, hris]
theorem p_requal (a b : List ByteArray) (ha : a.length ≤ 9223372036854775807) : PCalls Try.prog 67 [.lst .ro a.length (a.map .str), .lst .ro b.length (b.map .str)] (.bool (decide (a = b))) := by
  refine pcalls_of (by first | rfl | simp [free, free.frees, frees_str, frees_u8, frees_u16]) (by first | rfl | simp [free, free.frees, frees_str, frees_u8, frees_u16]) (acalls_of mixed F_ref03_Equal_ok (Nat.le_of_ble_eq_true rfl) ?_); simp only [F_ref03_Equal, wk,if_true,if_false,forall_const,implies_true,ne_eq,eq_self,Nat.reduceEqDiff,Nat.reduceAdd,Nat.reduceMul,Nat.reduceSub,Nat.reduceLeDiff,Nat.reduceLT,Int.reduceEq,Int.reduceLT,Int.reduceLE,Int.reduceAdd,Int.reduceSub,Int.reduceMul,Int.reduceNeg,Int.reduceNe,reduceCtorEq,Int.reduceToNat,↓reduceIte]
  refine ⟨fun h => bool_eq ?_, fun h => ?_⟩
  · symm; rw [decide_eq_false_iff_not]; intro e; rw [e] at h; exact h rfl
  have hab : a.length = b.length := by omega
  refine W_loop (fun n fr h => ∃ i : Nat, i ≤ a.length ∧ n = a.length - i ∧ fr = [(0, .lst .ro a.length (a.map .str)), (1, .lst .ro b.length (b.map .str)), (5, .int .i64 i)] ∧ a.take i = b.take i) a.length ⟨0, by omega, by omega, rfl, rfl⟩ ?_
  rintro n fr h ⟨i, hi, rfl, rfl, hall⟩
  simp only [wk,if_true,if_false,forall_const,implies_true,ne_eq,eq_self,Nat.reduceEqDiff,Nat.reduceAdd,Nat.reduceMul,Nat.reduceSub,Nat.reduceLeDiff,Nat.reduceLT,Int.reduceEq,Int.reduceLT,Int.reduceLE,Int.reduceAdd,Int.reduceSub,Int.reduceMul,Int.reduceNeg,Int.reduceNe,reduceCtorEq,Int.reduceToNat,↓reduceIte]
  refine ⟨fun hlt => ?_, fun hge => bool_eq ?_⟩
  · have hia : i < a.length := by omega
    have hib : i < b.length := by omega
    (repeat (refine And.intro (by first | omega | exact inR_of (by omega) (by omega) | exact ⟨by omega, by omega⟩ | exact ⟨by omega, by omega, by omega⟩ | rfl) ?_))
    rw [show (i : Int).toNat = i by omega, drop_str hia]
    simp only [wk,if_true,if_false,forall_const,implies_true,ne_eq,eq_self,Nat.reduceEqDiff,Nat.reduceAdd,Nat.reduceMul,Nat.reduceSub,Nat.reduceLeDiff,Nat.reduceLT,Int.reduceEq,Int.reduceLT,Int.reduceLE,Int.reduceAdd,Int.reduceSub,Int.reduceMul,Int.reduceNeg,Int.reduceNe,reduceCtorEq,Int.reduceToNat,↓reduceIte]
    (repeat (refine And.intro (by first | omega | exact inR_of (by omega) (by omega) | exact ⟨by omega, by omega⟩ | exact ⟨by omega, by omega, by omega⟩ | rfl) ?_))
    rw [show (i : Int).toNat = i by omega, drop_str hib]
    simp only [wk,if_true,if_false,forall_const,implies_true,ne_eq,eq_self,Nat.reduceEqDiff,Nat.reduceAdd,Nat.reduceMul,Nat.reduceSub,Nat.reduceLeDiff,Nat.reduceLT,Int.reduceEq,Int.reduceLT,Int.reduceLE,Int.reduceAdd,Int.reduceSub,Int.reduceMul,Int.reduceNeg,Int.reduceNe,reduceCtorEq,Int.reduceToNat,↓reduceIte]
    refine ⟨fun hne => bool_eq ?_, fun he => ?_⟩
    · symm; rw [decide_eq_false_iff_not]; intro e; subst e; exact hne rfl
    · refine ⟨inR_of (by omega) (by omega), a.length - (i + 1), by omega, i + 1, by omega, rfl, rfl, ?_⟩
      rw [List.take_succ_eq_append_getElem hia, List.take_succ_eq_append_getElem hib, hall, he]
  · symm; rw [decide_eq_true_eq]
    rw [List.take_of_length_le (by omega), List.take_of_length_le (by omega)] at hall
    exact hall

/-- bytes as cells -/
abbrev u8s (l : List UInt8) : List AV := l.map fun b => AV.int .u8 b.toNat
theorem u8s_app (l m : List UInt8) : u8s l ++ u8s m = u8s (l ++ m) := by simp [u8s]
theorem byte_of (n : Int) (h0 : 0 ≤ n) (h1 : n < 256) : AV.int .u8 n = .int .u8 ((UInt8.ofNat n.toNat).toNat : Int) := by
  refine int_eq ?_
  simp; omega
/-- atoms as bytes -/
def atomBytes (l : List Nat) : List UInt8 := l.flatMap fun a => [UInt8.ofNat (a / 256), UInt8.ofNat (a % 256)]
abbrev u16s (l : List Nat) : List AV := l.map fun (b : Nat) => AV.int .u16 (b : Int)
theorem u16s_drop {l : List Nat} {i : Nat} (h : i < l.length) : (u16s l).drop i = .int .u16 ((l[i] : Nat) : Int) :: (u16s l).drop (i + 1) := by
  rw [List.drop_eq_getElem_cons (by simpa using h)]; simp
theorem p_rof (l : List Nat) (hl : l.length ≤ 70368744177664) (ha : ∀ a ∈ l, a < 65536) : PCalls Try.prog 41 [.lst .ro l.length (u16s l)] (.str ⟨(atomBytes l).toArray⟩) := by
  refine pcalls_of (by first | rfl | simp [free, free.frees, frees_str, frees_u8, frees_u16]) (by first | rfl | simp [free, free.frees, frees_str, frees_u8, frees_u16]) (acalls_of mixed F_ref02_Of_ok (Nat.le_of_ble_eq_true rfl) ?_); simp only [F_ref02_Of, wk,if_true,if_false,forall_const,implies_true,ne_eq,eq_self,Nat.reduceEqDiff,Nat.reduceAdd,Nat.reduceMul,Nat.reduceSub,Nat.reduceLeDiff,Nat.reduceLT,Int.reduceEq,Int.reduceLT,Int.reduceLE,Int.reduceAdd,Int.reduceSub,Int.reduceMul,Int.reduceNeg,Int.reduceNe,reduceCtorEq,Int.reduceToNat,↓reduceIte]
  refine W_loop (fun n fr h => ∃ i : Nat, i ≤ l.length ∧ n = l.length - i ∧ fr = [(0, .lst .ro l.length (u16s l)), (3, .lst (.own 5) (2 * i) (u8s (atomBytes (l.take i)))), (4, .int .i64 i)]) l.length ⟨0, by omega, by omega, rfl⟩ ?_
  rintro n fr h ⟨i, hi, rfl, rfl⟩
  simp only [wk,if_true,if_false,forall_const,implies_true,ne_eq,eq_self,Nat.reduceEqDiff,Nat.reduceAdd,Nat.reduceMul,Nat.reduceSub,Nat.reduceLeDiff,Nat.reduceLT,Int.reduceEq,Int.reduceLT,Int.reduceLE,Int.reduceAdd,Int.reduceSub,Int.reduceMul,Int.reduceNeg,Int.reduceNe,reduceCtorEq,Int.reduceToNat,↓reduceIte]
  refine ⟨fun hlt => ?_, fun hge => ?_⟩
  · have hil : i < l.length := by omega
    have h16 := ha l[i] (List.getElem_mem hil)
    (repeat (refine And.intro (by first | omega | exact inR_of (by omega) (by omega) | exact ⟨by omega, by omega⟩ | exact ⟨by omega, by omega, by omega⟩ | rfl) ?_))
    rw [show (i : Int).toNat = i by omega, u16s_drop hil]
    simp only [wk,if_true,if_false,forall_const,implies_true,ne_eq,eq_self,Nat.reduceEqDiff,Nat.reduceAdd,Nat.reduceMul,Nat.reduceSub,Nat.reduceLeDiff,Nat.reduceLT,Int.reduceEq,Int.reduceLT,Int.reduceLE,Int.reduceAdd,Int.reduceSub,Int.reduceMul,Int.reduceNeg,Int.reduceNe,reduceCtorEq,Int.reduceToNat,↓reduceIte]
    refine ⟨⟨by omega, by omega⟩, ?_⟩
    rw [show (i : Int).toNat = i by omega, u16s_drop hil]
    simp only [wk,if_true,if_false,forall_const,implies_true,ne_eq,eq_self,Nat.reduceEqDiff,Nat.reduceAdd,Nat.reduceMul,Nat.reduceSub,Nat.reduceLeDiff,Nat.reduceLT,Int.reduceEq,Int.reduceLT,Int.reduceLE,Int.reduceAdd,Int.reduceSub,Int.reduceMul,Int.reduceNeg,Int.reduceNe,reduceCtorEq,Int.reduceToNat,↓reduceIte]
    (repeat (refine And.intro (by first | omega | exact inR_of (by omega) (by omega) | exact ⟨by omega, by omega⟩ | exact ⟨by omega, by omega, by omega⟩ | rfl) ?_))
    refine ⟨l.length - (i + 1), by omega, i + 1, by omega, rfl, ?_⟩
    have e1 : IntKind.u8.wrap (IntKind.u16.wrap ((l[i] : Int).tdiv 256)) = ((UInt8.ofNat (l[i] / 256)).toNat : Int) := by
      rw [Int.tdiv_eq_ediv_of_nonneg (by omega), IntKind.wrap_u16, IntKind.wrap_u8]; simp only [UInt8.toNat_ofNat']; omega
    have e2 : IntKind.u8.wrap ((l[i] : Int).tmod 256) = ((UInt8.ofNat (l[i] % 256)).toNat : Int) := by
      rw [Int.tmod_eq_emod_of_nonneg (by omega), IntKind.wrap_u8]; simp only [UInt8.toNat_ofNat']; omega
    have e3 : atomBytes (l.take (i + 1)) = atomBytes (l.take i) ++ [UInt8.ofNat (l[i] / 256), UInt8.ofNat (l[i] % 256)] := by rw [List.take_succ_eq_append_getElem hil, atomBytes, List.flatMap_append]; rfl
    rw [e1, e2, e3, ← u8s_app]
    rfl
  · have : i = l.length := by omega
    subst this
    refine ⟨atomBytes l, by rw [List.take_length], ?_, rfl⟩
    have : ∀ l : List Nat, (atomBytes l).length = 2 * l.length := by
      intro l; induction l with
      | nil => rfl
      | cons a l ih => simp only [atomBytes, List.flatMap_cons, List.length_append, List.length_cons, List.length_nil] at ih ⊢; omega
    rw [this]
theorem p_rnum (n : Nat) (hn : n ≤ 9223372036854775807) : PCalls Try.prog 57 [.int .i64 n] (.str ⟨(num n).toArray⟩) := by
  refine pcalls_of (by first | rfl | simp [free, free.frees, frees_str, frees_u8, frees_u16]) (by first | rfl | simp [free, free.frees, frees_str, frees_u8, frees_u16]) (acalls_of mixed F_ref07_Num_ok (Nat.le_of_ble_eq_true rfl) ?_); simp only [F_ref07_Num, wk,if_true,if_false,forall_const,implies_true,ne_eq,eq_self,Nat.reduceEqDiff,Nat.reduceAdd,Nat.reduceMul,Nat.reduceSub,Nat.reduceLeDiff,Nat.reduceLT,Int.reduceEq,Int.reduceLT,Int.reduceLE,Int.reduceAdd,Int.reduceSub,Int.reduceMul,Int.reduceNeg,Int.reduceNe,reduceCtorEq,Int.reduceToNat,↓reduceIte]
  refine W_loop (fun k fr h => ∃ (pre : List UInt8) (m : Nat), k = m ∧ m ≤ n ∧ pre.length + m ≤ n + 1 ∧ pre ++ num m = num n ∧ fr = [(0, .int .i64 m), (3, .lst (.own 5) pre.length (u8s pre))] ∧ pre.length ≤ 9) n ⟨[], n, rfl, by omega, by simp, rfl, rfl, by simp⟩ ?_
  rintro k fr h ⟨pre, m, rfl, hm, hlen, hpre, rfl, hp9⟩
  have htot : pre.length + (num k).length = (num n).length := by rw [← hpre, List.length_append]
  have hn9 := num_len 8 n (by omega)
  simp only [wk,if_true,if_false,forall_const,implies_true,ne_eq,eq_self,Nat.reduceEqDiff,Nat.reduceAdd,Nat.reduceMul,Nat.reduceSub,Nat.reduceLeDiff,Nat.reduceLT,Int.reduceEq,Int.reduceLT,Int.reduceLE,Int.reduceAdd,Int.reduceSub,Int.reduceMul,Int.reduceNeg,Int.reduceNe,reduceCtorEq,Int.reduceToNat,↓reduceIte]
  refine ⟨fun hge => ?_, fun hlt => ?_⟩
  · rw [Int.tmod_eq_emod_of_nonneg (by omega), Int.tdiv_eq_ediv_of_nonneg (by omega)]
    have hk := num_ge (n := k) (by omega)
    have hk1 := num_len 8 (k / 128) (by omega)
    rw [hk, List.length_cons] at htot
    (repeat (refine And.intro (by first | omega | exact inR_of (by omega) (by omega) | exact ⟨by omega, by omega⟩ | exact ⟨by omega, by omega, by omega⟩ | rfl) ?_))
    refine ⟨k / 128, by omega, pre ++ [UInt8.ofNat (k % 128 + 128)], k / 128, rfl, by omega, by simp; omega, ?_, ?_, by simp; omega⟩
    · rw [← hpre, hk]; simp
    · have e1 : IntKind.u8.wrap ((k : Int) % 128 + 128) = ((UInt8.ofNat (k % 128 + 128)).toNat : Int) := by rw [IntKind.wrap_u8]; simp only [UInt8.toNat_ofNat']; omega
      rw [e1]
      simp
  · have hk := num_lt (n := k) (by omega)
    (repeat (refine And.intro (by first | omega | exact inR_of (by omega) (by omega) | exact ⟨by omega, by omega⟩ | exact ⟨by omega, by omega, by omega⟩ | rfl) ?_))
    refine ⟨pre ++ [UInt8.ofNat k], ?_, by simp, ?_⟩
    · have e1 : IntKind.u8.wrap (k : Int) = ((UInt8.ofNat k).toNat : Int) := by rw [IntKind.wrap_u8]; simp only [UInt8.toNat_ofNat']; omega
      rw [e1]; simp
    · rw [← hpre, hk]
theorem str_cons (b : UInt8) (l : List UInt8) : (⟨(b :: l).toArray⟩ : ByteArray) = ⟨#[b]⟩ ++ ⟨l.toArray⟩ := by
  apply ByteArray.ext; apply Array.ext'; simp
theorem str_app (a b : List UInt8) : (⟨(a ++ b).toArray⟩ : ByteArray) = ⟨a.toArray⟩ ++ ⟨b.toArray⟩ := by
  apply ByteArray.ext; apply Array.ext'; simp
theorem str_back (s : ByteArray) : (⟨s.data.toList.toArray⟩ : ByteArray) = s := by cases s; simp
theorem p_rword (s : ByteArray) (hs : s.size ≤ 140737488355328) : PCalls Try.prog 94 [.str s] (.str ⟨(wordBytes s).toArray⟩) := by
  refine pcalls_of (by first | rfl | simp [free, free.frees, frees_str, frees_u8, frees_u16]) (by first | rfl | simp [free, free.frees, frees_str, frees_u8, frees_u16]) (acalls_of mixed F_ref07_Word_ok (Nat.le_of_ble_eq_true rfl) ?_); simp only [F_ref07_Word, wk,if_true,if_false,forall_const,implies_true,ne_eq,eq_self,Nat.reduceEqDiff,Nat.reduceAdd,Nat.reduceMul,Nat.reduceSub,Nat.reduceLeDiff,Nat.reduceLT,Int.reduceEq,Int.reduceLT,Int.reduceLE,Int.reduceAdd,Int.reduceSub,Int.reduceMul,Int.reduceNeg,Int.reduceNe,reduceCtorEq,Int.reduceToNat,↓reduceIte]
  rw [Int.tdiv_eq_ediv_of_nonneg (by omega)]
  refine ⟨inR_of (by omega) (by omega), [UInt8.ofNat (s.size / 2)], ?_, rfl, ?_, ?_⟩
  · have e1 : IntKind.u8.wrap ((s.size : Int) / 2) = ((UInt8.ofNat (s.size / 2)).toNat : Int) := by rw [IntKind.wrap_u8]; simp only [UInt8.toNat_ofNat']; omega
    rw [e1]; rfl
  · show 1 + s.size ≤ _; omega
  · congr 1
theorem p_rset (l : List ByteArray) (hl : l.length ≤ 1000) (hs : ∀ x ∈ l, x.size ≤ 1000) : PCalls Try.prog 58 [.lst .ro l.length (l.map .str)] (.str ⟨(setBytes l).toArray⟩) := by
  refine pcalls_of (by first | rfl | simp [free, free.frees, frees_str, frees_u8, frees_u16]) (by first | rfl | simp [free, free.frees, frees_str, frees_u8, frees_u16]) (acalls_of mixed F_ref07_Set_ok (Nat.le_of_ble_eq_true rfl) ?_); simp only [F_ref07_Set, wk,if_true,if_false,forall_const,implies_true,ne_eq,eq_self,Nat.reduceEqDiff,Nat.reduceAdd,Nat.reduceMul,Nat.reduceSub,Nat.reduceLeDiff,Nat.reduceLT,Int.reduceEq,Int.reduceLT,Int.reduceLE,Int.reduceAdd,Int.reduceSub,Int.reduceMul,Int.reduceNeg,Int.reduceNe,reduceCtorEq,Int.reduceToNat,↓reduceIte]
  refine ⟨[UInt8.ofNat l.length], ?_, rfl, ?_⟩
  · have e1 : IntKind.u8.wrap (l.length : Int) = ((UInt8.ofNat l.length).toNat : Int) := by rw [IntKind.wrap_u8]; simp only [UInt8.toNat_ofNat']; omega
    rw [e1]; rfl
  have hlen : ∀ i, ((l.take i).flatMap wordBytes).length ≤ 2000 * i := by
    intro i
    induction i with
    | zero => simp
    | succ i ih =>
      by_cases h : i < l.length
      · rw [List.take_succ_eq_append_getElem h, List.flatMap_append, List.length_append]
        have := hs l[i] (List.getElem_mem h)
        have e : l[i].data.toList.length = l[i].size := by simp
        simp only [List.flatMap_cons, List.flatMap_nil, List.append_nil, wordBytes, List.length_cons, e]; omega
      · rw [List.take_of_length_le (by omega)] at ih ⊢; omega
  refine W_loop (fun n fr h => ∃ i : Nat, i ≤ l.length ∧ n = l.length - i ∧ fr = [(0, .lst .ro l.length (l.map .str)), (3, .str ⟨(UInt8.ofNat l.length :: (l.take i).flatMap wordBytes).toArray⟩), (4, .int .i64 i)]) l.length ⟨0, by omega, by omega, rfl⟩ ?_
  rintro n fr h ⟨i, hi, rfl, rfl⟩
  simp only [wk,if_true,if_false,forall_const,implies_true,ne_eq,eq_self,Nat.reduceEqDiff,Nat.reduceAdd,Nat.reduceMul,Nat.reduceSub,Nat.reduceLeDiff,Nat.reduceLT,Int.reduceEq,Int.reduceLT,Int.reduceLE,Int.reduceAdd,Int.reduceSub,Int.reduceMul,Int.reduceNeg,Int.reduceNe,reduceCtorEq,Int.reduceToNat,↓reduceIte]
  refine ⟨fun hlt => ?_, fun hge => ?_⟩
  · have hil : i < l.length := by omega
    have hsz := hs _ (List.getElem_mem hil)
    (repeat (refine And.intro (by first | omega | exact inR_of (by omega) (by omega) | exact ⟨by omega, by omega⟩ | exact ⟨by omega, by omega, by omega⟩ | rfl) ?_))
    rw [show (i : Int).toNat = i by omega, drop_str hil]
    simp only [wk,if_true,if_false,forall_const,implies_true,ne_eq,eq_self,Nat.reduceEqDiff,Nat.reduceAdd,Nat.reduceMul,Nat.reduceSub,Nat.reduceLeDiff,Nat.reduceLT,Int.reduceEq,Int.reduceLT,Int.reduceLE,Int.reduceAdd,Int.reduceSub,Int.reduceMul,Int.reduceNeg,Int.reduceNe,reduceCtorEq,Int.reduceToNat,↓reduceIte]
    refine PCalls.use (p_rword l[i] (by omega)) ?_; simp only [wk,if_true,if_false,forall_const,implies_true,ne_eq,eq_self,Nat.reduceEqDiff,Nat.reduceAdd,Nat.reduceMul,Nat.reduceSub,Nat.reduceLeDiff,Nat.reduceLT,Int.reduceEq,Int.reduceLT,Int.reduceLE,Int.reduceAdd,Int.reduceSub,Int.reduceMul,Int.reduceNeg,Int.reduceNe,reduceCtorEq,Int.reduceToNat,↓reduceIte]
    have h1 := hlen i
    refine ⟨?_, inR_of (by omega) (by omega), l.length - (i + 1), by omega, i + 1, by omega, rfl, ?_⟩
    · show (UInt8.ofNat l.length :: (l.take i).flatMap wordBytes).toArray.size + (wordBytes l[i]).toArray.size ≤ _
      have e : l[i].data.toList.length = l[i].size := by simp
      simp only [List.size_toArray, List.length_cons, wordBytes, e]; omega
    · rw [List.take_succ_eq_append_getElem hil, List.flatMap_append, ← List.cons_append, ← str_app]
      simp
  · have : i = l.length := by omega
    subst this
    rw [List.take_length]; rfl
end Go.Proofs.Ytcbcnbefaggnhaa

/- What the library's Index, Contains, Equal do with words; Has, Heavy; a word of atoms. -/
namespace Go.Proofs.Ytcbcnbefaggnhaa
set_option linter.unusedSimpArgs false
set_option linter.unusedVariables false
open Go.RowKit Go.Lib

/-- the first place of a word; below 0: none -/
def idxW (w : ByteArray) : List ByteArray → Int
  | [] => -1
  | x :: r => if w = x then 0 else if idxW w r < 0 then -1 else idxW w r + 1
theorem idxW_ge (w : ByteArray) : ∀ l, -1 ≤ idxW w l
  | [] => by simp [idxW]
  | x :: r => by
    have := idxW_ge w r
    simp only [idxW]
    split
    · omega
    · split <;> omega
theorem idxW_none {w : ByteArray} : ∀ {l : List ByteArray}, w ∉ l → idxW w l = -1
  | [], _ => rfl
  | x :: r, h => by
    simp only [List.mem_cons, not_or] at h
    simp only [idxW]
    rw [if_neg h.1, idxW_none h.2]; rfl
theorem idxW_at {w : ByteArray} : ∀ {l : List ByteArray} {i : Nat}, l[i]? = some w → w ∉ l.take i → idxW w l = i
  | [], i, h, _ => by simp at h
  | x :: r, 0, h, _ => by simp at h; subst h; simp [idxW]
  | x :: r, i + 1, h, hn => by
    simp only [List.getElem?_cons_succ] at h
    simp only [List.take_succ_cons, List.mem_cons, not_or] at hn
    have := idxW_at h hn.2
    simp only [idxW]
    rw [if_neg hn.1, if_neg (by omega), this]; omega
theorem idxW_mem (w : ByteArray) (l : List ByteArray) : decide (0 ≤ idxW w l) = hasW l w := by
  by_cases h : w ∈ l
  · have hk : ∀ (l : List ByteArray), w ∈ l → 0 ≤ idxW w l := by
      intro l
      induction l with
      | nil => intro h; simp at h
      | cons x r ih =>
        intro h
        simp only [idxW]
        split
        · omega
        · next hx =>
          have := ih (by rcases List.mem_cons.1 h with h | h; exact absurd h hx; exact h)
          rw [if_neg (by omega)]; omega
    rw [decide_eq_true (hk l h), hasW_iff.2 h]
  · rw [idxW_none h, hasW_no.2 h]; rfl
theorem take_mem_succ {α : Type} {x : α} {l : List α} {i : Nat} (h : i < l.length) : x ∈ l.take (i + 1) ↔ x ∈ l.take i ∨ x = l[i] := by
  rw [List.take_succ_eq_append_getElem h, List.mem_append]; simp
set_option maxHeartbeats 1000000 in
theorem p_sequal (a b : List ByteArray) (ha : a.length ≤ 9223372036854775807) : PCalls Try.prog 100 [.lst .ro a.length (a.map .str), .lst .ro b.length (b.map .str)] (.bool (decide (a = b))) := by
  refine pcalls_of (by first | rfl | simp [free, free.frees, frees_str, frees_u8, frees_u16]) (by first | rfl | simp [free, free.frees, frees_str, frees_u8, frees_u16]) (acalls_of mixed J_slices_Equal_api_Set_api_Word_ok (Nat.le_of_ble_eq_true rfl) ?_); simp only [J_slices_Equal_api_Set_api_Word, wk,if_true,if_false,forall_const,implies_true,ne_eq,eq_self,Nat.reduceEqDiff,Nat.reduceAdd,Nat.reduceMul,Nat.reduceSub,Nat.reduceLeDiff,Nat.reduceLT,Int.reduceEq,Int.reduceLT,Int.reduceLE,Int.reduceAdd,Int.reduceSub,Int.reduceMul,Int.reduceNeg,Int.reduceNe,reduceCtorEq,Int.reduceToNat,↓reduceIte]
  refine ⟨fun h => bool_eq ?_, fun h => ?_⟩
  · symm; rw [decide_eq_false_iff_not]; intro e; rw [e] at h; exact h rfl
  have hab : a.length = b.length := by omega
  refine W_loop (fun n fr h => ∃ i : Nat, i ≤ a.length ∧ n = a.length - i ∧ fr = [(0, .lst .ro a.length (a.map .str)), (1, .lst .ro b.length (b.map .str)), (12, .int .i64 a.length), (13, .int .i64 i)] ∧ a.take i = b.take i) a.length ⟨0, by omega, by omega, rfl, rfl⟩ ?_
  rintro n fr h ⟨i, hi, rfl, rfl, hall⟩
  simp only [J_slices_Equal_api_Set_api_Word_j2, J_slices_Equal_api_Set_api_Word_j1, wk,if_true,if_false,forall_const,implies_true,ne_eq,eq_self,Nat.reduceEqDiff,Nat.reduceAdd,Nat.reduceMul,Nat.reduceSub,Nat.reduceLeDiff,Nat.reduceLT,Int.reduceEq,Int.reduceLT,Int.reduceLE,Int.reduceAdd,Int.reduceSub,Int.reduceMul,Int.reduceNeg,Int.reduceNe,reduceCtorEq,Int.reduceToNat,↓reduceIte]
  refine ⟨fun hlt => ?_, fun hge => bool_eq ?_⟩
  · have hia : i < a.length := by omega
    have hib : i < b.length := by omega
    (repeat (refine And.intro (by first | omega | exact inR_of (by omega) (by omega) | exact ⟨by omega, by omega⟩ | exact ⟨by omega, by omega, by omega⟩ | rfl) ?_))
    rw [show (i : Int).toNat = i by omega, drop_str hia]
    simp only [wk,if_true,if_false,forall_const,implies_true,ne_eq,eq_self,Nat.reduceEqDiff,Nat.reduceAdd,Nat.reduceMul,Nat.reduceSub,Nat.reduceLeDiff,Nat.reduceLT,Int.reduceEq,Int.reduceLT,Int.reduceLE,Int.reduceAdd,Int.reduceSub,Int.reduceMul,Int.reduceNeg,Int.reduceNe,reduceCtorEq,Int.reduceToNat,↓reduceIte]
    (repeat (refine And.intro (by first | omega | exact inR_of (by omega) (by omega) | exact ⟨by omega, by omega⟩ | exact ⟨by omega, by omega, by omega⟩ | rfl) ?_))
    rw [show (i : Int).toNat = i by omega, drop_str hib]
    simp only [wk,if_true,if_false,forall_const,implies_true,ne_eq,eq_self,Nat.reduceEqDiff,Nat.reduceAdd,Nat.reduceMul,Nat.reduceSub,Nat.reduceLeDiff,Nat.reduceLT,Int.reduceEq,Int.reduceLT,Int.reduceLE,Int.reduceAdd,Int.reduceSub,Int.reduceMul,Int.reduceNeg,Int.reduceNe,reduceCtorEq,Int.reduceToNat,↓reduceIte]
    refine ⟨fun hne => bool_eq ?_, fun he => ?_⟩
    · symm; rw [decide_eq_false_iff_not]; intro e; subst e; exact hne rfl
    · refine ⟨inR_of (by omega) (by omega), a.length - (i + 1), by omega, i + 1, by omega, rfl, rfl, ?_⟩
      rw [List.take_succ_eq_append_getElem hia, List.take_succ_eq_append_getElem hib, hall, he]
  · symm; rw [decide_eq_true_eq]
    rw [List.take_of_length_le (by omega), List.take_of_length_le (by omega)] at hall
    exact hall
theorem heavy_take {l : List ByteArray} {i : Nat} (h : i < l.length) : heavyE (l.take (i + 1)) = max (heavyE (l.take i)) (l[i].size / 2) := by
  unfold heavyE; rw [List.take_succ_eq_append_getElem h, List.foldl_append]; rfl
theorem heavy_le : ∀ (l : List ByteArray) (m : Nat), (∀ x ∈ l, x.size ≤ m) → heavyE l ≤ m := by
  intro l m h
  have : ∀ (l : List ByteArray) (n : Nat), n ≤ m → (∀ x ∈ l, x.size ≤ m) → l.foldl (fun n w => max n (w.size / 2)) n ≤ m := by
    intro l
    induction l with
    | nil => intro n hn _; exact hn
    | cons x l ih => intro n hn hx; exact ih _ (by have := hx x (by simp); simp only [Nat.max_def]; split <;> omega) (fun y hy => hx y (by simp [hy]))
  exact this l 0 (by omega) h
end Go.Proofs.Ytcbcnbefaggnhaa

/- Records: the plain structures, and the small functions of acl, record and their references. -/
namespace Go.Proofs.Ytcbcnbefaggnhaa
set_option linter.unusedSimpArgs false
set_option linter.unusedVariables false
open Go.RowKit Go.Lib

structure Ent where
  op : Int
  who : List ByteArray
def eC (x : Ent) : List AV := [.int .i64 x.op, .lst .ro x.who.length (x.who.map .str)]
def vE (x : Ent) : AV := .agg (eC x)
def smallE (x : Ent) : Prop := x.who.length ≤ 1000 ∧ ∀ w ∈ x.who, w.size ≤ 1000
theorem frees_eC (x : Ent) : free.frees (eC x) = true := by unfold eC; simp [free, free.frees, frees_str]
theorem free_vE (x : Ent) : free (vE x) = true := by unfold vE; simp only [free]; exact frees_eC x
def sameEnt (a b : Ent) : Bool := decide (a.op = b.op ∧ a.who = b.who)
theorem p_esame (a b : Ent) (h : a.who.length ≤ 9223372036854775807) : PCalls Try.prog 66 [vE a, vE b] (.bool (sameEnt a b)) := by
  refine pcalls_of (by simp [free.frees, free_vE]) rfl (acalls_of mixed J_acl_Same_ok (Nat.le_of_ble_eq_true rfl) ?_); simp only [J_acl_Same, vE, eC, wk,if_true,if_false,forall_const,implies_true,ne_eq,eq_self,Nat.reduceEqDiff,Nat.reduceAdd,Nat.reduceMul,Nat.reduceSub,Nat.reduceLeDiff,Nat.reduceLT,Int.reduceEq,Int.reduceLT,Int.reduceLE,Int.reduceAdd,Int.reduceSub,Int.reduceMul,Int.reduceNeg,Int.reduceNe,reduceCtorEq,Int.reduceToNat,↓reduceIte]
  refine ⟨fun e => ?_, fun e => ?_⟩
  · refine PCalls.use (p_sequal a.who b.who h) ?_; simp only [wk,if_true,if_false,forall_const,implies_true,ne_eq,eq_self,Nat.reduceEqDiff,Nat.reduceAdd,Nat.reduceMul,Nat.reduceSub,Nat.reduceLeDiff,Nat.reduceLT,Int.reduceEq,Int.reduceLT,Int.reduceLE,Int.reduceAdd,Int.reduceSub,Int.reduceMul,Int.reduceNeg,Int.reduceNe,reduceCtorEq,Int.reduceToNat,↓reduceIte]
    congr 1
    simp [sameEnt, e]
  · congr 1
    simp [sameEnt, e]
theorem p_resame (a b : Ent) (h : a.who.length ≤ 9223372036854775807) : PCalls Try.prog 31 [vE a, vE b] (.bool (sameEnt a b)) := by
  refine pcalls_of (by simp [free.frees, free_vE]) rfl (acalls_of mixed J_ref16_Same_ok (Nat.le_of_ble_eq_true rfl) ?_); simp only [J_ref16_Same, vE, eC, wk,if_true,if_false,forall_const,implies_true,ne_eq,eq_self,Nat.reduceEqDiff,Nat.reduceAdd,Nat.reduceMul,Nat.reduceSub,Nat.reduceLeDiff,Nat.reduceLT,Int.reduceEq,Int.reduceLT,Int.reduceLE,Int.reduceAdd,Int.reduceSub,Int.reduceMul,Int.reduceNeg,Int.reduceNe,reduceCtorEq,Int.reduceToNat,↓reduceIte]
  refine ⟨fun e => ?_, fun e => ?_⟩
  · refine PCalls.use (p_requal a.who b.who h) ?_; simp only [wk,if_true,if_false,forall_const,implies_true,ne_eq,eq_self,Nat.reduceEqDiff,Nat.reduceAdd,Nat.reduceMul,Nat.reduceSub,Nat.reduceLeDiff,Nat.reduceLT,Int.reduceEq,Int.reduceLT,Int.reduceLE,Int.reduceAdd,Int.reduceSub,Int.reduceMul,Int.reduceNeg,Int.reduceNe,reduceCtorEq,Int.reduceToNat,↓reduceIte]
    congr 1
    simp [sameEnt, e]
  · congr 1
    simp [sameEnt, e]
def mayEnt (x : Ent) : Bool := decide (0 ≤ x.op) && (decide (x.op < 8) && setMay x.who)
theorem p_emay (x : Ent) (h : smallE x) : PCalls Try.prog 83 [vE x] (.bool (mayEnt x)) := by
  refine pcalls_of (by simp [free.frees, free_vE]) rfl (acalls_of mixed J_acl_may_ok (Nat.le_of_ble_eq_true rfl) ?_); simp only [J_acl_may, vE, eC, wk,if_true,if_false,forall_const,implies_true,ne_eq,eq_self,Nat.reduceEqDiff,Nat.reduceAdd,Nat.reduceMul,Nat.reduceSub,Nat.reduceLeDiff,Nat.reduceLT,Int.reduceEq,Int.reduceLT,Int.reduceLE,Int.reduceAdd,Int.reduceSub,Int.reduceMul,Int.reduceNeg,Int.reduceNe,reduceCtorEq,Int.reduceToNat,↓reduceIte]
  refine ⟨fun e => ⟨fun e2 => ?_, fun e2 => ?_⟩, fun e => ?_⟩
  · refine PCalls.use (p_smay x.who (by have := h.1; omega) (fun w hw => by have := h.2 w hw; omega)) ?_; simp only [wk,if_true,if_false,forall_const,implies_true,ne_eq,eq_self,Nat.reduceEqDiff,Nat.reduceAdd,Nat.reduceMul,Nat.reduceSub,Nat.reduceLeDiff,Nat.reduceLT,Int.reduceEq,Int.reduceLT,Int.reduceLE,Int.reduceAdd,Int.reduceSub,Int.reduceMul,Int.reduceNeg,Int.reduceNe,reduceCtorEq,Int.reduceToNat,↓reduceIte]
    congr 1
    simp [mayEnt, e, e2]
  · congr 1
    simp [mayEnt, e2]
  · congr 1
    simp [mayEnt, e]
theorem p_remay (x : Ent) (h : smallE x) : PCalls Try.prog 86 [vE x] (.bool (mayEnt x)) := by
  refine pcalls_of (by simp [free.frees, free_vE]) rfl (acalls_of mixed J_ref16_may_ok (Nat.le_of_ble_eq_true rfl) ?_); simp only [J_ref16_may, vE, eC, wk,if_true,if_false,forall_const,implies_true,ne_eq,eq_self,Nat.reduceEqDiff,Nat.reduceAdd,Nat.reduceMul,Nat.reduceSub,Nat.reduceLeDiff,Nat.reduceLT,Int.reduceEq,Int.reduceLT,Int.reduceLE,Int.reduceAdd,Int.reduceSub,Int.reduceMul,Int.reduceNeg,Int.reduceNe,reduceCtorEq,Int.reduceToNat,↓reduceIte]
  refine ⟨fun e => ⟨fun e2 => ?_, fun e2 => ?_⟩, fun e => ?_⟩
  · refine PCalls.use (p_rsmay x.who (by have := h.1; omega) (fun w hw => by have := h.2 w hw; omega)) ?_; simp only [wk,if_true,if_false,forall_const,implies_true,ne_eq,eq_self,Nat.reduceEqDiff,Nat.reduceAdd,Nat.reduceMul,Nat.reduceSub,Nat.reduceLeDiff,Nat.reduceLT,Int.reduceEq,Int.reduceLT,Int.reduceLE,Int.reduceAdd,Int.reduceSub,Int.reduceMul,Int.reduceNeg,Int.reduceNe,reduceCtorEq,Int.reduceToNat,↓reduceIte]
    congr 1
    simp [mayEnt, e, show x.op < 8 by omega]
  · congr 1
    simp [mayEnt, show ¬ x.op < 8 by omega]
  · congr 1
    simp [mayEnt, e]
theorem p_sclone (l : List ByteArray) (h : l.length ≤ 1000000) : PCalls Try.prog 120 [.lst .ro l.length (l.map .str)] (.lst .ro l.length (l.map .str)) := by
  refine pcalls_of (by simp [free, free.frees, frees_str]) (by simp [free, frees_str]) (ACalls.weak (acalls_of mixed J_slices_Clone_api_Set_api_Word_ok (Nat.le_of_ble_eq_true rfl) ?_)); simp only [J_slices_Clone_api_Set_api_Word, wk,if_true,if_false,forall_const,implies_true,ne_eq,eq_self,Nat.reduceEqDiff,Nat.reduceAdd,Nat.reduceMul,Nat.reduceSub,Nat.reduceLeDiff,Nat.reduceLT,Int.reduceEq,Int.reduceLT,Int.reduceLE,Int.reduceAdd,Int.reduceSub,Int.reduceMul,Int.reduceNeg,Int.reduceNe,reduceCtorEq,Int.reduceToNat,↓reduceIte]
  refine ⟨⟨⟨by simp, by omega, by omega⟩, ?_⟩, fun h0 => ?_⟩
  · simp only [rod_ro]
  · have : l = [] := List.eq_nil_of_length_eq_zero h0
    subst this
    rfl
theorem p_clone (x : Ent) (h : smallE x) : PCalls Try.prog 85 [vE x] (vE x) := by
  refine pcalls_of (by simp [free.frees, free_vE]) (free_vE x) (acalls_of mixed J_acl_clone_ok (Nat.le_of_ble_eq_true rfl) ?_); simp only [J_acl_clone, vE, eC, wk,if_true,if_false,forall_const,implies_true,ne_eq,eq_self,Nat.reduceEqDiff,Nat.reduceAdd,Nat.reduceMul,Nat.reduceSub,Nat.reduceLeDiff,Nat.reduceLT,Int.reduceEq,Int.reduceLT,Int.reduceLE,Int.reduceAdd,Int.reduceSub,Int.reduceMul,Int.reduceNeg,Int.reduceNe,reduceCtorEq,Int.reduceToNat,↓reduceIte]
  refine PCalls.use (p_sclone x.who (by have := h.1; omega)) ?_; simp only [wk,if_true,if_false,forall_const,implies_true,ne_eq,eq_self,Nat.reduceEqDiff,Nat.reduceAdd,Nat.reduceMul,Nat.reduceSub,Nat.reduceLeDiff,Nat.reduceLT,Int.reduceEq,Int.reduceLT,Int.reduceLE,Int.reduceAdd,Int.reduceSub,Int.reduceMul,Int.reduceNeg,Int.reduceNe,reduceCtorEq,Int.reduceToNat,↓reduceIte]
  simp only [valL, wk,if_true,if_false,forall_const,implies_true,ne_eq,eq_self,Nat.reduceEqDiff,Nat.reduceAdd,Nat.reduceMul,Nat.reduceSub,Nat.reduceLeDiff,Nat.reduceLT,Int.reduceEq,Int.reduceLT,Int.reduceLE,Int.reduceAdd,Int.reduceSub,Int.reduceMul,Int.reduceNeg,Int.reduceNe,reduceCtorEq,Int.reduceToNat,↓reduceIte]
def numOk (n : Int) : Bool := decide (0 ≤ n ∧ n ≤ 4611686018427387904)
theorem p_recnum (n : Int) : PCalls Try.prog 49 [.int .i64 n] (.bool (numOk n)) := by
  refine pcalls_of (by first | rfl | simp [free, free.frees, frees_str, frees_u8, frees_u16]) (by first | rfl | simp [free, free.frees, frees_str, frees_u8, frees_u16]) (acalls_of mixed J_record_number_ok (Nat.le_of_ble_eq_true rfl) ?_); simp only [J_record_number, wk,if_true,if_false,forall_const,implies_true,ne_eq,eq_self,Nat.reduceEqDiff,Nat.reduceAdd,Nat.reduceMul,Nat.reduceSub,Nat.reduceLeDiff,Nat.reduceLT,Int.reduceEq,Int.reduceLT,Int.reduceLE,Int.reduceAdd,Int.reduceSub,Int.reduceMul,Int.reduceNeg,Int.reduceNe,reduceCtorEq,Int.reduceToNat,↓reduceIte]
  refine ⟨fun e => ?_, fun e => ?_⟩
  · congr 1; simp [numOk, e]
  · congr 1; simp [numOk, e]
theorem p_rrecnum (n : Int) : PCalls Try.prog 51 [.int .i64 n] (.bool (numOk n)) := by
  refine pcalls_of (by first | rfl | simp [free, free.frees, frees_str, frees_u8, frees_u16]) (by first | rfl | simp [free, free.frees, frees_str, frees_u8, frees_u16]) (acalls_of mixed J_ref21_num_ok (Nat.le_of_ble_eq_true rfl) ?_); simp only [J_ref21_num, wk,if_true,if_false,forall_const,implies_true,ne_eq,eq_self,Nat.reduceEqDiff,Nat.reduceAdd,Nat.reduceMul,Nat.reduceSub,Nat.reduceLeDiff,Nat.reduceLT,Int.reduceEq,Int.reduceLT,Int.reduceLE,Int.reduceAdd,Int.reduceSub,Int.reduceMul,Int.reduceNeg,Int.reduceNe,reduceCtorEq,Int.reduceToNat,↓reduceIte]
  refine ⟨fun e => ?_, fun e => ?_⟩
  · congr 1; simp [numOk, e]
  · congr 1; simp [numOk, e]
end Go.Proofs.Ytcbcnbefaggnhaa

/- What pack's Out and its reference do, over the abstract code. -/
namespace Go.Proofs.Ytcbcnbefaggnhaa
set_option linter.unusedSimpArgs false
set_option linter.unusedVariables false
open Go.RowKit Go.Lib

theorem hset {h : Hp} {id : Nat} {y : Option (Bool × List AV)} (ho : h[id]? = some y) (x : Option (Bool × List AV)) : (h.set id x)[id]? = some x := by
  have : id < h.length := (List.getElem?_eq_some_iff.1 ho).1
  rw [List.getElem?_set_self this]
theorem hself {h : Hp} {id : Nat} {y : Option (Bool × List AV)} (ho : h[id]? = some y) : h.set id y = h := by
  obtain ⟨h1, h2⟩ := List.getElem?_eq_some_iff.1 ho
  rw [← h2, List.set_getElem_self]

/-- an error's number -/
def eI : Bool → Int
  | true => 2
  | false => 0
theorem a_well {h : Hp} {id : Nat} {fl bad : Bool} {rest : List AV} (ho : h[id]? = some (some (fl, .int .i64 (eI bad) :: rest))) :
    ACalls Try.prog 92 [.ptr id 0] h (fun a h' => a = .bool (!bad) ∧ h = h') := by
  refine acalls_of mixed F_pack_met_well_ok (Nat.le_of_ble_eq_true rfl) ?_; simp only [F_pack_met_well, wk,if_true,if_false,forall_const,implies_true,ne_eq,eq_self,Nat.reduceEqDiff,Nat.reduceAdd,Nat.reduceMul,Nat.reduceSub,Nat.reduceLeDiff,Nat.reduceLT,Int.reduceEq,Int.reduceLT,Int.reduceLE,Int.reduceAdd,Int.reduceSub,Int.reduceMul,Int.reduceNeg,Int.reduceNe,reduceCtorEq,Int.reduceToNat,↓reduceIte]
  simp only [wk,if_true,if_false,forall_const,implies_true,ne_eq,eq_self,Nat.reduceEqDiff,Nat.reduceAdd,Nat.reduceMul,Nat.reduceSub,Nat.reduceLeDiff,Nat.reduceLT,Int.reduceEq,Int.reduceLT,Int.reduceLE,Int.reduceAdd,Int.reduceSub,Int.reduceMul,Int.reduceNeg,Int.reduceNe,reduceCtorEq,Int.reduceToNat,↓reduceIte, ho]
  cases bad <;> rfl
theorem a_fail {h : Hp} {id : Nat} {bad : Bool} {rest : List AV} (ho : h[id]? = some (some (false, .int .i64 (eI bad) :: rest))) :
    ACalls Try.prog 91 [.ptr id 0] h (fun a h' => a = .tup [] ∧ h' = h.set id (some (false, .int .i64 (eI true) :: rest))) := by
  refine acalls_of mixed F_pack_met_fail_ok (Nat.le_of_ble_eq_true rfl) ?_; simp only [F_pack_met_fail, wk,if_true,if_false,forall_const,implies_true,ne_eq,eq_self,Nat.reduceEqDiff,Nat.reduceAdd,Nat.reduceMul,Nat.reduceSub,Nat.reduceLeDiff,Nat.reduceLT,Int.reduceEq,Int.reduceLT,Int.reduceLE,Int.reduceAdd,Int.reduceSub,Int.reduceMul,Int.reduceNeg,Int.reduceNe,reduceCtorEq,Int.reduceToNat,↓reduceIte]
  refine ACalls.use (a_well ho) ?_; rintro _ _ ⟨rfl, rfl⟩; simp only [wk,if_true,if_false,forall_const,implies_true,ne_eq,eq_self,Nat.reduceEqDiff,Nat.reduceAdd,Nat.reduceMul,Nat.reduceSub,Nat.reduceLeDiff,Nat.reduceLT,Int.reduceEq,Int.reduceLT,Int.reduceLE,Int.reduceAdd,Int.reduceSub,Int.reduceMul,Int.reduceNeg,Int.reduceNe,reduceCtorEq,Int.reduceToNat,↓reduceIte]
  simp only [wk,if_true,if_false,forall_const,implies_true,ne_eq,eq_self,Nat.reduceEqDiff,Nat.reduceAdd,Nat.reduceMul,Nat.reduceSub,Nat.reduceLeDiff,Nat.reduceLT,Int.reduceEq,Int.reduceLT,Int.reduceLE,Int.reduceAdd,Int.reduceSub,Int.reduceMul,Int.reduceNeg,Int.reduceNe,reduceCtorEq,Int.reduceToNat,↓reduceIte, ho]
  refine ⟨fun h0 => ?_, fun h0 => ?_⟩
  · rfl
  · subst h0; rw [hself ho]

/-- what was written: is it wrong, and the bytes -/
abbrev oObj (s : Bool × List UInt8) : Option (Bool × List AV) := some (false, [.int .i64 (eI s.1), .lst (.own 5) s.2.length (u8s s.2)])
abbrev rObj (s : Bool × List UInt8) : Option (Bool × List AV) := some (false, [.str ⟨s.2.toArray⟩, .bool s.1])
def wri (ok : Bool) (add : List UInt8) (s : Bool × List UInt8) : Bool × List UInt8 := if s.1 then s else if ok then (false, s.2 ++ add) else (true, s.2)
def okNum (z : Int) : Bool := decide (0 ≤ z ∧ z ≤ 4611686018427387904)
theorem or_128 (m : Nat) : bitV .or .u8 (IntKind.u8.wrap (m : Int)) 128 = ((UInt8.ofNat (m % 128 + 128)).toNat : Int) := by
  have e1 : IntKind.u8.wrap (m : Int) = ((m % 256 : Nat) : Int) := by rw [IntKind.wrap_u8]; omega
  rw [e1]
  show bits .or .u8 _ ((128 : Nat) : Int) = _
  rw [u8_or_nat _ _ (by omega) (by omega)]
  have : m % 256 ||| 128 = m % 128 + 128 := by
    by_cases hb : m % 256 < 128
    · rw [Nat.or_comm, nat_join 7 128 (m % 256) (by omega) (by omega)]; omega
    · have h1 : m % 256 = 128 ||| (m % 128) := by rw [nat_join 7 128 (m % 128) (by omega) (by omega)]; omega
      rw [h1, Nat.or_comm, ← Nat.or_assoc, Nat.or_self, nat_join 7 128 (m % 128) (by omega) (by omega)]; omega
  rw [this]; simp only [UInt8.toNat_ofNat']; omega
theorem shr_7 (m : Nat) : (m : Int).fdiv (2 ^ (min 7 IntKind.i64.bits)) = ((m / 128 : Nat) : Int) := by
  rw [show (min 7 IntKind.i64.bits) = 7 by decide, Int.fdiv_eq_ediv_of_nonneg _ (by omega)]; omega
theorem wri_bad {ok : Bool} {add bs : List UInt8} : wri ok add (true, bs) = (true, bs) := rfl
theorem wri_not {add bs : List UInt8} {bad : Bool} : wri false add (bad, bs) = (true, bs) := by cases bad <;> rfl
theorem wri_yes {add bs : List UInt8} : wri true add (false, bs) = (false, bs ++ add) := rfl
set_option maxHeartbeats 1000000 in
theorem a_onum {h : Hp} {id : Nat} {s : Bool × List UInt8} (z : Int) (ho : h[id]? = some (oObj s)) (hl : s.2.length ≤ 1000000000000) :
    ACalls Try.prog 54 [.ptr id 0, .int .i64 z] h (fun a h' => a = .tup [] ∧ h' = h.set id (oObj (wri (okNum z) (num z.toNat) s))) := by
  obtain ⟨bad, bs⟩ := s
  simp only [oObj] at ho hl ⊢
  refine acalls_of mixed F_pack_Out_Num_ok (Nat.le_of_ble_eq_true rfl) ?_; simp only [F_pack_Out_Num, wk,if_true,if_false,forall_const,implies_true,ne_eq,eq_self,Nat.reduceEqDiff,Nat.reduceAdd,Nat.reduceMul,Nat.reduceSub,Nat.reduceLeDiff,Nat.reduceLT,Int.reduceEq,Int.reduceLT,Int.reduceLE,Int.reduceAdd,Int.reduceSub,Int.reduceMul,Int.reduceNeg,Int.reduceNe,reduceCtorEq,Int.reduceToNat,↓reduceIte]
  refine ⟨fun h0 => ⟨fun h1 => ?_, fun h1 => ?_⟩, fun h0 => ?_⟩
  · refine ACalls.use (a_fail ho) ?_; rintro _ _ ⟨rfl, rfl⟩; simp only [wk,if_true,if_false,forall_const,implies_true,ne_eq,eq_self,Nat.reduceEqDiff,Nat.reduceAdd,Nat.reduceMul,Nat.reduceSub,Nat.reduceLeDiff,Nat.reduceLT,Int.reduceEq,Int.reduceLT,Int.reduceLE,Int.reduceAdd,Int.reduceSub,Int.reduceMul,Int.reduceNeg,Int.reduceNe,reduceCtorEq,Int.reduceToNat,↓reduceIte, hset ho]
    refine ACalls.use (a_well (hset ho _)) ?_; rintro _ _ ⟨rfl, rfl⟩; simp only [wk,if_true,if_false,forall_const,implies_true,ne_eq,eq_self,Nat.reduceEqDiff,Nat.reduceAdd,Nat.reduceMul,Nat.reduceSub,Nat.reduceLeDiff,Nat.reduceLT,Int.reduceEq,Int.reduceLT,Int.reduceLE,Int.reduceAdd,Int.reduceSub,Int.reduceMul,Int.reduceNeg,Int.reduceNe,reduceCtorEq,Int.reduceToNat,↓reduceIte, hset ho]
    rw [show okNum z = false by unfold okNum; rw [decide_eq_false_iff_not]; omega, wri_not]
  · refine ACalls.use (a_well ho) ?_; rintro _ _ ⟨rfl, rfl⟩; simp only [wk,if_true,if_false,forall_const,implies_true,ne_eq,eq_self,Nat.reduceEqDiff,Nat.reduceAdd,Nat.reduceMul,Nat.reduceSub,Nat.reduceLeDiff,Nat.reduceLT,Int.reduceEq,Int.reduceLT,Int.reduceLE,Int.reduceAdd,Int.reduceSub,Int.reduceMul,Int.reduceNeg,Int.reduceNe,reduceCtorEq,Int.reduceToNat,↓reduceIte, ho]
    refine ⟨fun hb => ?_, fun hb => ?_⟩
    · subst hb; rw [wri_bad, hself ho]
    subst hb
    obtain ⟨n, rfl⟩ : ∃ n : Nat, z = n := ⟨z.toNat, by omega⟩
    rw [show okNum (n : Int) = true by unfold okNum; rw [decide_eq_true_eq]; omega, wri_yes]
    have hn9 := num_len9 (n := n) (by omega)
    refine W_loop (fun k fr h' => ∃ (pre : List UInt8) (m : Nat), k = m ∧ m ≤ n ∧ pre ++ num m = num n ∧ fr = [(0, .ptr id 0), (1, .int .i64 m)] ∧ h' = h.set id (oObj (false, bs ++ pre))) n ⟨[], n, rfl, by omega, rfl, rfl, by rw [List.append_nil, hself ho]⟩ ?_
    rintro k fr h' ⟨pre, m, rfl, hm, hpre, rfl, rfl⟩
    have htot : pre.length + (num k).length = (num n).length := by rw [← hpre, List.length_append]
    have hb1 : bs.length + pre.length + 1 ≤ 9223372036854775807 := by omega
    have hla : (bs ++ pre).length = bs.length + pre.length := List.length_append
    simp only [wk,if_true,if_false,forall_const,implies_true,ne_eq,eq_self,Nat.reduceEqDiff,Nat.reduceAdd,Nat.reduceMul,Nat.reduceSub,Nat.reduceLeDiff,Nat.reduceLT,Int.reduceEq,Int.reduceLT,Int.reduceLE,Int.reduceAdd,Int.reduceSub,Int.reduceMul,Int.reduceNeg,Int.reduceNe,reduceCtorEq,Int.reduceToNat,↓reduceIte, oObj]
    refine ⟨fun hge => ?_, fun hlt => ?_⟩
    · have hk := num_ge (n := k) (by omega)
      simp only [wk,if_true,if_false,forall_const,implies_true,ne_eq,eq_self,Nat.reduceEqDiff,Nat.reduceAdd,Nat.reduceMul,Nat.reduceSub,Nat.reduceLeDiff,Nat.reduceLT,Int.reduceEq,Int.reduceLT,Int.reduceLE,Int.reduceAdd,Int.reduceSub,Int.reduceMul,Int.reduceNeg,Int.reduceNe,reduceCtorEq,Int.reduceToNat,↓reduceIte, hset ho]
      (repeat (refine And.intro (by first | omega | exact inR_of (by omega) (by omega) | exact ⟨by omega, by omega⟩ | exact ⟨by omega, by omega, by omega⟩ | rfl) ?_))
      rw [shr_7, or_128]
      refine ⟨k / 128, by omega, pre ++ [UInt8.ofNat (k % 128 + 128)], k / 128, rfl, by omega, ?_, rfl, ?_⟩
      · rw [← hpre, hk]; simp
      · simp [Nat.add_assoc]
    · have hk := num_lt (n := k) (by omega)
      simp only [wk,if_true,if_false,forall_const,implies_true,ne_eq,eq_self,Nat.reduceEqDiff,Nat.reduceAdd,Nat.reduceMul,Nat.reduceSub,Nat.reduceLeDiff,Nat.reduceLT,Int.reduceEq,Int.reduceLT,Int.reduceLE,Int.reduceAdd,Int.reduceSub,Int.reduceMul,Int.reduceNeg,Int.reduceNe,reduceCtorEq,Int.reduceToNat,↓reduceIte, hset ho]
      (repeat (refine And.intro (by first | omega | exact inR_of (by omega) (by omega) | exact ⟨by omega, by omega⟩ | exact ⟨by omega, by omega, by omega⟩ | rfl) ?_))
      have e1 : IntKind.u8.wrap (k : Int) = ((UInt8.ofNat k).toNat : Int) := by rw [IntKind.wrap_u8]; simp only [UInt8.toNat_ofNat']; omega
      rw [e1, Int.toNat_natCast, ← hpre, hk]
      simp [Nat.add_assoc]
  · refine ACalls.use (a_fail ho) ?_; rintro _ _ ⟨rfl, rfl⟩; simp only [wk,if_true,if_false,forall_const,implies_true,ne_eq,eq_self,Nat.reduceEqDiff,Nat.reduceAdd,Nat.reduceMul,Nat.reduceSub,Nat.reduceLeDiff,Nat.reduceLT,Int.reduceEq,Int.reduceLT,Int.reduceLE,Int.reduceAdd,Int.reduceSub,Int.reduceMul,Int.reduceNeg,Int.reduceNe,reduceCtorEq,Int.reduceToNat,↓reduceIte, hset ho]
    refine ACalls.use (a_well (hset ho _)) ?_; rintro _ _ ⟨rfl, rfl⟩; simp only [wk,if_true,if_false,forall_const,implies_true,ne_eq,eq_self,Nat.reduceEqDiff,Nat.reduceAdd,Nat.reduceMul,Nat.reduceSub,Nat.reduceLeDiff,Nat.reduceLT,Int.reduceEq,Int.reduceLT,Int.reduceLE,Int.reduceAdd,Int.reduceSub,Int.reduceMul,Int.reduceNeg,Int.reduceNe,reduceCtorEq,Int.reduceToNat,↓reduceIte, hset ho]
    rw [show okNum z = false by unfold okNum; rw [decide_eq_false_iff_not]; omega, wri_not]
theorem wri_wri {a b : List UInt8} {bs : List UInt8} : wri true b (wri true a (false, bs)) = wri true (a ++ b) (false, bs) := by simp [wri]
theorem ba_len (s : ByteArray) : s.data.toList.length = s.size := by simp
set_option maxHeartbeats 1000000 in
theorem a_oword {h : Hp} {id : Nat} {s : Bool × List UInt8} (x : ByteArray) (ho : h[id]? = some (oObj s)) (hl : s.2.length ≤ 1000000000000) (hx : x.size ≤ 1000000000000) :
    ACalls Try.prog 93 [.ptr id 0, .str x] h (fun a h' => a = .tup [] ∧ h' = h.set id (oObj (wri (wordMay x) (wordBytes x) s))) := by
  obtain ⟨bad, bs⟩ := s
  simp only [oObj] at ho hl ⊢
  refine acalls_of mixed F_pack_Out_Word_ok (Nat.le_of_ble_eq_true rfl) ?_; simp only [F_pack_Out_Word, wk,if_true,if_false,forall_const,implies_true,ne_eq,eq_self,Nat.reduceEqDiff,Nat.reduceAdd,Nat.reduceMul,Nat.reduceSub,Nat.reduceLeDiff,Nat.reduceLT,Int.reduceEq,Int.reduceLT,Int.reduceLE,Int.reduceAdd,Int.reduceSub,Int.reduceMul,Int.reduceNeg,Int.reduceNe,reduceCtorEq,Int.reduceToNat,↓reduceIte]
  refine PCalls.use (p_wmay x (by omega)) ?_; simp only [wk,if_true,if_false,forall_const,implies_true,ne_eq,eq_self,Nat.reduceEqDiff,Nat.reduceAdd,Nat.reduceMul,Nat.reduceSub,Nat.reduceLeDiff,Nat.reduceLT,Int.reduceEq,Int.reduceLT,Int.reduceLE,Int.reduceAdd,Int.reduceSub,Int.reduceMul,Int.reduceNeg,Int.reduceNe,reduceCtorEq,Int.reduceToNat,↓reduceIte]
  refine ⟨fun hw => ?_, fun hw => ?_⟩
  · refine ACalls.use (a_fail ho) ?_; rintro _ _ ⟨rfl, rfl⟩; simp only [wk,if_true,if_false,forall_const,implies_true,ne_eq,eq_self,Nat.reduceEqDiff,Nat.reduceAdd,Nat.reduceMul,Nat.reduceSub,Nat.reduceLeDiff,Nat.reduceLT,Int.reduceEq,Int.reduceLT,Int.reduceLE,Int.reduceAdd,Int.reduceSub,Int.reduceMul,Int.reduceNeg,Int.reduceNe,reduceCtorEq,Int.reduceToNat,↓reduceIte, hset ho]
    refine ACalls.use (a_well (hset ho _)) ?_; rintro _ _ ⟨rfl, rfl⟩; simp only [wk,if_true,if_false,forall_const,implies_true,ne_eq,eq_self,Nat.reduceEqDiff,Nat.reduceAdd,Nat.reduceMul,Nat.reduceSub,Nat.reduceLeDiff,Nat.reduceLT,Int.reduceEq,Int.reduceLT,Int.reduceLE,Int.reduceAdd,Int.reduceSub,Int.reduceMul,Int.reduceNeg,Int.reduceNe,reduceCtorEq,Int.reduceToNat,↓reduceIte, hset ho]
    rw [hw, wri_not]
  · refine ACalls.use (a_well ho) ?_; rintro _ _ ⟨rfl, rfl⟩; simp only [wk,if_true,if_false,forall_const,implies_true,ne_eq,eq_self,Nat.reduceEqDiff,Nat.reduceAdd,Nat.reduceMul,Nat.reduceSub,Nat.reduceLeDiff,Nat.reduceLT,Int.reduceEq,Int.reduceLT,Int.reduceLE,Int.reduceAdd,Int.reduceSub,Int.reduceMul,Int.reduceNeg,Int.reduceNe,reduceCtorEq,Int.reduceToNat,↓reduceIte, ho]
    refine ⟨fun hb => ?_, fun hb => ?_⟩
    · subst hb
      refine ⟨_, p_wlen x (by omega), ?_⟩; simp only [wk,if_true,if_false,forall_const,implies_true,ne_eq,eq_self,Nat.reduceEqDiff,Nat.reduceAdd,Nat.reduceMul,Nat.reduceSub,Nat.reduceLeDiff,Nat.reduceLT,Int.reduceEq,Int.reduceLT,Int.reduceLE,Int.reduceAdd,Int.reduceSub,Int.reduceMul,Int.reduceNeg,Int.reduceNe,reduceCtorEq,Int.reduceToNat,↓reduceIte]
      simp only [wk,if_true,if_false,forall_const,implies_true,ne_eq,eq_self,Nat.reduceEqDiff,Nat.reduceAdd,Nat.reduceMul,Nat.reduceSub,Nat.reduceLeDiff,Nat.reduceLT,Int.reduceEq,Int.reduceLT,Int.reduceLE,Int.reduceAdd,Int.reduceSub,Int.reduceMul,Int.reduceNeg,Int.reduceNe,reduceCtorEq,Int.reduceToNat,↓reduceIte, hset ho]
      (repeat (refine And.intro (by first | omega | exact inR_of (by omega) (by omega) | exact ⟨by omega, by omega⟩ | exact ⟨by omega, by omega, by omega⟩ | rfl) ?_))
      rw [hw, wri_yes]
      have e1 : IntKind.u8.wrap ((x.size / 2 : Nat) : Int) = ((UInt8.ofNat (x.size / 2)).toNat : Int) := by rw [IntKind.wrap_u8]; simp only [UInt8.toNat_ofNat']; omega
      rw [e1]
      rw [Nat.add_assoc]
      simp [wordBytes, Nat.add_comm]
    · subst hb; rw [wri_bad, hself ho]
theorem setMay_word {l : List ByteArray} (h : setMay l = true) : ∀ x ∈ l, wordMay x = true := (setMay_words h).2
set_option maxHeartbeats 1000000 in
theorem a_oset {h : Hp} {id : Nat} {s : Bool × List UInt8} (l : List ByteArray) (ho : h[id]? = some (oObj s)) (hl : s.2.length ≤ 1000000000) (hx : l.length ≤ 10000) (hs : ∀ x ∈ l, x.size ≤ 10000) :
    ACalls Try.prog 55 [.ptr id 0, .lst .ro l.length (l.map .str)] h (fun a h' => a = .tup [] ∧ h' = h.set id (oObj (wri (setMay l) (setBytes l) s))) := by
  obtain ⟨bad, bs⟩ := s
  simp only [oObj] at ho hl ⊢
  refine acalls_of mixed F_pack_Out_Set_ok (Nat.le_of_ble_eq_true rfl) ?_; simp only [F_pack_Out_Set, wk,if_true,if_false,forall_const,implies_true,ne_eq,eq_self,Nat.reduceEqDiff,Nat.reduceAdd,Nat.reduceMul,Nat.reduceSub,Nat.reduceLeDiff,Nat.reduceLT,Int.reduceEq,Int.reduceLT,Int.reduceLE,Int.reduceAdd,Int.reduceSub,Int.reduceMul,Int.reduceNeg,Int.reduceNe,reduceCtorEq,Int.reduceToNat,↓reduceIte]
  refine PCalls.use (p_smay l (by omega) (fun x h => by have := hs x h; omega)) ?_; simp only [wk,if_true,if_false,forall_const,implies_true,ne_eq,eq_self,Nat.reduceEqDiff,Nat.reduceAdd,Nat.reduceMul,Nat.reduceSub,Nat.reduceLeDiff,Nat.reduceLT,Int.reduceEq,Int.reduceLT,Int.reduceLE,Int.reduceAdd,Int.reduceSub,Int.reduceMul,Int.reduceNeg,Int.reduceNe,reduceCtorEq,Int.reduceToNat,↓reduceIte]
  refine ⟨fun hw => ?_, fun hw => ?_⟩
  · refine ACalls.use (a_fail ho) ?_; rintro _ _ ⟨rfl, rfl⟩; simp only [wk,if_true,if_false,forall_const,implies_true,ne_eq,eq_self,Nat.reduceEqDiff,Nat.reduceAdd,Nat.reduceMul,Nat.reduceSub,Nat.reduceLeDiff,Nat.reduceLT,Int.reduceEq,Int.reduceLT,Int.reduceLE,Int.reduceAdd,Int.reduceSub,Int.reduceMul,Int.reduceNeg,Int.reduceNe,reduceCtorEq,Int.reduceToNat,↓reduceIte, hset ho]
    refine ACalls.use (a_well (hset ho _)) ?_; rintro _ _ ⟨rfl, rfl⟩; simp only [wk,if_true,if_false,forall_const,implies_true,ne_eq,eq_self,Nat.reduceEqDiff,Nat.reduceAdd,Nat.reduceMul,Nat.reduceSub,Nat.reduceLeDiff,Nat.reduceLT,Int.reduceEq,Int.reduceLT,Int.reduceLE,Int.reduceAdd,Int.reduceSub,Int.reduceMul,Int.reduceNeg,Int.reduceNe,reduceCtorEq,Int.reduceToNat,↓reduceIte, hset ho]
    rw [hw, wri_not]
  · refine ACalls.use (a_well ho) ?_; rintro _ _ ⟨rfl, rfl⟩; simp only [wk,if_true,if_false,forall_const,implies_true,ne_eq,eq_self,Nat.reduceEqDiff,Nat.reduceAdd,Nat.reduceMul,Nat.reduceSub,Nat.reduceLeDiff,Nat.reduceLT,Int.reduceEq,Int.reduceLT,Int.reduceLE,Int.reduceAdd,Int.reduceSub,Int.reduceMul,Int.reduceNeg,Int.reduceNe,reduceCtorEq,Int.reduceToNat,↓reduceIte, ho]
    refine ⟨fun hb => ?_, fun hb => ?_⟩
    · subst hb; rw [wri_bad, hself ho]
    · subst hb
      simp only [wk,if_true,if_false,forall_const,implies_true,ne_eq,eq_self,Nat.reduceEqDiff,Nat.reduceAdd,Nat.reduceMul,Nat.reduceSub,Nat.reduceLeDiff,Nat.reduceLT,Int.reduceEq,Int.reduceLT,Int.reduceLE,Int.reduceAdd,Int.reduceSub,Int.reduceMul,Int.reduceNeg,Int.reduceNe,reduceCtorEq,Int.reduceToNat,↓reduceIte, hset ho]
      (repeat (refine And.intro (by first | omega | exact inR_of (by omega) (by omega) | exact ⟨by omega, by omega⟩ | exact ⟨by omega, by omega, by omega⟩ | rfl) ?_))
      have e1 : IntKind.u8.wrap ((l.length : Nat) : Int) = ((UInt8.ofNat l.length).toNat : Int) := by rw [IntKind.wrap_u8]; simp only [UInt8.toNat_ofNat']; omega
      rw [e1]
      have hlen : ∀ i, ((l.take i).flatMap wordBytes).length ≤ 20000 * i := by
        intro i
        induction i with
        | zero => simp
        | succ i ih =>
          by_cases h : i < l.length
          · rw [List.take_succ_eq_append_getElem h, List.flatMap_append, List.length_append]
            have := hs l[i] (List.getElem_mem h)
            have e : l[i].data.toList.length = l[i].size := by simp
            simp only [List.flatMap_cons, List.flatMap_nil, List.append_nil, wordBytes, List.length_cons, e]; omega
          · rw [List.take_of_length_le (by omega)] at ih ⊢; omega
      refine W_loop (fun k fr h' => ∃ i : Nat, i ≤ l.length ∧ k = l.length - i ∧ fr = [(0, .ptr id 0), (30, .lst .ro l.length (l.map .str)), (31, .int .i64 l.length), (32, .int .i64 i)] ∧ h' = h.set id (oObj (false, bs ++ UInt8.ofNat l.length :: (l.take i).flatMap wordBytes))) l.length ⟨0, by omega, by omega, rfl, by simp [oObj]⟩ ?_
      rintro k fr h' ⟨i, hi, rfl, rfl, rfl⟩
      simp only [wk,if_true,if_false,forall_const,implies_true,ne_eq,eq_self,Nat.reduceEqDiff,Nat.reduceAdd,Nat.reduceMul,Nat.reduceSub,Nat.reduceLeDiff,Nat.reduceLT,Int.reduceEq,Int.reduceLT,Int.reduceLE,Int.reduceAdd,Int.reduceSub,Int.reduceMul,Int.reduceNeg,Int.reduceNe,reduceCtorEq,Int.reduceToNat,↓reduceIte]
      refine ⟨fun hlt => ?_, fun hge => ?_⟩
      · have hil : i < l.length := by omega
        refine ⟨⟨by omega, hlt⟩, ?_⟩
        rw [show (i : Int).toNat = i by omega, drop_str hil]
        simp only [wk,if_true,if_false,forall_const,implies_true,ne_eq,eq_self,Nat.reduceEqDiff,Nat.reduceAdd,Nat.reduceMul,Nat.reduceSub,Nat.reduceLeDiff,Nat.reduceLT,Int.reduceEq,Int.reduceLT,Int.reduceLE,Int.reduceAdd,Int.reduceSub,Int.reduceMul,Int.reduceNeg,Int.reduceNe,reduceCtorEq,Int.reduceToNat,↓reduceIte]
        have h1 := hlen i
        have h2 := hs l[i] (List.getElem_mem hil)
        refine ACalls.use (a_oword l[i] (hset ho _) (by simp only [List.length_append, List.length_cons]; omega) (by omega)) ?_; rintro _ _ ⟨rfl, rfl⟩; simp only [wk,if_true,if_false,forall_const,implies_true,ne_eq,eq_self,Nat.reduceEqDiff,Nat.reduceAdd,Nat.reduceMul,Nat.reduceSub,Nat.reduceLeDiff,Nat.reduceLT,Int.reduceEq,Int.reduceLT,Int.reduceLE,Int.reduceAdd,Int.reduceSub,Int.reduceMul,Int.reduceNeg,Int.reduceNe,reduceCtorEq,Int.reduceToNat,↓reduceIte]
        refine ⟨inR_of (by omega) (by omega), l.length - (i + 1), by omega, i + 1, by omega, rfl, rfl, ?_⟩
        rw [setMay_word hw _ (List.getElem_mem hil), wri_yes, List.take_succ_eq_append_getElem hil, List.flatMap_append]
        simp
      · have : i = l.length := by omega
        subst this
        rw [hw, wri_yes, List.take_length, setBytes]
theorem words_len (l : List ByteArray) (hs : ∀ x ∈ l, x.size ≤ 1000) : (l.flatMap wordBytes).length ≤ 1001 * l.length := by
  induction l with
  | nil => simp
  | cons x l ih =>
    have h1 := ih (fun y hy => hs y (List.mem_cons_of_mem _ hy))
    have h2 := hs x List.mem_cons_self
    rw [List.flatMap_cons, List.length_append, wordBytes, List.length_cons, ba_len, List.length_cons]; omega
theorem setBytes_len (l : List ByteArray) (hl : l.length ≤ 1000) (hs : ∀ x ∈ l, x.size ≤ 1000) : (setBytes l).length ≤ 1002000 := by
  have := words_len l hs
  rw [setBytes, List.length_cons]; omega
/-- what a writer tells -/
def told (s : Bool × List UInt8) : AV := .tup [.str (if s.1 then ⟨#[]⟩ else ⟨s.2.toArray⟩), .int .i64 (eI s.1)]
theorem a_odone {h : Hp} {id : Nat} {s : Bool × List UInt8} (ho : h[id]? = some (oObj s)) :
    ACalls Try.prog 56 [.ptr id 0] h (fun a h' => a = told s ∧ h = h') := by
  obtain ⟨bad, bs⟩ := s
  simp only [oObj] at ho ⊢
  refine acalls_of mixed F_pack_Out_Done_ok (Nat.le_of_ble_eq_true rfl) ?_; simp only [F_pack_Out_Done, wk,if_true,if_false,forall_const,implies_true,ne_eq,eq_self,Nat.reduceEqDiff,Nat.reduceAdd,Nat.reduceMul,Nat.reduceSub,Nat.reduceLeDiff,Nat.reduceLT,Int.reduceEq,Int.reduceLT,Int.reduceLE,Int.reduceAdd,Int.reduceSub,Int.reduceMul,Int.reduceNeg,Int.reduceNe,reduceCtorEq,Int.reduceToNat,↓reduceIte]
  refine ACalls.use (a_well ho) ?_; rintro _ _ ⟨rfl, rfl⟩; simp only [wk,if_true,if_false,forall_const,implies_true,ne_eq,eq_self,Nat.reduceEqDiff,Nat.reduceAdd,Nat.reduceMul,Nat.reduceSub,Nat.reduceLeDiff,Nat.reduceLT,Int.reduceEq,Int.reduceLT,Int.reduceLE,Int.reduceAdd,Int.reduceSub,Int.reduceMul,Int.reduceNeg,Int.reduceNe,reduceCtorEq,Int.reduceToNat,↓reduceIte, ho]
  cases bad with
  | true => exact ⟨fun _ => rfl, fun hb => (nomatch hb)⟩
  | false => exact ⟨fun hb => (nomatch hb), fun _ => ⟨bs, rfl, rfl, rfl⟩⟩

theorem str_app' (a : List UInt8) (x : ByteArray) : (⟨a.toArray⟩ ++ x : ByteArray) = ⟨(a ++ x.data.toList).toArray⟩ := by
  apply ByteArray.ext; apply Array.ext'; simp
theorem ba_size (l : List UInt8) : (⟨l.toArray⟩ : ByteArray).size = l.length := by show l.toArray.size = _; simp
end Go.Proofs.Ytcbcnbefaggnhaa

/- What pack's In does, over the abstract code. -/
namespace Go.Proofs.Ytcbcnbefaggnhaa
set_option linter.unusedSimpArgs false
set_option linter.unusedVariables false
open Go.RowKit Go.Lib

/-- what is read: is it wrong, and the place -/
abbrev iObj (S : ByteArray) (s : Bool × Nat) : Option (Bool × List AV) := some (false, [.int .i64 (eI s.1), .str S, .int .i64 s.2])
abbrev jObj (S : ByteArray) (s : Bool × Nat) : Option (Bool × List AV) := some (false, [.str S, .int .i64 s.2, .bool s.1])
theorem wrap_small {z : Int} (h0 : 0 ≤ z) (h1 : z ≤ 4611686018427387904) : IntKind.i64.wrap z = z := by
  rw [IntKind.wrap_i64]; omega
/-- a number and its length, as told -/
def nums : Option (Nat × Nat) → AV
  | some (n, m) => .tup [.int .i64 n, .int .i64 m]
  | none => .tup [.int .i64 0, .int .i64 0]
theorem and_127 (c : Nat) (h : c < 256) : bitV .and .u8 (c : Int) 127 = ((c % 128 : Nat) : Int) := by
  show bits .and .u8 _ ((127 : Nat) : Int) = _
  rw [u8_and_nat _ _ h (by omega), nat_mask7]
theorem shl_7k (c k : Nat) (hk : k ≤ 8) (hc : c < 128) : IntKind.u64.wrap (IntKind.u64.wrap (c : Int) * 2 ^ (min (7 * (k : Int)).toNat IntKind.u64.bits)) = ((c * 128 ^ k : Nat) : Int) := by
  have e0 : min (7 * (k : Int)).toNat IntKind.u64.bits = 7 * k := by rw [show IntKind.u64.bits = 64 by decide]; omega
  have e1 : IntKind.u64.wrap (c : Int) = c := by rw [IntKind.wrap_u64]; omega
  have e2 : (2 : Int) ^ (7 * k) = ((128 ^ k : Nat) : Int) := by rw [show (128 : Nat) = 2 ^ 7 by rfl, ← Nat.pow_mul]; simp
  have e3 : c * 128 ^ k < 18446744073709551616 := by
    have h1 : 128 ^ k ≤ 128 ^ 8 := Nat.pow_le_pow_right (by omega) hk
    have h2 : c * 128 ^ k ≤ 127 * 128 ^ 8 := Nat.mul_le_mul (by omega) h1
    omega
  rw [e0, e1, e2, IntKind.wrap_u64]
  rw [← Int.natCast_mul]; omega
theorem or_acc (a c k : Nat) (hk : k ≤ 8) (hc : c < 128) (ha : a < 128 ^ k) : bitV .or .u64 (a : Int) ((c * 128 ^ k : Nat) : Int) = ((a + c * 128 ^ k : Nat) : Int) := by
  have h1 : 128 ^ k ≤ 128 ^ 8 := Nat.pow_le_pow_right (by omega) hk
  have h2 : c * 128 ^ k ≤ 127 * 128 ^ 8 := Nat.mul_le_mul (by omega) h1
  have e : 128 ^ k = 2 ^ (7 * k) := by rw [Nat.pow_mul]
  show bits .or .u64 _ _ = _
  rw [u64_or_nat _ _ (by omega) (by omega), Nat.or_comm, nat_join (7 * k) _ _ (by rw [e]; exact Nat.mul_mod_left _ _) (by rw [← e]; exact ha), Nat.add_comm]
set_option maxRecDepth 100000 in
set_option maxHeartbeats 1000000 in
theorem p_number (s : ByteArray) (hs : s.size ≤ 1000000000000) : PCalls Try.prog 95 [.str s] (nums (rdNum s.data.toList)) := by
  refine pcalls_of rfl (by cases rdNum s.data.toList <;> rfl) (acalls_of mixed F_pack_number_ok (Nat.le_of_ble_eq_true rfl) ?_); simp only [F_pack_number, wk,if_true,if_false,forall_const,implies_true,ne_eq,eq_self,Nat.reduceEqDiff,Nat.reduceAdd,Nat.reduceMul,Nat.reduceSub,Nat.reduceLeDiff,Nat.reduceLT,Int.reduceEq,Int.reduceLT,Int.reduceLE,Int.reduceAdd,Int.reduceSub,Int.reduceMul,Int.reduceNeg,Int.reduceNe,reduceCtorEq,Int.reduceToNat,↓reduceIte]
  refine W_loop (fun n fr h => ∃ (k acc : Nat), k ≤ 9 ∧ n = 9 - k ∧ k ≤ s.size ∧ acc < 128 ^ k ∧ fr = [(0, .str s), (4, .int .u64 acc), (5, .int .i64 k)] ∧ rdNum s.data.toList = rdNumAt k acc (s.data.toList.drop k)) 9 ⟨0, 0, by omega, rfl, by omega, by simp, rfl, rfl⟩ ?_
  rintro n fr h ⟨k, acc, hk9, rfl, hks, hacc, rfl, hrd⟩
  simp only [wk,if_true,if_false,forall_const,implies_true,ne_eq,eq_self,Nat.reduceEqDiff,Nat.reduceAdd,Nat.reduceMul,Nat.reduceSub,Nat.reduceLeDiff,Nat.reduceLT,Int.reduceEq,Int.reduceLT,Int.reduceLE,Int.reduceAdd,Int.reduceSub,Int.reduceMul,Int.reduceNeg,Int.reduceNe,reduceCtorEq,Int.reduceToNat,↓reduceIte]
  refine ⟨fun hlt => ⟨fun h9 => ?_, fun h9 => ?_⟩, fun hge => ?_⟩
  · have hkl : k < s.size := by omega
    have hkd : k < s.data.toList.length := by simpa using hkl
    have hdrop : s.data.toList.drop k = s[k] :: s.data.toList.drop (k + 1) := by rw [List.drop_eq_getElem_cons hkd]; rfl
    have hb := s[k].toNat_lt
    (repeat (refine And.intro (by first | omega | exact inR_of (by omega) (by omega) | exact ⟨by omega, by omega⟩ | exact ⟨by omega, by omega, by omega⟩ | rfl) ?_))
    rw [show (k : Int).toNat = k by omega, byteAt_eq hkl, and_127 _ hb, shl_7k _ k (by omega) (by omega), or_acc _ _ k (by omega) (by omega) hacc]
    rw [hdrop, rdNumAt, if_neg (by omega)] at hrd
    have hp1 : 128 ^ k ≤ 128 ^ 8 := Nat.pow_le_pow_right (by omega) (by omega)
    have hp2 : s[k].toNat % 128 * 128 ^ k ≤ 127 * 128 ^ 8 := Nat.mul_le_mul (by omega) hp1
    have hp3 : acc + s[k].toNat % 128 * 128 ^ k < 128 ^ (k + 1) := by
      have : s[k].toNat % 128 * 128 ^ k ≤ 127 * 128 ^ k := Nat.mul_le_mul (by omega) (Nat.le_refl _)
      rw [Nat.pow_succ]; omega
    have hsm : ¬ 128 ≤ s[k].toNat → s[k].toNat % 128 = s[k].toNat := fun h => Nat.mod_eq_of_lt (by omega)
    have hA : ¬ 128 ≤ s[k].toNat → ¬ (0 < k ∧ s[k].toNat = 0) → (4611686018427387904 : Int) < ((acc + s[k].toNat % 128 * 128 ^ k : Nat) : Int) → AV.tup [.int .i64 0, .int .i64 0] = nums (rdNum s.data.toList) := by
      intro h1 h2 h3
      rw [hsm h1] at h3
      rw [hrd, if_neg h2, if_neg h1, if_pos (by omega)]; rfl
    have hB : ¬ 128 ≤ s[k].toNat → ¬ (0 < k ∧ s[k].toNat = 0) → ¬ (4611686018427387904 : Int) < ((acc + s[k].toNat % 128 * 128 ^ k : Nat) : Int) → inR ((k : Int) + 1) ∧ AV.tup [.int .i64 (IntKind.i64.wrap ((acc + s[k].toNat % 128 * 128 ^ k : Nat) : Int)), .int .i64 ((k : Int) + 1)] = nums (rdNum s.data.toList) := by
      intro h1 h2 h3
      rw [hsm h1] at h3 ⊢
      refine ⟨inR_of (by omega) (by omega), ?_⟩
      rw [hrd, if_neg h2, if_neg h1, if_neg (by omega), wrap_small (by omega) (by omega)]
      rfl
    refine ⟨fun hc => ⟨inR_of (by omega) (by omega), 9 - (k + 1), by omega, k + 1, _, by omega, rfl, by omega, hp3, rfl, ?_⟩, fun hc => ⟨fun h0 => ⟨fun hz => ⟨hA (by omega) (by omega), hB (by omega) (by omega)⟩, fun hz => ?_⟩, fun h0 => ⟨hA (by omega) (by omega), hB (by omega) (by omega)⟩⟩⟩
    · rw [hrd, if_neg (by omega), if_pos (by omega)]
    · rw [hrd, if_pos (by omega)]; rfl
  · rw [hrd, rdNumAt_nine (by omega)]; rfl
  · rw [hrd, List.drop_eq_nil_of_le (by simp; omega)]; rfl
theorem a_from {h : Hp} (S : ByteArray) : ACalls Try.prog 59 [.str S] h (fun a h' => a = .ptr h.length 0 ∧ h' = h ++ [iObj S (false, 0)]) := by
  refine acalls_of mixed F_pack_From_ok (Nat.le_of_ble_eq_true rfl) ?_; simp only [F_pack_From, wk,if_true,if_false,forall_const,implies_true,ne_eq,eq_self,Nat.reduceEqDiff,Nat.reduceAdd,Nat.reduceMul,Nat.reduceSub,Nat.reduceLeDiff,Nat.reduceLT,Int.reduceEq,Int.reduceLT,Int.reduceLE,Int.reduceAdd,Int.reduceSub,Int.reduceMul,Int.reduceNeg,Int.reduceNe,reduceCtorEq,Int.reduceToNat,↓reduceIte]
  rfl
theorem a_left {h : Hp} {id : Nat} {S : ByteArray} {s : Bool × Nat} (ho : h[id]? = some (iObj S s)) (hs : S.size ≤ 1000000000000) (hp : s.2 ≤ S.size) :
    ACalls Try.prog 98 [.ptr id 0] h (fun a h' => a = .int .i64 (if s.1 then 0 else ((S.size - s.2 : Nat) : Int)) ∧ h = h') := by
  obtain ⟨bad, p⟩ := s
  simp only [iObj] at ho hp ⊢
  refine acalls_of mixed F_pack_In_Left_ok (Nat.le_of_ble_eq_true rfl) ?_; simp only [F_pack_In_Left, wk,if_true,if_false,forall_const,implies_true,ne_eq,eq_self,Nat.reduceEqDiff,Nat.reduceAdd,Nat.reduceMul,Nat.reduceSub,Nat.reduceLeDiff,Nat.reduceLT,Int.reduceEq,Int.reduceLT,Int.reduceLE,Int.reduceAdd,Int.reduceSub,Int.reduceMul,Int.reduceNeg,Int.reduceNe,reduceCtorEq,Int.reduceToNat,↓reduceIte]
  refine ACalls.use (a_well ho) ?_; rintro _ _ ⟨rfl, rfl⟩; simp only [wk,if_true,if_false,forall_const,implies_true,ne_eq,eq_self,Nat.reduceEqDiff,Nat.reduceAdd,Nat.reduceMul,Nat.reduceSub,Nat.reduceLeDiff,Nat.reduceLT,Int.reduceEq,Int.reduceLT,Int.reduceLE,Int.reduceAdd,Int.reduceSub,Int.reduceMul,Int.reduceNeg,Int.reduceNe,reduceCtorEq,Int.reduceToNat,↓reduceIte, ho]
  refine ⟨fun hb => ?_, fun hb => ?_⟩ <;> subst hb
  · rfl
  · exact ⟨inR_of (by omega) (by omega), int_eq (by simp; omega)⟩
theorem a_idone {h : Hp} {id : Nat} {S : ByteArray} {s : Bool × Nat} (ho : h[id]? = some (iObj S s)) (hs : S.size ≤ 1000000000000) (hp : s.2 ≤ S.size) :
    ACalls Try.prog 62 [.ptr id 0] h (fun a h' => a = .int .i64 (eI (s.1 || decide (s.2 < S.size))) ∧ h' = h.set id (iObj S (s.1 || decide (s.2 < S.size), s.2))) := by
  obtain ⟨bad, p⟩ := s
  simp only [iObj] at ho hp ⊢
  refine acalls_of mixed F_pack_In_Done_ok (Nat.le_of_ble_eq_true rfl) ?_; simp only [F_pack_In_Done, wk,if_true,if_false,forall_const,implies_true,ne_eq,eq_self,Nat.reduceEqDiff,Nat.reduceAdd,Nat.reduceMul,Nat.reduceSub,Nat.reduceLeDiff,Nat.reduceLT,Int.reduceEq,Int.reduceLT,Int.reduceLE,Int.reduceAdd,Int.reduceSub,Int.reduceMul,Int.reduceNeg,Int.reduceNe,reduceCtorEq,Int.reduceToNat,↓reduceIte]
  refine ACalls.use (a_left (s := (bad, p)) ho hs hp) ?_; rintro _ _ ⟨rfl, rfl⟩; simp only [wk,if_true,if_false,forall_const,implies_true,ne_eq,eq_self,Nat.reduceEqDiff,Nat.reduceAdd,Nat.reduceMul,Nat.reduceSub,Nat.reduceLeDiff,Nat.reduceLT,Int.reduceEq,Int.reduceLT,Int.reduceLE,Int.reduceAdd,Int.reduceSub,Int.reduceMul,Int.reduceNeg,Int.reduceNe,reduceCtorEq,Int.reduceToNat,↓reduceIte, ho]
  have hself' := hself ho
  cases bad with
  | true => exact ⟨fun h => absurd h (by simp), fun _ => ⟨rfl, hself'.symm⟩⟩
  | false =>
    refine ⟨fun hl => ?_, fun hl => ?_⟩
    · have hlt : p < S.size := by simp at hl; omega
      refine ACalls.use (a_fail ho) ?_; rintro _ _ ⟨rfl, rfl⟩; simp only [wk,if_true,if_false,forall_const,implies_true,ne_eq,eq_self,Nat.reduceEqDiff,Nat.reduceAdd,Nat.reduceMul,Nat.reduceSub,Nat.reduceLeDiff,Nat.reduceLT,Int.reduceEq,Int.reduceLT,Int.reduceLE,Int.reduceAdd,Int.reduceSub,Int.reduceMul,Int.reduceNeg,Int.reduceNe,reduceCtorEq,Int.reduceToNat,↓reduceIte, hset ho]
      rw [decide_eq_true hlt]; exact ⟨rfl, rfl⟩
    · have hlt : ¬ p < S.size := by simp at hl; omega
      rw [decide_eq_false hlt]; exact ⟨rfl, hself'.symm⟩
/-- what reading leaves -/
def stO {α : Type} (r : Option (α × Nat)) (q : Nat) : Bool × Nat :=
  match r with
  | some (_, p) => (false, p)
  | none => (true, q)
def vI : Option (Nat × Nat) → AV
  | some (n, _) => .int .i64 n
  | none => .int .i64 0
def vS : Option (ByteArray × Nat) → AV
  | some (s, _) => .str s
  | none => .str ⟨#[]⟩
def rNum (S : ByteArray) (most : Int) (p : Nat) : Option (Nat × Nat) :=
  match rdNum (S.data.toList.drop p) with
  | some (n, m) => if (n : Int) ≤ most then some (n, p + m) else none
  | none => none
theorem extract_end (S : ByteArray) (p : Nat) : (S.extract p S.size).data.toList = S.data.toList.drop p := by
  simp only [ByteArray.data_extract, Array.toList_extract, List.extract_eq_take_drop]
  rw [List.take_of_length_le (by simp)]
theorem rNum_le {S : ByteArray} {most : Int} {p n q : Nat} (h : rNum S most p = some (n, q)) (hp : p ≤ S.size) : p < q ∧ q ≤ S.size ∧ n ≤ 4611686018427387904 ∧ (n : Int) ≤ most := by
  unfold rNum at h
  split at h
  · next n' m hr =>
    have := rdNumAt_size _ _ _ _ _ hr
    simp at this
    split at h
    · simp only [Option.some.injEq, Prod.mk.injEq] at h; omega
    · cases h
  · cases h
set_option maxHeartbeats 1000000 in
theorem a_inum {h : Hp} {id : Nat} {S : ByteArray} {s : Bool × Nat} (most : Int) (ho : h[id]? = some (iObj S s)) (hs : S.size ≤ 1000000000000) (hp : s.2 ≤ S.size) :
    ACalls Try.prog 60 [.ptr id 0, .int .i64 most] h (fun a h' => a = vI (if s.1 then none else rNum S most s.2) ∧ h' = h.set id (iObj S (stO (if s.1 then none else rNum S most s.2) s.2))) := by
  obtain ⟨bad, p⟩ := s
  simp only [iObj] at ho hp ⊢
  refine acalls_of mixed F_pack_In_Num_ok (Nat.le_of_ble_eq_true rfl) ?_; simp only [F_pack_In_Num, wk,if_true,if_false,forall_const,implies_true,ne_eq,eq_self,Nat.reduceEqDiff,Nat.reduceAdd,Nat.reduceMul,Nat.reduceSub,Nat.reduceLeDiff,Nat.reduceLT,Int.reduceEq,Int.reduceLT,Int.reduceLE,Int.reduceAdd,Int.reduceSub,Int.reduceMul,Int.reduceNeg,Int.reduceNe,reduceCtorEq,Int.reduceToNat,↓reduceIte]
  refine ACalls.use (a_well ho) ?_; rintro _ _ ⟨rfl, rfl⟩; simp only [wk,if_true,if_false,forall_const,implies_true,ne_eq,eq_self,Nat.reduceEqDiff,Nat.reduceAdd,Nat.reduceMul,Nat.reduceSub,Nat.reduceLeDiff,Nat.reduceLT,Int.reduceEq,Int.reduceLT,Int.reduceLE,Int.reduceAdd,Int.reduceSub,Int.reduceMul,Int.reduceNeg,Int.reduceNe,reduceCtorEq,Int.reduceToNat,↓reduceIte, ho]
  refine ⟨fun hb => ?_, fun hb => ?_⟩ <;> subst hb
  · exact ⟨rfl, (hself ho).symm⟩
  refine ⟨⟨by omega, by omega, by omega⟩, ?_⟩
  rw [show (p : Int).toNat = p by omega, show (S.size : Int).toNat = S.size by omega]
  refine ⟨_, p_number (S.extract p S.size) (by simp; omega), ?_⟩
  rw [extract_end]
  simp only [rNum, Bool.false_eq_true, if_false]
  cases hr : rdNum (S.data.toList.drop p) with
  | none =>
    simp only [wk,if_true,if_false,forall_const,implies_true,ne_eq,eq_self,Nat.reduceEqDiff,Nat.reduceAdd,Nat.reduceMul,Nat.reduceSub,Nat.reduceLeDiff,Nat.reduceLT,Int.reduceEq,Int.reduceLT,Int.reduceLE,Int.reduceAdd,Int.reduceSub,Int.reduceMul,Int.reduceNeg,Int.reduceNe,reduceCtorEq,Int.reduceToNat,↓reduceIte, nums]
    refine ACalls.use (a_fail ho) ?_; rintro _ _ ⟨rfl, rfl⟩; simp only [wk,if_true,if_false,forall_const,implies_true,ne_eq,eq_self,Nat.reduceEqDiff,Nat.reduceAdd,Nat.reduceMul,Nat.reduceSub,Nat.reduceLeDiff,Nat.reduceLT,Int.reduceEq,Int.reduceLT,Int.reduceLE,Int.reduceAdd,Int.reduceSub,Int.reduceMul,Int.reduceNeg,Int.reduceNe,reduceCtorEq,Int.reduceToNat,↓reduceIte, hset ho]
    exact ⟨rfl, rfl⟩
  | some nm =>
    obtain ⟨n, m⟩ := nm
    have hsz := rdNumAt_size _ _ _ _ _ hr
    simp at hsz
    simp only [wk,if_true,if_false,forall_const,implies_true,ne_eq,eq_self,Nat.reduceEqDiff,Nat.reduceAdd,Nat.reduceMul,Nat.reduceSub,Nat.reduceLeDiff,Nat.reduceLT,Int.reduceEq,Int.reduceLT,Int.reduceLE,Int.reduceAdd,Int.reduceSub,Int.reduceMul,Int.reduceNeg,Int.reduceNe,reduceCtorEq,Int.reduceToNat,↓reduceIte, nums]
    refine ⟨fun hm => ⟨fun hgt => ?_, fun hle => ?_⟩, fun hm => by omega⟩
    · refine ACalls.use (a_fail ho) ?_; rintro _ _ ⟨rfl, rfl⟩; simp only [wk,if_true,if_false,forall_const,implies_true,ne_eq,eq_self,Nat.reduceEqDiff,Nat.reduceAdd,Nat.reduceMul,Nat.reduceSub,Nat.reduceLeDiff,Nat.reduceLT,Int.reduceEq,Int.reduceLT,Int.reduceLE,Int.reduceAdd,Int.reduceSub,Int.reduceMul,Int.reduceNeg,Int.reduceNe,reduceCtorEq,Int.reduceToNat,↓reduceIte, hset ho]
      rw [if_neg (by omega)]; exact ⟨rfl, rfl⟩
    · simp only [wk,if_true,if_false,forall_const,implies_true,ne_eq,eq_self,Nat.reduceEqDiff,Nat.reduceAdd,Nat.reduceMul,Nat.reduceSub,Nat.reduceLeDiff,Nat.reduceLT,Int.reduceEq,Int.reduceLT,Int.reduceLE,Int.reduceAdd,Int.reduceSub,Int.reduceMul,Int.reduceNeg,Int.reduceNe,reduceCtorEq,Int.reduceToNat,↓reduceIte, ho]
      (repeat (refine And.intro (by first | omega | exact inR_of (by omega) (by omega) | exact ⟨by omega, by omega⟩ | exact ⟨by omega, by omega, by omega⟩ | rfl) ?_))
      rw [if_pos (by omega)]
      exact ⟨rfl, rfl⟩
set_option maxHeartbeats 1000000 in
theorem a_take {h : Hp} {id : Nat} {S : ByteArray} {s : Bool × Nat} (n : Nat) (ho : h[id]? = some (iObj S s)) (hs : S.size ≤ 1000000000000) (hp : s.2 ≤ S.size) (hn : n ≤ 4611686018427387904) :
    ACalls Try.prog 125 [.ptr id 0, .int .i64 n] h (fun a h' => a = vS (if s.1 ∨ S.size < s.2 + n then none else some (S.extract s.2 (s.2 + n), s.2 + n)) ∧ h' = h.set id (iObj S (stO (if s.1 ∨ S.size < s.2 + n then none else some (S.extract s.2 (s.2 + n), s.2 + n)) s.2))) := by
  obtain ⟨bad, p⟩ := s
  simp only [iObj] at ho hp ⊢
  refine acalls_of mixed F_pack_In_take_ok (Nat.le_of_ble_eq_true rfl) ?_; simp only [F_pack_In_take, wk,if_true,if_false,forall_const,implies_true,ne_eq,eq_self,Nat.reduceEqDiff,Nat.reduceAdd,Nat.reduceMul,Nat.reduceSub,Nat.reduceLeDiff,Nat.reduceLT,Int.reduceEq,Int.reduceLT,Int.reduceLE,Int.reduceAdd,Int.reduceSub,Int.reduceMul,Int.reduceNeg,Int.reduceNe,reduceCtorEq,Int.reduceToNat,↓reduceIte]
  refine ⟨_, _, (a_well ho).mono (fun _ _ h => ⟨h.1, h.2.symm⟩), SealEq.refl h, ?_⟩
  simp only [wk,if_true,if_false,forall_const,implies_true,ne_eq,eq_self,Nat.reduceEqDiff,Nat.reduceAdd,Nat.reduceMul,Nat.reduceSub,Nat.reduceLeDiff,Nat.reduceLT,Int.reduceEq,Int.reduceLT,Int.reduceLE,Int.reduceAdd,Int.reduceSub,Int.reduceMul,Int.reduceNeg,Int.reduceNe,reduceCtorEq,Int.reduceToNat,↓reduceIte, ho]
  refine ⟨fun hb => ⟨inR_of (by omega) (by omega), fun hgt => ?_, fun hle => ?_⟩, fun hb => ?_⟩ <;> subst hb
  · refine ACalls.use (a_fail ho) ?_; rintro _ _ ⟨rfl, rfl⟩; simp only [wk,if_true,if_false,forall_const,implies_true,ne_eq,eq_self,Nat.reduceEqDiff,Nat.reduceAdd,Nat.reduceMul,Nat.reduceSub,Nat.reduceLeDiff,Nat.reduceLT,Int.reduceEq,Int.reduceLT,Int.reduceLE,Int.reduceAdd,Int.reduceSub,Int.reduceMul,Int.reduceNeg,Int.reduceNe,reduceCtorEq,Int.reduceToNat,↓reduceIte, hset ho]
    refine ACalls.use (a_well (hset ho _)) ?_; rintro _ _ ⟨rfl, rfl⟩; simp only [wk,if_true,if_false,forall_const,implies_true,ne_eq,eq_self,Nat.reduceEqDiff,Nat.reduceAdd,Nat.reduceMul,Nat.reduceSub,Nat.reduceLeDiff,Nat.reduceLT,Int.reduceEq,Int.reduceLT,Int.reduceLE,Int.reduceAdd,Int.reduceSub,Int.reduceMul,Int.reduceNeg,Int.reduceNe,reduceCtorEq,Int.reduceToNat,↓reduceIte, hset ho]
    rw [if_pos (Or.inr (by omega))]; exact ⟨rfl, rfl⟩
  · refine ACalls.use (a_well ho) ?_; rintro _ _ ⟨rfl, rfl⟩; simp only [wk,if_true,if_false,forall_const,implies_true,ne_eq,eq_self,Nat.reduceEqDiff,Nat.reduceAdd,Nat.reduceMul,Nat.reduceSub,Nat.reduceLeDiff,Nat.reduceLT,Int.reduceEq,Int.reduceLT,Int.reduceLE,Int.reduceAdd,Int.reduceSub,Int.reduceMul,Int.reduceNeg,Int.reduceNe,reduceCtorEq,Int.reduceToNat,↓reduceIte, ho]
    (repeat (refine And.intro (by first | omega | exact inR_of (by omega) (by omega) | exact ⟨by omega, by omega⟩ | exact ⟨by omega, by omega, by omega⟩ | rfl) ?_))
    rw [if_neg (by simp; omega), show (p : Int).toNat = p by omega, show ((p : Int) + n).toNat = p + n by omega]
    exact ⟨rfl, rfl⟩
  · refine ACalls.use (a_well ho) ?_; rintro _ _ ⟨rfl, rfl⟩; simp only [wk,if_true,if_false,forall_const,implies_true,ne_eq,eq_self,Nat.reduceEqDiff,Nat.reduceAdd,Nat.reduceMul,Nat.reduceSub,Nat.reduceLeDiff,Nat.reduceLT,Int.reduceEq,Int.reduceLT,Int.reduceLE,Int.reduceAdd,Int.reduceSub,Int.reduceMul,Int.reduceNeg,Int.reduceNe,reduceCtorEq,Int.reduceToNat,↓reduceIte, ho]
    exact ⟨rfl, (hself ho).symm⟩
end Go.Proofs.Ytcbcnbefaggnhaa

/- What pack's In does: counts, texts, words, sets. -/
-- tight
namespace Go.Proofs.Ytcbcnbefaggnhaa
set_option linter.unusedSimpArgs false
set_option linter.unusedVariables false
open Go.RowKit Go.Lib

def rTake (S : ByteArray) (n p : Nat) : Option (ByteArray × Nat) := if S.size < p + n then none else some (S.extract p (p + n), p + n)
theorem a_take' {h : Hp} {id : Nat} {S : ByteArray} {s : Bool × Nat} (n : Nat) (ho : h[id]? = some (iObj S s)) (hs : S.size ≤ 1000000000000) (hp : s.2 ≤ S.size) (hn : n ≤ 4611686018427387904) :
    ACalls Try.prog 125 [.ptr id 0, .int .i64 n] h (fun a h' => a = vS (if s.1 then none else rTake S n s.2) ∧ h' = h.set id (iObj S (stO (if s.1 then none else rTake S n s.2) s.2))) := by
  have := a_take n ho hs hp hn
  have e : (if s.1 = true ∨ S.size < s.2 + n then none else some (S.extract s.2 (s.2 + n), s.2 + n)) = (if s.1 = true then none else rTake S n s.2) := by
    unfold rTake
    by_cases h1 : s.1 = true
    · rw [if_pos (Or.inl h1), if_pos h1]
    · rw [if_neg h1]
      by_cases h2 : S.size < s.2 + n
      · rw [if_pos (Or.inr h2), if_pos h2]
      · rw [if_neg (by simp [h1, h2]), if_neg h2]
  rw [e] at this
  exact this
/-- a count: one byte -/
def rCount (S : ByteArray) (most p : Nat) : Option (Nat × Nat) := if S.size < p + 1 then none else if 1 ≤ byteAt S p ∧ byteAt S p ≤ most then some (byteAt S p, p + 1) else none
def qCount (S : ByteArray) (bad : Bool) (p : Nat) : Nat := if bad ∨ S.size < p + 1 then p else p + 1
theorem byteAt_extract {S : ByteArray} {p n : Nat} (h : p + n ≤ S.size) (hn : 0 < n) : byteAt (S.extract p (p + n)) 0 = byteAt S p := by
  rw [byteAt_eq (by simp; omega), byteAt_eq (by omega)]
  simp [ByteArray.getElem_extract]
theorem byteAt_lt (S : ByteArray) (p : Nat) : byteAt S p < 256 := by
  unfold byteAt
  cases S.data.toList[p]? with
  | none => simp
  | some b => exact b.toNat_lt
theorem deg_vS (r : Option (ByteArray × Nat)) : deg (vS r) = vS r := by cases r <;> rfl
theorem deg_vI (r : Option (Nat × Nat)) : deg (vI r) = vI r := by cases r <;> rfl
theorem wrap_byte (n : Nat) (h : n < 256) : IntKind.i64.wrap (n : Int) = n := by rw [IntKind.wrap_i64]; omega
set_option maxHeartbeats 1000000 in
theorem a_count {h : Hp} {id : Nat} {S : ByteArray} {s : Bool × Nat} (most : Nat) (ho : h[id]? = some (iObj S s)) (hs : S.size ≤ 1000000000000) (hp : s.2 ≤ S.size) :
    ACalls Try.prog 96 [.ptr id 0, .int .i64 most] h (fun a h' => a = vI (if s.1 then none else rCount S most s.2) ∧ h' = h.set id (iObj S (stO (if s.1 then none else rCount S most s.2) (qCount S s.1 s.2)))) := by
  obtain ⟨bad, p⟩ := s
  refine acalls_of mixed F_pack_In_count_ok (Nat.le_of_ble_eq_true rfl) ?_; simp only [F_pack_In_count, wk,if_true,if_false,forall_const,implies_true,ne_eq,eq_self,Nat.reduceEqDiff,Nat.reduceAdd,Nat.reduceMul,Nat.reduceSub,Nat.reduceLeDiff,Nat.reduceLT,Int.reduceEq,Int.reduceLT,Int.reduceLE,Int.reduceAdd,Int.reduceSub,Int.reduceMul,Int.reduceNeg,Int.reduceNe,reduceCtorEq,Int.reduceToNat,↓reduceIte]
  refine ACalls.use (a_take' (s := (bad, p)) 1 ho hs hp (by omega)) ?_; rintro _ _ ⟨rfl, rfl⟩; simp only [wk,if_true,if_false,forall_const,implies_true,ne_eq,eq_self,Nat.reduceEqDiff,Nat.reduceAdd,Nat.reduceMul,Nat.reduceSub,Nat.reduceLeDiff,Nat.reduceLT,Int.reduceEq,Int.reduceLT,Int.reduceLE,Int.reduceAdd,Int.reduceSub,Int.reduceMul,Int.reduceNeg,Int.reduceNe,reduceCtorEq,Int.reduceToNat,↓reduceIte]
  have hbt := byteAt_lt S p
  cases bad with
  | true =>
    simp only [if_true, stO, vS, wk,if_true,if_false,forall_const,implies_true,ne_eq,eq_self,Nat.reduceEqDiff,Nat.reduceAdd,Nat.reduceMul,Nat.reduceSub,Nat.reduceLeDiff,Nat.reduceLT,Int.reduceEq,Int.reduceLT,Int.reduceLE,Int.reduceAdd,Int.reduceSub,Int.reduceMul,Int.reduceNeg,Int.reduceNe,reduceCtorEq,Int.reduceToNat,↓reduceIte]
    refine ACalls.use (a_well (bad := true) (hset ho _)) ?_; rintro _ _ ⟨rfl, rfl⟩; simp only [wk,if_true,if_false,forall_const,implies_true,ne_eq,eq_self,Nat.reduceEqDiff,Nat.reduceAdd,Nat.reduceMul,Nat.reduceSub,Nat.reduceLeDiff,Nat.reduceLT,Int.reduceEq,Int.reduceLT,Int.reduceLE,Int.reduceAdd,Int.reduceSub,Int.reduceMul,Int.reduceNeg,Int.reduceNe,reduceCtorEq,Int.reduceToNat,↓reduceIte, hset ho]
    exact ⟨rfl, by simp [qCount, stO]⟩
  | false =>
    simp only [Bool.false_eq_true, if_false, rTake, rCount, qCount, false_or]
    by_cases hz : S.size < p + 1
    · simp only [if_pos hz, stO, vS, wk,if_true,if_false,forall_const,implies_true,ne_eq,eq_self,Nat.reduceEqDiff,Nat.reduceAdd,Nat.reduceMul,Nat.reduceSub,Nat.reduceLeDiff,Nat.reduceLT,Int.reduceEq,Int.reduceLT,Int.reduceLE,Int.reduceAdd,Int.reduceSub,Int.reduceMul,Int.reduceNeg,Int.reduceNe,reduceCtorEq,Int.reduceToNat,↓reduceIte]
      refine ACalls.use (a_well (bad := true) (hset ho _)) ?_; rintro _ _ ⟨rfl, rfl⟩; simp only [wk,if_true,if_false,forall_const,implies_true,ne_eq,eq_self,Nat.reduceEqDiff,Nat.reduceAdd,Nat.reduceMul,Nat.reduceSub,Nat.reduceLeDiff,Nat.reduceLT,Int.reduceEq,Int.reduceLT,Int.reduceLE,Int.reduceAdd,Int.reduceSub,Int.reduceMul,Int.reduceNeg,Int.reduceNe,reduceCtorEq,Int.reduceToNat,↓reduceIte, hset ho]
      rfl
    · simp only [if_neg hz, stO, vS, wk,if_true,if_false,forall_const,implies_true,ne_eq,eq_self,Nat.reduceEqDiff,Nat.reduceAdd,Nat.reduceMul,Nat.reduceSub,Nat.reduceLeDiff,Nat.reduceLT,Int.reduceEq,Int.reduceLT,Int.reduceLE,Int.reduceAdd,Int.reduceSub,Int.reduceMul,Int.reduceNeg,Int.reduceNe,reduceCtorEq,Int.reduceToNat,↓reduceIte]
      refine ACalls.use (a_well (bad := false) (hset ho _)) ?_; rintro _ _ ⟨rfl, rfl⟩; simp only [wk,if_true,if_false,forall_const,implies_true,ne_eq,eq_self,Nat.reduceEqDiff,Nat.reduceAdd,Nat.reduceMul,Nat.reduceSub,Nat.reduceLeDiff,Nat.reduceLT,Int.reduceEq,Int.reduceLT,Int.reduceLE,Int.reduceAdd,Int.reduceSub,Int.reduceMul,Int.reduceNeg,Int.reduceNe,reduceCtorEq,Int.reduceToNat,↓reduceIte, hset ho]
      refine ⟨by simp; omega, ?_⟩
      rw [byteAt_extract (by omega) (by omega), wrap_byte _ hbt]
      refine ⟨fun h1 => ⟨fun h2 => ?_, fun h2 => ?_⟩, fun h1 => ?_⟩
      · refine ACalls.use (a_fail (hset ho _)) ?_; rintro _ _ ⟨rfl, rfl⟩; simp only [wk,if_true,if_false,forall_const,implies_true,ne_eq,eq_self,Nat.reduceEqDiff,Nat.reduceAdd,Nat.reduceMul,Nat.reduceSub,Nat.reduceLeDiff,Nat.reduceLT,Int.reduceEq,Int.reduceLT,Int.reduceLE,Int.reduceAdd,Int.reduceSub,Int.reduceMul,Int.reduceNeg,Int.reduceNe,reduceCtorEq,Int.reduceToNat,↓reduceIte, hset ho]
        rw [if_neg (by omega)]; exact ⟨rfl, rfl⟩
      · rw [if_pos (by omega)]; exact ⟨rfl, rfl⟩
      · refine ACalls.use (a_fail (hset ho _)) ?_; rintro _ _ ⟨rfl, rfl⟩; simp only [wk,if_true,if_false,forall_const,implies_true,ne_eq,eq_self,Nat.reduceEqDiff,Nat.reduceAdd,Nat.reduceMul,Nat.reduceSub,Nat.reduceLeDiff,Nat.reduceLT,Int.reduceEq,Int.reduceLT,Int.reduceLE,Int.reduceAdd,Int.reduceSub,Int.reduceMul,Int.reduceNeg,Int.reduceNe,reduceCtorEq,Int.reduceToNat,↓reduceIte, hset ho]
        rw [if_neg (by omega)]; exact ⟨rfl, rfl⟩
def rText (S : ByteArray) (most : Int) (p : Nat) : Option (ByteArray × Nat) :=
  match rNum S most p with
  | some (n, q) => rTake S n q
  | none => none
def rWord (S : ByteArray) (p : Nat) : Option (ByteArray × Nat) :=
  if S.size < p + 1 then none else if S.size < p + 1 + 2 * byteAt S p then none else
  if wordMay (S.extract (p + 1) (p + 1 + 2 * byteAt S p)) then some (S.extract (p + 1) (p + 1 + 2 * byteAt S p), p + 1 + 2 * byteAt S p) else none
/-- a word, as pack reads it -/
theorem rWord_eq (S : ByteArray) (p : Nat) : rWord S p = match rCount S 8 p with
    | some (n, q) => (match rTake S (2 * n) q with
      | some (w, q') => if wordMay w then some (w, q') else none
      | none => none)
    | none => none := by
  unfold rWord rCount
  by_cases h1 : S.size < p + 1
  · rw [if_pos h1, if_pos h1]
  · rw [if_neg h1, if_neg h1]
    by_cases h2 : 1 ≤ byteAt S p ∧ byteAt S p ≤ 8
    · rw [if_pos h2]
      simp only [rTake]
      by_cases h3 : S.size < p + 1 + 2 * byteAt S p
      · rw [if_pos h3, if_pos h3]
      · rw [if_neg h3, if_neg h3]
    · rw [if_neg h2]
      by_cases h3 : S.size < p + 1 + 2 * byteAt S p
      · rw [if_pos h3]
      · rw [if_neg h3, if_neg]
        intro hw
        have := wordMay_size hw
        simp at this
        omega
theorem wordMay_empty : wordMay ⟨#[]⟩ = false := by
  cases h : wordMay ⟨#[]⟩ with
  | false => rfl
  | true => have := wordMay_size h; exact absurd this.2.1 (by decide)
theorem rTake_le {S w : ByteArray} {n p q : Nat} (h : rTake S n p = some (w, q)) : q = p + n ∧ q ≤ S.size ∧ w = S.extract p q := by
  unfold rTake at h
  split at h
  · cases h
  · simp only [Option.some.injEq, Prod.mk.injEq] at h; obtain ⟨rfl, rfl⟩ := h; exact ⟨rfl, by omega, rfl⟩
theorem rCount_le {S : ByteArray} {most n p q : Nat} (h : rCount S most p = some (n, q)) : q = p + 1 ∧ q ≤ S.size ∧ 1 ≤ n ∧ n ≤ most ∧ n = byteAt S p := by
  unfold rCount at h
  split at h
  · cases h
  · split at h
    · simp only [Option.some.injEq, Prod.mk.injEq] at h; omega
    · cases h
theorem qCount_le {S : ByteArray} {bad : Bool} {p : Nat} (hp : p ≤ S.size) : qCount S bad p ≤ S.size := by
  unfold qCount
  split
  · exact hp
  · next h => simp at h; omega
set_option maxHeartbeats 1000000 in
theorem a_iword {h : Hp} {id : Nat} {S : ByteArray} {s : Bool × Nat} (ho : h[id]? = some (iObj S s)) (hs : S.size ≤ 1000000000000) (hp : s.2 ≤ S.size) :
    ∃ q, q ≤ S.size ∧ ACalls Try.prog 97 [.ptr id 0] h (fun a h' => a = vS (if s.1 then none else rWord S s.2) ∧ h' = h.set id (iObj S (stO (if s.1 then none else rWord S s.2) q))) := by
  obtain ⟨bad, p⟩ := s
  simp only at hp ⊢
  have hq1 := qCount_le (S := S) (bad := bad) hp
  have hgo : ∀ q, W Try.prog F_pack_In_Word.code (args0 0 [.ptr id 0]) h (kret F_pack_In_Word.rs (fun a h' => a = vS (if bad then none else rWord S p) ∧ h' = h.set id (iObj S (stO (if bad then none else rWord S p) q)))) → ACalls Try.prog 97 [.ptr id 0] h (fun a h' => a = vS (if bad then none else rWord S p) ∧ h' = h.set id (iObj S (stO (if bad then none else rWord S p) q))) := fun q hw => acalls_of mixed F_pack_In_Word_ok (Nat.le_of_ble_eq_true rfl) hw
  cases hr : (if bad = true then none else rCount S 8 p) with
  | none =>
    have hrw : (if bad = true then none else rWord S p) = none := by
      cases bad with
      | true => rfl
      | false =>
        simp only [Bool.false_eq_true, if_false] at hr ⊢
        rw [rWord_eq, hr]
    refine ⟨qCount S bad p, hq1, hgo _ ?_⟩
    rw [hrw]
    simp only [F_pack_In_Word, wk,if_true,if_false,forall_const,implies_true,ne_eq,eq_self,Nat.reduceEqDiff,Nat.reduceAdd,Nat.reduceMul,Nat.reduceSub,Nat.reduceLeDiff,Nat.reduceLT,Int.reduceEq,Int.reduceLT,Int.reduceLE,Int.reduceAdd,Int.reduceSub,Int.reduceMul,Int.reduceNeg,Int.reduceNe,reduceCtorEq,Int.reduceToNat,↓reduceIte]
    have hc := a_count (s := (bad, p)) 8 ho hs hp
    simp only [hr, vI, stO] at hc
    refine ACalls.use (hc) ?_; rintro _ _ ⟨rfl, rfl⟩; simp only [wk,if_true,if_false,forall_const,implies_true,ne_eq,eq_self,Nat.reduceEqDiff,Nat.reduceAdd,Nat.reduceMul,Nat.reduceSub,Nat.reduceLeDiff,Nat.reduceLT,Int.reduceEq,Int.reduceLT,Int.reduceLE,Int.reduceAdd,Int.reduceSub,Int.reduceMul,Int.reduceNeg,Int.reduceNe,reduceCtorEq,Int.reduceToNat,↓reduceIte, hset ho]
    refine ⟨inR_of (by omega) (by omega), ?_⟩
    refine ACalls.use (a_take' (s := (true, qCount S bad p)) 0 (hset ho _) hs hq1 (by omega)) ?_; rintro _ _ ⟨rfl, rfl⟩; simp only [wk,if_true,if_false,forall_const,implies_true,ne_eq,eq_self,Nat.reduceEqDiff,Nat.reduceAdd,Nat.reduceMul,Nat.reduceSub,Nat.reduceLeDiff,Nat.reduceLT,Int.reduceEq,Int.reduceLT,Int.reduceLE,Int.reduceAdd,Int.reduceSub,Int.reduceMul,Int.reduceNeg,Int.reduceNe,reduceCtorEq,Int.reduceToNat,↓reduceIte, hset ho, stO, vS, iObj]
    refine PCalls.use (p_wmay ⟨#[]⟩ (by decide)) ?_; simp only [wk,if_true,if_false,forall_const,implies_true,ne_eq,eq_self,Nat.reduceEqDiff,Nat.reduceAdd,Nat.reduceMul,Nat.reduceSub,Nat.reduceLeDiff,Nat.reduceLT,Int.reduceEq,Int.reduceLT,Int.reduceLE,Int.reduceAdd,Int.reduceSub,Int.reduceMul,Int.reduceNeg,Int.reduceNe,reduceCtorEq,Int.reduceToNat,↓reduceIte]
    rw [wordMay_empty]
    simp only [wk,if_true,if_false,forall_const,implies_true,ne_eq,eq_self,Nat.reduceEqDiff,Nat.reduceAdd,Nat.reduceMul,Nat.reduceSub,Nat.reduceLeDiff,Nat.reduceLT,Int.reduceEq,Int.reduceLT,Int.reduceLE,Int.reduceAdd,Int.reduceSub,Int.reduceMul,Int.reduceNeg,Int.reduceNe,reduceCtorEq,Int.reduceToNat,↓reduceIte]
    refine ACalls.use (a_fail (hset ho _)) ?_; rintro _ _ ⟨rfl, rfl⟩; simp only [wk,if_true,if_false,forall_const,implies_true,ne_eq,eq_self,Nat.reduceEqDiff,Nat.reduceAdd,Nat.reduceMul,Nat.reduceSub,Nat.reduceLeDiff,Nat.reduceLT,Int.reduceEq,Int.reduceLT,Int.reduceLE,Int.reduceAdd,Int.reduceSub,Int.reduceMul,Int.reduceNeg,Int.reduceNe,reduceCtorEq,Int.reduceToNat,↓reduceIte, hset ho]
    (try first | exact ⟨rfl, rfl⟩ | rfl | trivial)
  | some x =>
    obtain ⟨n, q⟩ := x
    have hb : bad = false := by cases bad with
      | true => simp at hr
      | false => rfl
    subst hb
    simp only [Bool.false_eq_true, if_false] at hr hgo ⊢
    have hle := rCount_le hr
    cases hr2 : rTake S (2 * n) q with
    | none =>
      have hrw : rWord S p = none := by rw [rWord_eq, hr]; simp only [hr2]
      refine ⟨q, hle.2.1, hgo _ ?_⟩
      rw [hrw]
      simp only [F_pack_In_Word, wk,if_true,if_false,forall_const,implies_true,ne_eq,eq_self,Nat.reduceEqDiff,Nat.reduceAdd,Nat.reduceMul,Nat.reduceSub,Nat.reduceLeDiff,Nat.reduceLT,Int.reduceEq,Int.reduceLT,Int.reduceLE,Int.reduceAdd,Int.reduceSub,Int.reduceMul,Int.reduceNeg,Int.reduceNe,reduceCtorEq,Int.reduceToNat,↓reduceIte]
      have hc := a_count (s := (false, p)) 8 ho hs hp
      simp only [Bool.false_eq_true, if_false, hr, vI, stO] at hc
      refine ACalls.use (hc) ?_; rintro _ _ ⟨rfl, rfl⟩; simp only [wk,if_true,if_false,forall_const,implies_true,ne_eq,eq_self,Nat.reduceEqDiff,Nat.reduceAdd,Nat.reduceMul,Nat.reduceSub,Nat.reduceLeDiff,Nat.reduceLT,Int.reduceEq,Int.reduceLT,Int.reduceLE,Int.reduceAdd,Int.reduceSub,Int.reduceMul,Int.reduceNeg,Int.reduceNe,reduceCtorEq,Int.reduceToNat,↓reduceIte, hset ho]
      refine ⟨inR_of (by omega) (by omega), ?_⟩
      have ht := a_take' (s := (false, q)) (2 * n) (hset ho (iObj S (false, q))) hs hle.2.1 (by omega)
      simp only [Bool.false_eq_true, if_false, hr2, vS, stO] at ht
      rw [show ((2 : Int) * (n : Int)) = ((2 * n : Nat) : Int) by omega]
      refine ACalls.use (ht) ?_; rintro _ _ ⟨rfl, rfl⟩; simp only [wk,if_true,if_false,forall_const,implies_true,ne_eq,eq_self,Nat.reduceEqDiff,Nat.reduceAdd,Nat.reduceMul,Nat.reduceSub,Nat.reduceLeDiff,Nat.reduceLT,Int.reduceEq,Int.reduceLT,Int.reduceLE,Int.reduceAdd,Int.reduceSub,Int.reduceMul,Int.reduceNeg,Int.reduceNe,reduceCtorEq,Int.reduceToNat,↓reduceIte, hset ho]
      refine PCalls.use (p_wmay ⟨#[]⟩ (by decide)) ?_; simp only [wk,if_true,if_false,forall_const,implies_true,ne_eq,eq_self,Nat.reduceEqDiff,Nat.reduceAdd,Nat.reduceMul,Nat.reduceSub,Nat.reduceLeDiff,Nat.reduceLT,Int.reduceEq,Int.reduceLT,Int.reduceLE,Int.reduceAdd,Int.reduceSub,Int.reduceMul,Int.reduceNeg,Int.reduceNe,reduceCtorEq,Int.reduceToNat,↓reduceIte]
      rw [wordMay_empty]
      simp only [wk,if_true,if_false,forall_const,implies_true,ne_eq,eq_self,Nat.reduceEqDiff,Nat.reduceAdd,Nat.reduceMul,Nat.reduceSub,Nat.reduceLeDiff,Nat.reduceLT,Int.reduceEq,Int.reduceLT,Int.reduceLE,Int.reduceAdd,Int.reduceSub,Int.reduceMul,Int.reduceNeg,Int.reduceNe,reduceCtorEq,Int.reduceToNat,↓reduceIte]
      refine ACalls.use (a_fail (bad := true) (hset ho _)) ?_; rintro _ _ ⟨rfl, rfl⟩; simp only [wk,if_true,if_false,forall_const,implies_true,ne_eq,eq_self,Nat.reduceEqDiff,Nat.reduceAdd,Nat.reduceMul,Nat.reduceSub,Nat.reduceLeDiff,Nat.reduceLT,Int.reduceEq,Int.reduceLT,Int.reduceLE,Int.reduceAdd,Int.reduceSub,Int.reduceMul,Int.reduceNeg,Int.reduceNe,reduceCtorEq,Int.reduceToNat,↓reduceIte, hset ho]
      (try first | exact ⟨rfl, rfl⟩ | rfl | trivial)
    | some y =>
      obtain ⟨w, q2⟩ := y
      have hle2 := rTake_le hr2
      refine ⟨q2, hle2.2.1, hgo _ ?_⟩
      have hrw : rWord S p = if wordMay w then some (w, q2) else none := by rw [rWord_eq, hr]; simp only [hr2]
      rw [hrw]
      simp only [F_pack_In_Word, wk,if_true,if_false,forall_const,implies_true,ne_eq,eq_self,Nat.reduceEqDiff,Nat.reduceAdd,Nat.reduceMul,Nat.reduceSub,Nat.reduceLeDiff,Nat.reduceLT,Int.reduceEq,Int.reduceLT,Int.reduceLE,Int.reduceAdd,Int.reduceSub,Int.reduceMul,Int.reduceNeg,Int.reduceNe,reduceCtorEq,Int.reduceToNat,↓reduceIte]
      have hc := a_count (s := (false, p)) 8 ho hs hp
      simp only [Bool.false_eq_true, if_false, hr, vI, stO] at hc
      refine ACalls.use (hc) ?_; rintro _ _ ⟨rfl, rfl⟩; simp only [wk,if_true,if_false,forall_const,implies_true,ne_eq,eq_self,Nat.reduceEqDiff,Nat.reduceAdd,Nat.reduceMul,Nat.reduceSub,Nat.reduceLeDiff,Nat.reduceLT,Int.reduceEq,Int.reduceLT,Int.reduceLE,Int.reduceAdd,Int.reduceSub,Int.reduceMul,Int.reduceNeg,Int.reduceNe,reduceCtorEq,Int.reduceToNat,↓reduceIte, hset ho]
      refine ⟨inR_of (by omega) (by omega), ?_⟩
      have ht := a_take' (s := (false, q)) (2 * n) (hset ho (iObj S (false, q))) hs hle.2.1 (by omega)
      simp only [Bool.false_eq_true, if_false, hr2, vS, stO] at ht
      rw [show ((2 : Int) * (n : Int)) = ((2 * n : Nat) : Int) by omega]
      refine ACalls.use (ht) ?_; rintro _ _ ⟨rfl, rfl⟩; simp only [wk,if_true,if_false,forall_const,implies_true,ne_eq,eq_self,Nat.reduceEqDiff,Nat.reduceAdd,Nat.reduceMul,Nat.reduceSub,Nat.reduceLeDiff,Nat.reduceLT,Int.reduceEq,Int.reduceLT,Int.reduceLE,Int.reduceAdd,Int.reduceSub,Int.reduceMul,Int.reduceNeg,Int.reduceNe,reduceCtorEq,Int.reduceToNat,↓reduceIte, hset ho]
      refine PCalls.use (p_wmay w (by rw [hle2.2.2]; simp; omega)) ?_; simp only [wk,if_true,if_false,forall_const,implies_true,ne_eq,eq_self,Nat.reduceEqDiff,Nat.reduceAdd,Nat.reduceMul,Nat.reduceSub,Nat.reduceLeDiff,Nat.reduceLT,Int.reduceEq,Int.reduceLT,Int.reduceLE,Int.reduceAdd,Int.reduceSub,Int.reduceMul,Int.reduceNeg,Int.reduceNe,reduceCtorEq,Int.reduceToNat,↓reduceIte]
      refine ⟨fun hw => ?_, fun hw => ?_⟩
      · refine ACalls.use (a_fail (bad := false) (hset ho _)) ?_; rintro _ _ ⟨rfl, rfl⟩; simp only [wk,if_true,if_false,forall_const,implies_true,ne_eq,eq_self,Nat.reduceEqDiff,Nat.reduceAdd,Nat.reduceMul,Nat.reduceSub,Nat.reduceLeDiff,Nat.reduceLT,Int.reduceEq,Int.reduceLT,Int.reduceLE,Int.reduceAdd,Int.reduceSub,Int.reduceMul,Int.reduceNeg,Int.reduceNe,reduceCtorEq,Int.reduceToNat,↓reduceIte, hset ho]
        rw [hw]; (try first | exact ⟨rfl, rfl⟩ | rfl | trivial)
      · rw [hw]; (try first | exact ⟨rfl, rfl⟩ | rfl | trivial)
/-- words, one behind the other -/
def rWords (S : ByteArray) (p : Nat) : Nat → Option (List ByteArray × Nat)
  | 0 => some ([], p)
  | k + 1 => match rWords S p k with
    | some (l, q) => (match rWord S q with
      | some (w, q') => some (l ++ [w], q')
      | none => none)
    | none => none
def rSet (S : ByteArray) (p : Nat) : Option (List ByteArray × Nat) :=
  if S.size < p + 1 then none else
  match rWords S (p + 1) (byteAt S p) with
  | some (l, q) => if setMay l then some (l, q) else none
  | none => none
theorem rWord_le {S w : ByteArray} {p q : Nat} (h : rWord S p = some (w, q)) : p < q ∧ q ≤ S.size ∧ wordMay w = true ∧ w = S.extract (p + 1) q ∧ q = p + 1 + 2 * byteAt S p := by
  unfold rWord at h
  split at h
  · cases h
  · split at h
    · cases h
    · split at h
      · next hw =>
        simp only [Option.some.injEq, Prod.mk.injEq] at h
        obtain ⟨rfl, rfl⟩ := h
        exact ⟨by omega, by omega, hw, rfl, rfl⟩
      · cases h
theorem rWords_le {S : ByteArray} {p : Nat} (hp : p ≤ S.size) : ∀ {k : Nat} {l : List ByteArray} {q : Nat}, rWords S p k = some (l, q) → l.length = k ∧ p ≤ q ∧ q ≤ S.size ∧ ∀ w ∈ l, wordMay w = true
  | 0, l, q, h => by
    simp only [rWords, Option.some.injEq, Prod.mk.injEq] at h
    obtain ⟨rfl, rfl⟩ := h
    exact ⟨rfl, Nat.le_refl _, hp, fun w hw => by simp at hw⟩
  | k + 1, l, q, h => by
    simp only [rWords] at h
    split at h
    · next l' q' hr =>
      have ih := rWords_le hp hr
      split at h
      · next w q2 hr2 =>
        simp only [Option.some.injEq, Prod.mk.injEq] at h
        obtain ⟨rfl, rfl⟩ := h
        have h2 := rWord_le hr2
        refine ⟨by simp; omega, by omega, h2.2.1, fun x hx => ?_⟩
        simp only [List.mem_append, List.mem_singleton] at hx
        rcases hx with hx | rfl
        · exact ih.2.2.2 x hx
        · exact h2.2.2.1
      · cases h
    · cases h
def vL : Option (List ByteArray × Nat) → AV
  | some (l, _) => .lst .ro l.length (l.map .str)
  | none => .lst .clip 0 []
theorem deg_vL (r : Option (List ByteArray × Nat)) : deg (vL r) = vL r := by cases r <;> rfl
/-- a set, as pack reads it -/
theorem rSet_eq (S : ByteArray) (p : Nat) (hp : p ≤ S.size) : rSet S p = match rCount S 16 p with
    | some (n, q) => (match rWords S q n with
      | some (l, q') => if setMay l then some (l, q') else none
      | none => none)
    | none => none := by
  unfold rSet rCount
  by_cases h1 : S.size < p + 1
  · rw [if_pos h1, if_pos h1]
  · rw [if_neg h1, if_neg h1]
    by_cases h2 : 1 ≤ byteAt S p ∧ byteAt S p ≤ 16
    · rw [if_pos h2]
    · rw [if_neg h2]
      cases hr : rWords S (p + 1) (byteAt S p) with
      | none => rfl
      | some x =>
        obtain ⟨l, q⟩ := x
        have := rWords_le (by omega) hr
        simp only
        rw [if_neg]
        intro hm
        have := (setMay_words hm).1
        omega
theorem vS_str (r : Option (ByteArray × Nat)) : ∃ w, vS r = .str w ∧ (∀ x q, r = some (x, q) → x = w) := by
  cases r with
  | none => exact ⟨_, rfl, fun _ _ h => by cases h⟩
  | some x => exact ⟨_, rfl, fun _ _ h => by cases h; rfl⟩
set_option maxRecDepth 100000 in
set_option maxHeartbeats 2000000 in
theorem a_iset {h : Hp} {id : Nat} {S : ByteArray} {s : Bool × Nat} (ho : h[id]? = some (iObj S s)) (hs : S.size ≤ 1000000000000) (hp : s.2 ≤ S.size) :
    ACalls Try.prog 61 [.ptr id 0] h (fun a h' => a = vL (if s.1 then none else rSet S s.2) ∧ ∃ q, q ≤ S.size ∧ h' = h.set id (iObj S (stO (if s.1 then none else rSet S s.2) q))) := by
  obtain ⟨bad, p⟩ := s
  simp only at hp ⊢
  have hq1 := qCount_le (S := S) (bad := bad) hp
  refine acalls_of mixed F_pack_In_Set_ok (Nat.le_of_ble_eq_true rfl) ?_; simp only [F_pack_In_Set, wk,if_true,if_false,forall_const,implies_true,ne_eq,eq_self,Nat.reduceEqDiff,Nat.reduceAdd,Nat.reduceMul,Nat.reduceSub,Nat.reduceLeDiff,Nat.reduceLT,Int.reduceEq,Int.reduceLT,Int.reduceLE,Int.reduceAdd,Int.reduceSub,Int.reduceMul,Int.reduceNeg,Int.reduceNe,reduceCtorEq,Int.reduceToNat,↓reduceIte]
  have hc := a_count (s := (bad, p)) 16 ho hs hp
  cases hr : (if bad = true then none else rCount S 16 p) with
  | none =>
    have hrw : (if bad = true then none else rSet S p) = none := by
      cases bad with
      | true => rfl
      | false =>
        simp only [Bool.false_eq_true, if_false] at hr ⊢
        rw [rSet_eq S p hp, hr]
    rw [hrw]
    simp only [hr, vI, stO] at hc
    refine ACalls.use (hc) ?_; rintro _ _ ⟨rfl, rfl⟩; simp only [wk,if_true,if_false,forall_const,implies_true,ne_eq,eq_self,Nat.reduceEqDiff,Nat.reduceAdd,Nat.reduceMul,Nat.reduceSub,Nat.reduceLeDiff,Nat.reduceLT,Int.reduceEq,Int.reduceLT,Int.reduceLE,Int.reduceAdd,Int.reduceSub,Int.reduceMul,Int.reduceNeg,Int.reduceNe,reduceCtorEq,Int.reduceToNat,↓reduceIte, hset ho]
    (repeat (refine And.intro (by first | omega | exact inR_of (by omega) (by omega) | exact ⟨by omega, by omega⟩ | exact ⟨by omega, by omega, by omega⟩ | rfl) ?_))
    refine W_loop (fun k fr h' => k = 0 ∧ fr = [(0, .ptr id 0), (4, .lst (.own 44) 0 []), (9, .int .i64 0), (10, .int .i64 0)] ∧ h' = h.set id (iObj S (true, qCount S bad p))) 0 ⟨rfl, rfl, rfl⟩ ?_
    rintro k fr h' ⟨rfl, rfl, rfl⟩
    simp only [wk,if_true,if_false,forall_const,implies_true,ne_eq,eq_self,Nat.reduceEqDiff,Nat.reduceAdd,Nat.reduceMul,Nat.reduceSub,Nat.reduceLeDiff,Nat.reduceLT,Int.reduceEq,Int.reduceLT,Int.reduceLE,Int.reduceAdd,Int.reduceSub,Int.reduceMul,Int.reduceNeg,Int.reduceNe,reduceCtorEq,Int.reduceToNat,↓reduceIte]
    refine ACalls.use (a_well (bad := true) (hset ho _)) ?_; rintro _ _ ⟨rfl, rfl⟩; simp only [wk,if_true,if_false,forall_const,implies_true,ne_eq,eq_self,Nat.reduceEqDiff,Nat.reduceAdd,Nat.reduceMul,Nat.reduceSub,Nat.reduceLeDiff,Nat.reduceLT,Int.reduceEq,Int.reduceLT,Int.reduceLE,Int.reduceAdd,Int.reduceSub,Int.reduceMul,Int.reduceNeg,Int.reduceNe,reduceCtorEq,Int.reduceToNat,↓reduceIte, hset ho]
    refine ACalls.use (a_fail (bad := true) (hset ho _)) ?_; rintro _ _ ⟨rfl, rfl⟩; simp only [wk,if_true,if_false,forall_const,implies_true,ne_eq,eq_self,Nat.reduceEqDiff,Nat.reduceAdd,Nat.reduceMul,Nat.reduceSub,Nat.reduceLeDiff,Nat.reduceLT,Int.reduceEq,Int.reduceLT,Int.reduceLE,Int.reduceAdd,Int.reduceSub,Int.reduceMul,Int.reduceNeg,Int.reduceNe,reduceCtorEq,Int.reduceToNat,↓reduceIte, hset ho]
    exact ⟨rfl, _, hq1, rfl⟩
  | some x =>
    obtain ⟨n, q⟩ := x
    have hb : bad = false := by cases bad with
      | true => simp at hr
      | false => rfl
    subst hb
    simp only [Bool.false_eq_true, if_false] at hr hc ⊢
    have hle := rCount_le hr
    have hrw := rSet_eq S p hp
    rw [hr] at hrw
    simp only at hrw
    rw [hrw]
    simp only [hr, vI, stO] at hc
    refine ACalls.use (hc) ?_; rintro _ _ ⟨rfl, rfl⟩; simp only [wk,if_true,if_false,forall_const,implies_true,ne_eq,eq_self,Nat.reduceEqDiff,Nat.reduceAdd,Nat.reduceMul,Nat.reduceSub,Nat.reduceLeDiff,Nat.reduceLT,Int.reduceEq,Int.reduceLT,Int.reduceLE,Int.reduceAdd,Int.reduceSub,Int.reduceMul,Int.reduceNeg,Int.reduceNe,reduceCtorEq,Int.reduceToNat,↓reduceIte, hset ho]
    refine ⟨⟨by omega, by omega, by omega⟩, ?_⟩
    refine W_loop (fun k fr h' => ∃ (i : Nat) (ws : List ByteArray) (q' : Nat), i ≤ n ∧ k = n - i ∧ ws.length = i ∧ q' ≤ S.size ∧ fr = [(0, .ptr id 0), (4, .lst (.own 44) i (ws.map .str)), (9, .int .i64 n), (10, .int .i64 i)] ∧ h' = h.set id (iObj S (stO (rWords S q i) q')) ∧ ∀ l q'', rWords S q i = some (l, q'') → ws = l) n ⟨0, [], q, by omega, by omega, rfl, hle.2.1, rfl, rfl, fun l q'' h => by simp only [rWords, Option.some.injEq, Prod.mk.injEq] at h; exact h.1⟩ ?_
    rintro k fr h' ⟨i, ws, q', hi, rfl, hwl, hq', rfl, rfl, hws⟩
    have hst : (stO (rWords S q i) q').2 ≤ S.size := by
      cases hw : rWords S q i with
      | none => exact hq'
      | some x => exact (rWords_le hle.2.1 hw).2.2.1
    simp only [wk,if_true,if_false,forall_const,implies_true,ne_eq,eq_self,Nat.reduceEqDiff,Nat.reduceAdd,Nat.reduceMul,Nat.reduceSub,Nat.reduceLeDiff,Nat.reduceLT,Int.reduceEq,Int.reduceLT,Int.reduceLE,Int.reduceAdd,Int.reduceSub,Int.reduceMul,Int.reduceNeg,Int.reduceNe,reduceCtorEq,Int.reduceToNat,↓reduceIte]
    refine ⟨fun hlt => ?_, fun hge => ?_⟩
    · obtain ⟨q2, hq2, hword⟩ := a_iword (s := stO (rWords S q i) q') (hset ho (iObj S (stO (rWords S q i) q'))) hs hst
      have hstep : stO (if (stO (rWords S q i) q').1 = true then none else rWord S (stO (rWords S q i) q').2) q2 = stO (rWords S q (i + 1)) q2 := by
        cases hw : rWords S q i with
        | none => simp only [rWords, hw, stO, if_true]
        | some x =>
          obtain ⟨l, q3⟩ := x
          simp only [rWords, hw, stO, Bool.false_eq_true, if_false]
          cases rWord S q3 <;> rfl
      obtain ⟨w, hwv, hwx⟩ := vS_str (if (stO (rWords S q i) q').1 = true then none else rWord S (stO (rWords S q i) q').2)
      have hval : ∀ l q'', rWords S q (i + 1) = some (l, q'') → ws ++ [w] = l := by
        intro l q'' he
        cases hw : rWords S q i with
        | none => simp only [rWords, hw] at he; cases he
        | some x =>
          obtain ⟨l', q3⟩ := x
          simp only [rWords, hw] at he
          simp only [hw, stO, Bool.false_eq_true, if_false] at hwx
          cases hw2 : rWord S q3 with
          | none => rw [hw2] at he; cases he
          | some y =>
            obtain ⟨w', q4⟩ := y
            rw [hw2] at he
            simp only [Option.some.injEq, Prod.mk.injEq] at he
            rw [hws l' q3 hw, ← hwx w' q4 hw2, he.1]
      rw [hwv, hstep] at hword
      refine ACalls.use (hword) ?_; rintro _ _ ⟨rfl, rfl⟩; simp only [wk,if_true,if_false,forall_const,implies_true,ne_eq,eq_self,Nat.reduceEqDiff,Nat.reduceAdd,Nat.reduceMul,Nat.reduceSub,Nat.reduceLeDiff,Nat.reduceLT,Int.reduceEq,Int.reduceLT,Int.reduceLE,Int.reduceAdd,Int.reduceSub,Int.reduceMul,Int.reduceNeg,Int.reduceNe,reduceCtorEq,Int.reduceToNat,↓reduceIte]
      (repeat (refine And.intro (by first | omega | exact inR_of (by omega) (by omega) | exact ⟨by omega, by omega⟩ | exact ⟨by omega, by omega, by omega⟩ | rfl) ?_))
      exact ⟨n - (i + 1), by omega, i + 1, ws ++ [w], q2, by omega, rfl, by simp [hwl], hq2, by simp, rfl, hval⟩
    · have hin : i = n := by omega
      subst hin
      cases hw : rWords S q i with
      | none =>
        simp only [stO, wk,if_true,if_false,forall_const,implies_true,ne_eq,eq_self,Nat.reduceEqDiff,Nat.reduceAdd,Nat.reduceMul,Nat.reduceSub,Nat.reduceLeDiff,Nat.reduceLT,Int.reduceEq,Int.reduceLT,Int.reduceLE,Int.reduceAdd,Int.reduceSub,Int.reduceMul,Int.reduceNeg,Int.reduceNe,reduceCtorEq,Int.reduceToNat,↓reduceIte]
        refine ACalls.use (a_well (bad := true) (hset ho _)) ?_; rintro _ _ ⟨rfl, rfl⟩; simp only [wk,if_true,if_false,forall_const,implies_true,ne_eq,eq_self,Nat.reduceEqDiff,Nat.reduceAdd,Nat.reduceMul,Nat.reduceSub,Nat.reduceLeDiff,Nat.reduceLT,Int.reduceEq,Int.reduceLT,Int.reduceLE,Int.reduceAdd,Int.reduceSub,Int.reduceMul,Int.reduceNeg,Int.reduceNe,reduceCtorEq,Int.reduceToNat,↓reduceIte, hset ho]
        refine ACalls.use (a_fail (bad := true) (hset ho _)) ?_; rintro _ _ ⟨rfl, rfl⟩; simp only [wk,if_true,if_false,forall_const,implies_true,ne_eq,eq_self,Nat.reduceEqDiff,Nat.reduceAdd,Nat.reduceMul,Nat.reduceSub,Nat.reduceLeDiff,Nat.reduceLT,Int.reduceEq,Int.reduceLT,Int.reduceLE,Int.reduceAdd,Int.reduceSub,Int.reduceMul,Int.reduceNeg,Int.reduceNe,reduceCtorEq,Int.reduceToNat,↓reduceIte, hset ho]
        exact ⟨rfl, _, hq', rfl⟩
      | some x =>
        obtain ⟨l, q3⟩ := x
        have hl := hws l q3 hw
        subst hl
        have hwl' := rWords_le hle.2.1 hw
        simp only [stO, wk,if_true,if_false,forall_const,implies_true,ne_eq,eq_self,Nat.reduceEqDiff,Nat.reduceAdd,Nat.reduceMul,Nat.reduceSub,Nat.reduceLeDiff,Nat.reduceLT,Int.reduceEq,Int.reduceLT,Int.reduceLE,Int.reduceAdd,Int.reduceSub,Int.reduceMul,Int.reduceNeg,Int.reduceNe,reduceCtorEq,Int.reduceToNat,↓reduceIte]
        refine ACalls.use (a_well (bad := false) (hset ho _)) ?_; rintro _ _ ⟨rfl, rfl⟩; simp only [wk,if_true,if_false,forall_const,implies_true,ne_eq,eq_self,Nat.reduceEqDiff,Nat.reduceAdd,Nat.reduceMul,Nat.reduceSub,Nat.reduceLeDiff,Nat.reduceLT,Int.reduceEq,Int.reduceLT,Int.reduceLE,Int.reduceAdd,Int.reduceSub,Int.reduceMul,Int.reduceNeg,Int.reduceNe,reduceCtorEq,Int.reduceToNat,↓reduceIte, hset ho]
        rw [← hwl]
        refine PCalls.use (p_smay ws (by omega) (fun x hx => by have := wordMay_size (hwl'.2.2.2 x hx); omega)) ?_; simp only [wk,if_true,if_false,forall_const,implies_true,ne_eq,eq_self,Nat.reduceEqDiff,Nat.reduceAdd,Nat.reduceMul,Nat.reduceSub,Nat.reduceLeDiff,Nat.reduceLT,Int.reduceEq,Int.reduceLT,Int.reduceLE,Int.reduceAdd,Int.reduceSub,Int.reduceMul,Int.reduceNeg,Int.reduceNe,reduceCtorEq,Int.reduceToNat,↓reduceIte]
        refine ⟨fun hm => ?_, fun hm => ?_⟩
        · refine ACalls.use (a_fail (bad := false) (hset ho _)) ?_; rintro _ _ ⟨rfl, rfl⟩; simp only [wk,if_true,if_false,forall_const,implies_true,ne_eq,eq_self,Nat.reduceEqDiff,Nat.reduceAdd,Nat.reduceMul,Nat.reduceSub,Nat.reduceLeDiff,Nat.reduceLT,Int.reduceEq,Int.reduceLT,Int.reduceLE,Int.reduceAdd,Int.reduceSub,Int.reduceMul,Int.reduceNeg,Int.reduceNe,reduceCtorEq,Int.reduceToNat,↓reduceIte, hset ho]
          rw [hm]; exact ⟨rfl, _, hwl'.2.2.1, rfl⟩
        · rw [hm]; exact ⟨rfl, q3, hwl'.2.2.1, rfl⟩
theorem seal_set {h : Hp} {id : Nat} {l l' : List AV} (ho : h[id]? = some (some (false, l))) : SealEq h (h.set id (some (false, l'))) := by
  have hlt : id < h.length := (List.getElem?_eq_some_iff.1 ho).1
  intro i m
  by_cases e : i = id
  · subst e
    rw [hset ho, ho]; simp
  · rw [List.getElem?_set_ne (fun h => e h.symm)]
theorem hnew (h : Hp) (x : Option (Bool × List AV)) : (h ++ [x])[h.length]? = some x := by simp
theorem hnew_set (h : Hp) (x y : Option (Bool × List AV)) : (h ++ [x]).set h.length y = h ++ [y] := by simp
theorem hold {h : Hp} {i : Nat} {y : Option (Bool × List AV)} (x : Option (Bool × List AV)) (ho : h[i]? = some y) : (h ++ [x])[i]? = some y := by
  rw [List.getElem?_append_left (List.getElem?_eq_some_iff.1 ho).1, ho]
theorem hlt_of {h : Hp} {i : Nat} {y : Option (Bool × List AV)} (ho : h[i]? = some y) : i < h.length := (List.getElem?_eq_some_iff.1 ho).1
theorem wri_len (ok : Bool) (add : List UInt8) (s : Bool × List UInt8) (n : Nat) (h : ok = true → add.length ≤ n) : (wri ok add s).2.length ≤ s.2.length + n := by
  unfold wri
  split
  · omega
  · split
    · next hok => have := h hok; simp only [List.length_append]; omega
    · simp only; omega
end Go.Proofs.Ytcbcnbefaggnhaa
