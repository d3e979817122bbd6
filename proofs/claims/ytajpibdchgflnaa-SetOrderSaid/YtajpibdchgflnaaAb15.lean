/- The abstract layer, sixteenth part: one law an operation, for the walk (written by genlem.py). -/
import Derived.Test.YtajpibdchgflnaaAb14
namespace Go.Proofs.Ytajpibdchgflnaa
set_option linter.unusedSimpArgs false
set_option linter.unusedVariables false
open Go.RowKit Go.Lib

section
variable (P : Program)
theorem wop_mv (d : Option Nat) (x : Opd) (fr : Fr) (h : Hp) (K : Fr → Hp → Prop) : wop P d (.mv x) fr h K = (match ev fr x with
    | some a => K (put d a fr) h
    | none => False) := id rfl
theorem eff_mv (x : Opd) (fr : Fr) (h : Hp) (R : AV → Hp → Prop) : eff P (.mv x) fr h R = (match ev fr x with
    | some a => R a h
    | none => False) := id rfl
theorem wop_pick (d : Option Nat) (c x y : Opd) (fr : Fr) (h : Hp) (K : Fr → Hp → Prop) : wop P d (.pick c x y) fr h K = (match ev fr c with
    | some (.bool p) => (p = true → match ev fr x with
      | some a => K (put d a fr) h
      | none => False) ∧ (p = false → match ev fr y with
      | some a => K (put d a fr) h
      | none => False)
    | _ => False) := id rfl
theorem eff_pick (c x y : Opd) (fr : Fr) (h : Hp) (R : AV → Hp → Prop) : eff P (.pick c x y) fr h R = (match ev fr c with
    | some (.bool p) => (p = true → match ev fr x with
      | some a => R a h
      | none => False) ∧ (p = false → match ev fr y with
      | some a => R a h
      | none => False)
    | _ => False) := id rfl
theorem wop_build (d : Option Nat) (t : List AV) (ps : List (Nat × Nat × Opd)) (fr : Fr) (h : Hp) (K : Fr → Hp → Prop) : wop P d (.build t ps) fr h K = (buildK fr t ps (fun l => K (put d (.agg l) fr) h)) := id rfl
theorem eff_build (t : List AV) (ps : List (Nat × Nat × Opd)) (fr : Fr) (h : Hp) (R : AV → Hp → Prop) : eff P (.build t ps) fr h R = (buildK fr t ps (fun l => R (.agg l) h)) := id rfl
theorem wop_load (d : Option Nat) (s : Option Nat) (x : Opd) (fr : Fr) (h : Hp) (K : Fr → Hp → Prop) : wop P d (.load s x) fr h K = (match ev fr x with
    | some (.ptr id off) => (match h[id]? with
      | some (some (_, l)) => loadK s (l.drop off) (kval d fr h K)
      | _ => False)
    | some (.fp l) => loadK s l (kval d fr h K)
    | _ => False) := id rfl
theorem eff_load (s : Option Nat) (x : Opd) (fr : Fr) (h : Hp) (R : AV → Hp → Prop) : eff P (.load s x) fr h R = (match ev fr x with
    | some (.ptr id off) => (match h[id]? with
      | some (some (_, l)) => loadK s (l.drop off) (kv h R)
      | _ => False)
    | some (.fp l) => loadK s l (kv h R)
    | _ => False) := id rfl
theorem wop_lds (d : Option Nat) (s : Option Nat) (x : Opd) (fr : Fr) (h : Hp) (K : Fr → Hp → Prop) : wop P d (.lds s x) fr h K = (match ev fr x with
    | some (.ptr id off) => (match h[id]? with
      | some (some (true, l)) => loadK s (l.drop off) (kval d fr h K)
      | _ => False)
    | some (.fp l) => loadK s l (kval d fr h K)
    | _ => False) := id rfl
theorem eff_lds (s : Option Nat) (x : Opd) (fr : Fr) (h : Hp) (R : AV → Hp → Prop) : eff P (.lds s x) fr h R = (match ev fr x with
    | some (.ptr id off) => (match h[id]? with
      | some (some (true, l)) => loadK s (l.drop off) (kv h R)
      | _ => False)
    | some (.fp l) => loadK s l (kv h R)
    | _ => False) := id rfl
theorem wop_nilck (d : Option Nat) (x : Opd) (fr : Fr) (h : Hp) (K : Fr → Hp → Prop) : wop P d (.nilck x) fr h K = (match ev fr x with
    | some (.ptr id off) => K (put d (.ptr id off) fr) h
    | some (.fp l) => K (put d (.fp l) fr) h
    | some (.fn f l) => K (put d (.fn f l) fr) h
    | _ => False) := id rfl
theorem eff_nilck (x : Opd) (fr : Fr) (h : Hp) (R : AV → Hp → Prop) : eff P (.nilck x) fr h R = (match ev fr x with
    | some (.ptr id off) => R (.ptr id off) h
    | some (.fp l) => R (.fp l) h
    | some (.fn f l) => R (.fn f l) h
    | _ => False) := id rfl
theorem wop_bin (d : Option Nat) (op : BinOp) (x y : Opd) (fr : Fr) (h : Hp) (K : Fr → Hp → Prop) : wop P d (.bin op x y) fr h K = (match ev fr x, ev fr y with
    | some a, some b => bin2 op a b (kval d fr h K)
    | _, _ => False) := id rfl
theorem eff_bin (op : BinOp) (x y : Opd) (fr : Fr) (h : Hp) (R : AV → Hp → Prop) : eff P (.bin op x y) fr h R = (match ev fr x, ev fr y with
    | some a, some b => bin2 op a b (kv h R)
    | _, _ => False) := id rfl
theorem wop_pnil (d : Option Nat) (n : Bool) (x : Opd) (fr : Fr) (h : Hp) (K : Fr → Hp → Prop) : wop P d (.pnil n x) fr h K = (match ev fr x with
    | some .nilp => K (put d (.bool (!n)) fr) h
    | some (.ptr _ _) => K (put d (.bool n) fr) h
    | some (.fp _) => K (put d (.bool n) fr) h
    | _ => False) := id rfl
theorem eff_pnil (n : Bool) (x : Opd) (fr : Fr) (h : Hp) (R : AV → Hp → Prop) : eff P (.pnil n x) fr h R = (match ev fr x with
    | some .nilp => R (.bool (!n)) h
    | some (.ptr _ _) => R (.bool n) h
    | some (.fp _) => R (.bool n) h
    | _ => False) := id rfl
theorem wop_bbin (d : Option Nat) (n : Bool) (x y : Opd) (fr : Fr) (h : Hp) (K : Fr → Hp → Prop) : wop P d (.bbin n x y) fr h K = (match ev fr x, ev fr y with
    | some (.bool a), some (.bool b) => K (put d (.bool (if n then decide (a ≠ b) else decide (a = b))) fr) h
    | _, _ => False) := id rfl
theorem eff_bbin (n : Bool) (x y : Opd) (fr : Fr) (h : Hp) (R : AV → Hp → Prop) : eff P (.bbin n x y) fr h R = (match ev fr x, ev fr y with
    | some (.bool a), some (.bool b) => R (.bool (if n then decide (a ≠ b) else decide (a = b))) h
    | _, _ => False) := id rfl
theorem wop_not (d : Option Nat) (x : Opd) (fr : Fr) (h : Hp) (K : Fr → Hp → Prop) : wop P d (.not x) fr h K = (match ev fr x with
    | some (.bool p) => K (put d (.bool (!p)) fr) h
    | _ => False) := id rfl
theorem eff_not (x : Opd) (fr : Fr) (h : Hp) (R : AV → Hp → Prop) : eff P (.not x) fr h R = (match ev fr x with
    | some (.bool p) => R (.bool (!p)) h
    | _ => False) := id rfl
theorem wop_conv (d : Option Nat) (i : IntKind) (x : Opd) (fr : Fr) (h : Hp) (K : Fr → Hp → Prop) : wop P d (.conv i x) fr h K = (match ev fr x with
    | some (.int _ n) => K (put d (.int i (i.wrap n)) fr) h
    | _ => False) := id rfl
theorem eff_conv (i : IntKind) (x : Opd) (fr : Fr) (h : Hp) (R : AV → Hp → Prop) : eff P (.conv i x) fr h R = (match ev fr x with
    | some (.int _ n) => R (.int i (i.wrap n)) h
    | _ => False) := id rfl
theorem wop_cstr (d : Option Nat) (x : Opd) (fr : Fr) (h : Hp) (K : Fr → Hp → Prop) : wop P d (.cstr x) fr h K = (match ev fr x with
    | some (.str s) => K (put d (.str s) fr) h
    | _ => False) := id rfl
theorem eff_cstr (x : Opd) (fr : Fr) (h : Hp) (R : AV → Hp → Prop) : eff P (.cstr x) fr h R = (match ev fr x with
    | some (.str s) => R (.str s) h
    | _ => False) := id rfl
theorem wop_b2s (d : Option Nat) (x : Opd) (fr : Fr) (h : Hp) (K : Fr → Hp → Prop) : wop P d (.b2s x) fr h K = (match ev fr x with
    | some (.lst _ n l) => ∃ bs : List UInt8, l = bs.map (fun b => AV.int .u8 b.toNat) ∧ n = bs.length ∧ K (put d (.str ⟨bs.toArray⟩) fr) h
    | _ => False) := id rfl
theorem eff_b2s (x : Opd) (fr : Fr) (h : Hp) (R : AV → Hp → Prop) : eff P (.b2s x) fr h R = (match ev fr x with
    | some (.lst _ n l) => ∃ bs : List UInt8, l = bs.map (fun b => AV.int .u8 b.toNat) ∧ n = bs.length ∧ R (.str ⟨bs.toArray⟩) h
    | _ => False) := id rfl
theorem wop_fld (d : Option Nat) (o : Nat) (x : Opd) (fr : Fr) (h : Hp) (K : Fr → Hp → Prop) : wop P d (.fld o x) fr h K = (match ev fr x with
    | some (.ptr id q) => K (put d (.ptr id (q + o)) fr) h
    | some (.fp l) => K (put d (.fp (l.drop o)) fr) h
    | _ => False) := id rfl
theorem eff_fld (o : Nat) (x : Opd) (fr : Fr) (h : Hp) (R : AV → Hp → Prop) : eff P (.fld o x) fr h R = (match ev fr x with
    | some (.ptr id q) => R (.ptr id (q + o)) h
    | some (.fp l) => R (.fp (l.drop o)) h
    | _ => False) := id rfl
theorem wop_idxa (d : Option Nat) (s : Nat) (x y : Opd) (fr : Fr) (h : Hp) (K : Fr → Hp → Prop) : wop P d (.idxa s x y) fr h K = (match ev fr x, ev fr y with
    | some (.lst _ n l), some (.int _ i) => (0 ≤ i ∧ i < n) ∧ K (put d (.fp (l.drop (i.toNat * s))) fr) h
    | some (.hs id n), some (.int _ i) => (0 ≤ i ∧ i < n) ∧ K (put d (.ptr id (i.toNat * s)) fr) h
    | _, _ => False) := id rfl
theorem eff_idxa (s : Nat) (x y : Opd) (fr : Fr) (h : Hp) (R : AV → Hp → Prop) : eff P (.idxa s x y) fr h R = (match ev fr x, ev fr y with
    | some (.lst _ n l), some (.int _ i) => (0 ≤ i ∧ i < n) ∧ R (.fp (l.drop (i.toNat * s))) h
    | some (.hs id n), some (.int _ i) => (0 ≤ i ∧ i < n) ∧ R (.ptr id (i.toNat * s)) h
    | _, _ => False) := id rfl
theorem wop_idxs (d : Option Nat) (x y : Opd) (fr : Fr) (h : Hp) (K : Fr → Hp → Prop) : wop P d (.idxs x y) fr h K = (match ev fr x, ev fr y with
    | some (.str s), some (.int _ i) => (0 ≤ i ∧ i < s.size) ∧ K (put d (.int .u8 (byteAt s i.toNat)) fr) h
    | _, _ => False) := id rfl
theorem eff_idxs (x y : Opd) (fr : Fr) (h : Hp) (R : AV → Hp → Prop) : eff P (.idxs x y) fr h R = (match ev fr x, ev fr y with
    | some (.str s), some (.int _ i) => (0 ≤ i ∧ i < s.size) ∧ R (.int .u8 (byteAt s i.toNat)) h
    | _, _ => False) := id rfl
theorem wop_slcs (d : Option Nat) (x : Opd) (lo hi : Option Opd) (fr : Fr) (h : Hp) (K : Fr → Hp → Prop) : wop P d (.slcs x lo hi) fr h K = (match ev fr x with
    | some (.str s) => (match evD fr (.int .i64 0) lo, evD fr (.int .i64 s.size) hi with
      | some (.int _ l), some (.int _ u) => (0 ≤ l ∧ l ≤ u ∧ u ≤ s.size) ∧ K (put d (.str (s.extract l.toNat u.toNat)) fr) h
      | _, _ => False)
    | _ => False) := id rfl
theorem eff_slcs (x : Opd) (lo hi : Option Opd) (fr : Fr) (h : Hp) (R : AV → Hp → Prop) : eff P (.slcs x lo hi) fr h R = (match ev fr x with
    | some (.str s) => (match evD fr (.int .i64 0) lo, evD fr (.int .i64 s.size) hi with
      | some (.int _ l), some (.int _ u) => (0 ≤ l ∧ l ≤ u ∧ u ≤ s.size) ∧ R (.str (s.extract l.toNat u.toNat)) h
      | _, _ => False)
    | _ => False) := id rfl
theorem wop_slcl (d : Option Nat) (s : Nat) (x : Opd) (lo hi mx : Option Opd) (fr : Fr) (h : Hp) (K : Fr → Hp → Prop) : wop P d (.slcl s x lo hi mx) fr h K = (match ev fr x with
    | some (.lst _ n l) => (match evD fr (.int .i64 0) lo, evD fr (.int .i64 n) hi with
      | some (.int _ i), some (.int _ j) => (0 ≤ i ∧ i ≤ j ∧ j ≤ n ∧ l.length = n * s) ∧ (match mx with
        | none => K (put d (.lst .ro (j.toNat - i.toNat) ((l.drop (i.toNat * s)).take ((j.toNat - i.toNat) * s))) fr) h
        | some m => match ev fr m with
          | some (.int _ m) => m = j ∧ K (put d (.lst .clip (j.toNat - i.toNat) ((l.drop (i.toNat * s)).take ((j.toNat - i.toNat) * s))) fr) h
          | _ => False)
      | _, _ => False)
    | _ => False) := id rfl
theorem eff_slcl (s : Nat) (x : Opd) (lo hi mx : Option Opd) (fr : Fr) (h : Hp) (R : AV → Hp → Prop) : eff P (.slcl s x lo hi mx) fr h R = (match ev fr x with
    | some (.lst _ n l) => (match evD fr (.int .i64 0) lo, evD fr (.int .i64 n) hi with
      | some (.int _ i), some (.int _ j) => (0 ≤ i ∧ i ≤ j ∧ j ≤ n ∧ l.length = n * s) ∧ (match mx with
        | none => R (.lst .ro (j.toNat - i.toNat) ((l.drop (i.toNat * s)).take ((j.toNat - i.toNat) * s))) h
        | some m => match ev fr m with
          | some (.int _ m) => m = j ∧ R (.lst .clip (j.toNat - i.toNat) ((l.drop (i.toNat * s)).take ((j.toNat - i.toNat) * s))) h
          | _ => False)
      | _, _ => False)
    | _ => False) := id rfl
theorem wop_ext (d : Option Nat) (i : Nat) (x : Opd) (fr : Fr) (h : Hp) (K : Fr → Hp → Prop) : wop P d (.ext i x) fr h K = (match ev fr x with
    | some (.tup l) => (match l[i]? with
      | some a => K (put d a fr) h
      | none => False)
    | _ => False) := id rfl
theorem eff_ext (i : Nat) (x : Opd) (fr : Fr) (h : Hp) (R : AV → Hp → Prop) : eff P (.ext i x) fr h R = (match ev fr x with
    | some (.tup l) => (match l[i]? with
      | some a => R a h
      | none => False)
    | _ => False) := id rfl
theorem wop_lens (d : Option Nat) (x : Opd) (fr : Fr) (h : Hp) (K : Fr → Hp → Prop) : wop P d (.lens x) fr h K = (match ev fr x with
    | some (.str s) => K (put d (.int .i64 s.size) fr) h
    | _ => False) := id rfl
theorem eff_lens (x : Opd) (fr : Fr) (h : Hp) (R : AV → Hp → Prop) : eff P (.lens x) fr h R = (match ev fr x with
    | some (.str s) => R (.int .i64 s.size) h
    | _ => False) := id rfl
theorem wop_lenl (d : Option Nat) (x : Opd) (fr : Fr) (h : Hp) (K : Fr → Hp → Prop) : wop P d (.lenl x) fr h K = (match ev fr x with
    | some (.lst _ n _) => K (put d (.int .i64 n) fr) h
    | some (.hs _ n) => K (put d (.int .i64 n) fr) h
    | _ => False) := id rfl
theorem eff_lenl (x : Opd) (fr : Fr) (h : Hp) (R : AV → Hp → Prop) : eff P (.lenl x) fr h R = (match ev fr x with
    | some (.lst _ n _) => R (.int .i64 n) h
    | some (.hs _ n) => R (.int .i64 n) h
    | _ => False) := id rfl
theorem wop_mn (d : Option Nat) (x y : Opd) (fr : Fr) (h : Hp) (K : Fr → Hp → Prop) : wop P d (.mn x y) fr h K = (match ev fr x, ev fr y with
    | some (.int i a), some (.int _ b) => K (put d (.int i (if b < a then b else a)) fr) h
    | _, _ => False) := id rfl
theorem eff_mn (x y : Opd) (fr : Fr) (h : Hp) (R : AV → Hp → Prop) : eff P (.mn x y) fr h R = (match ev fr x, ev fr y with
    | some (.int i a), some (.int _ b) => R (.int i (if b < a then b else a)) h
    | _, _ => False) := id rfl
theorem wop_mx (d : Option Nat) (x y : Opd) (fr : Fr) (h : Hp) (K : Fr → Hp → Prop) : wop P d (.mx x y) fr h K = (match ev fr x, ev fr y with
    | some (.int i a), some (.int _ b) => K (put d (.int i (if a < b then b else a)) fr) h
    | _, _ => False) := id rfl
theorem eff_mx (x y : Opd) (fr : Fr) (h : Hp) (R : AV → Hp → Prop) : eff P (.mx x y) fr h R = (match ev fr x, ev fr y with
    | some (.int i a), some (.int _ b) => R (.int i (if a < b then b else a)) h
    | _, _ => False) := id rfl
theorem wop_ex (d : Option Nat) (e : Ex) (xs : List Opd) (fr : Fr) (h : Hp) (K : Fr → Hp → Prop) : wop P d (.ex e xs) fr h K = (match evs fr xs with
    | some l => (match exF e l with
      | some a => K (put d a fr) h
      | none => False)
    | none => False) := id rfl
theorem eff_ex (e : Ex) (xs : List Opd) (fr : Fr) (h : Hp) (R : AV → Hp → Prop) : eff P (.ex e xs) fr h R = (match evs fr xs with
    | some l => (match exF e l with
      | some a => R a h
      | none => False)
    | none => False) := id rfl
theorem wop_mkfn (d : Option Nat) (f : FuncId) (c : List Opd) (fr : Fr) (h : Hp) (K : Fr → Hp → Prop) : wop P d (.mkfn f c) fr h K = (match evs fr c with
    | some l => K (put d (.fn f l) fr) h
    | none => False) := id rfl
theorem eff_mkfn (f : FuncId) (c : List Opd) (fr : Fr) (h : Hp) (R : AV → Hp → Prop) : eff P (.mkfn f c) fr h R = (match evs fr c with
    | some l => R (.fn f l) h
    | none => False) := id rfl
theorem wop_mvu (d : Option Nat) (e s : Nat) (x : Opd) (fr : Fr) (h : Hp) (K : Fr → Hp → Prop) : wop P d (.mvu e s x) fr h K = (match ev fr x with
    | some (.lst .clip n l) => l.length = n * s ∧ K (put d (.lst (.own e) n l) fr) h
    | _ => False) := id rfl
theorem eff_mvu (e s : Nat) (x : Opd) (fr : Fr) (h : Hp) (R : AV → Hp → Prop) : eff P (.mvu e s x) fr h R = (match ev fr x with
    | some (.lst .clip n l) => l.length = n * s ∧ R (.lst (.own e) n l) h
    | _ => False) := id rfl
theorem wop_mvo (d : Option Nat) (q : Nat) (fr : Fr) (h : Hp) (K : Fr → Hp → Prop) : wop P d (.mvo q) fr h K = (match lk fr q with
    | some (.lst (.own e) n l) => K (put d (.lst (.own e) n l) (degr q fr)) h
    | _ => False) := id rfl
theorem eff_mvo (q : Nat) (fr : Fr) (h : Hp) (R : AV → Hp → Prop) : eff P (.mvo q) fr h R = (match lk fr q with
    | some (.lst (.own e) n l) => R (.lst (.own e) n l) h
    | _ => False) := id rfl
theorem wop_new (d : Option Nat) (l : List AV) (u : List (Nat × Nat × Nat)) (fr : Fr) (h : Hp) (K : Fr → Hp → Prop) : wop P d (.new l u) fr h K = (upgK u l (fun l' => K (put d (.ptr h.length 0) fr) (h ++ [some (false, l')]))) := id rfl
theorem eff_new (l : List AV) (u : List (Nat × Nat × Nat)) (fr : Fr) (h : Hp) (R : AV → Hp → Prop) : eff P (.new l u) fr h R = (upgK u l (fun l' => R (.ptr h.length 0) (h ++ [some (false, l')]))) := id rfl
theorem wop_box (d : Option Nat) (x : Opd) (u : List (Nat × Nat × Nat)) (fr : Fr) (h : Hp) (K : Fr → Hp → Prop) : wop P d (.box x u) fr h K = (match ev fr x with
    | some a => isTup a = false ∧ upgK u (cellsOf a) (fun l' => K (put d (.ptr h.length 0) fr) (h ++ [some (false, l')]))
    | none => False) := id rfl
theorem eff_box (x : Opd) (u : List (Nat × Nat × Nat)) (fr : Fr) (h : Hp) (R : AV → Hp → Prop) : eff P (.box x u) fr h R = (match ev fr x with
    | some a => isTup a = false ∧ upgK u (cellsOf a) (fun l' => R (.ptr h.length 0) (h ++ [some (false, l')]))
    | none => False) := id rfl
theorem wop_bsl (d : Option Nat) (e s n : Nat) (t : List AV) (ps : List (Nat × Nat × Opd)) (fr : Fr) (h : Hp) (K : Fr → Hp → Prop) : wop P d (.bsl e s n t ps) fr h K = (buildK fr t ps (fun l => K (put d (.lst (.own e) n l) fr) h)) := id rfl
theorem eff_bsl (e s n : Nat) (t : List AV) (ps : List (Nat × Nat × Opd)) (fr : Fr) (h : Hp) (R : AV → Hp → Prop) : eff P (.bsl e s n t ps) fr h R = (buildK fr t ps (fun l => R (.lst (.own e) n l) h)) := id rfl
theorem wop_mk0 (d : Option Nat) (e s b : Nat) (c : Opd) (fr : Fr) (h : Hp) (K : Fr → Hp → Prop) : wop P d (.mk0 e s b c) fr h K = (match ev fr c with
    | some (.int _ n) => (0 ≤ n ∧ b * n ≤ 140737488355328 ∧ n ≤ 9223372036854775807) ∧ K (put d (.lst (.own e) 0 []) fr) h
    | _ => False) := id rfl
theorem eff_mk0 (e s b : Nat) (c : Opd) (fr : Fr) (h : Hp) (R : AV → Hp → Prop) : eff P (.mk0 e s b c) fr h R = (match ev fr c with
    | some (.int _ n) => (0 ≤ n ∧ b * n ≤ 140737488355328 ∧ n ≤ 9223372036854775807) ∧ R (.lst (.own e) 0 []) h
    | _ => False) := id rfl
theorem wop_mkn (d : Option Nat) (e s b : Nat) (z : List AV) (c : Opd) (fr : Fr) (h : Hp) (K : Fr → Hp → Prop) : wop P d (.mkn e s b z c) fr h K = (match ev fr c with
    | some (.int _ n) => (0 ≤ n ∧ b * n ≤ 140737488355328 ∧ n ≤ 9223372036854775807) ∧ K (put d (.hs h.length n.toNat) fr) (h ++ [some (false, (List.range (n.toNat * s)).map fun i => z.getD (i % s) .nilp)])
    | _ => False) := id rfl
theorem eff_mkn (e s b : Nat) (z : List AV) (c : Opd) (fr : Fr) (h : Hp) (R : AV → Hp → Prop) : eff P (.mkn e s b z c) fr h R = (match ev fr c with
    | some (.int _ n) => (0 ≤ n ∧ b * n ≤ 140737488355328 ∧ n ≤ 9223372036854775807) ∧ R (.hs h.length n.toNat) (h ++ [some (false, (List.range (n.toNat * s)).map fun i => z.getD (i % s) .nilp)])
    | _ => False) := id rfl
theorem wop_loado (d : Option Nat) (x : Opd) (fr : Fr) (h : Hp) (K : Fr → Hp → Prop) : wop P d (.loado x) fr h K = (match ev fr x with
    | some (.ptr id off) => (match h[id]? with
      | some (some (false, l)) => (match l[off]? with
        | some (.lst (.own e) n c) => K (put d (.lst (.own e) n c) fr) (h.set id (some (false, l.set off (.lst .ro n c))))
        | _ => False)
      | _ => False)
    | _ => False) := id rfl
theorem eff_loado (x : Opd) (fr : Fr) (h : Hp) (R : AV → Hp → Prop) : eff P (.loado x) fr h R = (match ev fr x with
    | some (.ptr id off) => (match h[id]? with
      | some (some (false, l)) => (match l[off]? with
        | some (.lst (.own e) n c) => R (.lst (.own e) n c) (h.set id (some (false, l.set off (.lst .ro n c))))
        | _ => False)
      | _ => False)
    | _ => False) := id rfl
theorem wop_app (d : Option Nat) (e s b : Nat) (x y : Opd) (fr : Fr) (h : Hp) (K : Fr → Hp → Prop) : wop P d (.app e s b x y) fr h K = (match ev fr x, ev fr y with
    | some (.lst .clip n l), some (.lst _ m l') => (l.length = n * s ∧ l'.length = m * s ∧ n + m ≤ 9223372036854775807 ∧ (n + m) * b ≤ 140737488355328) ∧ K (put d (.lst (.own e) (n + m) (l ++ l')) fr) h
    | _, _ => False) := id rfl
theorem eff_app (e s b : Nat) (x y : Opd) (fr : Fr) (h : Hp) (R : AV → Hp → Prop) : eff P (.app e s b x y) fr h R = (match ev fr x, ev fr y with
    | some (.lst .clip n l), some (.lst _ m l') => (l.length = n * s ∧ l'.length = m * s ∧ n + m ≤ 9223372036854775807 ∧ (n + m) * b ≤ 140737488355328) ∧ R (.lst (.own e) (n + m) (l ++ l')) h
    | _, _ => False) := id rfl
theorem wop_appo (d : Option Nat) (e s b q : Nat) (y : Opd) (fr : Fr) (h : Hp) (K : Fr → Hp → Prop) : wop P d (.appo e s b q y) fr h K = (match lk fr q, ev fr y with
    | some (.lst (.own e') n l), some (.lst _ m l') => (e' = e ∧ l'.length = m * s ∧ n + m ≤ 9223372036854775807 ∧ (n + m) * b ≤ 140737488355328) ∧ K (put d (.lst (.own e) (n + m) (l ++ l')) (degr q fr)) h
    | _, _ => False) := id rfl
theorem eff_appo (e s b q : Nat) (y : Opd) (fr : Fr) (h : Hp) (R : AV → Hp → Prop) : eff P (.appo e s b q y) fr h R = (match lk fr q, ev fr y with
    | some (.lst (.own e') n l), some (.lst _ m l') => (e' = e ∧ l'.length = m * s ∧ n + m ≤ 9223372036854775807 ∧ (n + m) * b ≤ 140737488355328) ∧ R (.lst (.own e) (n + m) (l ++ l')) h
    | _, _ => False) := id rfl
theorem wop_appso (d : Option Nat) (e q : Nat) (y : Opd) (fr : Fr) (h : Hp) (K : Fr → Hp → Prop) : wop P d (.appso e q y) fr h K = (match lk fr q, ev fr y with
    | some (.lst (.own e') n l), some (.str s) => (e' = e ∧ n + s.size ≤ 140737488355328) ∧ K (put d (.lst (.own e) (n + s.size) (l ++ s.data.toList.map fun b => AV.int .u8 b.toNat)) (degr q fr)) h
    | _, _ => False) := id rfl
theorem eff_appso (e q : Nat) (y : Opd) (fr : Fr) (h : Hp) (R : AV → Hp → Prop) : eff P (.appso e q y) fr h R = (match lk fr q, ev fr y with
    | some (.lst (.own e') n l), some (.str s) => (e' = e ∧ n + s.size ≤ 140737488355328) ∧ R (.lst (.own e) (n + s.size) (l ++ s.data.toList.map fun b => AV.int .u8 b.toNat)) h
    | _, _ => False) := id rfl
theorem wop_store (d : Option Nat) (n : Nat) (a x : Opd) (fr : Fr) (h : Hp) (K : Fr → Hp → Prop) : wop P d (.store n a x) fr h K = (match ev fr a, ev fr x with
    | some (.ptr id off), some v => (match h[id]? with
      | some (some (false, l)) => (isTup v = false ∧ (cellsOf v).length = n ∧ off + n ≤ l.length) ∧ K fr (h.set id (some (false, splice l off (cellsOf v))))
      | _ => False)
    | _, _ => False) := id rfl
theorem wop_storeo (d : Option Nat) (a : Opd) (q : Nat) (fr : Fr) (h : Hp) (K : Fr → Hp → Prop) : wop P d (.storeo a q) fr h K = (match ev fr a, lk fr q with
    | some (.ptr id off), some (.lst (.own e) n c) => (match h[id]? with
      | some (some (false, l)) => off < l.length ∧ K (degr q fr) (h.set id (some (false, l.set off (.lst (.own e) n c))))
      | _ => False)
    | _, _ => False) := id rfl
theorem wop_stores (d : Option Nat) (n : Nat) (a x : Opd) (fr : Fr) (h : Hp) (K : Fr → Hp → Prop) : wop P d (.stores n a x) fr h K = (match ev fr a, ev fr x with
    | some (.ptr id off), some v => (match h[id]? with
      | some (some (false, l)) => (isTup v = false ∧ (cellsOf v).length = n ∧ off + n ≤ l.length) ∧ K fr (h.set id (some (true, splice l off (cellsOf v))))
      | _ => False)
    | _, _ => False) := id rfl
theorem eff_store (n : Nat) (a x : Opd) (fr : Fr) (h : Hp) (R : AV → Hp → Prop) : eff P (.store n a x) fr h R = (match ev fr a, ev fr x with
    | some (.ptr id off), some v => (match h[id]? with
      | some (some (false, l)) => (isTup v = false ∧ (cellsOf v).length = n ∧ off + n ≤ l.length) ∧ R .nilp (h.set id (some (false, splice l off (cellsOf v))))
      | _ => False)
    | _, _ => False) := id rfl
theorem eff_storeo (a : Opd) (q : Nat) (fr : Fr) (h : Hp) (R : AV → Hp → Prop) : eff P (.storeo a q) fr h R = (match ev fr a, lk fr q with
    | some (.ptr id off), some (.lst (.own e) n c) => (match h[id]? with
      | some (some (false, l)) => off < l.length ∧ R .nilp (h.set id (some (false, l.set off (.lst (.own e) n c))))
      | _ => False)
    | _, _ => False) := id rfl
theorem eff_stores (n : Nat) (a x : Opd) (fr : Fr) (h : Hp) (R : AV → Hp → Prop) : eff P (.stores n a x) fr h R = (match ev fr a, ev fr x with
    | some (.ptr id off), some v => (match h[id]? with
      | some (some (false, l)) => (isTup v = false ∧ (cellsOf v).length = n ∧ off + n ≤ l.length) ∧ R .nilp (h.set id (some (true, splice l off (cellsOf v))))
      | _ => False)
    | _, _ => False) := id rfl
theorem wop_call (d : Option Nat) (f : Opd) (l : List Opd) (fr : Fr) (h : Hp) (K : Fr → Hp → Prop) : wop P d (.call f l) fr h K = (match ev fr f, evs fr l with
    | some (.fn f' caps), some l => ACalls P f' (l ++ caps) h (kcall d fr K)
    | _, _ => False) := id rfl
theorem eff_call (f : Opd) (l : List Opd) (fr : Fr) (h : Hp) (R : AV → Hp → Prop) : eff P (.call f l) fr h R = (match ev fr f, evs fr l with
    | some (.fn f' caps), some l => ∃ v, PCalls P f' (l ++ caps) v ∧ R v h
    | _, _ => False) := id rfl
theorem wop_calli (d : Option Nat) (f : Opd) (l : List Opd) (fr : Fr) (h : Hp) (K : Fr → Hp → Prop) : wop P d (.calli f l) fr h K = (match ev fr f, evs fr l with
    | some (.fn f' caps), some l => ACalls P f' (l ++ caps) h (kcall d fr K)
    | _, _ => False) := id rfl
theorem eff_calli (f : Opd) (l : List Opd) (fr : Fr) (h : Hp) (R : AV → Hp → Prop) : eff P (.calli f l) fr h R = (match ev fr f, evs fr l with
    | some (.fn f' caps), some l => ∃ v hv, ACalls P f' (l ++ caps) h (fun a h' => a = v ∧ h' = hv) ∧ SealEq h hv ∧ R v hv
    | _, _ => False) := id rfl
theorem tk_mv (x : Opd) (fr : Fr) : tk (.mv x) fr = fr := id rfl
theorem tk_pick (c x y : Opd) (fr : Fr) : tk (.pick c x y) fr = fr := id rfl
theorem tk_build (t : List AV) (ps : List (Nat × Nat × Opd)) (fr : Fr) : tk (.build t ps) fr = fr := id rfl
theorem tk_load (s : Option Nat) (x : Opd) (fr : Fr) : tk (.load s x) fr = fr := id rfl
theorem tk_lds (s : Option Nat) (x : Opd) (fr : Fr) : tk (.lds s x) fr = fr := id rfl
theorem tk_nilck (x : Opd) (fr : Fr) : tk (.nilck x) fr = fr := id rfl
theorem tk_bin (op : BinOp) (x y : Opd) (fr : Fr) : tk (.bin op x y) fr = fr := id rfl
theorem tk_pnil (n : Bool) (x : Opd) (fr : Fr) : tk (.pnil n x) fr = fr := id rfl
theorem tk_bbin (n : Bool) (x y : Opd) (fr : Fr) : tk (.bbin n x y) fr = fr := id rfl
theorem tk_not (x : Opd) (fr : Fr) : tk (.not x) fr = fr := id rfl
theorem tk_conv (i : IntKind) (x : Opd) (fr : Fr) : tk (.conv i x) fr = fr := id rfl
theorem tk_cstr (x : Opd) (fr : Fr) : tk (.cstr x) fr = fr := id rfl
theorem tk_b2s (x : Opd) (fr : Fr) : tk (.b2s x) fr = fr := id rfl
theorem tk_fld (o : Nat) (x : Opd) (fr : Fr) : tk (.fld o x) fr = fr := id rfl
theorem tk_idxa (s : Nat) (x y : Opd) (fr : Fr) : tk (.idxa s x y) fr = fr := id rfl
theorem tk_idxs (x y : Opd) (fr : Fr) : tk (.idxs x y) fr = fr := id rfl
theorem tk_slcs (x : Opd) (lo hi : Option Opd) (fr : Fr) : tk (.slcs x lo hi) fr = fr := id rfl
theorem tk_slcl (s : Nat) (x : Opd) (lo hi mx : Option Opd) (fr : Fr) : tk (.slcl s x lo hi mx) fr = fr := id rfl
theorem tk_ext (i : Nat) (x : Opd) (fr : Fr) : tk (.ext i x) fr = fr := id rfl
theorem tk_lens (x : Opd) (fr : Fr) : tk (.lens x) fr = fr := id rfl
theorem tk_lenl (x : Opd) (fr : Fr) : tk (.lenl x) fr = fr := id rfl
theorem tk_mn (x y : Opd) (fr : Fr) : tk (.mn x y) fr = fr := id rfl
theorem tk_mx (x y : Opd) (fr : Fr) : tk (.mx x y) fr = fr := id rfl
theorem tk_ex (e : Ex) (xs : List Opd) (fr : Fr) : tk (.ex e xs) fr = fr := id rfl
theorem tk_mkfn (f : FuncId) (c : List Opd) (fr : Fr) : tk (.mkfn f c) fr = fr := id rfl
theorem tk_mvu (e s : Nat) (x : Opd) (fr : Fr) : tk (.mvu e s x) fr = fr := id rfl
theorem tk_mvo (q : Nat) (fr : Fr) : tk (.mvo q) fr = degr q fr := id rfl
theorem tk_new (l : List AV) (u : List (Nat × Nat × Nat)) (fr : Fr) : tk (.new l u) fr = fr := id rfl
theorem tk_box (x : Opd) (u : List (Nat × Nat × Nat)) (fr : Fr) : tk (.box x u) fr = fr := id rfl
theorem tk_bsl (e s n : Nat) (t : List AV) (ps : List (Nat × Nat × Opd)) (fr : Fr) : tk (.bsl e s n t ps) fr = fr := id rfl
theorem tk_mk0 (e s b : Nat) (c : Opd) (fr : Fr) : tk (.mk0 e s b c) fr = fr := id rfl
theorem tk_mkn (e s b : Nat) (z : List AV) (c : Opd) (fr : Fr) : tk (.mkn e s b z c) fr = fr := id rfl
theorem tk_loado (x : Opd) (fr : Fr) : tk (.loado x) fr = fr := id rfl
theorem tk_app (e s b : Nat) (x y : Opd) (fr : Fr) : tk (.app e s b x y) fr = fr := id rfl
theorem tk_appo (e s b q : Nat) (y : Opd) (fr : Fr) : tk (.appo e s b q y) fr = degr q fr := id rfl
theorem tk_appso (e q : Nat) (y : Opd) (fr : Fr) : tk (.appso e q y) fr = degr q fr := id rfl
theorem tk_store (n : Nat) (a x : Opd) (fr : Fr) : tk (.store n a x) fr = fr := id rfl
theorem tk_storeo (a : Opd) (q : Nat) (fr : Fr) : tk (.storeo a q) fr = degr q fr := id rfl
theorem tk_call (f : Opd) (l : List Opd) (fr : Fr) : tk (.call f l) fr = fr := id rfl
theorem tk_stores (n : Nat) (a x : Opd) (fr : Fr) : tk (.stores n a x) fr = fr := id rfl
theorem tk_calli (f : Opd) (l : List Opd) (fr : Fr) : tk (.calli f l) fr = fr := id rfl
theorem ex_wadd (k : IntKind) (x y : Int) : exF (.binw .add) [.int k x, .int k y] = some (.int k (k.wrap (x + y))) := by simp [exF]
theorem ex_wsub (k : IntKind) (x y : Int) : exF (.binw .sub) [.int k x, .int k y] = some (.int k (k.wrap (x - y))) := by simp [exF]
theorem ex_wmul (k : IntKind) (x y : Int) : exF (.binw .mul) [.int k x, .int k y] = some (.int k (k.wrap (x * y))) := by simp [exF]
theorem int_add (i j : IntKind) (x y : Int) (K : AV → Prop) : bin2 .add (.int i x) (.int j y) K = (i = j ∧ arith i (x + y) K) := id rfl
theorem int_sub (i j : IntKind) (x y : Int) (K : AV → Prop) : bin2 .sub (.int i x) (.int j y) K = (i = j ∧ arith i (x - y) K) := id rfl
theorem int_mul (i j : IntKind) (x y : Int) (K : AV → Prop) : bin2 .mul (.int i x) (.int j y) K = (i = j ∧ arith i (x * y) K) := id rfl
theorem int_quo (i j : IntKind) (x y : Int) (K : AV → Prop) : bin2 .quo (.int i x) (.int j y) K = (i = j ∧ y ≠ 0 ∧ arith i (x.tdiv y) K) := id rfl
theorem int_rem (i j : IntKind) (x y : Int) (K : AV → Prop) : bin2 .rem (.int i x) (.int j y) K = (i = j ∧ y ≠ 0 ∧ K (.int i (x.tmod y))) := id rfl
theorem int_and (i j : IntKind) (x y : Int) (K : AV → Prop) : bin2 .and (.int i x) (.int j y) K = (i = j ∧ K (.int i (bitV .and i x y))) := id rfl
theorem int_or (i j : IntKind) (x y : Int) (K : AV → Prop) : bin2 .or (.int i x) (.int j y) K = (i = j ∧ K (.int i (bitV .or i x y))) := id rfl
theorem int_xor (i j : IntKind) (x y : Int) (K : AV → Prop) : bin2 .xor (.int i x) (.int j y) K = (i = j ∧ K (.int i (bitV .xor i x y))) := id rfl
theorem int_eql (i j : IntKind) (x y : Int) (K : AV → Prop) : bin2 .eql (.int i x) (.int j y) K = (i = j ∧ K (.bool (decide (x = y)))) := id rfl
theorem int_neq (i j : IntKind) (x y : Int) (K : AV → Prop) : bin2 .neq (.int i x) (.int j y) K = (i = j ∧ K (.bool (decide (x ≠ y)))) := id rfl
theorem int_lss (i j : IntKind) (x y : Int) (K : AV → Prop) : bin2 .lss (.int i x) (.int j y) K = (i = j ∧ K (.bool (decide (x < y)))) := id rfl
theorem int_leq (i j : IntKind) (x y : Int) (K : AV → Prop) : bin2 .leq (.int i x) (.int j y) K = (i = j ∧ K (.bool (decide (x ≤ y)))) := id rfl
theorem int_gtr (i j : IntKind) (x y : Int) (K : AV → Prop) : bin2 .gtr (.int i x) (.int j y) K = (i = j ∧ K (.bool (decide (y < x)))) := id rfl
theorem int_geq (i j : IntKind) (x y : Int) (K : AV → Prop) : bin2 .geq (.int i x) (.int j y) K = (i = j ∧ K (.bool (decide (y ≤ x)))) := id rfl
theorem int_shl (i j : IntKind) (x y : Int) (K : AV → Prop) : bin2 .shl (.int i x) (.int j y) K = (0 ≤ y ∧ K (.int i (i.wrap (x * 2 ^ (min y.toNat i.bits))))) := id rfl
theorem int_shr (i j : IntKind) (x y : Int) (K : AV → Prop) : bin2 .shr (.int i x) (.int j y) K = (0 ≤ y ∧ K (.int i (x.fdiv (2 ^ (min y.toNat i.bits))))) := id rfl
theorem str_add (x y : ByteArray) (K : AV → Prop) : bin2 .add (.str x) (.str y) K = (x.size + y.size ≤ 9223372036854775807 ∧ K (.str (x ++ y))) := id rfl
theorem str_eql (x y : ByteArray) (K : AV → Prop) : bin2 .eql (.str x) (.str y) K = (K (.bool (decide (x = y)))) := id rfl
theorem str_neq (x y : ByteArray) (K : AV → Prop) : bin2 .neq (.str x) (.str y) K = (K (.bool (decide (x ≠ y)))) := id rfl
theorem str_lss (x y : ByteArray) (K : AV → Prop) : bin2 .lss (.str x) (.str y) K = (K (.bool (Op.bytesLess x.toList y.toList))) := id rfl
theorem arith_i8 (z : Int) (K : AV → Prop) : arith .i8 z K = K (.int .i8 (IntKind.i8.wrap z)) := id rfl
theorem arith_i16 (z : Int) (K : AV → Prop) : arith .i16 z K = K (.int .i16 (IntKind.i16.wrap z)) := id rfl
theorem arith_i32 (z : Int) (K : AV → Prop) : arith .i32 z K = K (.int .i32 (IntKind.i32.wrap z)) := id rfl
theorem arith_u8 (z : Int) (K : AV → Prop) : arith .u8 z K = K (.int .u8 (IntKind.u8.wrap z)) := id rfl
theorem arith_u16 (z : Int) (K : AV → Prop) : arith .u16 z K = K (.int .u16 (IntKind.u16.wrap z)) := id rfl
theorem arith_u32 (z : Int) (K : AV → Prop) : arith .u32 z K = K (.int .u32 (IntKind.u32.wrap z)) := id rfl
theorem arith_u64 (z : Int) (K : AV → Prop) : arith .u64 z K = K (.int .u64 (IntKind.u64.wrap z)) := id rfl
theorem arith_i64 (z : Int) (K : AV → Prop) : arith .i64 z K = (inR z ∧ K (.int .i64 z)) := id rfl
theorem loadK_none (a : AV) (l : List AV) (K : AV → Prop) : loadK none (a :: l) K = K (deg a) := id rfl
theorem loadK_some (n : Nat) (l : List AV) (K : AV → Prop) : loadK (some n) l K = (n ≤ l.length ∧ K (.agg ((l.take n).map deg))) := id rfl
theorem deg_bool (b : Bool) : deg (.bool b) = (.bool b) := id rfl
theorem isTup_bool (b : Bool) : isTup (.bool b) = false := id rfl
theorem cellsOf_bool (b : Bool) : cellsOf (.bool b) = [.bool b] := id rfl
theorem deg_int (i : IntKind) (n : Int) : deg (.int i n) = (.int i n) := id rfl
theorem isTup_int (i : IntKind) (n : Int) : isTup (.int i n) = false := id rfl
theorem cellsOf_int (i : IntKind) (n : Int) : cellsOf (.int i n) = [.int i n] := id rfl
theorem deg_str (s : ByteArray) : deg (.str s) = (.str s) := id rfl
theorem isTup_str (s : ByteArray) : isTup (.str s) = false := id rfl
theorem cellsOf_str (s : ByteArray) : cellsOf (.str s) = [.str s] := id rfl
theorem deg_nilp  : deg .nilp = .nilp := id rfl
theorem isTup_nilp  : isTup .nilp = false := id rfl
theorem cellsOf_nilp  : cellsOf .nilp = [.nilp] := id rfl
theorem deg_ptr (i o : Nat) : deg (.ptr i o) = (.ptr i o) := id rfl
theorem isTup_ptr (i o : Nat) : isTup (.ptr i o) = false := id rfl
theorem cellsOf_ptr (i o : Nat) : cellsOf (.ptr i o) = [.ptr i o] := id rfl
theorem deg_fp (l : List AV) : deg (.fp l) = (.fp l) := id rfl
theorem isTup_fp (l : List AV) : isTup (.fp l) = false := id rfl
theorem cellsOf_fp (l : List AV) : cellsOf (.fp l) = [.fp l] := id rfl
theorem deg_hs (i n : Nat) : deg (.hs i n) = (.hs i n) := id rfl
theorem isTup_hs (i n : Nat) : isTup (.hs i n) = false := id rfl
theorem cellsOf_hs (i n : Nat) : cellsOf (.hs i n) = [.hs i n] := id rfl
theorem deg_agg (l : List AV) : deg (.agg l) = (.agg l) := id rfl
theorem isTup_agg (l : List AV) : isTup (.agg l) = false := id rfl
theorem cellsOf_agg (l : List AV) : cellsOf (.agg l) = l := id rfl
theorem deg_tup (l : List AV) : deg (.tup l) = (.tup l) := id rfl
theorem isTup_tup (l : List AV) : isTup (.tup l) = true := id rfl
theorem cellsOf_tup (l : List AV) : cellsOf (.tup l) = [.tup l] := id rfl
theorem deg_fn (f : FuncId) (l : List AV) : deg (.fn f l) = (.fn f l) := id rfl
theorem isTup_fn (f : FuncId) (l : List AV) : isTup (.fn f l) = false := id rfl
theorem cellsOf_fn (f : FuncId) (l : List AV) : cellsOf (.fn f l) = [.fn f l] := id rfl
theorem deg_nilf  : deg .nilf = .nilf := id rfl
theorem isTup_nilf  : isTup .nilf = false := id rfl
theorem cellsOf_nilf  : cellsOf .nilf = [.nilf] := id rfl
theorem deg_ro (n : Nat) (l : List AV) : deg (.lst .ro n l) = .lst .ro n l := id rfl
theorem deg_clip (n : Nat) (l : List AV) : deg (.lst .clip n l) = .lst .clip n l := id rfl
theorem deg_own (e : TypeId) (n : Nat) (l : List AV) : deg (.lst (.own e) n l) = .lst .ro n l := id rfl
theorem isTup_lst (f : Fl) (n : Nat) (l : List AV) : isTup (.lst f n l) = false := id rfl
theorem cellsOf_lst (f : Fl) (n : Nat) (l : List AV) : cellsOf (.lst f n l) = [.lst f n l] := id rfl
end
end Go.Proofs.Ytajpibdchgflnaa
