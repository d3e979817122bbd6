/- The abstract layer, fifteenth part: how code is walked. -/
import Derived.Test.YtajpibdchgflnaaAb13
import Derived.Test.YtajpibdchgflnaaProg
namespace Go.Proofs.Ytajpibdchgflnaa
set_option linter.unusedSimpArgs false
set_option linter.unusedVariables false
open Go.RowKit Go.Lib

section
variable (P : Program)
theorem W_skip (fr : Fr) (h : Hp) (Q : Exit → Fr → Hp → Prop) : W P .skip fr h Q = Q .normal fr h := id rfl
theorem W_ops (l : List AStm) (fr : Fr) (h : Hp) (Q : Exit → Fr → Hp → Prop) : W P (.ops l) fr h Q = WOps P l fr h (Q .normal) := id rfl
theorem W_draw (v : List Nat) (l : List AStm) (fr : Fr) (h : Hp) (Q : Exit → Fr → Hp → Prop) : W P (.draw v l) fr h Q = VOps P l fr h (kdraw v Q) := id rfl
theorem W_seq (a b : ACode) (fr : Fr) (h : Hp) (Q : Exit → Fr → Hp → Prop) : W P (.seq a b) fr h Q = W P a fr h (kseq P b Q) := id rfl
theorem W_cond (c : Opd) (a b : ACode) (fr : Fr) (h : Hp) (Q : Exit → Fr → Hp → Prop) : W P (.cond c a b) fr h Q = match ev fr c with
    | some (.bool p) => (p = true → W P a fr h Q) ∧ (p = false → W P b fr h Q)
    | _ => False := id rfl
theorem W_block (i : Nat) (a : ACode) (fr : Fr) (h : Hp) (Q : Exit → Fr → Hp → Prop) : W P (.block i a) fr h Q = W P a fr h (kblock i Q) := id rfl
theorem W_exit (i : Nat) (fr : Fr) (h : Hp) (Q : Exit → Fr → Hp → Prop) : W P (.exit i) fr h Q = Q (.exit i) fr h := id rfl
theorem W_ret (fr : Fr) (h : Hp) (Q : Exit → Fr → Hp → Prop) : W P .ret fr h Q = Q .ret fr h := id rfl
theorem W_keep (l : List Nat) (a : ACode) (fr : Fr) (h : Hp) (Q : Exit → Fr → Hp → Prop) : W P (.keep l a) fr h Q = W P a (restr l fr) h Q := id rfl
theorem W_loop {P : Program} {vars : List Nat} {a : ACode} {fr : Fr} {h : Hp} {Q : Exit → Fr → Hp → Prop} (I : Nat → Fr → Hp → Prop) (n : Nat) (h0 : I n (restr vars fr) h) (hr : ∀ n fr h, I n fr h → W P a fr h (kloop vars I n Q)) : W P (.loop vars a) fr h Q := ⟨I, ⟨n, h0⟩, hr⟩
theorem kseq_normal (b : ACode) (Q : Exit → Fr → Hp → Prop) (fr : Fr) (h : Hp) : kseq P b Q .normal fr h = W P b fr h Q := id rfl
theorem kseq_exit (b : ACode) (Q : Exit → Fr → Hp → Prop) (i : Nat) (fr : Fr) (h : Hp) : kseq P b Q (.exit i) fr h = Q (.exit i) fr h := id rfl
theorem kseq_ret (b : ACode) (Q : Exit → Fr → Hp → Prop) (fr : Fr) (h : Hp) : kseq P b Q .ret fr h = Q .ret fr h := id rfl
theorem kblock_normal (i : Nat) (Q : Exit → Fr → Hp → Prop) (fr : Fr) (h : Hp) : kblock i Q .normal fr h = Q .normal fr h := id rfl
theorem kblock_exit (i j : Nat) (Q : Exit → Fr → Hp → Prop) (fr : Fr) (h : Hp) : kblock i Q (.exit j) fr h = if j = i then Q .normal fr h else Q (.exit j) fr h := id rfl
theorem kblock_ret (i : Nat) (Q : Exit → Fr → Hp → Prop) (fr : Fr) (h : Hp) : kblock i Q .ret fr h = Q .ret fr h := id rfl
theorem kloop_normal (v : List Nat) (I : Nat → Fr → Hp → Prop) (n : Nat) (Q : Exit → Fr → Hp → Prop) (fr : Fr) (h : Hp) : kloop v I n Q .normal fr h = ∃ m, m < n ∧ I m (restr v fr) h := id rfl
theorem kloop_exit (v : List Nat) (I : Nat → Fr → Hp → Prop) (n : Nat) (Q : Exit → Fr → Hp → Prop) (i : Nat) (fr : Fr) (h : Hp) : kloop v I n Q (.exit i) fr h = Q (.exit i) fr h := id rfl
theorem kloop_ret (v : List Nat) (I : Nat → Fr → Hp → Prop) (n : Nat) (Q : Exit → Fr → Hp → Prop) (fr : Fr) (h : Hp) : kloop v I n Q .ret fr h = Q .ret fr h := id rfl
theorem kret_normal (rs : List RV) (R : AV → Hp → Prop) (fr : Fr) (h : Hp) : kret rs R .normal fr h = resL fr h rs (res1 (fun a => R a h)) := id rfl
theorem kret_ret (rs : List RV) (R : AV → Hp → Prop) (fr : Fr) (h : Hp) : kret rs R .ret fr h = resL fr h rs (res1 (fun a => R a h)) := id rfl
theorem kdraw_eq (v : List Nat) (Q : Exit → Fr → Hp → Prop) (fr : Fr) (h : Hp) : kdraw v Q fr h = Q .normal (restr v fr) h := id rfl
theorem kval_eq (d : Option Nat) (fr : Fr) (h : Hp) (K : Fr → Hp → Prop) (a : AV) : kval d fr h K a = K (put d a fr) h := id rfl
theorem kv_eq (h : Hp) (R : AV → Hp → Prop) (a : AV) : kv h R a = R a h := id rfl
theorem kput_eq (d : Option Nat) (o : AOp) (fr : Fr) (K : Fr → Hp → Prop) (a : AV) (h : Hp) : kput d o fr K a h = K (put d a (tk o fr)) h := id rfl
theorem kbox_eq (d : Option Nat) (fr : Fr) (h : Hp) (K : Fr → Hp → Prop) (l : List AV) : kbox d fr h K l = K (put d (.ptr h.length 0) fr) (h ++ [some (false, l)]) := id rfl
theorem kobj_eq (h : Hp) (R : AV → Hp → Prop) (l : List AV) : kobj h R l = R (.ptr h.length 0) (h ++ [some (false, l)]) := id rfl
theorem klst_eq (d : Option Nat) (e n : Nat) (fr : Fr) (h : Hp) (K : Fr → Hp → Prop) (l : List AV) : klst d e n fr h K l = K (put d (.lst (.own e) n l) fr) h := id rfl
theorem krow_eq (e n : Nat) (h : Hp) (R : AV → Hp → Prop) (l : List AV) : krow e n h R l = R (.lst (.own e) n l) h := id rfl
theorem kcall_eq (d : Option Nat) (fr : Fr) (K : Fr → Hp → Prop) (a : AV) (h : Hp) : kcall d fr K a h = K (put d a fr) h := id rfl
theorem put_some (k : Nat) (a : AV) (fr : Fr) : put (some k) a fr = (k, a) :: fr := id rfl
theorem put_none (a : AV) (fr : Fr) : put none a fr = fr := id rfl
theorem lk_nil (k : Nat) : lk [] k = none := id rfl
theorem restr_nil (fr : Fr) : restr [] fr = [] := id rfl
theorem restr_cons (k : Nat) (r : List Nat) (fr : Fr) : restr (k :: r) fr = match lk fr k with
    | some a => (k, a) :: restr r fr
    | none => restr r fr := id rfl
theorem ev_t (fr : Fr) (k : Nat) : ev fr (.t k) = (lk fr k).map deg := id rfl
theorem ev_c (fr : Fr) (a : AV) : ev fr (.c a) = some a := id rfl
theorem ev_f (fr : Fr) (i : FuncId) : ev fr (.f i) = some (.fn i []) := id rfl
theorem evs_nil (fr : Fr) : evs fr [] = some [] := id rfl
theorem evs_cons (fr : Fr) (x : Opd) (r : List Opd) : evs fr (x :: r) = match ev fr x, evs fr r with
    | some a, some l => some (a :: l)
    | _, _ => none := id rfl
theorem evD_none (fr : Fr) (d : AV) : evD fr d none = some d := id rfl
theorem evD_some (fr : Fr) (d : AV) (x : Opd) : evD fr d (some x) = ev fr x := id rfl
theorem degr_nil (k : Nat) : degr k [] = [] := id rfl
theorem degr_cons (k j : Nat) (a : AV) (r : Fr) : degr k ((j, a) :: r) = (j, if j = k then deg a else a) :: degr k r := id rfl
theorem args0_nil (k : Nat) : args0 k [] = [] := id rfl
theorem args0_cons (k : Nat) (a : AV) (l : List AV) : args0 k (a :: l) = (k, a) :: args0 (k + 1) l := id rfl
theorem buildK_nil (fr : Fr) (t : List AV) (K : List AV → Prop) : buildK fr t [] K = K t := id rfl
theorem buildK_cons (fr : Fr) (t : List AV) (o s : Nat) (x : Opd) (r : List (Nat × Nat × Opd)) (K : List AV → Prop) : buildK fr t ((o, s, x) :: r) K = match ev fr x with
    | some a => (isTup a = false ∧ (cellsOf a).length = s ∧ o + s ≤ t.length) ∧ buildK fr (splice t o (cellsOf a)) r K
    | none => False := id rfl
theorem upgK_nil (l : List AV) (K : List AV → Prop) : upgK [] l K = K l := id rfl
theorem upgK_cons (i e s : Nat) (r : List (Nat × Nat × Nat)) (l : List AV) (K : List AV → Prop) : upgK ((i, e, s) :: r) l K = match l[i]? with
    | some (.lst .clip n c) => c.length = n * s ∧ upgK r (l.set i (.lst (.own e) n c)) K
    | _ => False := id rfl
theorem resL_nil (fr : Fr) (h : Hp) (K : List AV → Prop) : resL fr h [] K = K [] := id rfl
theorem resL_t (fr : Fr) (h : Hp) (k : Nat) (r : List RV) (K : List AV → Prop) : resL fr h (.t k :: r) K = match ev fr (.t k) with
    | some a => resL fr h r (fun l => K (a :: l))
    | none => False := id rfl
theorem resL_c (fr : Fr) (h : Hp) (k : Nat) (s : Option Nat) (r : List RV) (K : List AV → Prop) : resL fr h (.c k s :: r) K = val fr h (.load s (.t k)) (fun a => resL fr h r (fun l => K (a :: l))) := id rfl
theorem res1_one (K : AV → Prop) (a : AV) : res1 K [a] = K a := id rfl
theorem res1_nil (K : AV → Prop) : res1 K [] = K (.tup []) := id rfl
theorem res1_two (K : AV → Prop) (a b : AV) (l : List AV) : res1 K (a :: b :: l) = K (.tup (a :: b :: l)) := id rfl
end

theorem lk_cons' (j k : Nat) (a : AV) (r : Fr) : lk ((j, a) :: r) k = if j = k then some a else lk r k := id rfl
theorem splice_nil' {α : Type} (l : List α) (o : Nat) : splice l o [] = l := id rfl
theorem splice_cons' {α : Type} (l : List α) (o : Nat) (v : α) (r : List α) : splice l o (v :: r) = splice (l.set o v) (o + 1) r := id rfl
theorem WOps_nil' (P : Program) (fr : Fr) (h : Hp) (K : Fr → Hp → Prop) : WOps P [] fr h K = K fr h := id rfl
theorem WOps_cons' (P : Program) (d : Option Nat) (o : AOp) (r : List AStm) (fr : Fr) (h : Hp) (K : Fr → Hp → Prop) : WOps P (⟨d, none, o⟩ :: r) fr h K = wop P d o fr h (kops P r K) := id rfl
theorem WOps_gd' (P : Program) (d : Option Nat) (q : Nat) (want : Bool) (o : AOp) (r : List AStm) (fr : Fr) (h : Hp) (K : Fr → Hp → Prop) : WOps P (⟨d, some (q, want), o⟩ :: r) fr h K = match lk fr q with
      | some (.bool p) => (p = want → wop P d o ((q, .bool want) :: fr) h (kops P r K)) ∧ (p = !want → WOps P r (put d (.tup []) ((q, .bool (!want)) :: fr)) h K)
      | some (.tup []) => WOps P r (put d (.tup []) fr) h K
      | _ => False := id rfl
theorem kops_eq' (P : Program) (r : List AStm) (K : Fr → Hp → Prop) (fr : Fr) (h : Hp) : kops P r K fr h = WOps P r fr h K := id rfl
theorem VOps_nil' (P : Program) (fr : Fr) (h : Hp) (K : Fr → Hp → Prop) : VOps P [] fr h K = K fr h := id rfl
theorem VOps_cons' (P : Program) (d : Option Nat) (o : AOp) (r : List AStm) (fr : Fr) (h : Hp) (K : Fr → Hp → Prop) : VOps P (⟨d, none, o⟩ :: r) fr h K = eff P o fr h (kput d o fr (kvops P r K)) := id rfl
theorem VOps_gd' (P : Program) (d : Option Nat) (q : Nat) (want : Bool) (o : AOp) (r : List AStm) (fr : Fr) (h : Hp) (K : Fr → Hp → Prop) : VOps P (⟨d, some (q, want), o⟩ :: r) fr h K = match lk fr q with
      | some (.bool p) => (p = want → eff P o ((q, .bool want) :: fr) h (kput d o ((q, .bool want) :: fr) (kvops P r K))) ∧ (p = !want → VOps P r (put d (.tup []) ((q, .bool (!want)) :: fr)) h K)
      | some (.tup []) => VOps P r (put d (.tup []) fr) h K
      | _ => False := id rfl
theorem kvops_eq' (P : Program) (r : List AStm) (K : Fr → Hp → Prop) (fr : Fr) (h : Hp) : kvops P r K fr h = VOps P r fr h K := id rfl
theorem frees_str : ∀ l : List ByteArray, free.frees (l.map AV.str) = true
  | [] => rfl
  | _ :: l => by simp [free.frees, free, frees_str l]
theorem frees_u8 : ∀ l : List UInt8, free.frees (l.map fun b => AV.int .u8 b.toNat) = true
  | [] => rfl
  | _ :: l => by simp [free.frees, free, frees_u8 l]
theorem frees_u16 : ∀ l : List Nat, free.frees (l.map fun (b : Nat) => AV.int .u16 (b : Int)) = true
  | [] => rfl
  | _ :: l => by simp [free.frees, free, frees_u16 l]
theorem inR_of {z : Int} (h1 : -9223372036854775808 ≤ z) (h2 : z ≤ 9223372036854775807) : inR z := ⟨h1, h2⟩
/-- what the call does, is enough -/
theorem ACalls.use {P : Program} {f : FuncId} {args : List AV} {h : Hp} {R R' : AV → Hp → Prop} (hc : ACalls P f args h R) (hr : ∀ a h', R a h' → R' a h') : ACalls P f args h R' := hc.mono hr
theorem mixed : Try.prog.follows .mixedOrders = true := by kernel_rfl

end Go.Proofs.Ytajpibdchgflnaa
