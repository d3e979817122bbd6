/- Texts of one proof, laid together: Ab14 Ab15 Ab16 Ab17 FnO Oa FnW FnP Pw Ob Oc Od. -/
import Derived.Test.YtlfnepcglnjogaaMB12
import Derived.Test.YtlfnepcglnjogaaProg
import Derived.Test.YtlfnepcglnjogaaMB3

/- The abstract layer, fifteenth part: how code is walked. -/
namespace Go.Proofs.Ytlfnepcglnjogaa
set_option linter.unusedSimpArgs false
set_option linter.unusedVariables false
open Go.RowKit Go.Lib

section
variable (P : Program)
theorem W_skip (fr : Fr) (h : Hp) (Q : Exit → Fr → Hp → Prop) : W P .skip fr h Q = Q .normal fr h := id rfl
theorem W_ops (l : List AStm) (fr : Fr) (h : Hp) (Q : Exit → Fr → Hp → Prop) : W P (.ops l) fr h Q = WOps P l fr h (Q .normal) := id rfl
theorem W_draw (v : List Nat) (l : List AStm) (fr : Fr) (h : Hp) (Q : Exit → Fr → Hp → Prop) : W P (.draw v l) fr h Q = VOps P l fr h (kdraw v Q) := id rfl
theorem W_seq (a b : ACode) (fr : Fr) (h : Hp) (Q : Exit → Fr → Hp → Prop) : W P (.seq a b) fr h Q = W P a fr h (kseq P b Q) := id rfl
theorem W_cond (c : Opd) (a b : ACode) (fr : Fr) (h : Hp) (Q : Exit → Fr → Hp → Prop) : W P (.cond c a b) fr h Q = match ev fr c with
    | some (.bool p) => (p = true → W P a fr h Q) ∧ (p = false → W P b fr h Q)
    | _ => False := id rfl
theorem W_block (i : Nat) (a : ACode) (fr : Fr) (h : Hp) (Q : Exit → Fr → Hp → Prop) : W P (.block i a) fr h Q = W P a fr h (kblock i Q) := id rfl
theorem W_exit (i : Nat) (fr : Fr) (h : Hp) (Q : Exit → Fr → Hp → Prop) : W P (.exit i) fr h Q = Q (.exit i) fr h := id rfl
theorem W_ret (fr : Fr) (h : Hp) (Q : Exit → Fr → Hp → Prop) : W P .ret fr h Q = Q .ret fr h := id rfl
theorem W_keep (l : List Nat) (a : ACode) (fr : Fr) (h : Hp) (Q : Exit → Fr → Hp → Prop) : W P (.keep l a) fr h Q = W P a (restr l fr) h Q := id rfl
theorem W_loop {P : Program} {vars : List Nat} {a : ACode} {fr : Fr} {h : Hp} {Q : Exit → Fr → Hp → Prop} (I : Nat → Fr → Hp → Prop) (n : Nat) (h0 : I n (restr vars fr) h) (hr : ∀ n fr h, I n fr h → W P a fr h (kloop vars I n Q)) : W P (.loop vars a) fr h Q := ⟨I, ⟨n, h0⟩, hr⟩
theorem kseq_normal (b : ACode) (Q : Exit → Fr → Hp → Prop) (fr : Fr) (h : Hp) : kseq P b Q .normal fr h = W P b fr h Q := id rfl
theorem kseq_exit (b : ACode) (Q : Exit → Fr → Hp → Prop) (i : Nat) (fr : Fr) (h : Hp) : kseq P b Q (.exit i) fr h = Q (.exit i) fr h := id rfl
theorem kseq_ret (b : ACode) (Q : Exit → Fr → Hp → Prop) (fr : Fr) (h : Hp) : kseq P b Q .ret fr h = Q .ret fr h := id rfl
theorem kblock_normal (i : Nat) (Q : Exit → Fr → Hp → Prop) (fr : Fr) (h : Hp) : kblock i Q .normal fr h = Q .normal fr h := id rfl
theorem kblock_exit (i j : Nat) (Q : Exit → Fr → Hp → Prop) (fr : Fr) (h : Hp) : kblock i Q (.exit j) fr h = if j = i then Q .normal fr h else Q (.exit j) fr h := id rfl
theorem kblock_ret (i : Nat) (Q : Exit → Fr → Hp → Prop) (fr : Fr) (h : Hp) : kblock i Q .ret fr h = Q .ret fr h := id rfl
theorem kloop_normal (v : List Nat) (I : Nat → Fr → Hp → Prop) (n : Nat) (Q : Exit → Fr → Hp → Prop) (fr : Fr) (h : Hp) : kloop v I n Q .normal fr h = ∃ m, m < n ∧ I m (restr v fr) h := id rfl
theorem kloop_exit (v : List Nat) (I : Nat → Fr → Hp → Prop) (n : Nat) (Q : Exit → Fr → Hp → Prop) (i : Nat) (fr : Fr) (h : Hp) : kloop v I n Q (.exit i) fr h = Q (.exit i) fr h := id rfl
theorem kloop_ret (v : List Nat) (I : Nat → Fr → Hp → Prop) (n : Nat) (Q : Exit → Fr → Hp → Prop) (fr : Fr) (h : Hp) : kloop v I n Q .ret fr h = Q .ret fr h := id rfl
theorem kret_normal (rs : List RV) (R : AV → Hp → Prop) (fr : Fr) (h : Hp) : kret rs R .normal fr h = resL fr h rs (res1 (fun a => R a h)) := id rfl
theorem kret_ret (rs : List RV) (R : AV → Hp → Prop) (fr : Fr) (h : Hp) : kret rs R .ret fr h = resL fr h rs (res1 (fun a => R a h)) := id rfl
theorem W_drax (v : List Nat) (a : List AStm) (d : Option Nat) (o : AOp) (b : List AStm) (fr : Fr) (h : Hp) (Q : Exit → Fr → Hp → Prop) : W P (.drax v a d o b) fr h Q = VOps P a fr h (kdrax P v d o b Q) := id rfl
theorem kdrax_eq (v : List Nat) (d : Option Nat) (o : AOp) (b : List AStm) (Q : Exit → Fr → Hp → Prop) (fr : Fr) (h : Hp) : kdrax P v d o b Q fr h = (fOk fr b ∧ wop P d o fr h (kvops P b (kdraw v Q))) := id rfl
theorem fOk_nil (fr : Fr) : fOk fr [] = True := id rfl
theorem fOk_fld (d : Option Nat) (i : Nat) (x : Opd) (r : List AStm) (fr : Fr) : fOk fr (⟨d, none, .fld i x, none⟩ :: r) = (match ev fr x with
    | some (.ptr _ _) => fOk fr r
    | _ => False) := id rfl
theorem fOk_mv (d : Option Nat) (x : Opd) (r : List AStm) (fr : Fr) : fOk fr (⟨d, none, .mv x, none⟩ :: r) = fOk fr r := id rfl
theorem fOk_ext (d : Option Nat) (i : Nat) (x : Opd) (r : List AStm) (fr : Fr) : fOk fr (⟨d, none, .ext i x, none⟩ :: r) = fOk fr r := id rfl
theorem fOk_store (d : Option Nat) (n : Nat) (a x : Opd) (r : List AStm) (fr : Fr) : fOk fr (⟨d, none, .store n a x, none⟩ :: r) = fOk fr r := id rfl
theorem kdraw_eq (v : List Nat) (Q : Exit → Fr → Hp → Prop) (fr : Fr) (h : Hp) : kdraw v Q fr h = Q .normal (restr v fr) h := id rfl
theorem kval_eq (d : Option Nat) (fr : Fr) (h : Hp) (K : Fr → Hp → Prop) (a : AV) : kval d fr h K a = K (put d a fr) h := id rfl
theorem kv_eq (h : Hp) (R : AV → Hp → Prop) (a : AV) : kv h R a = R a h := id rfl
theorem kput_eq (d : Option Nat) (o : AOp) (fr : Fr) (K : Fr → Hp → Prop) (a : AV) (h : Hp) : kput d o fr K a h = K (put d a (tk o fr)) h := id rfl
theorem kbox_eq (d : Option Nat) (fr : Fr) (h : Hp) (K : Fr → Hp → Prop) (l : List AV) : kbox d fr h K l = K (put d (.ptr h.length 0) fr) (h ++ [some (false, l)]) := id rfl
theorem kobj_eq (h : Hp) (R : AV → Hp → Prop) (l : List AV) : kobj h R l = R (.ptr h.length 0) (h ++ [some (false, l)]) := id rfl
theorem klst_eq (d : Option Nat) (e n : Nat) (fr : Fr) (h : Hp) (K : Fr → Hp → Prop) (l : List AV) : klst d e n fr h K l = K (put d (.lst (.own e) n l) fr) h := id rfl
theorem krow_eq (e n : Nat) (h : Hp) (R : AV → Hp → Prop) (l : List AV) : krow e n h R l = R (.lst (.own e) n l) h := id rfl
theorem kcall_eq (d : Option Nat) (fr : Fr) (K : Fr → Hp → Prop) (a : AV) (h : Hp) : kcall d fr K a h = K (put d a fr) h := id rfl
theorem put_some (k : Nat) (a : AV) (fr : Fr) : put (some k) a fr = (k, a) :: fr := id rfl
theorem put_none (a : AV) (fr : Fr) : put none a fr = fr := id rfl
theorem lk_nil (k : Nat) : lk [] k = none := id rfl
theorem restr_nil (fr : Fr) : restr [] fr = [] := id rfl
theorem restr_cons (k : Nat) (r : List Nat) (fr : Fr) : restr (k :: r) fr = match lk fr k with
    | some a => (k, a) :: restr r fr
    | none => restr r fr := id rfl
theorem ev_t (fr : Fr) (k : Nat) : ev fr (.t k) = (lk fr k).map deg := id rfl
theorem ev_c (fr : Fr) (a : AV) : ev fr (.c a) = some a := id rfl
theorem ev_f (fr : Fr) (i : FuncId) : ev fr (.f i) = some (.fn i []) := id rfl
theorem evs_nil (fr : Fr) : evs fr [] = some [] := id rfl
theorem evs_cons (fr : Fr) (x : Opd) (r : List Opd) : evs fr (x :: r) = match ev fr x, evs fr r with
    | some a, some l => some (a :: l)
    | _, _ => none := id rfl
theorem evD_none (fr : Fr) (d : AV) : evD fr d none = some d := id rfl
theorem evD_some (fr : Fr) (d : AV) (x : Opd) : evD fr d (some x) = ev fr x := id rfl
theorem degr_nil (k : Nat) : degr k [] = [] := id rfl
theorem degr_cons (k j : Nat) (a : AV) (r : Fr) : degr k ((j, a) :: r) = (j, if j = k then deg a else a) :: degr k r := id rfl
theorem args0_nil (k : Nat) : args0 k [] = [] := id rfl
theorem args0_cons (k : Nat) (a : AV) (l : List AV) : args0 k (a :: l) = (k, a) :: args0 (k + 1) l := id rfl
theorem buildK_nil (fr : Fr) (t : List AV) (K : List AV → Prop) : buildK fr t [] K = K t := id rfl
theorem buildK_cons (fr : Fr) (t : List AV) (o s : Nat) (x : Opd) (r : List (Nat × Nat × Opd)) (K : List AV → Prop) : buildK fr t ((o, s, x) :: r) K = match ev fr x with
    | some a => (isTup a = false ∧ (cellsOf a).length = s ∧ o + s ≤ t.length) ∧ buildK fr (splice t o (cellsOf a)) r K
    | none => False := id rfl
theorem upgK_nil (l : List AV) (K : List AV → Prop) : upgK [] l K = K l := id rfl
theorem upgK_cons (i e s : Nat) (r : List (Nat × Nat × Nat)) (l : List AV) (K : List AV → Prop) : upgK ((i, e, s) :: r) l K = match l[i]? with
    | some (.lst .clip n c) => c.length = n * s ∧ upgK r (l.set i (.lst (.own e) n c)) K
    | _ => False := id rfl
theorem resL_nil (fr : Fr) (h : Hp) (K : List AV → Prop) : resL fr h [] K = K [] := id rfl
theorem resL_t (fr : Fr) (h : Hp) (k : Nat) (r : List RV) (K : List AV → Prop) : resL fr h (.t k :: r) K = match ev fr (.t k) with
    | some a => resL fr h r (fun l => K (a :: l))
    | none => False := id rfl
theorem resL_c (fr : Fr) (h : Hp) (k : Nat) (s : Option Nat) (r : List RV) (K : List AV → Prop) : resL fr h (.c k s :: r) K = val fr h (.load s (.t k)) (fun a => resL fr h r (fun l => K (a :: l))) := id rfl
theorem res1_one (K : AV → Prop) (a : AV) : res1 K [a] = K a := id rfl
theorem res1_nil (K : AV → Prop) : res1 K [] = K (.tup []) := id rfl
theorem res1_two (K : AV → Prop) (a b : AV) (l : List AV) : res1 K (a :: b :: l) = K (.tup (a :: b :: l)) := id rfl
end

theorem lk_cons' (j k : Nat) (a : AV) (r : Fr) : lk ((j, a) :: r) k = if j = k then some a else lk r k := id rfl
theorem splice_nil' {α : Type} (l : List α) (o : Nat) : splice l o [] = l := id rfl
theorem splice_cons' {α : Type} (l : List α) (o : Nat) (v : α) (r : List α) : splice l o (v :: r) = splice (l.set o v) (o + 1) r := id rfl
theorem WOps_nil' (P : Program) (fr : Fr) (h : Hp) (K : Fr → Hp → Prop) : WOps P [] fr h K = K fr h := id rfl
theorem WOps_cons' (P : Program) (d : Option Nat) (o : AOp) (f : Option (FB × List Nat)) (r : List AStm) (fr : Fr) (h : Hp) (K : Fr → Hp → Prop) : WOps P (⟨d, none, o, f⟩ :: r) fr h K = wop P d o fr h (kops P r K) := id rfl
theorem WOps_gd' (P : Program) (d : Option Nat) (q : Nat) (want : Bool) (o : AOp) (f : Option (FB × List Nat)) (r : List AStm) (fr : Fr) (h : Hp) (K : Fr → Hp → Prop) : WOps P (⟨d, some (q, want), o, f⟩ :: r) fr h K = match lk fr q with
      | some (.bool p) => (p = want → wop P d o ((q, .bool want) :: fr) h (kops P r K)) ∧ (p = !want → WOps P r (put d (.tup []) ((q, .bool (!want)) :: fr)) h K)
      | some (.tup []) => WOps P r (put d (.tup []) fr) h K
      | _ => False := id rfl
theorem kops_eq' (P : Program) (r : List AStm) (K : Fr → Hp → Prop) (fr : Fr) (h : Hp) : kops P r K fr h = WOps P r fr h K := id rfl
theorem VOps_nil' (P : Program) (fr : Fr) (h : Hp) (K : Fr → Hp → Prop) : VOps P [] fr h K = K fr h := id rfl
theorem VOps_cons' (P : Program) (d : Option Nat) (o : AOp) (r : List AStm) (fr : Fr) (h : Hp) (K : Fr → Hp → Prop) : VOps P (⟨d, none, o, none⟩ :: r) fr h K = eff P o fr h (kput d o fr (kvops P r K)) := id rfl
theorem VOps_gd' (P : Program) (d : Option Nat) (q : Nat) (want : Bool) (o : AOp) (r : List AStm) (fr : Fr) (h : Hp) (K : Fr → Hp → Prop) : VOps P (⟨d, some (q, want), o, none⟩ :: r) fr h K = match lk fr q with
      | some (.bool p) => (p = want → eff P o ((q, .bool want) :: fr) h (kput d o ((q, .bool want) :: fr) (kvops P r K))) ∧ (p = !want → VOps P r (put d (.tup []) ((q, .bool (!want)) :: fr)) h K)
      | some (.tup []) => VOps P r (put d (.tup []) fr) h K
      | _ => False := id rfl
theorem VOps_ft' (P : Program) (d : Option Nat) (o : AOp) (b : FB) (ps : List Nat) (r : List AStm) (fr : Fr) (h : Hp) (K : Fr → Hp → Prop) : VOps P (⟨d, none, o, some (b, ps)⟩ :: r) fr h K = (apart fr (fbId b fr h) ps ∧ effF P b o fr h (kput d o fr (kvops P r K))) := id rfl
theorem VOps_gdft' (P : Program) (d : Option Nat) (q : Nat) (want : Bool) (o : AOp) (b : FB) (ps : List Nat) (r : List AStm) (fr : Fr) (h : Hp) (K : Fr → Hp → Prop) : VOps P (⟨d, some (q, want), o, some (b, ps)⟩ :: r) fr h K = match lk fr q with
      | some (.bool p) => (p = want → apart ((q, .bool want) :: fr) (fbId b ((q, .bool want) :: fr) h) ps ∧ effF P b o ((q, .bool want) :: fr) h (kput d o ((q, .bool want) :: fr) (kvops P r K))) ∧ (p = !want → VOps P r (put d (.tup []) ((q, .bool (!want)) :: fr)) h K)
      | some (.tup []) => VOps P r (put d (.tup []) fr) h K
      | _ => False := id rfl
theorem apart_nil (fr : Fr) (i : Option Nat) : apart fr i [] = True := id rfl
theorem apart_cons (fr : Fr) (i : Option Nat) (p : Nat) (r : List Nat) : apart fr i (p :: r) = ((match i, ptrId (lk fr p) with
    | some a, some b => a ≠ b
    | _, _ => False) ∧ apart fr i r) := id rfl
theorem ptrId_ptr (i o : Nat) : ptrId (some (.ptr i o)) = some i := id rfl
theorem ptrId_hs (i n : Nat) : ptrId (some (.hs i n)) = some i := id rfl
theorem sameId_eq (x : Option AV) (i : Option Nat) : sameId x i = (match ptrId x, i with
  | some a, some b => a = b
  | _, _ => False) := id rfl
theorem fbId_s (k : Nat) (fr : Fr) (h : Hp) : fbId (.s k) fr h = ptrId (lk fr k) := id rfl
theorem fbId_h (k : Nat) (fr : Fr) (h : Hp) : fbId (.h k) fr h = if k < h.length then some (h.length - 1 - k) else none := id rfl
theorem effF_load (P : Program) (b : FB) (s : Option Nat) (x : Opd) (fr : Fr) (h : Hp) (R : AV → Hp → Prop) : effF P b (.load s x) fr h R = (sameId (ev fr x) (fbId b fr h) ∧ eff P (.load s x) fr h R) := id rfl
theorem effF_loado (P : Program) (b : FB) (x : Opd) (fr : Fr) (h : Hp) (R : AV → Hp → Prop) : effF P b (.loado x) fr h R = (sameId (ev fr x) (fbId b fr h) ∧ eff P (.loado x) fr h R) := id rfl
theorem effF_store (P : Program) (b : FB) (n : Nat) (a x : Opd) (fr : Fr) (h : Hp) (R : AV → Hp → Prop) : effF P b (.store n a x) fr h R = (sameId (ev fr a) (fbId b fr h) ∧ eff P (.store n a x) fr h R) := id rfl
theorem effF_stores (P : Program) (b : FB) (n : Nat) (a x : Opd) (fr : Fr) (h : Hp) (R : AV → Hp → Prop) : effF P b (.stores n a x) fr h R = (sameId (ev fr a) (fbId b fr h) ∧ eff P (.stores n a x) fr h R) := id rfl
theorem effF_storeo (P : Program) (b : FB) (a : Opd) (k : Nat) (fr : Fr) (h : Hp) (R : AV → Hp → Prop) : effF P b (.storeo a k) fr h R = (sameId (ev fr a) (fbId b fr h) ∧ eff P (.storeo a k) fr h R) := id rfl
theorem effF_calli (P : Program) (b : FB) (f : Opd) (args : List Opd) (fr : Fr) (h : Hp) (R : AV → Hp → Prop) : effF P b (.calli f args) fr h R = (match ev fr f, evs fr args, fbId b fr h with
    | some (.fn f' caps), some l, some id => ∃ v l0 l1, h[id]? = some (some (false, l0)) ∧ (∀ h0 : Hp, h0[id]? = some (some (false, l0)) → ACalls P f' (l ++ caps) h0 (fun a h' => a = v ∧ h' = h0.set id (some (false, l1)))) ∧ R v (h.set id (some (false, l1)))
    | _, _, _ => False) := id rfl
theorem effF_new (P : Program) (b : FB) (l : List AV) (u : List (Nat × Nat × Nat)) (fr : Fr) (h : Hp) (R : AV → Hp → Prop) : effF P b (.new l u) fr h R = (match fbId b fr h with
    | some id => h[id]? = some none ∧ upgK u l (fun l' => R (.ptr id 0) (h.set id (some (false, l'))))
    | none => False) := id rfl
theorem effF_box (P : Program) (b : FB) (x : Opd) (u : List (Nat × Nat × Nat)) (fr : Fr) (h : Hp) (R : AV → Hp → Prop) : effF P b (.box x u) fr h R = (match fbId b fr h, ev fr x with
    | some id, some a => h[id]? = some none ∧ isTup a = false ∧ upgK u (cellsOf a) (fun l' => R (.ptr id 0) (h.set id (some (false, l'))))
    | _, _ => False) := id rfl
theorem effF_mkn (P : Program) (b : FB) (e s y : Nat) (z : List AV) (c : Opd) (fr : Fr) (h : Hp) (R : AV → Hp → Prop) : effF P b (.mkn e s y z c) fr h R = (match fbId b fr h, ev fr c with
    | some id, some (.int _ n) => h[id]? = some none ∧ (0 ≤ n ∧ y * n ≤ 140737488355328 ∧ n ≤ 9223372036854775807) ∧ R (.hs id n.toNat) (h.set id (some (false, (List.range (n.toNat * s)).map fun i => z.getD (i % s) .nilp)))
    | _, _ => False) := id rfl
theorem W_scope (P : Program) (a : ACode) (fr : Fr) (h : Hp) (Q : Exit → Fr → Hp → Prop) : W P (.scope a) fr h Q = W P a fr h (kscope Q) := id rfl
theorem W_dead (P : Program) (fr : Fr) (h : Hp) (Q : Exit → Fr → Hp → Prop) : W P .dead fr h Q = False := id rfl
theorem kscope_normal (Q : Exit → Fr → Hp → Prop) (fr : Fr) (h : Hp) : kscope Q .normal fr h = Q .normal fr h := id rfl
theorem kscope_exit (Q : Exit → Fr → Hp → Prop) (i : Nat) (fr : Fr) (h : Hp) : kscope Q (.exit i) fr h = Q (.exit i) fr h := id rfl
theorem kscope_ret (Q : Exit → Fr → Hp → Prop) (fr : Fr) (h : Hp) : kscope Q .ret fr h = Q .ret fr h := id rfl
theorem W_holes (P : Program) (m : Nat) (a : ACode) (fr : Fr) (h : Hp) (Q : Exit → Fr → Hp → Prop) : W P (.holes m a) fr h Q = W P a fr (h ++ List.replicate m none) Q := id rfl
theorem rep2 : List.replicate 2 (none : Option (Bool × List AV)) = [none, none] := id rfl
theorem rep3 : List.replicate 3 (none : Option (Bool × List AV)) = [none, none, none] := id rfl
theorem kvops_eq' (P : Program) (r : List AStm) (K : Fr → Hp → Prop) (fr : Fr) (h : Hp) : kvops P r K fr h = VOps P r fr h K := id rfl
theorem frees_str : ∀ l : List ByteArray, free.frees (l.map AV.str) = true
  | [] => rfl
  | _ :: l => by simp [free.frees, free, frees_str l]
theorem frees_u8 : ∀ l : List UInt8, free.frees (l.map fun b => AV.int .u8 b.toNat) = true
  | [] => rfl
  | _ :: l => by simp [free.frees, free, frees_u8 l]
theorem frees_u16 : ∀ l : List Nat, free.frees (l.map fun (b : Nat) => AV.int .u16 (b : Int)) = true
  | [] => rfl
  | _ :: l => by simp [free.frees, free, frees_u16 l]
theorem inR_of {z : Int} (h1 : -9223372036854775808 ≤ z) (h2 : z ≤ 9223372036854775807) : inR z := ⟨h1, h2⟩
theorem ACalls.use {P : Program} {f : FuncId} {args : List AV} {h : Hp} {R R' : AV → Hp → Prop} (hc : ACalls P f args h R) (hr : ∀ a h', R a h' → R' a h') : ACalls P f args h R' := hc.mono hr
theorem mixed : Try.prog.follows .mixedOrders = true := by kernel_rfl

end Go.Proofs.Ytlfnepcglnjogaa

/- The abstract layer, sixteenth part: one law an operation, for the walk (written by genlem.py). -/
namespace Go.Proofs.Ytlfnepcglnjogaa
set_option linter.unusedSimpArgs false
set_option linter.unusedVariables false
open Go.RowKit Go.Lib

section
variable (P : Program)
theorem wop_mv (d : Option Nat) (x : Opd) (fr : Fr) (h : Hp) (K : Fr → Hp → Prop) : wop P d (.mv x) fr h K = (match ev fr x with
    | some a => K (put d a fr) h
    | none => False) := id rfl
theorem eff_mv (x : Opd) (fr : Fr) (h : Hp) (R : AV → Hp → Prop) : eff P (.mv x) fr h R = (match ev fr x with
    | some a => R a h
    | none => False) := id rfl
theorem wop_pick (d : Option Nat) (c x y : Opd) (fr : Fr) (h : Hp) (K : Fr → Hp → Prop) : wop P d (.pick c x y) fr h K = (match ev fr c with
    | some (.bool p) => (p = true → match ev fr x with
      | some a => K (put d a fr) h
      | none => False) ∧ (p = false → match ev fr y with
      | some a => K (put d a fr) h
      | none => False)
    | _ => False) := id rfl
theorem eff_pick (c x y : Opd) (fr : Fr) (h : Hp) (R : AV → Hp → Prop) : eff P (.pick c x y) fr h R = (match ev fr c with
    | some (.bool p) => (p = true → match ev fr x with
      | some a => R a h
      | none => False) ∧ (p = false → match ev fr y with
      | some a => R a h
      | none => False)
    | _ => False) := id rfl
theorem wop_build (d : Option Nat) (t : List AV) (ps : List (Nat × Nat × Opd)) (fr : Fr) (h : Hp) (K : Fr → Hp → Prop) : wop P d (.build t ps) fr h K = (buildK fr t ps (fun l => K (put d (.agg l) fr) h)) := id rfl
theorem eff_build (t : List AV) (ps : List (Nat × Nat × Opd)) (fr : Fr) (h : Hp) (R : AV → Hp → Prop) : eff P (.build t ps) fr h R = (buildK fr t ps (fun l => R (.agg l) h)) := id rfl
theorem wop_load (d : Option Nat) (s : Option Nat) (x : Opd) (fr : Fr) (h : Hp) (K : Fr → Hp → Prop) : wop P d (.load s x) fr h K = (match ev fr x with
    | some (.ptr id off) => (match h[id]? with
      | some (some (_, l)) => loadK s (l.drop off) (kval d fr h K)
      | _ => False)
    | some (.fp l) => loadK s l (kval d fr h K)
    | _ => False) := id rfl
theorem eff_load (s : Option Nat) (x : Opd) (fr : Fr) (h : Hp) (R : AV → Hp → Prop) : eff P (.load s x) fr h R = (match ev fr x with
    | some (.ptr id off) => (match h[id]? with
      | some (some (_, l)) => loadK s (l.drop off) (kv h R)
      | _ => False)
    | some (.fp l) => loadK s l (kv h R)
    | _ => False) := id rfl
theorem wop_lds (d : Option Nat) (s : Option Nat) (x : Opd) (fr : Fr) (h : Hp) (K : Fr → Hp → Prop) : wop P d (.lds s x) fr h K = (match ev fr x with
    | some (.ptr id off) => (match h[id]? with
      | some (some (true, l)) => loadK s (l.drop off) (kval d fr h K)
      | _ => False)
    | some (.fp l) => loadK s l (kval d fr h K)
    | _ => False) := id rfl
theorem eff_lds (s : Option Nat) (x : Opd) (fr : Fr) (h : Hp) (R : AV → Hp → Prop) : eff P (.lds s x) fr h R = (match ev fr x with
    | some (.ptr id off) => (match h[id]? with
      | some (some (true, l)) => loadK s (l.drop off) (kv h R)
      | _ => False)
    | some (.fp l) => loadK s l (kv h R)
    | _ => False) := id rfl
theorem wop_nilck (d : Option Nat) (x : Opd) (fr : Fr) (h : Hp) (K : Fr → Hp → Prop) : wop P d (.nilck x) fr h K = (match ev fr x with
    | some (.ptr id off) => K (put d (.ptr id off) fr) h
    | some (.fp l) => K (put d (.fp l) fr) h
    | some (.fn f l) => K (put d (.fn f l) fr) h
    | some (.frn Q) => K (put d (.frn Q) fr) h
    | _ => False) := id rfl
theorem eff_nilck (x : Opd) (fr : Fr) (h : Hp) (R : AV → Hp → Prop) : eff P (.nilck x) fr h R = (match ev fr x with
    | some (.ptr id off) => R (.ptr id off) h
    | some (.fp l) => R (.fp l) h
    | some (.fn f l) => R (.fn f l) h
    | some (.frn Q) => R (.frn Q) h
    | _ => False) := id rfl
theorem wop_bin (d : Option Nat) (op : BinOp) (x y : Opd) (fr : Fr) (h : Hp) (K : Fr → Hp → Prop) : wop P d (.bin op x y) fr h K = (match ev fr x, ev fr y with
    | some a, some b => bin2 op a b (kval d fr h K)
    | _, _ => False) := id rfl
theorem eff_bin (op : BinOp) (x y : Opd) (fr : Fr) (h : Hp) (R : AV → Hp → Prop) : eff P (.bin op x y) fr h R = (match ev fr x, ev fr y with
    | some a, some b => bin2 op a b (kv h R)
    | _, _ => False) := id rfl
theorem wop_pnil (d : Option Nat) (n : Bool) (x : Opd) (fr : Fr) (h : Hp) (K : Fr → Hp → Prop) : wop P d (.pnil n x) fr h K = (match ev fr x with
    | some .nilp => K (put d (.bool (!n)) fr) h
    | some (.ptr _ _) => K (put d (.bool n) fr) h
    | some (.fp _) => K (put d (.bool n) fr) h
    | some (.frn _) => K (put d (.bool n) fr) h
    | _ => False) := id rfl
theorem eff_pnil (n : Bool) (x : Opd) (fr : Fr) (h : Hp) (R : AV → Hp → Prop) : eff P (.pnil n x) fr h R = (match ev fr x with
    | some .nilp => R (.bool (!n)) h
    | some (.ptr _ _) => R (.bool n) h
    | some (.fp _) => R (.bool n) h
    | some (.frn _) => R (.bool n) h
    | _ => False) := id rfl
theorem wop_bbin (d : Option Nat) (n : Bool) (x y : Opd) (fr : Fr) (h : Hp) (K : Fr → Hp → Prop) : wop P d (.bbin n x y) fr h K = (match ev fr x, ev fr y with
    | some (.bool a), some (.bool b) => K (put d (.bool (if n then decide (a ≠ b) else decide (a = b))) fr) h
    | _, _ => False) := id rfl
theorem eff_bbin (n : Bool) (x y : Opd) (fr : Fr) (h : Hp) (R : AV → Hp → Prop) : eff P (.bbin n x y) fr h R = (match ev fr x, ev fr y with
    | some (.bool a), some (.bool b) => R (.bool (if n then decide (a ≠ b) else decide (a = b))) h
    | _, _ => False) := id rfl
theorem wop_not (d : Option Nat) (x : Opd) (fr : Fr) (h : Hp) (K : Fr → Hp → Prop) : wop P d (.not x) fr h K = (match ev fr x with
    | some (.bool p) => K (put d (.bool (!p)) fr) h
    | _ => False) := id rfl
theorem eff_not (x : Opd) (fr : Fr) (h : Hp) (R : AV → Hp → Prop) : eff P (.not x) fr h R = (match ev fr x with
    | some (.bool p) => R (.bool (!p)) h
    | _ => False) := id rfl
theorem wop_conv (d : Option Nat) (i : IntKind) (x : Opd) (fr : Fr) (h : Hp) (K : Fr → Hp → Prop) : wop P d (.conv i x) fr h K = (match ev fr x with
    | some (.int _ n) => K (put d (.int i (i.wrap n)) fr) h
    | _ => False) := id rfl
theorem eff_conv (i : IntKind) (x : Opd) (fr : Fr) (h : Hp) (R : AV → Hp → Prop) : eff P (.conv i x) fr h R = (match ev fr x with
    | some (.int _ n) => R (.int i (i.wrap n)) h
    | _ => False) := id rfl
theorem wop_cstr (d : Option Nat) (x : Opd) (fr : Fr) (h : Hp) (K : Fr → Hp → Prop) : wop P d (.cstr x) fr h K = (match ev fr x with
    | some (.str s) => K (put d (.str s) fr) h
    | _ => False) := id rfl
theorem eff_cstr (x : Opd) (fr : Fr) (h : Hp) (R : AV → Hp → Prop) : eff P (.cstr x) fr h R = (match ev fr x with
    | some (.str s) => R (.str s) h
    | _ => False) := id rfl
theorem wop_b2s (d : Option Nat) (x : Opd) (fr : Fr) (h : Hp) (K : Fr → Hp → Prop) : wop P d (.b2s x) fr h K = (match ev fr x with
    | some (.lst _ n l) => ∃ bs : List UInt8, l = bs.map (fun b => AV.int .u8 b.toNat) ∧ n = bs.length ∧ K (put d (.str ⟨bs.toArray⟩) fr) h
    | _ => False) := id rfl
theorem eff_b2s (x : Opd) (fr : Fr) (h : Hp) (R : AV → Hp → Prop) : eff P (.b2s x) fr h R = (match ev fr x with
    | some (.lst _ n l) => ∃ bs : List UInt8, l = bs.map (fun b => AV.int .u8 b.toNat) ∧ n = bs.length ∧ R (.str ⟨bs.toArray⟩) h
    | _ => False) := id rfl
theorem wop_fld (d : Option Nat) (o : Nat) (x : Opd) (fr : Fr) (h : Hp) (K : Fr → Hp → Prop) : wop P d (.fld o x) fr h K = (match ev fr x with
    | some (.ptr id q) => K (put d (.ptr id (q + o)) fr) h
    | some (.fp l) => K (put d (.fp (l.drop o)) fr) h
    | some (.frn Q) => o = 0 ∧ K (put d (.frn Q) fr) h
    | _ => False) := id rfl
theorem eff_fld (o : Nat) (x : Opd) (fr : Fr) (h : Hp) (R : AV → Hp → Prop) : eff P (.fld o x) fr h R = (match ev fr x with
    | some (.ptr id q) => R (.ptr id (q + o)) h
    | some (.fp l) => R (.fp (l.drop o)) h
    | some (.frn Q) => o = 0 ∧ R (.frn Q) h
    | _ => False) := id rfl
theorem wop_idxa (d : Option Nat) (s : Nat) (x y : Opd) (fr : Fr) (h : Hp) (K : Fr → Hp → Prop) : wop P d (.idxa s x y) fr h K = (match ev fr x, ev fr y with
    | some (.lst _ n l), some (.int _ i) => (0 ≤ i ∧ i < n) ∧ K (put d (.fp (l.drop (i.toNat * s))) fr) h
    | some (.hs id n), some (.int _ i) => (0 ≤ i ∧ i < n) ∧ K (put d (.ptr id (i.toNat * s)) fr) h
    | some (.hsc id n c), some (.int _ i) => (0 ≤ i ∧ i < n) ∧ K (put d (.ptr id (i.toNat * s)) fr) h
    | _, _ => False) := id rfl
theorem eff_idxa (s : Nat) (x y : Opd) (fr : Fr) (h : Hp) (R : AV → Hp → Prop) : eff P (.idxa s x y) fr h R = (match ev fr x, ev fr y with
    | some (.lst _ n l), some (.int _ i) => (0 ≤ i ∧ i < n) ∧ R (.fp (l.drop (i.toNat * s))) h
    | some (.hs id n), some (.int _ i) => (0 ≤ i ∧ i < n) ∧ R (.ptr id (i.toNat * s)) h
    | some (.hsc id n c), some (.int _ i) => (0 ≤ i ∧ i < n) ∧ R (.ptr id (i.toNat * s)) h
    | _, _ => False) := id rfl
theorem wop_idxs (d : Option Nat) (x y : Opd) (fr : Fr) (h : Hp) (K : Fr → Hp → Prop) : wop P d (.idxs x y) fr h K = (match ev fr x, ev fr y with
    | some (.str s), some (.int _ i) => (0 ≤ i ∧ i < s.size) ∧ K (put d (.int .u8 (byteAt s i.toNat)) fr) h
    | _, _ => False) := id rfl
theorem eff_idxs (x y : Opd) (fr : Fr) (h : Hp) (R : AV → Hp → Prop) : eff P (.idxs x y) fr h R = (match ev fr x, ev fr y with
    | some (.str s), some (.int _ i) => (0 ≤ i ∧ i < s.size) ∧ R (.int .u8 (byteAt s i.toNat)) h
    | _, _ => False) := id rfl
theorem wop_slcs (d : Option Nat) (x : Opd) (lo hi : Option Opd) (fr : Fr) (h : Hp) (K : Fr → Hp → Prop) : wop P d (.slcs x lo hi) fr h K = (match ev fr x with
    | some (.str s) => (match evD fr (.int .i64 0) lo, evD fr (.int .i64 s.size) hi with
      | some (.int _ l), some (.int _ u) => (0 ≤ l ∧ l ≤ u ∧ u ≤ s.size) ∧ K (put d (.str (s.extract l.toNat u.toNat)) fr) h
      | _, _ => False)
    | _ => False) := id rfl
theorem eff_slcs (x : Opd) (lo hi : Option Opd) (fr : Fr) (h : Hp) (R : AV → Hp → Prop) : eff P (.slcs x lo hi) fr h R = (match ev fr x with
    | some (.str s) => (match evD fr (.int .i64 0) lo, evD fr (.int .i64 s.size) hi with
      | some (.int _ l), some (.int _ u) => (0 ≤ l ∧ l ≤ u ∧ u ≤ s.size) ∧ R (.str (s.extract l.toNat u.toNat)) h
      | _, _ => False)
    | _ => False) := id rfl
theorem wop_slcl (d : Option Nat) (s : Nat) (x : Opd) (lo hi mx : Option Opd) (fr : Fr) (h : Hp) (K : Fr → Hp → Prop) : wop P d (.slcl s x lo hi mx) fr h K = (match ev fr x with
    | some (.lst _ n l) => (match evD fr (.int .i64 0) lo, evD fr (.int .i64 n) hi with
      | some (.int _ i), some (.int _ j) => (0 ≤ i ∧ i ≤ j ∧ j ≤ n ∧ l.length = n * s) ∧ (match mx with
        | none => K (put d (.lst .ro (j.toNat - i.toNat) ((l.drop (i.toNat * s)).take ((j.toNat - i.toNat) * s))) fr) h
        | some m => match ev fr m with
          | some (.int _ m) => m = j ∧ K (put d (.lst .clip (j.toNat - i.toNat) ((l.drop (i.toNat * s)).take ((j.toNat - i.toNat) * s))) fr) h
          | _ => False)
      | _, _ => False)
    | _ => False) := id rfl
theorem eff_slcl (s : Nat) (x : Opd) (lo hi mx : Option Opd) (fr : Fr) (h : Hp) (R : AV → Hp → Prop) : eff P (.slcl s x lo hi mx) fr h R = (match ev fr x with
    | some (.lst _ n l) => (match evD fr (.int .i64 0) lo, evD fr (.int .i64 n) hi with
      | some (.int _ i), some (.int _ j) => (0 ≤ i ∧ i ≤ j ∧ j ≤ n ∧ l.length = n * s) ∧ (match mx with
        | none => R (.lst .ro (j.toNat - i.toNat) ((l.drop (i.toNat * s)).take ((j.toNat - i.toNat) * s))) h
        | some m => match ev fr m with
          | some (.int _ m) => m = j ∧ R (.lst .clip (j.toNat - i.toNat) ((l.drop (i.toNat * s)).take ((j.toNat - i.toNat) * s))) h
          | _ => False)
      | _, _ => False)
    | _ => False) := id rfl
theorem wop_ext (d : Option Nat) (i : Nat) (x : Opd) (fr : Fr) (h : Hp) (K : Fr → Hp → Prop) : wop P d (.ext i x) fr h K = (match ev fr x with
    | some (.tup l) => (match l[i]? with
      | some a => K (put d a fr) h
      | none => False)
    | _ => False) := id rfl
theorem eff_ext (i : Nat) (x : Opd) (fr : Fr) (h : Hp) (R : AV → Hp → Prop) : eff P (.ext i x) fr h R = (match ev fr x with
    | some (.tup l) => (match l[i]? with
      | some a => R a h
      | none => False)
    | _ => False) := id rfl
theorem wop_lens (d : Option Nat) (x : Opd) (fr : Fr) (h : Hp) (K : Fr → Hp → Prop) : wop P d (.lens x) fr h K = (match ev fr x with
    | some (.str s) => K (put d (.int .i64 s.size) fr) h
    | _ => False) := id rfl
theorem eff_lens (x : Opd) (fr : Fr) (h : Hp) (R : AV → Hp → Prop) : eff P (.lens x) fr h R = (match ev fr x with
    | some (.str s) => R (.int .i64 s.size) h
    | _ => False) := id rfl
theorem wop_lenl (d : Option Nat) (x : Opd) (fr : Fr) (h : Hp) (K : Fr → Hp → Prop) : wop P d (.lenl x) fr h K = (match ev fr x with
    | some (.lst _ n _) => K (put d (.int .i64 n) fr) h
    | some (.hs _ n) => K (put d (.int .i64 n) fr) h
    | some (.hsc _ n _) => K (put d (.int .i64 n) fr) h
    | _ => False) := id rfl
theorem eff_lenl (x : Opd) (fr : Fr) (h : Hp) (R : AV → Hp → Prop) : eff P (.lenl x) fr h R = (match ev fr x with
    | some (.lst _ n _) => R (.int .i64 n) h
    | some (.hs _ n) => R (.int .i64 n) h
    | some (.hsc _ n _) => R (.int .i64 n) h
    | _ => False) := id rfl
theorem wop_mn (d : Option Nat) (x y : Opd) (fr : Fr) (h : Hp) (K : Fr → Hp → Prop) : wop P d (.mn x y) fr h K = (match ev fr x, ev fr y with
    | some (.int i a), some (.int _ b) => K (put d (.int i (if b < a then b else a)) fr) h
    | _, _ => False) := id rfl
theorem eff_mn (x y : Opd) (fr : Fr) (h : Hp) (R : AV → Hp → Prop) : eff P (.mn x y) fr h R = (match ev fr x, ev fr y with
    | some (.int i a), some (.int _ b) => R (.int i (if b < a then b else a)) h
    | _, _ => False) := id rfl
theorem wop_mx (d : Option Nat) (x y : Opd) (fr : Fr) (h : Hp) (K : Fr → Hp → Prop) : wop P d (.mx x y) fr h K = (match ev fr x, ev fr y with
    | some (.int i a), some (.int _ b) => K (put d (.int i (if a < b then b else a)) fr) h
    | _, _ => False) := id rfl
theorem eff_mx (x y : Opd) (fr : Fr) (h : Hp) (R : AV → Hp → Prop) : eff P (.mx x y) fr h R = (match ev fr x, ev fr y with
    | some (.int i a), some (.int _ b) => R (.int i (if a < b then b else a)) h
    | _, _ => False) := id rfl
theorem wop_ex (d : Option Nat) (e : Ex) (xs : List Opd) (fr : Fr) (h : Hp) (K : Fr → Hp → Prop) : wop P d (.ex e xs) fr h K = (match evs fr xs with
    | some l => (match exF e l with
      | some a => K (put d a fr) h
      | none => False)
    | none => False) := id rfl
theorem eff_ex (e : Ex) (xs : List Opd) (fr : Fr) (h : Hp) (R : AV → Hp → Prop) : eff P (.ex e xs) fr h R = (match evs fr xs with
    | some l => (match exF e l with
      | some a => R a h
      | none => False)
    | none => False) := id rfl
theorem wop_mkfn (d : Option Nat) (f : FuncId) (c : List Opd) (fr : Fr) (h : Hp) (K : Fr → Hp → Prop) : wop P d (.mkfn f c) fr h K = (match evs fr c with
    | some l => K (put d (.fn f l) fr) h
    | none => False) := id rfl
theorem eff_mkfn (f : FuncId) (c : List Opd) (fr : Fr) (h : Hp) (R : AV → Hp → Prop) : eff P (.mkfn f c) fr h R = (match evs fr c with
    | some l => R (.fn f l) h
    | none => False) := id rfl
theorem wop_mvu (d : Option Nat) (e s : Nat) (x : Opd) (fr : Fr) (h : Hp) (K : Fr → Hp → Prop) : wop P d (.mvu e s x) fr h K = (match ev fr x with
    | some (.lst .clip n l) => l.length = n * s ∧ K (put d (.lst (.own e) n l) fr) h
    | _ => False) := id rfl
theorem eff_mvu (e s : Nat) (x : Opd) (fr : Fr) (h : Hp) (R : AV → Hp → Prop) : eff P (.mvu e s x) fr h R = (match ev fr x with
    | some (.lst .clip n l) => l.length = n * s ∧ R (.lst (.own e) n l) h
    | _ => False) := id rfl
theorem wop_mvo (d : Option Nat) (q : Nat) (fr : Fr) (h : Hp) (K : Fr → Hp → Prop) : wop P d (.mvo q) fr h K = (match lk fr q with
    | some (.lst (.own e) n l) => K (put d (.lst (.own e) n l) (degr q fr)) h
    | _ => False) := id rfl
theorem eff_mvo (q : Nat) (fr : Fr) (h : Hp) (R : AV → Hp → Prop) : eff P (.mvo q) fr h R = (match lk fr q with
    | some (.lst (.own e) n l) => R (.lst (.own e) n l) h
    | _ => False) := id rfl
theorem wop_new (d : Option Nat) (l : List AV) (u : List (Nat × Nat × Nat)) (fr : Fr) (h : Hp) (K : Fr → Hp → Prop) : wop P d (.new l u) fr h K = (upgK u l (fun l' => K (put d (.ptr h.length 0) fr) (h ++ [some (false, l')]))) := id rfl
theorem eff_new (l : List AV) (u : List (Nat × Nat × Nat)) (fr : Fr) (h : Hp) (R : AV → Hp → Prop) : eff P (.new l u) fr h R = (upgK u l (fun l' => R (.ptr h.length 0) (h ++ [some (false, l')]))) := id rfl
theorem wop_box (d : Option Nat) (x : Opd) (u : List (Nat × Nat × Nat)) (fr : Fr) (h : Hp) (K : Fr → Hp → Prop) : wop P d (.box x u) fr h K = (match ev fr x with
    | some a => isTup a = false ∧ upgK u (cellsOf a) (fun l' => K (put d (.ptr h.length 0) fr) (h ++ [some (false, l')]))
    | none => False) := id rfl
theorem eff_box (x : Opd) (u : List (Nat × Nat × Nat)) (fr : Fr) (h : Hp) (R : AV → Hp → Prop) : eff P (.box x u) fr h R = (match ev fr x with
    | some a => isTup a = false ∧ upgK u (cellsOf a) (fun l' => R (.ptr h.length 0) (h ++ [some (false, l')]))
    | none => False) := id rfl
theorem wop_bsl (d : Option Nat) (e s n : Nat) (t : List AV) (ps : List (Nat × Nat × Opd)) (fr : Fr) (h : Hp) (K : Fr → Hp → Prop) : wop P d (.bsl e s n t ps) fr h K = (buildK fr t ps (fun l => K (put d (.lst (.own e) n l) fr) h)) := id rfl
theorem eff_bsl (e s n : Nat) (t : List AV) (ps : List (Nat × Nat × Opd)) (fr : Fr) (h : Hp) (R : AV → Hp → Prop) : eff P (.bsl e s n t ps) fr h R = (buildK fr t ps (fun l => R (.lst (.own e) n l) h)) := id rfl
theorem wop_mk0 (d : Option Nat) (e s b : Nat) (c : Opd) (fr : Fr) (h : Hp) (K : Fr → Hp → Prop) : wop P d (.mk0 e s b c) fr h K = (match ev fr c with
    | some (.int _ n) => (0 ≤ n ∧ b * n ≤ 140737488355328 ∧ n ≤ 9223372036854775807) ∧ K (put d (.lst (.own e) 0 []) fr) h
    | _ => False) := id rfl
theorem eff_mk0 (e s b : Nat) (c : Opd) (fr : Fr) (h : Hp) (R : AV → Hp → Prop) : eff P (.mk0 e s b c) fr h R = (match ev fr c with
    | some (.int _ n) => (0 ≤ n ∧ b * n ≤ 140737488355328 ∧ n ≤ 9223372036854775807) ∧ R (.lst (.own e) 0 []) h
    | _ => False) := id rfl
theorem wop_mkn (d : Option Nat) (e s b : Nat) (z : List AV) (c : Opd) (fr : Fr) (h : Hp) (K : Fr → Hp → Prop) : wop P d (.mkn e s b z c) fr h K = (match ev fr c with
    | some (.int _ n) => (0 ≤ n ∧ b * n ≤ 140737488355328 ∧ n ≤ 9223372036854775807) ∧ K (put d (.hs h.length n.toNat) fr) (h ++ [some (false, (List.range (n.toNat * s)).map fun i => z.getD (i % s) .nilp)])
    | _ => False) := id rfl
theorem eff_mkn (e s b : Nat) (z : List AV) (c : Opd) (fr : Fr) (h : Hp) (R : AV → Hp → Prop) : eff P (.mkn e s b z c) fr h R = (match ev fr c with
    | some (.int _ n) => (0 ≤ n ∧ b * n ≤ 140737488355328 ∧ n ≤ 9223372036854775807) ∧ R (.hs h.length n.toNat) (h ++ [some (false, (List.range (n.toNat * s)).map fun i => z.getD (i % s) .nilp)])
    | _ => False) := id rfl
theorem wop_loado (d : Option Nat) (x : Opd) (fr : Fr) (h : Hp) (K : Fr → Hp → Prop) : wop P d (.loado x) fr h K = (match ev fr x with
    | some (.ptr id off) => (match h[id]? with
      | some (some (false, l)) => (match l[off]? with
        | some (.lst (.own e) n c) => K (put d (.lst (.own e) n c) fr) (h.set id (some (false, l.set off (.lst .ro n c))))
        | _ => False)
      | _ => False)
    | _ => False) := id rfl
theorem eff_loado (x : Opd) (fr : Fr) (h : Hp) (R : AV → Hp → Prop) : eff P (.loado x) fr h R = (match ev fr x with
    | some (.ptr id off) => (match h[id]? with
      | some (some (false, l)) => (match l[off]? with
        | some (.lst (.own e) n c) => R (.lst (.own e) n c) (h.set id (some (false, l.set off (.lst .ro n c))))
        | _ => False)
      | _ => False)
    | _ => False) := id rfl
theorem wop_app (d : Option Nat) (e s b : Nat) (x y : Opd) (fr : Fr) (h : Hp) (K : Fr → Hp → Prop) : wop P d (.app e s b x y) fr h K = (match ev fr x, ev fr y with
    | some (.lst .clip n l), some (.lst _ m l') => (l.length = n * s ∧ l'.length = m * s ∧ n + m ≤ 9223372036854775807 ∧ (n + m) * b ≤ 140737488355328) ∧ K (put d (.lst (.own e) (n + m) (l ++ l')) fr) h
    | _, _ => False) := id rfl
theorem eff_app (e s b : Nat) (x y : Opd) (fr : Fr) (h : Hp) (R : AV → Hp → Prop) : eff P (.app e s b x y) fr h R = (match ev fr x, ev fr y with
    | some (.lst .clip n l), some (.lst _ m l') => (l.length = n * s ∧ l'.length = m * s ∧ n + m ≤ 9223372036854775807 ∧ (n + m) * b ≤ 140737488355328) ∧ R (.lst (.own e) (n + m) (l ++ l')) h
    | _, _ => False) := id rfl
theorem wop_appo (d : Option Nat) (e s b q : Nat) (y : Opd) (fr : Fr) (h : Hp) (K : Fr → Hp → Prop) : wop P d (.appo e s b q y) fr h K = (match lk fr q, ev fr y with
    | some (.lst (.own e') n l), some (.lst _ m l') => (e' = e ∧ l'.length = m * s ∧ n + m ≤ 9223372036854775807 ∧ (n + m) * b ≤ 140737488355328) ∧ K (put d (.lst (.own e) (n + m) (l ++ l')) (degr q fr)) h
    | _, _ => False) := id rfl
theorem eff_appo (e s b q : Nat) (y : Opd) (fr : Fr) (h : Hp) (R : AV → Hp → Prop) : eff P (.appo e s b q y) fr h R = (match lk fr q, ev fr y with
    | some (.lst (.own e') n l), some (.lst _ m l') => (e' = e ∧ l'.length = m * s ∧ n + m ≤ 9223372036854775807 ∧ (n + m) * b ≤ 140737488355328) ∧ R (.lst (.own e) (n + m) (l ++ l')) h
    | _, _ => False) := id rfl
theorem wop_appso (d : Option Nat) (e q : Nat) (y : Opd) (fr : Fr) (h : Hp) (K : Fr → Hp → Prop) : wop P d (.appso e q y) fr h K = (match lk fr q, ev fr y with
    | some (.lst (.own e') n l), some (.str s) => (e' = e ∧ n + s.size ≤ 140737488355328) ∧ K (put d (.lst (.own e) (n + s.size) (l ++ s.data.toList.map fun b => AV.int .u8 b.toNat)) (degr q fr)) h
    | _, _ => False) := id rfl
theorem eff_appso (e q : Nat) (y : Opd) (fr : Fr) (h : Hp) (R : AV → Hp → Prop) : eff P (.appso e q y) fr h R = (match lk fr q, ev fr y with
    | some (.lst (.own e') n l), some (.str s) => (e' = e ∧ n + s.size ≤ 140737488355328) ∧ R (.lst (.own e) (n + s.size) (l ++ s.data.toList.map fun b => AV.int .u8 b.toNat)) h
    | _, _ => False) := id rfl
theorem wop_bar (d : Option Nat) (s : Nat) (t : List AV) (ps : List (Nat × Nat × Opd)) (fr : Fr) (h : Hp) (K : Fr → Hp → Prop) : wop P d (.bar s t ps) fr h K = (buildK fr t ps (fun l => K (put d (.agg l) fr) h)) := id rfl
theorem wop_bslc (d : Option Nat) (e s n : Nat) (t : List AV) (ps : List (Nat × Nat × Opd)) (fr : Fr) (h : Hp) (K : Fr → Hp → Prop) : wop P d (.bslc e s n t ps) fr h K = (buildK fr t ps (fun l => K (put d (.lst .clip n l) fr) h)) := id rfl
theorem wop_b2h (d : Option Nat) (x : Opd) (fr : Fr) (h : Hp) (K : Fr → Hp → Prop) : wop P d (.b2h x) fr h K = (match (ev fr x).bind (rowB h) with
    | some (n, l) => ∃ bs : List UInt8, l = bs.map (fun b => AV.int .u8 b.toNat) ∧ n = bs.length ∧ K (put d (.str ⟨bs.toArray⟩) fr) h
    | _ => False) := id rfl
theorem rowB_lst (h : Hp) (f : Fl) (m : Nat) (l : List AV) : rowB h (.lst f m l) = some (m, l) := id rfl
theorem rowB_hsc (h : Hp) (i' m c : Nat) : rowB h (.hsc i' m c) = (match h[i']? with
    | some (some (_, l)) => if m ≤ l.length then some (m, l.take m) else none
    | _ => none) := id rfl
theorem wop_bsh (d : Option Nat) (e s n : Nat) (t : List AV) (ps : List (Nat × Nat × Opd)) (fr : Fr) (h : Hp) (K : Fr → Hp → Prop) : wop P d (.bsh e s n t ps) fr h K = (buildK fr t ps (fun l => K (put d (.hs h.length n) fr) (h ++ [some (false, l)]))) := id rfl
theorem wop_store (d : Option Nat) (n : Nat) (a x : Opd) (fr : Fr) (h : Hp) (K : Fr → Hp → Prop) : wop P d (.store n a x) fr h K = (match ev fr a, ev fr x with
    | some (.ptr id off), some v => (match h[id]? with
      | some (some (false, l)) => (isTup v = false ∧ (cellsOf v).length = n ∧ off + n ≤ l.length) ∧ K fr (h.set id (some (false, splice l off (cellsOf v))))
      | _ => False)
    | _, _ => False) := id rfl
theorem wop_storeo (d : Option Nat) (a : Opd) (q : Nat) (fr : Fr) (h : Hp) (K : Fr → Hp → Prop) : wop P d (.storeo a q) fr h K = (match ev fr a, lk fr q with
    | some (.ptr id off), some (.lst (.own e) n c) => (match h[id]? with
      | some (some (false, l)) => off < l.length ∧ K (degr q fr) (h.set id (some (false, l.set off (.lst (.own e) n c))))
      | _ => False)
    | _, _ => False) := id rfl
theorem wop_stores (d : Option Nat) (n : Nat) (a x : Opd) (fr : Fr) (h : Hp) (K : Fr → Hp → Prop) : wop P d (.stores n a x) fr h K = (match ev fr a, ev fr x with
    | some (.ptr id off), some v => (match h[id]? with
      | some (some (false, l)) => (isTup v = false ∧ (cellsOf v).length = n ∧ off + n ≤ l.length) ∧ K fr (h.set id (some (true, splice l off (cellsOf v))))
      | _ => False)
    | _, _ => False) := id rfl
theorem eff_store (n : Nat) (a x : Opd) (fr : Fr) (h : Hp) (R : AV → Hp → Prop) : eff P (.store n a x) fr h R = (match ev fr a, ev fr x with
    | some (.ptr id off), some v => (match h[id]? with
      | some (some (false, l)) => (isTup v = false ∧ (cellsOf v).length = n ∧ off + n ≤ l.length) ∧ R .nilp (h.set id (some (false, splice l off (cellsOf v))))
      | _ => False)
    | _, _ => False) := id rfl
theorem eff_storeo (a : Opd) (q : Nat) (fr : Fr) (h : Hp) (R : AV → Hp → Prop) : eff P (.storeo a q) fr h R = (match ev fr a, lk fr q with
    | some (.ptr id off), some (.lst (.own e) n c) => (match h[id]? with
      | some (some (false, l)) => off < l.length ∧ R .nilp (h.set id (some (false, l.set off (.lst (.own e) n c))))
      | _ => False)
    | _, _ => False) := id rfl
theorem eff_stores (n : Nat) (a x : Opd) (fr : Fr) (h : Hp) (R : AV → Hp → Prop) : eff P (.stores n a x) fr h R = (match ev fr a, ev fr x with
    | some (.ptr id off), some v => (match h[id]? with
      | some (some (false, l)) => (isTup v = false ∧ (cellsOf v).length = n ∧ off + n ≤ l.length) ∧ R .nilp (h.set id (some (true, splice l off (cellsOf v))))
      | _ => False)
    | _, _ => False) := id rfl
theorem wop_call (d : Option Nat) (f : Opd) (l : List Opd) (fr : Fr) (h : Hp) (K : Fr → Hp → Prop) : wop P d (.call f l) fr h K = (match ev fr f, evs fr l with
    | some (.fn f' caps), some l => ACalls P f' (l ++ caps) h (kcall d fr K)
    | some (.fnb f' bnd), some l => ACalls P f' (bnd ++ l) h (kcall d fr K)
    | _, _ => False) := id rfl
theorem eff_call (f : Opd) (l : List Opd) (fr : Fr) (h : Hp) (R : AV → Hp → Prop) : eff P (.call f l) fr h R = (match ev fr f, evs fr l with
    | some (.fn f' caps), some l => ∃ v, PCalls P f' (l ++ caps) v ∧ R v h
    | _, _ => False) := id rfl
theorem wop_calli (d : Option Nat) (f : Opd) (l : List Opd) (fr : Fr) (h : Hp) (K : Fr → Hp → Prop) : wop P d (.calli f l) fr h K = (match ev fr f, evs fr l with
    | some (.fn f' caps), some l => ACalls P f' (l ++ caps) h (kcall d fr K)
    | _, _ => False) := id rfl
theorem eff_calli (f : Opd) (l : List Opd) (fr : Fr) (h : Hp) (R : AV → Hp → Prop) : eff P (.calli f l) fr h R = (match ev fr f, evs fr l with
    | some (.fn f' caps), some l => ∃ v hv, ACalls P f' (l ++ caps) h (fun a h' => a = v ∧ h' = hv) ∧ SealEq h hv ∧ R v hv
    | _, _ => False) := id rfl
theorem wop_snil (d : Option Nat) (n : Bool) (x : Opd) (fr : Fr) (h : Hp) (K : Fr → Hp → Prop) : wop P d (.snil n x) fr h K = (match ev fr x with
    | some (.lst _ m _) => K (put d (.bool n) fr) h ∧ (m = 0 → K (put d (.bool (!n)) fr) h)
    | some (.hs _ _) => K (put d (.bool n) fr) h
    | some (.hsc _ _ _) => K (put d (.bool n) fr) h
    | _ => False) := id rfl
theorem eff_snil (n : Bool) (x : Opd) (fr : Fr) (h : Hp) (R : AV → Hp → Prop) : eff P (.snil n x) fr h R = (match ev fr x with
    | some (.lst _ m _) => m ≠ 0 ∧ R (.bool n) h
    | some (.hs _ _) => R (.bool n) h
    | some (.hsc _ _ _) => R (.bool n) h
    | _ => False) := id rfl
theorem wop_storeu (d : Option Nat) (n : Nat) (u : List (Nat × Nat × Nat)) (a x : Opd) (fr : Fr) (h : Hp) (K : Fr → Hp → Prop) : wop P d (.storeu n u a x) fr h K = (match ev fr a, ev fr x with
    | some (.ptr id 0), some v => (match h[id]? with
      | some (some (false, l)) => (isTup v = false ∧ (cellsOf v).length = n ∧ n ≤ l.length) ∧ upgK u (cellsOf v) (fun l' => K fr (h.set id (some (false, splice l 0 l'))))
      | _ => False)
    | _, _ => False) := id rfl
theorem wop_rngs (d : Option Nat) (x : Opd) (fr : Fr) (h : Hp) (K : Fr → Hp → Prop) : wop P d (.rngs x) fr h K = (match ev fr x with
    | some (.str s) => K (put d (.itr s 0) fr) h
    | _ => False) := id rfl
theorem wop_nxt (d : Option Nat) (k : Nat) (fr : Fr) (h : Hp) (K : Fr → Hp → Prop) : wop P d (.nxt k) fr h K = (match lk fr k with
    | some (.itr s pos) => if pos < s.size then K (put d (.tup [.bool true, .int .i64 pos, .int .i32 (Utf8.decode s pos).1]) ((k, .itr s (pos + (Utf8.decode s pos).2)) :: fr)) h else K (put d (.tup [.bool false]) fr) h
    | _ => False) := id rfl
theorem tk_mv (x : Opd) (fr : Fr) : tk (.mv x) fr = fr := id rfl
theorem tk_pick (c x y : Opd) (fr : Fr) : tk (.pick c x y) fr = fr := id rfl
theorem tk_build (t : List AV) (ps : List (Nat × Nat × Opd)) (fr : Fr) : tk (.build t ps) fr = fr := id rfl
theorem tk_load (s : Option Nat) (x : Opd) (fr : Fr) : tk (.load s x) fr = fr := id rfl
theorem tk_lds (s : Option Nat) (x : Opd) (fr : Fr) : tk (.lds s x) fr = fr := id rfl
theorem tk_nilck (x : Opd) (fr : Fr) : tk (.nilck x) fr = fr := id rfl
theorem tk_bin (op : BinOp) (x y : Opd) (fr : Fr) : tk (.bin op x y) fr = fr := id rfl
theorem tk_pnil (n : Bool) (x : Opd) (fr : Fr) : tk (.pnil n x) fr = fr := id rfl
theorem tk_bbin (n : Bool) (x y : Opd) (fr : Fr) : tk (.bbin n x y) fr = fr := id rfl
theorem tk_not (x : Opd) (fr : Fr) : tk (.not x) fr = fr := id rfl
theorem tk_conv (i : IntKind) (x : Opd) (fr : Fr) : tk (.conv i x) fr = fr := id rfl
theorem tk_cstr (x : Opd) (fr : Fr) : tk (.cstr x) fr = fr := id rfl
theorem tk_b2s (x : Opd) (fr : Fr) : tk (.b2s x) fr = fr := id rfl
theorem tk_fld (o : Nat) (x : Opd) (fr : Fr) : tk (.fld o x) fr = fr := id rfl
theorem tk_idxa (s : Nat) (x y : Opd) (fr : Fr) : tk (.idxa s x y) fr = fr := id rfl
theorem tk_idxs (x y : Opd) (fr : Fr) : tk (.idxs x y) fr = fr := id rfl
theorem tk_slcs (x : Opd) (lo hi : Option Opd) (fr : Fr) : tk (.slcs x lo hi) fr = fr := id rfl
theorem tk_slcl (s : Nat) (x : Opd) (lo hi mx : Option Opd) (fr : Fr) : tk (.slcl s x lo hi mx) fr = fr := id rfl
theorem tk_ext (i : Nat) (x : Opd) (fr : Fr) : tk (.ext i x) fr = fr := id rfl
theorem tk_lens (x : Opd) (fr : Fr) : tk (.lens x) fr = fr := id rfl
theorem tk_lenl (x : Opd) (fr : Fr) : tk (.lenl x) fr = fr := id rfl
theorem tk_mn (x y : Opd) (fr : Fr) : tk (.mn x y) fr = fr := id rfl
theorem tk_mx (x y : Opd) (fr : Fr) : tk (.mx x y) fr = fr := id rfl
theorem tk_ex (e : Ex) (xs : List Opd) (fr : Fr) : tk (.ex e xs) fr = fr := id rfl
theorem tk_mkfn (f : FuncId) (c : List Opd) (fr : Fr) : tk (.mkfn f c) fr = fr := id rfl
theorem tk_mvu (e s : Nat) (x : Opd) (fr : Fr) : tk (.mvu e s x) fr = fr := id rfl
theorem tk_mvo (q : Nat) (fr : Fr) : tk (.mvo q) fr = degr q fr := id rfl
theorem tk_new (l : List AV) (u : List (Nat × Nat × Nat)) (fr : Fr) : tk (.new l u) fr = fr := id rfl
theorem tk_box (x : Opd) (u : List (Nat × Nat × Nat)) (fr : Fr) : tk (.box x u) fr = fr := id rfl
theorem tk_bsl (e s n : Nat) (t : List AV) (ps : List (Nat × Nat × Opd)) (fr : Fr) : tk (.bsl e s n t ps) fr = fr := id rfl
theorem tk_mk0 (e s b : Nat) (c : Opd) (fr : Fr) : tk (.mk0 e s b c) fr = fr := id rfl
theorem tk_mkn (e s b : Nat) (z : List AV) (c : Opd) (fr : Fr) : tk (.mkn e s b z c) fr = fr := id rfl
theorem tk_loado (x : Opd) (fr : Fr) : tk (.loado x) fr = fr := id rfl
theorem tk_app (e s b : Nat) (x y : Opd) (fr : Fr) : tk (.app e s b x y) fr = fr := id rfl
theorem tk_appo (e s b q : Nat) (y : Opd) (fr : Fr) : tk (.appo e s b q y) fr = degr q fr := id rfl
theorem tk_appso (e q : Nat) (y : Opd) (fr : Fr) : tk (.appso e q y) fr = degr q fr := id rfl
theorem tk_store (n : Nat) (a x : Opd) (fr : Fr) : tk (.store n a x) fr = fr := id rfl
theorem tk_storeo (a : Opd) (q : Nat) (fr : Fr) : tk (.storeo a q) fr = degr q fr := id rfl
theorem tk_call (f : Opd) (l : List Opd) (fr : Fr) : tk (.call f l) fr = fr := id rfl
theorem tk_stores (n : Nat) (a x : Opd) (fr : Fr) : tk (.stores n a x) fr = fr := id rfl
theorem tk_calli (f : Opd) (l : List Opd) (fr : Fr) : tk (.calli f l) fr = fr := id rfl
theorem tk_snil (n : Bool) (x : Opd) (fr : Fr) : tk (.snil n x) fr = fr := id rfl
theorem ex_wadd (k : IntKind) (x y : Int) : exF (.binw .add) [.int k x, .int k y] = some (.int k (k.wrap (x + y))) := by simp [exF, exF0]
theorem ex_wsub (k : IntKind) (x y : Int) : exF (.binw .sub) [.int k x, .int k y] = some (.int k (k.wrap (x - y))) := by simp [exF, exF0]
theorem ex_wmul (k : IntKind) (x y : Int) : exF (.binw .mul) [.int k x, .int k y] = some (.int k (k.wrap (x * y))) := by simp [exF, exF0]
theorem ex_aeq (n : Bool) (ks : List Nat) (l m : List AV) : exF (.aeq n ks) [.agg l, .agg m] = (eqCells ks l m).map (fun r => .bool (if n then !r else r)) := id rfl
theorem ex_r2s (k : IntKind) (n : Int) : exF .r2s [.int k n] = some (.str (Utf8.encode n)) := id rfl
theorem ex_ibs (s : ByteArray) (c : Int) : exF .ibs [.str s, .int .u8 c] = some (.int .i64 (indexByte s.data.toList c.toNat.toUInt8)) := id rfl
theorem ex_mkb (f : FuncId) (l : List AV) : exF (.mkb f) l = some (.fnb f l) := id rfl
theorem deg_itr (s : ByteArray) (p : Nat) : deg (.itr s p) = .opq := id rfl
theorem wop_mmk (d : Option Nat) (fr : Fr) (h : Hp) (K : Fr → Hp → Prop) : wop P d .mmk fr h K = (∀ b, K (put d (.omp b [] []) fr) h) := id rfl
theorem wop_mup (d : Option Nat) (st : Bool) (k : Nat) (m x y : Opd) (fr : Fr) (h : Hp) (K : Fr → Hp → Prop) : wop P d (.mup st k m x y) fr h K = (match lk fr k, ev fr m, ev fr x, ev fr y with
    | some (.omp q ks vs), some (.mp q'), some a, some b => (q' = q ∧ (isKey st a && ks.all (kSame a) && (pv b).isSome) = true) ∧ K ((k, .omp q (mKeys a ks) (mVals a b ks vs)) :: fr) h
    | _, _, _, _ => False) := id rfl
theorem wop_mfz (d : Option Nat) (q : Nat) (fr : Fr) (h : Hp) (K : Fr → Hp → Prop) : wop P d (.mfz q) fr h K = (match lk fr q with
    | some (.omp _ ks vs) => K (put d (.fmp ks vs) (degr q fr)) h
    | _ => False) := id rfl
theorem wop_mmv (d : Option Nat) (q : Nat) (fr : Fr) (h : Hp) (K : Fr → Hp → Prop) : wop P d (.mmv q) fr h K = (match lk fr q with
    | some (.omp b ks vs) => K (put d (.omp b ks vs) (degr q fr)) h
    | _ => False) := id rfl
theorem wop_mra (d : Option Nat) (q : Nat) (fr : Fr) (h : Hp) (K : Fr → Hp → Prop) : wop P d (.mra q) fr h K = (match lk fr q with
    | some (.omp b _ _) => K (put d (.mp b) fr) h
    | _ => False) := id rfl
theorem wop_cpy (d : Option Nat) (sz : Nat) (x y : Opd) (fr : Fr) (h : Hp) (K : Fr → Hp → Prop) : wop P d (.cpy sz x y) fr h K = (match ev fr x, ev fr y with
    | some (.hs id n), some (.lst _ m l') => (match h[id]? with
      | some (some (false, l)) => (l'.length = m * sz ∧ n * sz ≤ l.length) ∧ K (put d (.int .i64 (min m n : Nat)) fr) (h.set id (some (false, splice l 0 (l'.take (min m n * sz)))))
      | _ => False)
    | _, _ => False) := id rfl
theorem eff_cpy (sz : Nat) (x y : Opd) (fr : Fr) (h : Hp) (R : AV → Hp → Prop) : eff P (.cpy sz x y) fr h R = (match ev fr x, ev fr y with
    | some (.hs id n), some (.lst _ m l') => (match h[id]? with
      | some (some (false, l)) => (l'.length = m * sz ∧ n * sz ≤ l.length) ∧ R (.int .i64 (min m n : Nat)) (h.set id (some (false, splice l 0 (l'.take (min m n * sz)))))
      | _ => False)
    | _, _ => False) := id rfl
theorem tk_cpy (sz : Nat) (x y : Opd) (fr : Fr) : tk (.cpy sz x y) fr = fr := id rfl
theorem ex_zag (z : List AV) : exF (.zag z) [] = some (.agg z) := id rfl
theorem wop_apc (d : Option Nat) (e sz bytes : Nat) (zero : List AV) (x y : Opd) (fr : Fr) (h : Hp) (K : Fr → Hp → Prop) : wop P d (.apc e sz bytes zero x y) fr h K = (match ev fr x, (ev fr y).bind (rowA h sz) with
    | some (.lst .clip n l), some (m, l') => (l.length = n * sz ∧ l'.length = m * sz ∧ n + m ≤ 9223372036854775807 ∧ (n + m) * bytes ≤ 140737488355328) ∧ (m = 0 → K (put d (.lst .clip n l) fr) h) ∧ (0 < m → ∀ k : Nat, K (put d (.hsc h.length (n + m) (n + m + k)) fr) (h ++ [some (false, (l ++ l') ++ zrow zero sz (k * sz))]))
    | some (.hsc id n c), some (m, l') => (match h[id]?, isLst (ev fr y) with
      | some (some (false, l)), true => (l.length = c * sz ∧ l'.length = m * sz ∧ 0 < m ∧ n ≤ c ∧ n + m ≤ 9223372036854775807 ∧ (n + m) * bytes ≤ 140737488355328) ∧ (n + m ≤ c → K (put d (.hsc id (n + m) c) fr) (h.set id (some (false, splice l (n * sz) l')))) ∧ (c < n + m → ∀ k : Nat, K (put d (.hsc h.length (n + m) (n + m + k)) fr) (h ++ [some (false, ((l.take (n * sz)).map deg ++ l') ++ zrow zero sz (k * sz))]))
      | _, _ => False)
    | _, _ => False) := id rfl
theorem obind (a : AV) (f : AV → Option (Nat × List AV)) : (some a).bind f = f a := id rfl
theorem rowA_lst (h : Hp) (sz : Nat) (f : Fl) (m : Nat) (l : List AV) : rowA h sz (.lst f m l) = some (m, l) := id rfl
theorem isLst_lst (f : Fl) (m : Nat) (l : List AV) : isLst (some (.lst f m l)) = true := id rfl
theorem rowA_hs (h : Hp) (sz i' m : Nat) : rowA h sz (.hs i' m) = (match h[i']? with
    | some (some (_, l)) => if m * sz ≤ l.length then some (m, (l.take (m * sz)).map deg) else none
    | _ => none) := id rfl
theorem wop_slch (d : Option Nat) (sz : Nat) (x j : Opd) (fr : Fr) (h : Hp) (K : Fr → Hp → Prop) : wop P d (.slch sz x j) fr h K = (match ev fr x, ev fr j with
    | some (.hsc id n c), some (.int _ j) => (0 ≤ j ∧ j ≤ n) ∧ K (put d (.hsc id j.toNat c) fr) h
    | _, _ => False) := id rfl
theorem wop_aph (d : Option Nat) (e sz bytes : Nat) (x y : Opd) (fr : Fr) (h : Hp) (K : Fr → Hp → Prop) : wop P d (.aph e sz bytes x y) fr h K = (match ev fr x, ev fr y with
    | some (.lst .clip n l), some (.hs id m) => (match h[id]? with
      | some (some (_, l')) => (l.length = n * sz ∧ m * sz ≤ l'.length ∧ n + m ≤ 9223372036854775807 ∧ (n + m) * bytes ≤ 140737488355328) ∧ K (put d (.lst (.own e) (n + m) (l ++ (l'.take (m * sz)).map deg)) fr) h
      | _ => False)
    | _, _ => False) := id rfl
theorem ex_mlk (st ag : Bool) (z : List AV) (ok : Bool) (l : List AV) : exF (.mlk st ag z ok) l = mlkF st ag z ok l := id rfl
theorem ex_idp (sz n : Nat) (l : List AV) : exF (.idp sz n) l = idpF sz n l := id rfl
theorem ex_sla (n : Nat) (l : List AV) : exF (.sla n) l = slaF n l := id rfl
theorem deg_omp (b : Nat) (ks vs : List AV) : deg (.omp b ks vs) = .mp b := id rfl
theorem deg_mp (b : Nat) : deg (.mp b) = .mp b := id rfl
theorem isTup_mp (b : Nat) : isTup (.mp b) = false := id rfl
theorem cellsOf_mp (b : Nat) : cellsOf (.mp b) = [.mp b] := id rfl
theorem deg_fmp (ks vs : List AV) : deg (.fmp ks vs) = .fmp ks vs := id rfl
theorem isTup_fmp (ks vs : List AV) : isTup (.fmp ks vs) = false := id rfl
theorem cellsOf_fmp (ks vs : List AV) : cellsOf (.fmp ks vs) = [.fmp ks vs] := id rfl
theorem int_add (i j : IntKind) (x y : Int) (K : AV → Prop) : bin2 .add (.int i x) (.int j y) K = (i = j ∧ arith i (x + y) K) := id rfl
theorem int_sub (i j : IntKind) (x y : Int) (K : AV → Prop) : bin2 .sub (.int i x) (.int j y) K = (i = j ∧ arith i (x - y) K) := id rfl
theorem int_mul (i j : IntKind) (x y : Int) (K : AV → Prop) : bin2 .mul (.int i x) (.int j y) K = (i = j ∧ arith i (x * y) K) := id rfl
theorem int_quo (i j : IntKind) (x y : Int) (K : AV → Prop) : bin2 .quo (.int i x) (.int j y) K = (i = j ∧ y ≠ 0 ∧ arith i (x.tdiv y) K) := id rfl
theorem int_rem (i j : IntKind) (x y : Int) (K : AV → Prop) : bin2 .rem (.int i x) (.int j y) K = (i = j ∧ y ≠ 0 ∧ K (.int i (x.tmod y))) := id rfl
theorem int_and (i j : IntKind) (x y : Int) (K : AV → Prop) : bin2 .and (.int i x) (.int j y) K = (i = j ∧ K (.int i (bitV .and i x y))) := id rfl
theorem int_andNot (i j : IntKind) (x y : Int) (K : AV → Prop) : bin2 .andNot (.int i x) (.int j y) K = (i = j ∧ K (.int i (bitV .andNot i x y))) := id rfl
theorem int_or (i j : IntKind) (x y : Int) (K : AV → Prop) : bin2 .or (.int i x) (.int j y) K = (i = j ∧ K (.int i (bitV .or i x y))) := id rfl
theorem int_xor (i j : IntKind) (x y : Int) (K : AV → Prop) : bin2 .xor (.int i x) (.int j y) K = (i = j ∧ K (.int i (bitV .xor i x y))) := id rfl
theorem int_eql (i j : IntKind) (x y : Int) (K : AV → Prop) : bin2 .eql (.int i x) (.int j y) K = (i = j ∧ K (.bool (decide (x = y)))) := id rfl
theorem int_neq (i j : IntKind) (x y : Int) (K : AV → Prop) : bin2 .neq (.int i x) (.int j y) K = (i = j ∧ K (.bool (decide (x ≠ y)))) := id rfl
theorem int_lss (i j : IntKind) (x y : Int) (K : AV → Prop) : bin2 .lss (.int i x) (.int j y) K = (i = j ∧ K (.bool (decide (x < y)))) := id rfl
theorem int_leq (i j : IntKind) (x y : Int) (K : AV → Prop) : bin2 .leq (.int i x) (.int j y) K = (i = j ∧ K (.bool (decide (x ≤ y)))) := id rfl
theorem int_gtr (i j : IntKind) (x y : Int) (K : AV → Prop) : bin2 .gtr (.int i x) (.int j y) K = (i = j ∧ K (.bool (decide (y < x)))) := id rfl
theorem int_geq (i j : IntKind) (x y : Int) (K : AV → Prop) : bin2 .geq (.int i x) (.int j y) K = (i = j ∧ K (.bool (decide (y ≤ x)))) := id rfl
theorem int_shl (i j : IntKind) (x y : Int) (K : AV → Prop) : bin2 .shl (.int i x) (.int j y) K = (0 ≤ y ∧ K (.int i (i.wrap (x * 2 ^ (min y.toNat i.bits))))) := id rfl
theorem int_shr (i j : IntKind) (x y : Int) (K : AV → Prop) : bin2 .shr (.int i x) (.int j y) K = (0 ≤ y ∧ K (.int i (x.fdiv (2 ^ (min y.toNat i.bits))))) := id rfl
theorem str_add (x y : ByteArray) (K : AV → Prop) : bin2 .add (.str x) (.str y) K = (x.size + y.size ≤ 9223372036854775807 ∧ K (.str (x ++ y))) := id rfl
theorem str_eql (x y : ByteArray) (K : AV → Prop) : bin2 .eql (.str x) (.str y) K = (K (.bool (decide (x = y)))) := id rfl
theorem str_neq (x y : ByteArray) (K : AV → Prop) : bin2 .neq (.str x) (.str y) K = (K (.bool (decide (x ≠ y)))) := id rfl
theorem str_lss (x y : ByteArray) (K : AV → Prop) : bin2 .lss (.str x) (.str y) K = (K (.bool (Op.bytesLess x.toList y.toList))) := id rfl
theorem arith_i8 (z : Int) (K : AV → Prop) : arith .i8 z K = K (.int .i8 (IntKind.i8.wrap z)) := id rfl
theorem arith_i16 (z : Int) (K : AV → Prop) : arith .i16 z K = K (.int .i16 (IntKind.i16.wrap z)) := id rfl
theorem arith_i32 (z : Int) (K : AV → Prop) : arith .i32 z K = K (.int .i32 (IntKind.i32.wrap z)) := id rfl
theorem arith_u8 (z : Int) (K : AV → Prop) : arith .u8 z K = K (.int .u8 (IntKind.u8.wrap z)) := id rfl
theorem arith_u16 (z : Int) (K : AV → Prop) : arith .u16 z K = K (.int .u16 (IntKind.u16.wrap z)) := id rfl
theorem arith_u32 (z : Int) (K : AV → Prop) : arith .u32 z K = K (.int .u32 (IntKind.u32.wrap z)) := id rfl
theorem arith_u64 (z : Int) (K : AV → Prop) : arith .u64 z K = K (.int .u64 (IntKind.u64.wrap z)) := id rfl
theorem arith_i64 (z : Int) (K : AV → Prop) : arith .i64 z K = (inR z ∧ K (.int .i64 z)) := id rfl
theorem loadK_none (a : AV) (l : List AV) (K : AV → Prop) : loadK none (a :: l) K = K (deg a) := id rfl
theorem loadK_some (n : Nat) (l : List AV) (K : AV → Prop) : loadK (some n) l K = (n ≤ l.length ∧ K (.agg ((l.take n).map deg))) := id rfl
theorem deg_bool (b : Bool) : deg (.bool b) = (.bool b) := id rfl
theorem isTup_bool (b : Bool) : isTup (.bool b) = false := id rfl
theorem cellsOf_bool (b : Bool) : cellsOf (.bool b) = [.bool b] := id rfl
theorem deg_int (i : IntKind) (n : Int) : deg (.int i n) = (.int i n) := id rfl
theorem isTup_int (i : IntKind) (n : Int) : isTup (.int i n) = false := id rfl
theorem cellsOf_int (i : IntKind) (n : Int) : cellsOf (.int i n) = [.int i n] := id rfl
theorem deg_str (s : ByteArray) : deg (.str s) = (.str s) := id rfl
theorem isTup_str (s : ByteArray) : isTup (.str s) = false := id rfl
theorem cellsOf_str (s : ByteArray) : cellsOf (.str s) = [.str s] := id rfl
theorem deg_nilp  : deg .nilp = .nilp := id rfl
theorem isTup_nilp  : isTup .nilp = false := id rfl
theorem cellsOf_nilp  : cellsOf .nilp = [.nilp] := id rfl
theorem deg_ptr (i o : Nat) : deg (.ptr i o) = (.ptr i o) := id rfl
theorem isTup_ptr (i o : Nat) : isTup (.ptr i o) = false := id rfl
theorem cellsOf_ptr (i o : Nat) : cellsOf (.ptr i o) = [.ptr i o] := id rfl
theorem deg_fp (l : List AV) : deg (.fp l) = (.fp l) := id rfl
theorem isTup_fp (l : List AV) : isTup (.fp l) = false := id rfl
theorem cellsOf_fp (l : List AV) : cellsOf (.fp l) = [.fp l] := id rfl
theorem deg_hs (i n : Nat) : deg (.hs i n) = (.hs i n) := id rfl
theorem isTup_hs (i n : Nat) : isTup (.hs i n) = false := id rfl
theorem cellsOf_hs (i n : Nat) : cellsOf (.hs i n) = [.hs i n] := id rfl
theorem deg_hsc (i n c : Nat) : deg (.hsc i n c) = (.hsc i n c) := id rfl
theorem isTup_hsc (i n c : Nat) : isTup (.hsc i n c) = false := id rfl
theorem cellsOf_hsc (i n c : Nat) : cellsOf (.hsc i n c) = [.hsc i n c] := id rfl
theorem deg_agg (l : List AV) : deg (.agg l) = (.agg l) := id rfl
theorem isTup_agg (l : List AV) : isTup (.agg l) = false := id rfl
theorem cellsOf_agg (l : List AV) : cellsOf (.agg l) = l := id rfl
theorem deg_tup (l : List AV) : deg (.tup l) = (.tup l) := id rfl
theorem isTup_tup (l : List AV) : isTup (.tup l) = true := id rfl
theorem cellsOf_tup (l : List AV) : cellsOf (.tup l) = [.tup l] := id rfl
theorem deg_fn (f : FuncId) (l : List AV) : deg (.fn f l) = (.fn f l) := id rfl
theorem isTup_fn (f : FuncId) (l : List AV) : isTup (.fn f l) = false := id rfl
theorem cellsOf_fn (f : FuncId) (l : List AV) : cellsOf (.fn f l) = [.fn f l] := id rfl
theorem deg_fnb (f : FuncId) (l : List AV) : deg (.fnb f l) = (.fnb f l) := id rfl
theorem isTup_fnb (f : FuncId) (l : List AV) : isTup (.fnb f l) = false := id rfl
theorem cellsOf_fnb (f : FuncId) (l : List AV) : cellsOf (.fnb f l) = [.fnb f l] := id rfl
theorem deg_nilf  : deg .nilf = .nilf := id rfl
theorem isTup_nilf  : isTup .nilf = false := id rfl
theorem cellsOf_nilf  : cellsOf .nilf = [.nilf] := id rfl
theorem deg_opq  : deg .opq = .opq := id rfl
theorem isTup_opq  : isTup .opq = false := id rfl
theorem cellsOf_opq  : cellsOf .opq = [.opq] := id rfl
theorem deg_frn (Q : World → Value → Prop) : deg (.frn Q) = (.frn Q) := id rfl
theorem isTup_frn (Q : World → Value → Prop) : isTup (.frn Q) = false := id rfl
theorem cellsOf_frn (Q : World → Value → Prop) : cellsOf (.frn Q) = [.frn Q] := id rfl
theorem deg_ro (n : Nat) (l : List AV) : deg (.lst .ro n l) = .lst .ro n l := id rfl
theorem deg_clip (n : Nat) (l : List AV) : deg (.lst .clip n l) = .lst .clip n l := id rfl
theorem deg_own (e : TypeId) (n : Nat) (l : List AV) : deg (.lst (.own e) n l) = .lst .ro n l := id rfl
theorem isTup_lst (f : Fl) (n : Nat) (l : List AV) : isTup (.lst f n l) = false := id rfl
theorem cellsOf_lst (f : Fl) (n : Nat) (l : List AV) : cellsOf (.lst f n l) = [.lst f n l] := id rfl
end
end Go.Proofs.Ytlfnepcglnjogaa

/- The abstract layer: branches that are not taken are not walked. -/
namespace Go.Proofs.Ytlfnepcglnjogaa
set_option linter.unusedSimpArgs false
set_option linter.unusedVariables false
open Go.RowKit Go.Lib

theorem sel (p : Bool) (A B : Prop) : ((p = true → A) ∧ (p = false → B)) = (if p = true then A else B) := by cases p <;> simp
theorem selg (p want : Bool) (A B : Prop) : ((p = want → A) ∧ (p = !want → B)) = (if p = want then A else B) := by cases p <;> cases want <;> simp
theorem ite_and (c : Prop) [Decidable c] (A B : Prop) : (if c then A else B) = ((c → A) ∧ (¬ c → B)) := by
  by_cases h : c <;> simp [h]
theorem end_get (h : Hp) (x : Option (Bool × List AV)) : (h ++ [x])[h.length]? = some x := by simp
theorem end_set (h : Hp) (x y : Option (Bool × List AV)) : (h ++ [x]).set h.length y = h ++ [y] := by simp
section
variable (P : Program)
theorem W_cond2 (c : Opd) (a b : ACode) (fr : Fr) (h : Hp) (Q : Exit → Fr → Hp → Prop) : W P (.cond c a b) fr h Q = match ev fr c with
    | some (.bool p) => (if p = true then W P a fr h Q else W P b fr h Q)
    | _ => False := by
  rw [W_cond]
  simp only [sel] <;> rfl
theorem WOps_gd2 (d : Option Nat) (q : Nat) (want : Bool) (o : AOp) (f : Option (FB × List Nat)) (r : List AStm) (fr : Fr) (h : Hp) (K : Fr → Hp → Prop) : WOps P (⟨d, some (q, want), o, f⟩ :: r) fr h K = match lk fr q with
      | some (.bool p) => (if p = want then wop P d o ((q, .bool want) :: fr) h (kops P r K) else WOps P r (put d (.tup []) ((q, .bool (!want)) :: fr)) h K)
      | some (.tup []) => WOps P r (put d (.tup []) fr) h K
      | _ => False := by
  rw [WOps_gd']
  simp only [selg] <;> rfl
theorem VOps_gd2 (d : Option Nat) (q : Nat) (want : Bool) (o : AOp) (r : List AStm) (fr : Fr) (h : Hp) (K : Fr → Hp → Prop) : VOps P (⟨d, some (q, want), o, none⟩ :: r) fr h K = match lk fr q with
      | some (.bool p) => (if p = want then eff P o ((q, .bool want) :: fr) h (kput d o ((q, .bool want) :: fr) (kvops P r K)) else VOps P r (put d (.tup []) ((q, .bool (!want)) :: fr)) h K)
      | some (.tup []) => VOps P r (put d (.tup []) fr) h K
      | _ => False := by
  rw [VOps_gd']
  simp only [selg] <;> rfl
theorem VOps_gdft2 (d : Option Nat) (q : Nat) (want : Bool) (o : AOp) (b : FB) (ps : List Nat) (r : List AStm) (fr : Fr) (h : Hp) (K : Fr → Hp → Prop) : VOps P (⟨d, some (q, want), o, some (b, ps)⟩ :: r) fr h K = match lk fr q with
      | some (.bool p) => (if p = want then (apart ((q, .bool want) :: fr) (fbId b ((q, .bool want) :: fr) h) ps ∧ effF P b o ((q, .bool want) :: fr) h (kput d o ((q, .bool want) :: fr) (kvops P r K))) else VOps P r (put d (.tup []) ((q, .bool (!want)) :: fr)) h K)
      | some (.tup []) => VOps P r (put d (.tup []) fr) h K
      | _ => False := by
  rw [VOps_gdft']
  simp only [selg] <;> rfl
theorem wop_pick2 (d : Option Nat) (c x y : Opd) (fr : Fr) (h : Hp) (K : Fr → Hp → Prop) : wop P d (.pick c x y) fr h K = (match ev fr c with
    | some (.bool p) => (if p = true then (match ev fr x with
      | some a => K (put d a fr) h
      | none => False) else (match ev fr y with
      | some a => K (put d a fr) h
      | none => False))
    | _ => False) := by
  rw [wop_pick]
  simp only [sel] <;> rfl
theorem eff_pick2 (c x y : Opd) (fr : Fr) (h : Hp) (R : AV → Hp → Prop) : eff P (.pick c x y) fr h R = (match ev fr c with
    | some (.bool p) => (if p = true then (match ev fr x with
      | some a => R a h
      | none => False) else (match ev fr y with
      | some a => R a h
      | none => False))
    | _ => False) := by
  rw [eff_pick]
  simp only [sel] <;> rfl
end
end Go.Proofs.Ytlfnepcglnjogaa

/- The abstract layer: the walk's laws as one. (Written by bundle.py.) -/
namespace Go.Proofs.Ytlfnepcglnjogaa
set_option linter.unusedSimpArgs false
set_option linter.unusedVariables false
open Go.RowKit Go.Lib

theorem wk : type_of% (And.intro (And.intro (And.intro (And.intro (And.intro (And.intro (And.intro (And.intro (@W_skip) (And.intro (@W_scope) (@W_dead))) (And.intro (@kscope_normal) (And.intro (@kscope_exit) (@kscope_ret)))) (And.intro (And.intro (@W_ops) (And.intro (@W_draw) (@W_drax))) (And.intro (@kdrax_eq) (And.intro (@fOk_nil) (@fOk_fld))))) (And.intro (And.intro (And.intro (@fOk_mv) (And.intro (@fOk_ext) (@fOk_store))) (And.intro (@W_seq) (And.intro (@W_cond2) (@W_block)))) (And.intro (And.intro (@W_exit) (And.intro (@W_ret) (@W_keep))) (And.intro (And.intro (@kseq_normal) (@kseq_exit)) (And.intro (@kseq_ret) (@kblock_normal)))))) (And.intro (And.intro (And.intro (And.intro (@kblock_exit) (And.intro (@kblock_ret) (@kloop_normal))) (And.intro (@kloop_exit) (And.intro (@kloop_ret) (@kret_normal)))) (And.intro (And.intro (@kret_ret) (And.intro (@kdraw_eq) (@kval_eq))) (And.intro (@kv_eq) (And.intro (@kput_eq) (@kbox_eq))))) (And.intro (And.intro (And.intro (@kobj_eq) (And.intro (@klst_eq) (@krow_eq))) (And.intro (@kcall_eq) (And.intro (@put_some) (@put_none)))) (And.intro (And.intro (@lk_cons') (And.intro (@lk_nil) (@restr_nil))) (And.intro (And.intro (@restr_cons) (@ev_t)) (And.intro (@ev_c) (@ev_f))))))) (And.intro (And.intro (And.intro (And.intro (And.intro (@evs_nil) (And.intro (@evs_cons) (@evD_none))) (And.intro (@evD_some) (And.intro (@degr_nil) (@degr_cons)))) (And.intro (And.intro (@args0_nil) (And.intro (@args0_cons) (@buildK_nil))) (And.intro (@buildK_cons) (And.intro (@upgK_nil) (@upgK_cons))))) (And.intro (And.intro (And.intro (@resL_nil) (And.intro (@resL_t) (@resL_c))) (And.intro (@res1_one) (And.intro (@res1_nil) (@res1_two)))) (And.intro (And.intro (@WOps_nil') (And.intro (@WOps_cons') (@WOps_gd2))) (And.intro (And.intro (@kops_eq') (@VOps_nil')) (And.intro (@VOps_cons') (@VOps_gd2)))))) (And.intro (And.intro (And.intro (And.intro (@VOps_ft') (And.intro (@VOps_gdft2) (@apart_nil))) (And.intro (@apart_cons) (And.intro (@ptrId_ptr) (@ptrId_hs)))) (And.intro (And.intro (@sameId_eq) (And.intro (@fbId_s) (@fbId_h))) (And.intro (@effF_load) (And.intro (@effF_loado) (@effF_store))))) (And.intro (And.intro (And.intro (@effF_stores) (And.intro (@effF_storeo) (@effF_calli))) (And.intro (@effF_new) (And.intro (@effF_box) (@effF_mkn)))) (And.intro (And.intro (@W_holes) (And.intro (@rep2) (@rep3))) (And.intro (And.intro (@kvops_eq') (@splice_cons')) (And.intro (@splice_nil') (@wop_mv)))))))) (And.intro (And.intro (And.intro (And.intro (And.intro (And.intro (@eff_mv) (And.intro (@wop_pick2) (@eff_pick2))) (And.intro (@wop_build) (And.intro (@eff_build) (@wop_load)))) (And.intro (And.intro (@eff_load) (And.intro (@wop_lds) (@eff_lds))) (And.intro (@wop_nilck) (And.intro (@eff_nilck) (@wop_bin))))) (And.intro (And.intro (And.intro (@eff_bin) (And.intro (@wop_pnil) (@eff_pnil))) (And.intro (@wop_bbin) (And.intro (@eff_bbin) (@wop_not)))) (And.intro (And.intro (@eff_not) (And.intro (@wop_conv) (@eff_conv))) (And.intro (And.intro (@wop_cstr) (@eff_cstr)) (And.intro (@wop_b2s) (@eff_b2s)))))) (And.intro (And.intro (And.intro (And.intro (@wop_fld) (And.intro (@eff_fld) (@wop_idxa))) (And.intro (@eff_idxa) (And.intro (@wop_idxs) (@eff_idxs)))) (And.intro (And.intro (@wop_slcs) (And.intro (@eff_slcs) (@wop_slcl))) (And.intro (@eff_slcl) (And.intro (@wop_ext) (@eff_ext))))) (And.intro (And.intro (And.intro (@wop_lens) (And.intro (@eff_lens) (@wop_lenl))) (And.intro (@eff_lenl) (And.intro (@wop_mn) (@eff_mn)))) (And.intro (And.intro (@wop_mx) (And.intro (@eff_mx) (@wop_ex))) (And.intro (And.intro (@eff_ex) (@wop_mkfn)) (And.intro (@eff_mkfn) (@wop_mvu))))))) (And.intro (And.intro (And.intro (And.intro (And.intro (@eff_mvu) (And.intro (@wop_mvo) (@eff_mvo))) (And.intro (@wop_new) (And.intro (@eff_new) (@wop_box)))) (And.intro (And.intro (@eff_box) (And.intro (@wop_bsl) (@eff_bsl))) (And.intro (@wop_mk0) (And.intro (@eff_mk0) (@wop_mkn))))) (And.intro (And.intro (And.intro (@eff_mkn) (And.intro (@wop_loado) (@eff_loado))) (And.intro (@wop_app) (And.intro (@eff_app) (@wop_appo)))) (And.intro (And.intro (@eff_appo) (And.intro (@wop_appso) (@eff_appso))) (And.intro (And.intro (@wop_bar) (@wop_bslc)) (And.intro (@wop_b2h) (@rowB_lst)))))) (And.intro (And.intro (And.intro (And.intro (@rowB_hsc) (And.intro (@wop_bsh) (@wop_store))) (And.intro (@wop_storeo) (And.intro (@wop_stores) (@eff_store)))) (And.intro (And.intro (@eff_storeo) (And.intro (@eff_stores) (@wop_rngs))) (And.intro (@wop_nxt) (And.intro (@wop_call) (@eff_call))))) (And.intro (And.intro (And.intro (@wop_calli) (And.intro (@eff_calli) (@wop_snil))) (And.intro (@eff_snil) (And.intro (@wop_storeu) (@tk_mv)))) (And.intro (And.intro (@tk_pick) (And.intro (@tk_build) (@tk_load))) (And.intro (And.intro (@tk_lds) (@tk_nilck)) (And.intro (@tk_bin) (@tk_pnil))))))))) (And.intro (And.intro (And.intro (And.intro (And.intro (And.intro (And.intro (@tk_bbin) (And.intro (@tk_not) (@tk_conv))) (And.intro (@tk_cstr) (And.intro (@tk_b2s) (@tk_fld)))) (And.intro (And.intro (@tk_idxa) (And.intro (@tk_idxs) (@tk_slcs))) (And.intro (@tk_slcl) (And.intro (@tk_ext) (@tk_lens))))) (And.intro (And.intro (And.intro (@tk_lenl) (And.intro (@tk_mn) (@tk_mx))) (And.intro (@tk_ex) (And.intro (@tk_mkfn) (@tk_mvu)))) (And.intro (And.intro (@tk_mvo) (And.intro (@tk_new) (@tk_box))) (And.intro (And.intro (@tk_bsl) (@tk_mk0)) (And.intro (@tk_mkn) (@tk_loado)))))) (And.intro (And.intro (And.intro (And.intro (@tk_app) (And.intro (@tk_appo) (@tk_appso))) (And.intro (@tk_store) (And.intro (@tk_storeo) (@tk_call)))) (And.intro (And.intro (@tk_stores) (And.intro (@tk_calli) (@tk_snil))) (And.intro (@ex_wadd) (And.intro (@ex_wsub) (@ex_wmul))))) (And.intro (And.intro (And.intro (@ex_aeq) (And.intro (@ex_r2s) (@ex_ibs))) (And.intro (@ex_mkb) (And.intro (@deg_itr) (@ex_zag)))) (And.intro (And.intro (@wop_apc) (And.intro (@obind) (@rowA_lst))) (And.intro (And.intro (@isLst_lst) (@rowA_hs)) (And.intro (@wop_slch) (@wop_aph))))))) (And.intro (And.intro (And.intro (And.intro (And.intro (@wop_mmv) (And.intro (@wop_mra) (@wop_cpy))) (And.intro (@eff_cpy) (And.intro (@tk_cpy) (@deg_omp)))) (And.intro (And.intro (@deg_mp) (And.intro (@isTup_mp) (@cellsOf_mp))) (And.intro (@deg_fmp) (And.intro (@isTup_fmp) (@cellsOf_fmp))))) (And.intro (And.intro (And.intro (@wop_mmk) (And.intro (@wop_mup) (@wop_mfz))) (And.intro (@ex_mlk) (And.intro (@ex_idp) (@ex_sla)))) (And.intro (And.intro (@int_add) (And.intro (@int_sub) (@int_mul))) (And.intro (And.intro (@int_quo) (@int_rem)) (And.intro (@int_and) (@int_andNot)))))) (And.intro (And.intro (And.intro (And.intro (@int_or) (And.intro (@int_xor) (@int_eql))) (And.intro (@int_neq) (And.intro (@int_lss) (@int_leq)))) (And.intro (And.intro (@int_gtr) (And.intro (@int_geq) (@int_shl))) (And.intro (@int_shr) (And.intro (@str_add) (@str_eql))))) (And.intro (And.intro (And.intro (@str_neq) (And.intro (@str_lss) (@arith_i8))) (And.intro (@arith_i16) (And.intro (@arith_i32) (@arith_u8)))) (And.intro (And.intro (@arith_u16) (And.intro (@arith_u32) (@arith_u64))) (And.intro (And.intro (@arith_i64) (@loadK_none)) (And.intro (@loadK_some) (@deg_bool)))))))) (And.intro (And.intro (And.intro (And.intro (And.intro (And.intro (@isTup_bool) (And.intro (@cellsOf_bool) (@deg_int))) (And.intro (@isTup_int) (And.intro (@cellsOf_int) (@deg_str)))) (And.intro (And.intro (@isTup_str) (And.intro (@cellsOf_str) (@deg_nilp))) (And.intro (@isTup_nilp) (And.intro (@cellsOf_nilp) (@deg_ptr))))) (And.intro (And.intro (And.intro (@isTup_ptr) (And.intro (@cellsOf_ptr) (@deg_fp))) (And.intro (@isTup_fp) (And.intro (@cellsOf_fp) (@deg_hs)))) (And.intro (And.intro (@isTup_hs) (And.intro (@cellsOf_hs) (@deg_hsc))) (And.intro (And.intro (@isTup_hsc) (@cellsOf_hsc)) (And.intro (@deg_agg) (@isTup_agg)))))) (And.intro (And.intro (And.intro (And.intro (@cellsOf_agg) (And.intro (@deg_tup) (@isTup_tup))) (And.intro (@cellsOf_tup) (And.intro (@deg_fn) (@isTup_fn)))) (And.intro (And.intro (@cellsOf_fn) (And.intro (@deg_fnb) (@isTup_fnb))) (And.intro (@cellsOf_fnb) (And.intro (@deg_nilf) (@isTup_nilf))))) (And.intro (And.intro (And.intro (@cellsOf_nilf) (And.intro (@deg_opq) (@isTup_opq))) (And.intro (@cellsOf_opq) (And.intro (@deg_frn) (@isTup_frn)))) (And.intro (And.intro (@cellsOf_frn) (And.intro (@deg_ro) (@deg_clip))) (And.intro (And.intro (@deg_own) (@isTup_lst)) (And.intro (@cellsOf_lst) (@Option.map_some.{0, 0}))))))) (And.intro (And.intro (And.intro (And.intro (And.intro (@Option.map_none.{0, 0}) (And.intro (@Nat.zero_mul) (@Nat.add_zero))) (And.intro (@Nat.zero_add) (And.intro (@Nat.mul_one) (@Nat.succ_ne_self)))) (And.intro (And.intro (@Nat.one_ne_zero) (And.intro (@Nat.zero_ne_one) (@List.length_cons.{0}))) (And.intro (@List.length_nil.{0}) (And.intro (@List.set_cons_zero.{0}) (@List.set_cons_succ.{0}))))) (And.intro (And.intro (And.intro (@List.getElem?_cons_zero.{0}) (And.intro (@List.getElem?_cons_succ.{0}) (@List.getElem?_nil.{0}))) (And.intro (@List.drop_zero.{0}) (And.intro (@List.drop_succ_cons.{0}) (@List.take_succ_cons.{0})))) (And.intro (And.intro (@List.take_zero.{0}) (And.intro (@List.map_cons.{0, 0}) (@List.map_nil.{0, 0}))) (And.intro (And.intro (@List.nil_append.{0}) (@List.append_nil.{0})) (And.intro (@List.cons_append.{0}) (@Bool.not_true)))))) (And.intro (And.intro (And.intro (And.intro (@Bool.not_false) (And.intro (@Bool.true_eq_false) (@Bool.false_eq_true))) (And.intro (@true_and) (And.intro (@and_true) (@and_self)))) (And.intro (And.intro (@true_implies) (And.intro (@false_implies) (@Bool.not_eq_true'))) (And.intro (@Bool.not_eq_false') (And.intro (@Bool.not_eq_eq_eq_not) (@decide_eq_true_eq))))) (And.intro (And.intro (And.intro (@decide_eq_false_iff_not) (And.intro (@Int.toNat_zero) (@not_true_eq_false))) (And.intro (@not_false_eq_true) (And.intro (@List.set_set.{0}) (@end_get)))) (And.intro (And.intro (@end_set) (And.intro (@ite_and) (@decide_true))) (And.intro (And.intro (@decide_false) (@Bool.not_eq_true)) (And.intro (@Bool.not_eq_false) (@Decidable.not_not)))))))))) :=
  And.intro (And.intro (And.intro (And.intro (And.intro (And.intro (And.intro (And.intro (@W_skip) (And.intro (@W_scope) (@W_dead))) (And.intro (@kscope_normal) (And.intro (@kscope_exit) (@kscope_ret)))) (And.intro (And.intro (@W_ops) (And.intro (@W_draw) (@W_drax))) (And.intro (@kdrax_eq) (And.intro (@fOk_nil) (@fOk_fld))))) (And.intro (And.intro (And.intro (@fOk_mv) (And.intro (@fOk_ext) (@fOk_store))) (And.intro (@W_seq) (And.intro (@W_cond2) (@W_block)))) (And.intro (And.intro (@W_exit) (And.intro (@W_ret) (@W_keep))) (And.intro (And.intro (@kseq_normal) (@kseq_exit)) (And.intro (@kseq_ret) (@kblock_normal)))))) (And.intro (And.intro (And.intro (And.intro (@kblock_exit) (And.intro (@kblock_ret) (@kloop_normal))) (And.intro (@kloop_exit) (And.intro (@kloop_ret) (@kret_normal)))) (And.intro (And.intro (@kret_ret) (And.intro (@kdraw_eq) (@kval_eq))) (And.intro (@kv_eq) (And.intro (@kput_eq) (@kbox_eq))))) (And.intro (And.intro (And.intro (@kobj_eq) (And.intro (@klst_eq) (@krow_eq))) (And.intro (@kcall_eq) (And.intro (@put_some) (@put_none)))) (And.intro (And.intro (@lk_cons') (And.intro (@lk_nil) (@restr_nil))) (And.intro (And.intro (@restr_cons) (@ev_t)) (And.intro (@ev_c) (@ev_f))))))) (And.intro (And.intro (And.intro (And.intro (And.intro (@evs_nil) (And.intro (@evs_cons) (@evD_none))) (And.intro (@evD_some) (And.intro (@degr_nil) (@degr_cons)))) (And.intro (And.intro (@args0_nil) (And.intro (@args0_cons) (@buildK_nil))) (And.intro (@buildK_cons) (And.intro (@upgK_nil) (@upgK_cons))))) (And.intro (And.intro (And.intro (@resL_nil) (And.intro (@resL_t) (@resL_c))) (And.intro (@res1_one) (And.intro (@res1_nil) (@res1_two)))) (And.intro (And.intro (@WOps_nil') (And.intro (@WOps_cons') (@WOps_gd2))) (And.intro (And.intro (@kops_eq') (@VOps_nil')) (And.intro (@VOps_cons') (@VOps_gd2)))))) (And.intro (And.intro (And.intro (And.intro (@VOps_ft') (And.intro (@VOps_gdft2) (@apart_nil))) (And.intro (@apart_cons) (And.intro (@ptrId_ptr) (@ptrId_hs)))) (And.intro (And.intro (@sameId_eq) (And.intro (@fbId_s) (@fbId_h))) (And.intro (@effF_load) (And.intro (@effF_loado) (@effF_store))))) (And.intro (And.intro (And.intro (@effF_stores) (And.intro (@effF_storeo) (@effF_calli))) (And.intro (@effF_new) (And.intro (@effF_box) (@effF_mkn)))) (And.intro (And.intro (@W_holes) (And.intro (@rep2) (@rep3))) (And.intro (And.intro (@kvops_eq') (@splice_cons')) (And.intro (@splice_nil') (@wop_mv)))))))) (And.intro (And.intro (And.intro (And.intro (And.intro (And.intro (@eff_mv) (And.intro (@wop_pick2) (@eff_pick2))) (And.intro (@wop_build) (And.intro (@eff_build) (@wop_load)))) (And.intro (And.intro (@eff_load) (And.intro (@wop_lds) (@eff_lds))) (And.intro (@wop_nilck) (And.intro (@eff_nilck) (@wop_bin))))) (And.intro (And.intro (And.intro (@eff_bin) (And.intro (@wop_pnil) (@eff_pnil))) (And.intro (@wop_bbin) (And.intro (@eff_bbin) (@wop_not)))) (And.intro (And.intro (@eff_not) (And.intro (@wop_conv) (@eff_conv))) (And.intro (And.intro (@wop_cstr) (@eff_cstr)) (And.intro (@wop_b2s) (@eff_b2s)))))) (And.intro (And.intro (And.intro (And.intro (@wop_fld) (And.intro (@eff_fld) (@wop_idxa))) (And.intro (@eff_idxa) (And.intro (@wop_idxs) (@eff_idxs)))) (And.intro (And.intro (@wop_slcs) (And.intro (@eff_slcs) (@wop_slcl))) (And.intro (@eff_slcl) (And.intro (@wop_ext) (@eff_ext))))) (And.intro (And.intro (And.intro (@wop_lens) (And.intro (@eff_lens) (@wop_lenl))) (And.intro (@eff_lenl) (And.intro (@wop_mn) (@eff_mn)))) (And.intro (And.intro (@wop_mx) (And.intro (@eff_mx) (@wop_ex))) (And.intro (And.intro (@eff_ex) (@wop_mkfn)) (And.intro (@eff_mkfn) (@wop_mvu))))))) (And.intro (And.intro (And.intro (And.intro (And.intro (@eff_mvu) (And.intro (@wop_mvo) (@eff_mvo))) (And.intro (@wop_new) (And.intro (@eff_new) (@wop_box)))) (And.intro (And.intro (@eff_box) (And.intro (@wop_bsl) (@eff_bsl))) (And.intro (@wop_mk0) (And.intro (@eff_mk0) (@wop_mkn))))) (And.intro (And.intro (And.intro (@eff_mkn) (And.intro (@wop_loado) (@eff_loado))) (And.intro (@wop_app) (And.intro (@eff_app) (@wop_appo)))) (And.intro (And.intro (@eff_appo) (And.intro (@wop_appso) (@eff_appso))) (And.intro (And.intro (@wop_bar) (@wop_bslc)) (And.intro (@wop_b2h) (@rowB_lst)))))) (And.intro (And.intro (And.intro (And.intro (@rowB_hsc) (And.intro (@wop_bsh) (@wop_store))) (And.intro (@wop_storeo) (And.intro (@wop_stores) (@eff_store)))) (And.intro (And.intro (@eff_storeo) (And.intro (@eff_stores) (@wop_rngs))) (And.intro (@wop_nxt) (And.intro (@wop_call) (@eff_call))))) (And.intro (And.intro (And.intro (@wop_calli) (And.intro (@eff_calli) (@wop_snil))) (And.intro (@eff_snil) (And.intro (@wop_storeu) (@tk_mv)))) (And.intro (And.intro (@tk_pick) (And.intro (@tk_build) (@tk_load))) (And.intro (And.intro (@tk_lds) (@tk_nilck)) (And.intro (@tk_bin) (@tk_pnil))))))))) (And.intro (And.intro (And.intro (And.intro (And.intro (And.intro (And.intro (@tk_bbin) (And.intro (@tk_not) (@tk_conv))) (And.intro (@tk_cstr) (And.intro (@tk_b2s) (@tk_fld)))) (And.intro (And.intro (@tk_idxa) (And.intro (@tk_idxs) (@tk_slcs))) (And.intro (@tk_slcl) (And.intro (@tk_ext) (@tk_lens))))) (And.intro (And.intro (And.intro (@tk_lenl) (And.intro (@tk_mn) (@tk_mx))) (And.intro (@tk_ex) (And.intro (@tk_mkfn) (@tk_mvu)))) (And.intro (And.intro (@tk_mvo) (And.intro (@tk_new) (@tk_box))) (And.intro (And.intro (@tk_bsl) (@tk_mk0)) (And.intro (@tk_mkn) (@tk_loado)))))) (And.intro (And.intro (And.intro (And.intro (@tk_app) (And.intro (@tk_appo) (@tk_appso))) (And.intro (@tk_store) (And.intro (@tk_storeo) (@tk_call)))) (And.intro (And.intro (@tk_stores) (And.intro (@tk_calli) (@tk_snil))) (And.intro (@ex_wadd) (And.intro (@ex_wsub) (@ex_wmul))))) (And.intro (And.intro (And.intro (@ex_aeq) (And.intro (@ex_r2s) (@ex_ibs))) (And.intro (@ex_mkb) (And.intro (@deg_itr) (@ex_zag)))) (And.intro (And.intro (@wop_apc) (And.intro (@obind) (@rowA_lst))) (And.intro (And.intro (@isLst_lst) (@rowA_hs)) (And.intro (@wop_slch) (@wop_aph))))))) (And.intro (And.intro (And.intro (And.intro (And.intro (@wop_mmv) (And.intro (@wop_mra) (@wop_cpy))) (And.intro (@eff_cpy) (And.intro (@tk_cpy) (@deg_omp)))) (And.intro (And.intro (@deg_mp) (And.intro (@isTup_mp) (@cellsOf_mp))) (And.intro (@deg_fmp) (And.intro (@isTup_fmp) (@cellsOf_fmp))))) (And.intro (And.intro (And.intro (@wop_mmk) (And.intro (@wop_mup) (@wop_mfz))) (And.intro (@ex_mlk) (And.intro (@ex_idp) (@ex_sla)))) (And.intro (And.intro (@int_add) (And.intro (@int_sub) (@int_mul))) (And.intro (And.intro (@int_quo) (@int_rem)) (And.intro (@int_and) (@int_andNot)))))) (And.intro (And.intro (And.intro (And.intro (@int_or) (And.intro (@int_xor) (@int_eql))) (And.intro (@int_neq) (And.intro (@int_lss) (@int_leq)))) (And.intro (And.intro (@int_gtr) (And.intro (@int_geq) (@int_shl))) (And.intro (@int_shr) (And.intro (@str_add) (@str_eql))))) (And.intro (And.intro (And.intro (@str_neq) (And.intro (@str_lss) (@arith_i8))) (And.intro (@arith_i16) (And.intro (@arith_i32) (@arith_u8)))) (And.intro (And.intro (@arith_u16) (And.intro (@arith_u32) (@arith_u64))) (And.intro (And.intro (@arith_i64) (@loadK_none)) (And.intro (@loadK_some) (@deg_bool)))))))) (And.intro (And.intro (And.intro (And.intro (And.intro (And.intro (@isTup_bool) (And.intro (@cellsOf_bool) (@deg_int))) (And.intro (@isTup_int) (And.intro (@cellsOf_int) (@deg_str)))) (And.intro (And.intro (@isTup_str) (And.intro (@cellsOf_str) (@deg_nilp))) (And.intro (@isTup_nilp) (And.intro (@cellsOf_nilp) (@deg_ptr))))) (And.intro (And.intro (And.intro (@isTup_ptr) (And.intro (@cellsOf_ptr) (@deg_fp))) (And.intro (@isTup_fp) (And.intro (@cellsOf_fp) (@deg_hs)))) (And.intro (And.intro (@isTup_hs) (And.intro (@cellsOf_hs) (@deg_hsc))) (And.intro (And.intro (@isTup_hsc) (@cellsOf_hsc)) (And.intro (@deg_agg) (@isTup_agg)))))) (And.intro (And.intro (And.intro (And.intro (@cellsOf_agg) (And.intro (@deg_tup) (@isTup_tup))) (And.intro (@cellsOf_tup) (And.intro (@deg_fn) (@isTup_fn)))) (And.intro (And.intro (@cellsOf_fn) (And.intro (@deg_fnb) (@isTup_fnb))) (And.intro (@cellsOf_fnb) (And.intro (@deg_nilf) (@isTup_nilf))))) (And.intro (And.intro (And.intro (@cellsOf_nilf) (And.intro (@deg_opq) (@isTup_opq))) (And.intro (@cellsOf_opq) (And.intro (@deg_frn) (@isTup_frn)))) (And.intro (And.intro (@cellsOf_frn) (And.intro (@deg_ro) (@deg_clip))) (And.intro (And.intro (@deg_own) (@isTup_lst)) (And.intro (@cellsOf_lst) (@Option.map_some.{0, 0}))))))) (And.intro (And.intro (And.intro (And.intro (And.intro (@Option.map_none.{0, 0}) (And.intro (@Nat.zero_mul) (@Nat.add_zero))) (And.intro (@Nat.zero_add) (And.intro (@Nat.mul_one) (@Nat.succ_ne_self)))) (And.intro (And.intro (@Nat.one_ne_zero) (And.intro (@Nat.zero_ne_one) (@List.length_cons.{0}))) (And.intro (@List.length_nil.{0}) (And.intro (@List.set_cons_zero.{0}) (@List.set_cons_succ.{0}))))) (And.intro (And.intro (And.intro (@List.getElem?_cons_zero.{0}) (And.intro (@List.getElem?_cons_succ.{0}) (@List.getElem?_nil.{0}))) (And.intro (@List.drop_zero.{0}) (And.intro (@List.drop_succ_cons.{0}) (@List.take_succ_cons.{0})))) (And.intro (And.intro (@List.take_zero.{0}) (And.intro (@List.map_cons.{0, 0}) (@List.map_nil.{0, 0}))) (And.intro (And.intro (@List.nil_append.{0}) (@List.append_nil.{0})) (And.intro (@List.cons_append.{0}) (@Bool.not_true)))))) (And.intro (And.intro (And.intro (And.intro (@Bool.not_false) (And.intro (@Bool.true_eq_false) (@Bool.false_eq_true))) (And.intro (@true_and) (And.intro (@and_true) (@and_self)))) (And.intro (And.intro (@true_implies) (And.intro (@false_implies) (@Bool.not_eq_true'))) (And.intro (@Bool.not_eq_false') (And.intro (@Bool.not_eq_eq_eq_not) (@decide_eq_true_eq))))) (And.intro (And.intro (And.intro (@decide_eq_false_iff_not) (And.intro (@Int.toNat_zero) (@not_true_eq_false))) (And.intro (@not_false_eq_true) (And.intro (@List.set_set.{0}) (@end_get)))) (And.intro (And.intro (@end_set) (And.intro (@ite_and) (@decide_true))) (And.intro (And.intro (@decide_false) (@Bool.not_eq_true)) (And.intro (@Bool.not_eq_false) (@Decidable.not_not)))))))))
end Go.Proofs.Ytlfnepcglnjogaa

namespace Go.Proofs.Ytlfnepcglnjogaa
open Go.RowKit
def J_law14_ModelSound_j1 : ACode :=
 .keep [] (.seq (.ops [⟨some 8, none, .mv (.c (.bool true)), none⟩])
 (.ret))
def J_law14_ModelSound_j2 : ACode :=
 .keep [4, 149, 150, 151] (.ops [⟨some 169, none, .bin .add (.t 151) (.c (.int .i64 1)), none⟩,
 ⟨some 151, none, .mv (.t 169), none⟩])
def J_law14_ModelSound_j3 : ACode :=
 .seq (.ops [⟨some 152, none, .bin .lss (.t 151) (.t 150), none⟩])
 (.keep [4, 149, 150, 151, 152] (.seq (.cond (.t 152)
 (.skip)
 (.exit 6))
 (.keep [4, 149, 150, 151] (.seq (.block 7 (.seq (.ops [⟨some 153, none, .idxa 2 (.t 149) (.t 151), none⟩,
 ⟨some 154, none, .load (some 2) (.t 153), none⟩,
 ⟨some 26, none, .new [(.str ⟨#[]⟩), (.str ⟨#[]⟩)] [], none⟩,
 ⟨none, none, .stores 2 (.t 26) (.t 154), none⟩])
 (.keep [4, 26, 149, 150, 151] (.seq (.ops [⟨some 155, none, .load (some 2) (.t 26), none⟩,
 ⟨some 156, none, .call (.f 18) [(.t 155)], none⟩])
 (.keep [4, 26, 149, 150, 151, 156] (.cond (.t 156)
 (.seq (.ops [⟨some 158, none, .load (some 2) (.t 4), none⟩,
 ⟨some 159, none, .load (some 2) (.t 26), none⟩,
 ⟨some 160, none, .call (.f 14) [(.t 158), (.t 159)], none⟩,
 ⟨some 157, none, .mv (.t 160), none⟩,
 ⟨some 161, none, .ext 0 (.t 157), none⟩,
 ⟨some 162, none, .ext 1 (.t 157), none⟩,
 ⟨some 27, none, .mv (.t 161), none⟩,
 ⟨some 28, none, .mv (.t 162), none⟩])
 (.keep [4, 27, 28, 149, 150, 151] (.seq (.ops [⟨some 163, none, .mv (.t 27), none⟩,
 ⟨some 164, none, .not (.t 163), none⟩,
 ⟨some 165, none, .mv (.t 164), none⟩,
 ⟨some 166, (some (165, false)), .mv (.t 28), none⟩,
 ⟨some 167, (some (165, false)), .bin .neq (.t 166) (.c (.int .i64 0)), none⟩,
 ⟨some 168, none, .pick (.t 165) (.c (.bool true)) (.t 167), none⟩])
 (.keep [4, 149, 150, 151, 168] (.cond (.t 168)
 (.seq (.ops [⟨some 8, none, .mv (.c (.bool false)), none⟩])
 (.ret))
 (.skip))))))
 (.skip)))))))
 (J_law14_ModelSound_j2)))))
def J_law14_ModelSound_j4 : ACode :=
 .keep [4, 17] (.seq (.seq (.ops [⟨some 148, none, .fld 1 (.t 17), none⟩,
 ⟨some 149, none, .load none (.t 148), none⟩,
 ⟨some 150, none, .lenl (.t 149), none⟩,
 ⟨some 151, none, .mv (.c (.int .i64 0)), none⟩])
 (.keep [4, 149, 150, 151] (.block 6 (.loop [4, 149, 150, 151] (J_law14_ModelSound_j3)))))
 (J_law14_ModelSound_j1))
def J_law14_ModelSound_j5 : ACode :=
 .seq (.ops [⟨some 129, none, .bin .lss (.t 128) (.t 127), none⟩])
 (.keep [3, 4, 17, 126, 127, 128, 129] (.seq (.cond (.t 129)
 (.skip)
 (.exit 4))
 (.keep [3, 4, 17, 126, 127, 128] (.seq (.block 5 (.seq (.ops [⟨some 130, none, .idxa 1 (.t 126) (.t 128), none⟩,
 ⟨some 131, none, .load none (.t 130), none⟩,
 ⟨some 22, none, .mv (.t 131), none⟩])
 (.keep [3, 4, 17, 22, 126, 127, 128] (.seq (.ops [⟨some 133, none, .load (some 2) (.t 4), none⟩,
 ⟨some 134, none, .mv (.t 22), none⟩,
 ⟨some 135, none, .bsl 27 1 1 [(.str ⟨#[]⟩)] [(0, 1, (.t 134))], none⟩,
 ⟨some 136, none, .mv (.t 3), none⟩,
 ⟨some 137, none, .bsl 27 1 1 [(.str ⟨#[]⟩)] [(0, 1, (.t 136))], none⟩,
 ⟨some 138, none, .call (.f 16) [(.t 133), (.t 135), (.t 137)], none⟩,
 ⟨some 132, none, .mv (.t 138), none⟩,
 ⟨some 139, none, .ext 0 (.t 132), none⟩,
 ⟨some 140, none, .ext 1 (.t 132), none⟩,
 ⟨some 23, none, .mv (.t 139), none⟩,
 ⟨some 24, none, .mv (.t 140), none⟩])
 (.keep [3, 4, 17, 23, 24, 126, 127, 128] (.seq (.ops [⟨some 141, none, .mv (.t 23), none⟩,
 ⟨some 142, none, .not (.t 141), none⟩,
 ⟨some 143, none, .mv (.t 142), none⟩,
 ⟨some 144, (some (143, false)), .mv (.t 24), none⟩,
 ⟨some 145, (some (143, false)), .bin .neq (.t 144) (.c (.int .i64 0)), none⟩,
 ⟨some 146, none, .pick (.t 143) (.c (.bool true)) (.t 145), none⟩])
 (.keep [3, 4, 17, 126, 127, 128, 146] (.cond (.t 146)
 (.seq (.ops [⟨some 8, none, .mv (.c (.bool false)), none⟩])
 (.ret))
 (.skip)))))))))
 (.keep [3, 4, 17, 126, 127, 128] (.ops [⟨some 147, none, .bin .add (.t 128) (.c (.int .i64 1)), none⟩,
 ⟨some 128, none, .mv (.t 147), none⟩]))))))
def J_law14_ModelSound_j6 : ACode :=
 .keep [1, 2, 3, 4] (.seq (.ops [⟨some 110, none, .mv (.t 1), none⟩,
 ⟨some 111, none, .mv (.t 2), none⟩,
 ⟨some 112, none, .call (.f 20) [(.t 110), (.t 111), (.c (.int .i64 40))], none⟩,
 ⟨some 109, none, .mv (.t 112), none⟩,
 ⟨some 113, none, .ext 0 (.t 109), none⟩,
 ⟨some 114, none, .ext 1 (.t 109), none⟩,
 ⟨some 17, none, .new [(.lst .clip 0 []), (.lst .clip 0 [])] [], none⟩,
 ⟨none, none, .stores 2 (.t 17) (.t 113), none⟩,
 ⟨some 18, none, .mv (.t 114), none⟩])
 (.keep [3, 4, 17, 18] (.seq (.seq (.ops [⟨some 115, none, .mv (.t 18), none⟩,
 ⟨some 116, none, .bin .neq (.t 115) (.c (.int .i64 0)), none⟩])
 (.keep [3, 4, 17, 116] (.cond (.t 116)
 (.seq (.ops [⟨some 8, none, .mv (.c (.bool true)), none⟩])
 (.ret))
 (.skip))))
 (.keep [3, 4, 17] (.seq (.ops [⟨some 118, none, .fld 1 (.t 17), none⟩,
 ⟨some 119, none, .load none (.t 118), none⟩,
 ⟨some 120, none, .mv (.t 3), none⟩,
 ⟨some 121, none, .call (.f 21) [(.t 119), (.t 120), (.c (.int .i64 40))], none⟩,
 ⟨some 117, none, .mv (.t 121), none⟩,
 ⟨some 122, none, .ext 0 (.t 117), none⟩,
 ⟨some 123, none, .ext 1 (.t 117), none⟩,
 ⟨some 19, none, .mv (.t 122), none⟩,
 ⟨some 20, none, .mv (.t 123), none⟩])
 (.keep [3, 4, 17, 19, 20] (.seq (.seq (.ops [⟨some 124, none, .mv (.t 20), none⟩,
 ⟨some 125, none, .bin .neq (.t 124) (.c (.int .i64 0)), none⟩])
 (.keep [3, 4, 17, 19, 125] (.cond (.t 125)
 (.seq (.ops [⟨some 8, none, .mv (.c (.bool true)), none⟩])
 (.ret))
 (.skip))))
 (.keep [3, 4, 17, 19] (.seq (.seq (.ops [⟨some 126, none, .mv (.t 19), none⟩,
 ⟨some 127, none, .lenl (.t 126), none⟩,
 ⟨some 128, none, .mv (.c (.int .i64 0)), none⟩])
 (.keep [3, 4, 17, 126, 127, 128] (.block 4 (.loop [3, 4, 17, 126, 127, 128] (J_law14_ModelSound_j5)))))
 (J_law14_ModelSound_j4))))))))))
def J_law14_ModelSound_j7 : ACode :=
 .seq (.ops [⟨some 85, none, .bin .lss (.t 84) (.t 83), none⟩])
 (.keep [1, 2, 3, 4, 82, 83, 84, 85] (.seq (.cond (.t 85)
 (.skip)
 (.exit 2))
 (.keep [1, 2, 3, 4, 82, 83, 84] (.seq (.block 3 (.seq (.ops [⟨some 86, none, .idxa 7 (.t 82) (.t 84), none⟩,
 ⟨some 87, none, .load (some 7) (.t 86), none⟩,
 ⟨some 14, none, .new [(.int .i64 0), (.int .u16 0), (.str ⟨#[]⟩), (.lst .clip 0 []), (.int .i64 0), (.int .i64 0), (.int .i64 0)] [], none⟩,
 ⟨none, none, .stores 7 (.t 14) (.t 87), none⟩])
 (.keep [1, 2, 3, 4, 14, 82, 83, 84] (.seq (.seq (.ops [⟨some 88, none, .load (some 2) (.t 4), none⟩,
 ⟨some 89, none, .fld 3 (.t 14), none⟩,
 ⟨some 90, none, .load none (.t 89), none⟩,
 ⟨some 91, none, .fld 2 (.t 14), none⟩,
 ⟨some 92, none, .load none (.t 91), none⟩,
 ⟨some 93, none, .bsl 27 1 1 [(.str ⟨#[]⟩)] [(0, 1, (.t 92))], none⟩,
 ⟨some 94, none, .bsl 26 1 2 [(.lst .clip 0 []), (.lst .clip 0 [])] [(0, 1, (.t 90)), (1, 1, (.t 93))], none⟩,
 ⟨some 95, none, .call (.f 6) [(.t 88), (.t 94)], none⟩])
 (.keep [1, 2, 3, 4, 14, 82, 83, 84, 95] (.cond (.t 95)
 (.seq (.ops [⟨some 8, none, .mv (.c (.bool true)), none⟩])
 (.ret))
 (.skip))))
 (.keep [1, 2, 3, 4, 14, 82, 83, 84] (.seq (.ops [⟨some 97, none, .load (some 2) (.t 4), none⟩,
 ⟨some 98, none, .load (some 7) (.t 14), none⟩,
 ⟨some 99, none, .call (.f 19) [(.t 97), (.t 98)], none⟩,
 ⟨some 96, none, .mv (.t 99), none⟩,
 ⟨some 100, none, .ext 0 (.t 96), none⟩,
 ⟨some 101, none, .ext 1 (.t 96), none⟩,
 ⟨some 15, none, .mv (.t 100), none⟩,
 ⟨some 16, none, .mv (.t 101), none⟩])
 (.keep [1, 2, 3, 4, 15, 16, 82, 83, 84] (.seq (.ops [⟨some 102, none, .mv (.t 15), none⟩,
 ⟨some 103, none, .not (.t 102), none⟩,
 ⟨some 104, none, .mv (.t 103), none⟩,
 ⟨some 105, (some (104, false)), .mv (.t 16), none⟩,
 ⟨some 106, (some (104, false)), .bin .neq (.t 105) (.c (.int .i64 0)), none⟩,
 ⟨some 107, none, .pick (.t 104) (.c (.bool true)) (.t 106), none⟩])
 (.keep [1, 2, 3, 4, 82, 83, 84, 107] (.cond (.t 107)
 (.seq (.ops [⟨some 8, none, .mv (.c (.bool true)), none⟩])
 (.ret))
 (.skip)))))))))))
 (.keep [1, 2, 3, 4, 82, 83, 84] (.ops [⟨some 108, none, .bin .add (.t 84) (.c (.int .i64 1)), none⟩,
 ⟨some 84, none, .mv (.t 108), none⟩]))))))
def J_law14_ModelSound_j8 : ACode :=
 .keep [1, 2, 3, 4] (.seq (.seq (.ops [⟨some 82, none, .mv (.t 2), none⟩,
 ⟨some 83, none, .lenl (.t 82), none⟩,
 ⟨some 84, none, .mv (.c (.int .i64 0)), none⟩])
 (.keep [1, 2, 3, 4, 82, 83, 84] (.block 2 (.loop [1, 2, 3, 4, 82, 83, 84] (J_law14_ModelSound_j7)))))
 (J_law14_ModelSound_j6))
def J_law14_ModelSound_j9 : ACode :=
 .seq (.ops [⟨some 54, none, .bin .lss (.t 53) (.t 52), none⟩])
 (.keep [1, 2, 3, 4, 51, 52, 53, 54] (.seq (.cond (.t 54)
 (.skip)
 (.exit 0))
 (.keep [1, 2, 3, 4, 51, 52, 53] (.seq (.block 1 (.seq (.ops [⟨some 55, none, .idxa 2 (.t 51) (.t 53), none⟩,
 ⟨some 56, none, .load (some 2) (.t 55), none⟩,
 ⟨some 10, none, .new [(.str ⟨#[]⟩), (.str ⟨#[]⟩)] [], none⟩,
 ⟨none, none, .stores 2 (.t 10) (.t 56), none⟩])
 (.keep [1, 2, 3, 4, 10, 51, 52, 53] (.seq (.seq (.ops [⟨some 57, none, .load (some 2) (.t 4), none⟩,
 ⟨some 58, none, .fld 0 (.t 10), none⟩,
 ⟨some 59, none, .load none (.t 58), none⟩,
 ⟨some 60, none, .fld 1 (.t 10), none⟩,
 ⟨some 61, none, .load none (.t 60), none⟩,
 ⟨some 62, none, .bsl 27 1 2 [(.str ⟨#[]⟩), (.str ⟨#[]⟩)] [(0, 1, (.t 59)), (1, 1, (.t 61))], none⟩,
 ⟨some 63, none, .bsl 26 1 1 [(.lst .clip 0 [])] [(0, 1, (.t 62))], none⟩,
 ⟨some 64, none, .call (.f 6) [(.t 57), (.t 63)], none⟩])
 (.keep [1, 2, 3, 4, 10, 51, 52, 53, 64] (.cond (.t 64)
 (.seq (.ops [⟨some 8, none, .mv (.c (.bool true)), none⟩])
 (.ret))
 (.skip))))
 (.keep [1, 2, 3, 4, 10, 51, 52, 53] (.seq (.ops [⟨some 66, none, .load (some 2) (.t 4), none⟩,
 ⟨some 67, none, .load (some 2) (.t 10), none⟩,
 ⟨some 68, none, .call (.f 14) [(.t 66), (.t 67)], none⟩,
 ⟨some 65, none, .mv (.t 68), none⟩,
 ⟨some 69, none, .ext 0 (.t 65), none⟩,
 ⟨some 70, none, .ext 1 (.t 65), none⟩,
 ⟨some 11, none, .mv (.t 69), none⟩,
 ⟨some 12, none, .mv (.t 70), none⟩])
 (.keep [1, 2, 3, 4, 10, 11, 12, 51, 52, 53] (.seq (.ops [⟨some 71, none, .load (some 2) (.t 10), none⟩,
 ⟨some 72, none, .call (.f 18) [(.t 71)], none⟩,
 ⟨some 73, none, .mv (.t 72), none⟩,
 ⟨some 74, (some (73, true)), .mv (.t 11), none⟩,
 ⟨some 75, (some (73, true)), .not (.t 74), none⟩,
 ⟨some 76, (some (73, true)), .mv (.t 75), none⟩,
 ⟨some 77, (some (76, false)), .mv (.t 12), none⟩,
 ⟨some 78, (some (76, false)), .bin .neq (.t 77) (.c (.int .i64 0)), none⟩,
 ⟨some 79, (some (73, true)), .pick (.t 76) (.c (.bool true)) (.t 78), none⟩,
 ⟨some 80, none, .pick (.t 73) (.t 79) (.c (.bool false)), none⟩])
 (.keep [1, 2, 3, 4, 51, 52, 53, 80] (.cond (.t 80)
 (.seq (.ops [⟨some 8, none, .mv (.c (.bool true)), none⟩])
 (.ret))
 (.skip)))))))))))
 (.keep [1, 2, 3, 4, 51, 52, 53] (.ops [⟨some 81, none, .bin .add (.t 53) (.c (.int .i64 1)), none⟩,
 ⟨some 53, none, .mv (.t 81), none⟩]))))))
def J_law14_ModelSound : AFn :=
 ⟨170, [.t 8], .seq (.ops [⟨some 4, none, .box (.t 0) [], none⟩,
 ⟨some 8, none, .mv (.c (.bool false)), none⟩])
 (.keep [1, 2, 3, 4] (.seq (.seq (.ops [⟨some 29, none, .call (.f 5) [], none⟩,
 ⟨some 30, none, .not (.t 29), none⟩])
 (.keep [1, 2, 3, 4, 30] (.cond (.t 30)
 (.seq (.ops [⟨some 8, none, .mv (.c (.bool false)), none⟩])
 (.ret))
 (.skip))))
 (.keep [1, 2, 3, 4] (.seq (.seq (.ops [⟨some 31, none, .load (some 2) (.t 4), none⟩,
 ⟨some 32, none, .mv (.t 3), none⟩,
 ⟨some 33, none, .bsl 27 1 1 [(.str ⟨#[]⟩)] [(0, 1, (.t 32))], none⟩,
 ⟨some 34, none, .bsl 26 1 1 [(.lst .clip 0 [])] [(0, 1, (.t 33))], none⟩,
 ⟨some 35, none, .call (.f 6) [(.t 31), (.t 34)], none⟩,
 ⟨some 36, none, .mv (.t 35), none⟩,
 ⟨some 37, (some (36, false)), .load (some 2) (.t 4), none⟩,
 ⟨some 38, (some (36, false)), .call (.f 8) [(.t 37)], none⟩,
 ⟨some 39, (some (36, false)), .not (.t 38), none⟩,
 ⟨some 40, none, .pick (.t 36) (.c (.bool true)) (.t 39), none⟩,
 ⟨some 41, none, .mv (.t 40), none⟩,
 ⟨some 42, (some (41, false)), .mv (.t 1), none⟩,
 ⟨some 43, (some (41, false)), .lenl (.t 42), none⟩,
 ⟨some 44, (some (41, false)), .bin .gtr (.t 43) (.c (.int .i64 12)), none⟩,
 ⟨some 45, none, .pick (.t 41) (.c (.bool true)) (.t 44), none⟩,
 ⟨some 46, none, .mv (.t 45), none⟩,
 ⟨some 47, (some (46, false)), .mv (.t 2), none⟩,
 ⟨some 48, (some (46, false)), .lenl (.t 47), none⟩,
 ⟨some 49, (some (46, false)), .bin .gtr (.t 48) (.c (.int .i64 8)), none⟩,
 ⟨some 50, none, .pick (.t 46) (.c (.bool true)) (.t 49), none⟩])
 (.keep [1, 2, 3, 4, 50] (.cond (.t 50)
 (.seq (.ops [⟨some 8, none, .mv (.c (.bool true)), none⟩])
 (.ret))
 (.skip))))
 (.keep [1, 2, 3, 4] (.seq (.seq (.ops [⟨some 51, none, .mv (.t 1), none⟩,
 ⟨some 52, none, .lenl (.t 51), none⟩,
 ⟨some 53, none, .mv (.c (.int .i64 0)), none⟩])
 (.keep [1, 2, 3, 4, 51, 52, 53] (.block 0 (.loop [1, 2, 3, 4, 51, 52, 53] (J_law14_ModelSound_j9)))))
 (J_law14_ModelSound_j8)))))))⟩
theorem J_law14_ModelSound_ok : chkFn Try.prog 4 J_law14_ModelSound = true := by kernel_rfl
def J_law14_awake : AFn :=
 ⟨129, [.t 0], .seq (.ops [⟨some 0, none, .mv (.c (.bool false)), none⟩])
 (.keep [] (.seq (.ops [⟨some 16, none, .bsl 51 1 1 [(.int .u16 0)] [(0, 1, (.c (.int .u16 8193)))], none⟩,
 ⟨some 17, none, .call (.f 22) [(.t 16)], none⟩,
 ⟨some 18, none, .bsl 51 1 1 [(.int .u16 0)] [(0, 1, (.c (.int .u16 8194)))], none⟩,
 ⟨some 19, none, .call (.f 22) [(.t 18)], none⟩,
 ⟨some 1, none, .mv (.t 17), none⟩,
 ⟨some 2, none, .mv (.t 19), none⟩])
 (.keep [1, 2] (.seq (.ops [⟨some 20, none, .bsl 5 1 2 [(.int .u8 0), (.int .u8 0)] [(0, 1, (.c (.int .u8 2))), (1, 1, (.c (.int .u8 0)))], none⟩,
 ⟨some 21, none, .build [(.int .u16 0), (.lst .clip 0 [])] [(0, 1, (.c (.int .u16 8193))), (1, 1, (.t 20))], none⟩,
 ⟨some 22, none, .bsl 5 1 2 [(.int .u8 0), (.int .u8 0)] [(0, 1, (.c (.int .u8 0))), (1, 1, (.c (.int .u8 1)))], none⟩,
 ⟨some 23, none, .build [(.int .u16 0), (.lst .clip 0 [])] [(0, 1, (.c (.int .u16 8194))), (1, 1, (.t 22))], none⟩,
 ⟨some 24, none, .bsl 53 2 2 [(.int .u16 0), (.lst .clip 0 []), (.int .u16 0), (.lst .clip 0 [])] [(0, 2, (.t 21)), (2, 2, (.t 23))], none⟩,
 ⟨some 25, none, .build [(.int .i64 0), (.lst .clip 0 [])] [(0, 1, (.c (.int .i64 2))), (1, 1, (.t 24))], none⟩,
 ⟨some 3, none, .new [(.int .i64 0), (.lst .clip 0 [])] [], none⟩,
 ⟨none, none, .stores 2 (.t 3) (.t 25), none⟩])
 (.keep [1, 2, 3] (.seq (.ops [⟨some 27, none, .load (some 2) (.t 3), none⟩,
 ⟨some 28, none, .mv (.t 1), none⟩,
 ⟨some 29, none, .mv (.t 2), none⟩,
 ⟨some 30, none, .bin .add (.t 28) (.t 29), none⟩,
 ⟨some 31, none, .call (.f 10) [(.t 27), (.t 30)], none⟩,
 ⟨some 26, none, .mv (.t 31), none⟩,
 ⟨some 32, none, .ext 0 (.t 26), none⟩,
 ⟨some 33, none, .ext 1 (.t 26), none⟩,
 ⟨some 4, none, .mv (.t 32), none⟩,
 ⟨some 5, none, .mv (.t 33), none⟩])
 (.keep [1, 2, 3, 4, 5] (.seq (.ops [⟨some 35, none, .load (some 2) (.t 3), none⟩,
 ⟨some 36, none, .mv (.t 1), none⟩,
 ⟨some 37, none, .mv (.t 2), none⟩,
 ⟨some 38, none, .bsl 27 1 2 [(.str ⟨#[]⟩), (.str ⟨#[]⟩)] [(0, 1, (.t 36)), (1, 1, (.t 37))], none⟩,
 ⟨some 39, none, .call (.f 12) [(.t 35), (.t 38)], none⟩,
 ⟨some 34, none, .mv (.t 39), none⟩,
 ⟨some 40, none, .ext 0 (.t 34), none⟩,
 ⟨some 41, none, .ext 1 (.t 34), none⟩,
 ⟨some 6, none, .mv (.t 40), none⟩,
 ⟨some 7, none, .mv (.t 41), none⟩])
 (.keep [1, 2, 3, 4, 5, 6, 7] (.seq (.ops [⟨some 43, none, .load (some 2) (.t 3), none⟩,
 ⟨some 44, none, .mv (.t 1), none⟩,
 ⟨some 45, none, .mv (.t 2), none⟩,
 ⟨some 46, none, .bin .add (.t 44) (.t 45), none⟩,
 ⟨some 47, none, .mv (.t 1), none⟩,
 ⟨some 48, none, .build [(.str ⟨#[]⟩), (.str ⟨#[]⟩)] [(0, 1, (.t 46)), (1, 1, (.t 47))], none⟩,
 ⟨some 49, none, .call (.f 14) [(.t 43), (.t 48)], none⟩,
 ⟨some 42, none, .mv (.t 49), none⟩,
 ⟨some 50, none, .ext 0 (.t 42), none⟩,
 ⟨some 51, none, .ext 1 (.t 42), none⟩,
 ⟨some 8, none, .mv (.t 50), none⟩,
 ⟨some 9, none, .mv (.t 51), none⟩])
 (.keep [1, 2, 3, 4, 5, 6, 7, 8, 9] (.seq (.ops [⟨some 53, none, .load (some 2) (.t 3), none⟩,
 ⟨some 54, none, .mv (.t 1), none⟩,
 ⟨some 55, none, .mv (.t 2), none⟩,
 ⟨some 56, none, .bsl 27 1 2 [(.str ⟨#[]⟩), (.str ⟨#[]⟩)] [(0, 1, (.t 54)), (1, 1, (.t 55))], none⟩,
 ⟨some 57, none, .mv (.t 2), none⟩,
 ⟨some 58, none, .bsl 27 1 1 [(.str ⟨#[]⟩)] [(0, 1, (.t 57))], none⟩,
 ⟨some 59, none, .call (.f 16) [(.t 53), (.t 56), (.t 58)], none⟩,
 ⟨some 52, none, .mv (.t 59), none⟩,
 ⟨some 60, none, .ext 0 (.t 52), none⟩,
 ⟨some 61, none, .ext 1 (.t 52), none⟩,
 ⟨some 10, none, .mv (.t 60), none⟩,
 ⟨some 11, none, .mv (.t 61), none⟩])
 (.keep [1, 2, 3, 4, 5, 6, 7, 8, 9, 10, 11] (.seq (.ops [⟨some 63, none, .build [(.int .i64 0), (.lst .clip 0 [])] [], none⟩,
 ⟨some 64, none, .mv (.t 1), none⟩,
 ⟨some 65, none, .call (.f 10) [(.t 63), (.t 64)], none⟩,
 ⟨some 62, none, .mv (.t 65), none⟩,
 ⟨some 66, none, .ext 0 (.t 62), none⟩,
 ⟨some 67, none, .ext 1 (.t 62), none⟩,
 ⟨some 12, none, .mv (.t 66), none⟩,
 ⟨some 13, none, .mv (.t 67), none⟩])
 (.keep [1, 2, 3, 4, 5, 6, 7, 8, 9, 10, 11, 13] (.seq (.ops [⟨some 69, none, .load (some 2) (.t 3), none⟩,
 ⟨some 70, none, .mv (.t 2), none⟩,
 ⟨some 71, none, .mv (.t 1), none⟩,
 ⟨some 72, none, .bsl 27 1 1 [(.str ⟨#[]⟩)] [(0, 1, (.t 71))], none⟩,
 ⟨some 73, none, .build [(.int .i64 0), (.int .u16 0), (.str ⟨#[]⟩), (.lst .clip 0 []), (.int .i64 0), (.int .i64 0), (.int .i64 0)] [(0, 1, (.c (.int .i64 6))), (1, 1, (.c (.int .u16 8193))), (2, 1, (.t 70)), (3, 1, (.t 72))], none⟩,
 ⟨some 74, none, .call (.f 19) [(.t 69), (.t 73)], none⟩,
 ⟨some 68, none, .mv (.t 74), none⟩,
 ⟨some 75, none, .ext 0 (.t 68), none⟩,
 ⟨some 76, none, .ext 1 (.t 68), none⟩,
 ⟨some 14, none, .mv (.t 75), none⟩,
 ⟨some 15, none, .mv (.t 76), none⟩])
 (.keep [3, 4, 5, 6, 7, 8, 9, 10, 11, 13, 14, 15] (.seq (.ops [⟨some 77, none, .mv (.t 4), none⟩,
 ⟨some 78, none, .b2s (.t 77), none⟩,
 ⟨some 79, none, .bin .eql (.t 78) (.c (.str ⟨#[1, 0]⟩)), none⟩,
 ⟨some 80, none, .mv (.t 79), none⟩,
 ⟨some 81, (some (80, true)), .mv (.t 5), none⟩,
 ⟨some 82, (some (80, true)), .bin .eql (.t 81) (.c (.int .i64 0)), none⟩,
 ⟨some 83, none, .pick (.t 80) (.t 82) (.c (.bool false)), none⟩,
 ⟨some 84, none, .mv (.t 83), none⟩,
 ⟨some 85, (some (84, true)), .mv (.t 6), none⟩,
 ⟨some 86, (some (84, true)), .b2s (.t 85), none⟩,
 ⟨some 87, (some (84, true)), .bin .eql (.t 86) (.c (.str ⟨#[2, 1]⟩)), none⟩,
 ⟨some 88, none, .pick (.t 84) (.t 87) (.c (.bool false)), none⟩,
 ⟨some 89, none, .mv (.t 88), none⟩,
 ⟨some 90, (some (89, true)), .mv (.t 7), none⟩,
 ⟨some 91, (some (89, true)), .bin .eql (.t 90) (.c (.int .i64 0)), none⟩,
 ⟨some 92, none, .pick (.t 89) (.t 91) (.c (.bool false)), none⟩,
 ⟨some 93, none, .mv (.t 92), none⟩,
 ⟨some 94, (some (93, true)), .mv (.t 8), none⟩,
 ⟨some 95, (some (93, true)), .not (.t 94), none⟩,
 ⟨some 96, none, .pick (.t 93) (.t 95) (.c (.bool false)), none⟩,
 ⟨some 97, none, .mv (.t 96), none⟩,
 ⟨some 98, (some (97, true)), .mv (.t 9), none⟩,
 ⟨some 99, (some (97, true)), .bin .eql (.t 98) (.c (.int .i64 0)), none⟩,
 ⟨some 100, none, .pick (.t 97) (.t 99) (.c (.bool false)), none⟩,
 ⟨some 101, none, .mv (.t 100), none⟩,
 ⟨some 102, (some (101, true)), .mv (.t 10), none⟩,
 ⟨some 103, none, .pick (.t 101) (.t 102) (.c (.bool false)), none⟩,
 ⟨some 104, none, .mv (.t 103), none⟩,
 ⟨some 105, (some (104, true)), .mv (.t 11), none⟩,
 ⟨some 106, (some (104, true)), .bin .eql (.t 105) (.c (.int .i64 0)), none⟩,
 ⟨some 107, none, .pick (.t 104) (.t 106) (.c (.bool false)), none⟩,
 ⟨some 108, none, .mv (.t 107), none⟩,
 ⟨some 109, (some (108, true)), .mv (.t 13), none⟩,
 ⟨some 110, (some (108, true)), .bin .eql (.t 109) (.c (.int .i64 2)), none⟩,
 ⟨some 111, none, .pick (.t 108) (.t 110) (.c (.bool false)), none⟩,
 ⟨some 112, none, .mv (.t 111), none⟩,
 ⟨some 113, (some (112, true)), .mv (.t 14), none⟩,
 ⟨some 114, (some (112, true)), .not (.t 113), none⟩,
 ⟨some 115, none, .pick (.t 112) (.t 114) (.c (.bool false)), none⟩,
 ⟨some 116, none, .mv (.t 115), none⟩,
 ⟨some 117, (some (116, true)), .mv (.t 15), none⟩,
 ⟨some 118, (some (116, true)), .bin .eql (.t 117) (.c (.int .i64 0)), none⟩,
 ⟨some 119, none, .pick (.t 116) (.t 118) (.c (.bool false)), none⟩,
 ⟨some 120, none, .mv (.t 119), none⟩,
 ⟨some 121, (some (120, true)), .load (some 2) (.t 3), none⟩,
 ⟨some 122, (some (120, true)), .call (.f 8) [(.t 121)], none⟩,
 ⟨some 123, none, .pick (.t 120) (.t 122) (.c (.bool false)), none⟩,
 ⟨some 124, none, .mv (.t 123), none⟩,
 ⟨some 125, (some (124, true)), .build [(.int .i64 0), (.lst .clip 0 [])] [(0, 1, (.c (.int .i64 9)))], none⟩,
 ⟨some 126, (some (124, true)), .call (.f 8) [(.t 125)], none⟩,
 ⟨some 127, (some (124, true)), .not (.t 126), none⟩,
 ⟨some 128, none, .pick (.t 124) (.t 127) (.c (.bool false)), none⟩,
 ⟨some 0, none, .mv (.t 128), none⟩])
 (.ret)))))))))))))))))))⟩
theorem J_law14_awake_ok : chkFn Try.prog 5 J_law14_awake = true := by kernel_rfl
def J_law14_large_j1 : ACode :=
 .keep [] (.seq (.ops [⟨some 4, none, .mv (.c (.bool false)), none⟩])
 (.ret))
def J_law14_large_j2 : ACode :=
 .keep [1, 28, 29] (.ops [⟨some 56, none, .bin .add (.t 29) (.c (.int .i64 1)), none⟩,
 ⟨some 29, none, .mv (.t 56), none⟩])
def J_law14_large_j3 : ACode :=
 .seq (.ops [⟨some 44, none, .bin .lss (.t 43) (.t 42), none⟩])
 (.keep [1, 6, 28, 29, 42, 43, 44] (.seq (.cond (.t 44)
 (.skip)
 (.exit 4))
 (.keep [1, 6, 28, 29, 42, 43] (.seq (.block 5 (.seq (.ops [⟨some 45, none, .mv (.t 43), none⟩,
 ⟨some 7, none, .mv (.t 45), none⟩])
 (.keep [1, 6, 7, 28, 29, 42, 43] (.seq (.ops [⟨some 46, none, .mv (.t 1), none⟩,
 ⟨some 47, none, .mv (.t 6), none⟩,
 ⟨some 48, none, .idxa 1 (.t 46) (.t 47), none⟩,
 ⟨some 49, none, .load none (.t 48), none⟩,
 ⟨some 50, none, .mv (.t 7), none⟩,
 ⟨some 51, none, .idxa 1 (.t 49) (.t 50), none⟩,
 ⟨some 52, none, .load none (.t 51), none⟩,
 ⟨some 53, none, .lens (.t 52), none⟩,
 ⟨some 54, none, .bin .gtr (.t 53) (.c (.int .i64 100)), none⟩])
 (.keep [1, 6, 28, 29, 42, 43, 54] (.cond (.t 54)
 (.seq (.ops [⟨some 4, none, .mv (.c (.bool true)), none⟩])
 (.ret))
 (.skip)))))))
 (.keep [1, 6, 28, 29, 42, 43] (.ops [⟨some 55, none, .bin .add (.t 43) (.c (.int .i64 1)), none⟩,
 ⟨some 43, none, .mv (.t 55), none⟩]))))))
def J_law14_large_j4 : ACode :=
 .seq (.ops [⟨some 30, none, .bin .lss (.t 29) (.t 28), none⟩])
 (.keep [1, 28, 29, 30] (.seq (.cond (.t 30)
 (.skip)
 (.exit 2))
 (.keep [1, 28, 29] (.seq (.block 3 (.seq (.ops [⟨some 31, none, .mv (.t 29), none⟩,
 ⟨some 6, none, .mv (.t 31), none⟩])
 (.keep [1, 6, 28, 29] (.seq (.seq (.ops [⟨some 32, none, .mv (.t 1), none⟩,
 ⟨some 33, none, .mv (.t 6), none⟩,
 ⟨some 34, none, .idxa 1 (.t 32) (.t 33), none⟩,
 ⟨some 35, none, .load none (.t 34), none⟩,
 ⟨some 36, none, .lenl (.t 35), none⟩,
 ⟨some 37, none, .bin .gtr (.t 36) (.c (.int .i64 30)), none⟩])
 (.keep [1, 6, 28, 29, 37] (.cond (.t 37)
 (.seq (.ops [⟨some 4, none, .mv (.c (.bool true)), none⟩])
 (.ret))
 (.skip))))
 (.keep [1, 6, 28, 29] (.seq (.ops [⟨some 38, none, .mv (.t 1), none⟩,
 ⟨some 39, none, .mv (.t 6), none⟩,
 ⟨some 40, none, .idxa 1 (.t 38) (.t 39), none⟩,
 ⟨some 41, none, .load none (.t 40), none⟩,
 ⟨some 42, none, .lenl (.t 41), none⟩,
 ⟨some 43, none, .mv (.c (.int .i64 0)), none⟩])
 (.keep [1, 6, 28, 29, 42, 43] (.block 4 (.loop [1, 6, 28, 29, 42, 43] (J_law14_large_j3))))))))))
 (J_law14_large_j2)))))
def J_law14_large_j5 : ACode :=
 .keep [1] (.seq (.seq (.ops [⟨some 27, none, .mv (.t 1), none⟩,
 ⟨some 28, none, .lenl (.t 27), none⟩,
 ⟨some 29, none, .mv (.c (.int .i64 0)), none⟩])
 (.keep [1, 28, 29] (.block 2 (.loop [1, 28, 29] (J_law14_large_j4)))))
 (J_law14_large_j1))
def J_law14_large_j6 : ACode :=
 .seq (.ops [⟨some 16, none, .bin .lss (.t 15) (.t 14), none⟩])
 (.keep [1, 2, 14, 15, 16] (.seq (.cond (.t 16)
 (.skip)
 (.exit 0))
 (.keep [1, 2, 14, 15] (.seq (.block 1 (.seq (.ops [⟨some 17, none, .mv (.t 15), none⟩,
 ⟨some 5, none, .mv (.t 17), none⟩])
 (.keep [1, 2, 5, 14, 15] (.seq (.ops [⟨some 18, none, .fld 1 (.t 2), none⟩,
 ⟨some 19, none, .load none (.t 18), none⟩,
 ⟨some 20, none, .mv (.t 5), none⟩,
 ⟨some 21, none, .idxa 2 (.t 19) (.t 20), none⟩,
 ⟨some 22, none, .fld 1 (.t 21), none⟩,
 ⟨some 23, none, .load none (.t 22), none⟩,
 ⟨some 24, none, .lenl (.t 23), none⟩,
 ⟨some 25, none, .bin .gtr (.t 24) (.c (.int .i64 20)), none⟩])
 (.keep [1, 2, 14, 15, 25] (.cond (.t 25)
 (.seq (.ops [⟨some 4, none, .mv (.c (.bool true)), none⟩])
 (.ret))
 (.skip)))))))
 (.keep [1, 2, 14, 15] (.ops [⟨some 26, none, .bin .add (.t 15) (.c (.int .i64 1)), none⟩,
 ⟨some 15, none, .mv (.t 26), none⟩]))))))
def J_law14_large : AFn :=
 ⟨57, [.t 4], .seq (.ops [⟨some 2, none, .box (.t 0) [], none⟩,
 ⟨some 4, none, .mv (.c (.bool false)), none⟩])
 (.keep [1, 2] (.seq (.seq (.ops [⟨some 8, none, .fld 1 (.t 2), none⟩,
 ⟨some 9, none, .load none (.t 8), none⟩,
 ⟨some 10, none, .lenl (.t 9), none⟩,
 ⟨some 11, none, .bin .gtr (.t 10) (.c (.int .i64 30)), none⟩])
 (.keep [1, 2, 11] (.cond (.t 11)
 (.seq (.ops [⟨some 4, none, .mv (.c (.bool true)), none⟩])
 (.ret))
 (.skip))))
 (.keep [1, 2] (.seq (.seq (.ops [⟨some 12, none, .fld 1 (.t 2), none⟩,
 ⟨some 13, none, .load none (.t 12), none⟩,
 ⟨some 14, none, .lenl (.t 13), none⟩,
 ⟨some 15, none, .mv (.c (.int .i64 0)), none⟩])
 (.keep [1, 2, 14, 15] (.block 0 (.loop [1, 2, 14, 15] (J_law14_large_j6)))))
 (J_law14_large_j5)))))⟩
theorem J_law14_large_ok : chkFn Try.prog 6 J_law14_large = true := by kernel_rfl
def J_model_May_j1 : ACode :=
 .keep [] (.seq (.ops [⟨some 2, none, .mv (.c (.bool true)), none⟩])
 (.ret))
def J_model_May_j2 : ACode :=
 .keep [1, 16, 17, 18] (.ops [⟨some 41, none, .bin .add (.t 18) (.c (.int .i64 1)), none⟩,
 ⟨some 18, none, .mv (.t 41), none⟩])
def J_model_May_j3 : ACode :=
 .seq (.ops [⟨some 32, none, .bin .lss (.t 31) (.t 30), none⟩])
 (.keep [1, 16, 17, 18, 29, 30, 31, 32] (.seq (.cond (.t 32)
 (.skip)
 (.exit 2))
 (.keep [1, 16, 17, 18, 29, 30, 31] (.seq (.block 3 (.seq (.ops [⟨some 33, none, .idxa 1 (.t 29) (.t 31), none⟩,
 ⟨some 34, none, .load none (.t 33), none⟩,
 ⟨some 6, none, .mv (.t 34), none⟩])
 (.keep [1, 6, 16, 17, 18, 29, 30, 31] (.seq (.ops [⟨some 35, none, .mv (.t 6), none⟩,
 ⟨some 36, none, .fld 0 (.t 1), none⟩,
 ⟨some 37, none, .load none (.t 36), none⟩,
 ⟨some 38, none, .bin .shr (.t 35) (.t 37), none⟩,
 ⟨some 39, none, .bin .neq (.t 38) (.c (.int .u8 0)), none⟩])
 (.keep [1, 16, 17, 18, 29, 30, 31, 39] (.cond (.t 39)
 (.seq (.ops [⟨some 2, none, .mv (.c (.bool false)), none⟩])
 (.ret))
 (.skip)))))))
 (.keep [1, 16, 17, 18, 29, 30, 31] (.ops [⟨some 40, none, .bin .add (.t 31) (.c (.int .i64 1)), none⟩,
 ⟨some 31, none, .mv (.t 40), none⟩]))))))
def J_model_May_j4 : ACode :=
 .seq (.ops [⟨some 19, none, .bin .lss (.t 18) (.t 17), none⟩])
 (.keep [1, 16, 17, 18, 19] (.seq (.cond (.t 19)
 (.skip)
 (.exit 0))
 (.keep [1, 16, 17, 18] (.seq (.block 1 (.seq (.ops [⟨some 20, none, .idxa 2 (.t 16) (.t 18), none⟩,
 ⟨some 21, none, .load (some 2) (.t 20), none⟩,
 ⟨some 4, none, .new [(.int .u16 0), (.lst .clip 0 [])] [], none⟩,
 ⟨none, none, .stores 2 (.t 4) (.t 21), none⟩])
 (.keep [1, 4, 16, 17, 18] (.seq (.seq (.ops [⟨some 22, none, .fld 1 (.t 4), none⟩,
 ⟨some 23, none, .load none (.t 22), none⟩,
 ⟨some 24, none, .lenl (.t 23), none⟩,
 ⟨some 25, none, .fld 0 (.t 1), none⟩,
 ⟨some 26, none, .load none (.t 25), none⟩,
 ⟨some 27, none, .bin .neq (.t 24) (.t 26), none⟩])
 (.keep [1, 4, 16, 17, 18, 27] (.cond (.t 27)
 (.seq (.ops [⟨some 2, none, .mv (.c (.bool false)), none⟩])
 (.ret))
 (.skip))))
 (.keep [1, 4, 16, 17, 18] (.seq (.ops [⟨some 28, none, .fld 1 (.t 4), none⟩,
 ⟨some 29, none, .load none (.t 28), none⟩,
 ⟨some 30, none, .lenl (.t 29), none⟩,
 ⟨some 31, none, .mv (.c (.int .i64 0)), none⟩])
 (.keep [1, 16, 17, 18, 29, 30, 31] (.block 2 (.loop [1, 16, 17, 18, 29, 30, 31] (J_model_May_j3))))))))))
 (J_model_May_j2)))))
def J_model_May : AFn :=
 ⟨42, [.t 2], .seq (.ops [⟨some 1, none, .box (.t 0) [], none⟩,
 ⟨some 2, none, .mv (.c (.bool false)), none⟩])
 (.keep [1] (.seq (.seq (.ops [⟨some 7, none, .fld 0 (.t 1), none⟩,
 ⟨some 8, none, .load none (.t 7), none⟩,
 ⟨some 9, none, .bin .lss (.t 8) (.c (.int .i64 1)), none⟩,
 ⟨some 10, none, .mv (.t 9), none⟩,
 ⟨some 11, (some (10, false)), .fld 0 (.t 1), none⟩,
 ⟨some 12, (some (10, false)), .load none (.t 11), none⟩,
 ⟨some 13, (some (10, false)), .bin .gtr (.t 12) (.c (.int .i64 8)), none⟩,
 ⟨some 14, none, .pick (.t 10) (.c (.bool true)) (.t 13), none⟩])
 (.keep [1, 14] (.cond (.t 14)
 (.seq (.ops [⟨some 2, none, .mv (.c (.bool false)), none⟩])
 (.ret))
 (.skip))))
 (.keep [1] (.seq (.seq (.ops [⟨some 15, none, .fld 1 (.t 1), none⟩,
 ⟨some 16, none, .load none (.t 15), none⟩,
 ⟨some 17, none, .lenl (.t 16), none⟩,
 ⟨some 18, none, .mv (.c (.int .i64 0)), none⟩])
 (.keep [1, 16, 17, 18] (.block 0 (.loop [1, 16, 17, 18] (J_model_May_j4)))))
 (J_model_May_j1)))))⟩
theorem J_model_May_ok : chkFn Try.prog 8 J_model_May = true := by kernel_rfl
def J_model_Word : AFn :=
 ⟨20, [.t 4, .t 5], .seq (.ops [⟨some 2, none, .box (.t 0) [], none⟩,
 ⟨some 4, none, .mv (.c (.lst .clip 0 [])), none⟩,
 ⟨some 5, none, .mv (.c (.int .i64 0)), none⟩])
 (.keep [1, 2] (.seq (.seq (.ops [⟨some 6, none, .load (some 2) (.t 2), none⟩,
 ⟨some 7, none, .call (.f 8) [(.t 6)], none⟩,
 ⟨some 8, none, .not (.t 7), none⟩,
 ⟨some 9, none, .mv (.t 8), none⟩,
 ⟨some 10, (some (9, false)), .mv (.t 1), none⟩,
 ⟨some 11, (some (9, false)), .call (.f 24) [(.t 10)], none⟩,
 ⟨some 12, (some (9, false)), .not (.t 11), none⟩,
 ⟨some 13, none, .pick (.t 9) (.c (.bool true)) (.t 12), none⟩])
 (.keep [1, 2, 13] (.cond (.t 13)
 (.seq (.ops [⟨some 4, none, .mv (.c (.lst .clip 0 [])), none⟩,
 ⟨some 5, none, .mv (.c (.int .i64 2)), none⟩])
 (.ret))
 (.skip))))
 (.keep [1, 2] (.seq (.drax [4, 5] [⟨some 14, none, .load (some 2) (.t 2), none⟩,
 ⟨some 15, none, .load (some 2) (.t 2), none⟩,
 ⟨some 16, none, .call (.f 26) [(.t 15)], none⟩,
 ⟨some 17, none, .mv (.t 1), none⟩,
 ⟨some 18, none, .call (.f 27) [(.t 16), (.t 17)], none⟩] (some 19) (.call (.f 25) [(.t 14), (.t 18)]) [⟨some 4, none, .mv (.t 19), none⟩,
 ⟨some 5, none, .mv (.c (.int .i64 0)), none⟩])
 (.ret)))))⟩
theorem J_model_Word_ok : chkFn Try.prog 10 J_model_Word = true := by kernel_rfl
def J_model_Set : AFn :=
 ⟨20, [.t 4, .t 5], .seq (.ops [⟨some 2, none, .box (.t 0) [], none⟩,
 ⟨some 4, none, .mv (.c (.lst .clip 0 [])), none⟩,
 ⟨some 5, none, .mv (.c (.int .i64 0)), none⟩])
 (.keep [1, 2] (.seq (.seq (.ops [⟨some 6, none, .load (some 2) (.t 2), none⟩,
 ⟨some 7, none, .call (.f 8) [(.t 6)], none⟩,
 ⟨some 8, none, .not (.t 7), none⟩,
 ⟨some 9, none, .mv (.t 8), none⟩,
 ⟨some 10, (some (9, false)), .mv (.t 1), none⟩,
 ⟨some 11, (some (9, false)), .call (.f 31) [(.t 10)], none⟩,
 ⟨some 12, (some (9, false)), .not (.t 11), none⟩,
 ⟨some 13, none, .pick (.t 9) (.c (.bool true)) (.t 12), none⟩])
 (.keep [1, 2, 13] (.cond (.t 13)
 (.seq (.ops [⟨some 4, none, .mv (.c (.lst .clip 0 [])), none⟩,
 ⟨some 5, none, .mv (.c (.int .i64 2)), none⟩])
 (.ret))
 (.skip))))
 (.keep [1, 2] (.seq (.drax [4, 5] [⟨some 14, none, .load (some 2) (.t 2), none⟩,
 ⟨some 15, none, .load (some 2) (.t 2), none⟩,
 ⟨some 16, none, .call (.f 26) [(.t 15)], none⟩,
 ⟨some 17, none, .mv (.t 1), none⟩,
 ⟨some 18, none, .call (.f 32) [(.t 16), (.t 17)], none⟩] (some 19) (.call (.f 25) [(.t 14), (.t 18)]) [⟨some 4, none, .mv (.t 19), none⟩,
 ⟨some 5, none, .mv (.c (.int .i64 0)), none⟩])
 (.ret)))))⟩
theorem J_model_Set_ok : chkFn Try.prog 12 J_model_Set = true := by kernel_rfl
def J_model_Holds : AFn :=
 ⟨25, [.t 4, .t 5], .seq (.ops [⟨some 2, none, .box (.t 0) [], none⟩,
 ⟨some 3, none, .box (.t 1) [], none⟩,
 ⟨some 4, none, .mv (.c (.bool false)), none⟩,
 ⟨some 5, none, .mv (.c (.int .i64 0)), none⟩])
 (.keep [2, 3] (.seq (.seq (.ops [⟨some 6, none, .load (some 2) (.t 2), none⟩,
 ⟨some 7, none, .call (.f 8) [(.t 6)], none⟩,
 ⟨some 8, none, .not (.t 7), none⟩,
 ⟨some 9, none, .mv (.t 8), none⟩,
 ⟨some 10, (some (9, false)), .fld 0 (.t 3), none⟩,
 ⟨some 11, (some (9, false)), .load none (.t 10), none⟩,
 ⟨some 12, (some (9, false)), .call (.f 24) [(.t 11)], none⟩,
 ⟨some 13, (some (9, false)), .not (.t 12), none⟩,
 ⟨some 14, none, .pick (.t 9) (.c (.bool true)) (.t 13), none⟩,
 ⟨some 15, none, .mv (.t 14), none⟩,
 ⟨some 16, (some (15, false)), .fld 1 (.t 3), none⟩,
 ⟨some 17, (some (15, false)), .load none (.t 16), none⟩,
 ⟨some 18, (some (15, false)), .call (.f 24) [(.t 17)], none⟩,
 ⟨some 19, (some (15, false)), .not (.t 18), none⟩,
 ⟨some 20, none, .pick (.t 15) (.c (.bool true)) (.t 19), none⟩])
 (.keep [2, 3, 20] (.cond (.t 20)
 (.seq (.ops [⟨some 4, none, .mv (.c (.bool false)), none⟩,
 ⟨some 5, none, .mv (.c (.int .i64 2)), none⟩])
 (.ret))
 (.skip))))
 (.keep [2, 3] (.seq (.draw [4, 5] [⟨some 21, none, .load (some 2) (.t 2), none⟩,
 ⟨some 22, none, .call (.f 26) [(.t 21)], none⟩,
 ⟨some 23, none, .load (some 2) (.t 3), none⟩,
 ⟨some 24, none, .call (.f 35) [(.t 22), (.t 23)], none⟩,
 ⟨some 4, none, .mv (.t 24), none⟩,
 ⟨some 5, none, .mv (.c (.int .i64 0)), none⟩])
 (.ret)))))⟩
theorem J_model_Holds_ok : chkFn Try.prog 14 J_model_Holds = true := by kernel_rfl
def J_model_Speaks : AFn :=
 ⟨31, [.t 6, .t 7], .seq (.ops [⟨some 3, none, .box (.t 0) [], none⟩,
 ⟨some 6, none, .mv (.c (.bool false)), none⟩,
 ⟨some 7, none, .mv (.c (.int .i64 0)), none⟩])
 (.keep [1, 2, 3] (.seq (.seq (.ops [⟨some 9, none, .load (some 2) (.t 3), none⟩,
 ⟨some 10, none, .call (.f 8) [(.t 9)], none⟩,
 ⟨some 11, none, .not (.t 10), none⟩,
 ⟨some 12, none, .mv (.t 11), none⟩,
 ⟨some 13, (some (12, false)), .mv (.t 1), none⟩,
 ⟨some 14, (some (12, false)), .call (.f 31) [(.t 13)], none⟩,
 ⟨some 15, (some (12, false)), .not (.t 14), none⟩,
 ⟨some 16, none, .pick (.t 12) (.c (.bool true)) (.t 15), none⟩,
 ⟨some 17, none, .mv (.t 16), none⟩,
 ⟨some 18, (some (17, false)), .mv (.t 2), none⟩,
 ⟨some 19, (some (17, false)), .call (.f 31) [(.t 18)], none⟩,
 ⟨some 20, (some (17, false)), .not (.t 19), none⟩,
 ⟨some 21, none, .pick (.t 17) (.c (.bool true)) (.t 20), none⟩])
 (.keep [1, 2, 3, 21] (.cond (.t 21)
 (.seq (.ops [⟨some 6, none, .mv (.c (.bool false)), none⟩,
 ⟨some 7, none, .mv (.c (.int .i64 2)), none⟩])
 (.ret))
 (.skip))))
 (.keep [1, 2, 3] (.seq (.ops [⟨some 22, none, .load (some 2) (.t 3), none⟩,
 ⟨some 23, none, .call (.f 26) [(.t 22)], none⟩,
 ⟨some 8, none, .mv (.t 23), none⟩])
 (.keep [1, 2, 8] (.seq (.ops [⟨some 24, none, .mv (.t 8), none⟩,
 ⟨some 25, none, .mv (.t 2), none⟩,
 ⟨some 26, none, .call (.f 32) [(.t 24), (.t 25)], none⟩,
 ⟨some 27, none, .mv (.t 8), none⟩,
 ⟨some 28, none, .mv (.t 1), none⟩,
 ⟨some 29, none, .call (.f 32) [(.t 27), (.t 28)], none⟩,
 ⟨some 30, none, .call (.f 37) [(.t 26), (.t 29)], none⟩,
 ⟨some 6, none, .mv (.t 30), none⟩,
 ⟨some 7, none, .mv (.c (.int .i64 0)), none⟩])
 (.ret)))))))⟩
theorem J_model_Speaks_ok : chkFn Try.prog 16 J_model_Speaks = true := by kernel_rfl
def J_model_Honest_j1 : ACode :=
 .keep [] (.seq (.ops [⟨some 4, none, .mv (.c (.bool true)), none⟩,
 ⟨some 5, none, .mv (.c (.int .i64 0)), none⟩])
 (.ret))
def J_model_Honest_j2 : ACode :=
 .seq (.ops [⟨some 46, none, .bin .lss (.t 45) (.t 44), none⟩])
 (.keep [6, 43, 44, 45, 46] (.seq (.cond (.t 46)
 (.skip)
 (.exit 2))
 (.keep [6, 43, 44, 45] (.seq (.block 3 (.seq (.ops [⟨some 47, none, .idxa 2 (.t 43) (.t 45), none⟩,
 ⟨some 48, none, .load (some 2) (.t 47), none⟩,
 ⟨some 11, none, .new [(.str ⟨#[]⟩), (.str ⟨#[]⟩)] [], none⟩,
 ⟨none, none, .stores 2 (.t 11) (.t 48), none⟩])
 (.keep [6, 11, 43, 44, 45] (.seq (.ops [⟨some 49, none, .mv (.t 6), none⟩,
 ⟨some 50, none, .load (some 2) (.t 11), none⟩,
 ⟨some 51, none, .call (.f 35) [(.t 49), (.t 50)], none⟩,
 ⟨some 52, none, .not (.t 51), none⟩])
 (.keep [6, 43, 44, 45, 52] (.cond (.t 52)
 (.seq (.ops [⟨some 4, none, .mv (.c (.bool false)), none⟩,
 ⟨some 5, none, .mv (.c (.int .i64 0)), none⟩])
 (.ret))
 (.skip)))))))
 (.keep [6, 43, 44, 45] (.ops [⟨some 53, none, .bin .add (.t 45) (.c (.int .i64 1)), none⟩,
 ⟨some 45, none, .mv (.t 53), none⟩]))))))
def J_model_Honest_j3 : ACode :=
 .keep [3, 6] (.seq (.seq (.ops [⟨some 42, none, .load (some 7) (.t 3), none⟩,
 ⟨some 43, none, .call (.f 40) [(.t 42)], none⟩,
 ⟨some 44, none, .lenl (.t 43), none⟩,
 ⟨some 45, none, .mv (.c (.int .i64 0)), none⟩])
 (.keep [6, 43, 44, 45] (.block 2 (.loop [6, 43, 44, 45] (J_model_Honest_j2)))))
 (J_model_Honest_j1))
def J_model_Honest_j4 : ACode :=
 .seq (.ops [⟨some 32, none, .bin .lss (.t 31) (.t 30), none⟩])
 (.keep [3, 6, 7, 29, 30, 31, 32] (.seq (.cond (.t 32)
 (.skip)
 (.exit 0))
 (.keep [3, 6, 7, 29, 30, 31] (.seq (.block 1 (.seq (.ops [⟨some 33, none, .idxa 1 (.t 29) (.t 31), none⟩,
 ⟨some 34, none, .load none (.t 33), none⟩,
 ⟨some 9, none, .mv (.t 34), none⟩])
 (.keep [3, 6, 7, 9, 29, 30, 31] (.seq (.draw [3, 6, 7, 29, 30, 31, 40] [⟨some 35, none, .mv (.t 6), none⟩,
 ⟨some 36, none, .mv (.t 9), none⟩,
 ⟨some 37, none, .call (.f 27) [(.t 35), (.t 36)], none⟩,
 ⟨some 38, none, .lds (some 8) (.t 7), none⟩,
 ⟨some 39, none, .call (.f 37) [(.t 37), (.t 38)], none⟩,
 ⟨some 40, none, .not (.t 39), none⟩])
 (.keep [3, 6, 7, 29, 30, 31, 40] (.cond (.t 40)
 (.seq (.ops [⟨some 4, none, .mv (.c (.bool true)), none⟩,
 ⟨some 5, none, .mv (.c (.int .i64 0)), none⟩])
 (.ret))
 (.skip)))))))
 (.keep [3, 6, 7, 29, 30, 31] (.ops [⟨some 41, none, .bin .add (.t 31) (.c (.int .i64 1)), none⟩,
 ⟨some 31, none, .mv (.t 41), none⟩]))))))
def J_model_Honest : AFn :=
 ⟨54, [.t 4, .t 5], .seq (.ops [⟨some 2, none, .box (.t 0) [], none⟩,
 ⟨some 3, none, .box (.t 1) [], none⟩,
 ⟨some 4, none, .mv (.c (.bool false)), none⟩,
 ⟨some 5, none, .mv (.c (.int .i64 0)), none⟩])
 (.keep [2, 3] (.seq (.seq (.ops [⟨some 12, none, .load (some 2) (.t 2), none⟩,
 ⟨some 13, none, .call (.f 8) [(.t 12)], none⟩,
 ⟨some 14, none, .not (.t 13), none⟩,
 ⟨some 15, none, .mv (.t 14), none⟩,
 ⟨some 16, (some (15, false)), .load (some 7) (.t 3), none⟩,
 ⟨some 17, (some (15, false)), .call (.f 38) [(.t 16)], none⟩,
 ⟨some 18, (some (15, false)), .bin .neq (.t 17) (.c (.int .i64 0)), none⟩,
 ⟨some 19, none, .pick (.t 15) (.c (.bool true)) (.t 18), none⟩])
 (.keep [2, 3, 19] (.cond (.t 19)
 (.seq (.ops [⟨some 4, none, .mv (.c (.bool false)), none⟩,
 ⟨some 5, none, .mv (.c (.int .i64 2)), none⟩])
 (.ret))
 (.skip))))
 (.keep [2, 3] (.seq (.ops [⟨some 20, none, .load (some 2) (.t 2), none⟩,
 ⟨some 21, none, .call (.f 26) [(.t 20)], none⟩,
 ⟨some 6, none, .mv (.t 21), none⟩])
 (.keep [3, 6] (.seq (.ops [⟨some 22, none, .mv (.t 6), none⟩,
 ⟨some 23, none, .fld 1 (.t 3), none⟩,
 ⟨some 24, none, .load none (.t 23), none⟩,
 ⟨some 25, none, .bsl 51 1 1 [(.int .u16 0)] [(0, 1, (.t 24))], none⟩,
 ⟨some 26, none, .call (.f 39) [(.t 25)], none⟩,
 ⟨some 27, none, .call (.f 27) [(.t 22), (.t 26)], none⟩,
 ⟨some 7, none, .new [(.int .u8 0), (.int .u8 0), (.int .u8 0), (.int .u8 0), (.int .u8 0), (.int .u8 0), (.int .u8 0), (.int .u8 0)] [], none⟩,
 ⟨none, none, .stores 8 (.t 7) (.t 27), none⟩])
 (.keep [3, 6, 7] (.seq (.seq (.ops [⟨some 28, none, .fld 3 (.t 3), none⟩,
 ⟨some 29, none, .load none (.t 28), none⟩,
 ⟨some 30, none, .lenl (.t 29), none⟩,
 ⟨some 31, none, .mv (.c (.int .i64 0)), none⟩])
 (.keep [3, 6, 7, 29, 30, 31] (.block 0 (.loop [3, 6, 7, 29, 30, 31] (J_model_Honest_j4)))))
 (J_model_Honest_j3)))))))))⟩
theorem J_model_Honest_ok : chkFn Try.prog 19 J_model_Honest = true := by kernel_rfl
def J_model_read_j1 : ACode :=
 .keep [3] (.seq (.ops [⟨some 24, none, .mfz 3, none⟩,
 ⟨some 2, none, .mv (.t 24), none⟩])
 (.ret))
def J_model_read_j2 : ACode :=
 .seq (.ops [⟨some 12, none, .bin .lss (.t 11) (.t 10), none⟩])
 (.keep [3, 9, 10, 11, 12] (.seq (.cond (.t 12)
 (.skip)
 (.exit 0))
 (.keep [3, 9, 10, 11] (.seq (.block 1 (.seq (.ops [⟨some 13, none, .idxa 2 (.t 9) (.t 11), none⟩,
 ⟨some 14, none, .load (some 2) (.t 13), none⟩,
 ⟨some 5, none, .new [(.int .u16 0), (.lst .clip 0 [])] [], none⟩,
 ⟨none, none, .stores 2 (.t 5) (.t 14), none⟩])
 (.keep [3, 5, 9, 10, 11] (.seq (.ops [⟨some 6, none, .new [(.int .u8 0), (.int .u8 0), (.int .u8 0), (.int .u8 0), (.int .u8 0), (.int .u8 0), (.int .u8 0), (.int .u8 0)] [], none⟩])
 (.keep [3, 5, 6, 9, 10, 11] (.seq (.draw [3, 5, 6, 9, 10, 11] [⟨some 15, none, .ex (.sla 8) [(.t 6)], none⟩,
 ⟨some 16, none, .fld 1 (.t 5), none⟩,
 ⟨some 17, none, .lds none (.t 16), none⟩,
 ⟨some 18, none, .cpy 1 (.t 15) (.t 17), none⟩])
 (.keep [3, 5, 6, 9, 10, 11] (.ops [⟨some 19, none, .mra 3, none⟩,
 ⟨some 20, none, .fld 0 (.t 5), none⟩,
 ⟨some 21, none, .load none (.t 20), none⟩,
 ⟨some 22, none, .load (some 8) (.t 6), none⟩,
 ⟨none, none, .mup false 3 (.t 19) (.t 21) (.t 22), none⟩]))))))))
 (.keep [3, 9, 10, 11] (.ops [⟨some 23, none, .bin .add (.t 11) (.c (.int .i64 1)), none⟩,
 ⟨some 11, none, .mv (.t 23), none⟩]))))))
def J_model_read : AFn :=
 ⟨25, [.t 2], .seq (.ops [⟨some 1, none, .box (.t 0) [], none⟩,
 ⟨some 2, none, .mv (.c .opq), none⟩])
 (.keep [1] (.seq (.ops [⟨some 7, none, .mmk, none⟩,
 ⟨some 3, none, .mmv 7, none⟩])
 (.keep [1, 3] (.seq (.seq (.ops [⟨some 8, none, .fld 1 (.t 1), none⟩,
 ⟨some 9, none, .load none (.t 8), none⟩,
 ⟨some 10, none, .lenl (.t 9), none⟩,
 ⟨some 11, none, .mv (.c (.int .i64 0)), none⟩])
 (.keep [3, 9, 10, 11] (.block 0 (.loop [3, 9, 10, 11] (J_model_read_j2)))))
 (J_model_read_j1)))))⟩
theorem J_model_read_ok : chkFn Try.prog 26 J_model_read = true := by kernel_rfl
def J_model_atoms_word_j1 : ACode :=
 .keep [4, 5] (.seq (.ops [⟨some 24, none, .load (some 8) (.t 5), none⟩,
 ⟨none, none, .store 8 (.t 4) (.t 24), none⟩])
 (.ret))
def J_model_atoms_word_j2 : ACode :=
 .seq (.seq (.ops [⟨some 11, none, .mv (.t 6), none⟩,
 ⟨some 12, none, .mv (.t 1), none⟩,
 ⟨some 13, none, .call (.f 47) [(.t 12)], none⟩,
 ⟨some 14, none, .bin .lss (.t 11) (.t 13), none⟩])
 (.keep [0, 1, 4, 5, 6, 14] (.cond (.t 14)
 (.skip)
 (.exit 0))))
 (.keep [0, 1, 4, 5, 6] (.seq (.block 1 (.draw [0, 1, 4, 5, 6] [⟨some 17, none, .load (some 8) (.t 5), none⟩,
 ⟨some 18, none, .mv (.t 0), none⟩,
 ⟨some 19, none, .mv (.t 1), none⟩,
 ⟨some 20, none, .mv (.t 6), none⟩,
 ⟨some 21, none, .call (.f 48) [(.t 19), (.t 20)], none⟩,
 ⟨some 22, none, .ex (.mlk false true [(.int .u8 0), (.int .u8 0), (.int .u8 0), (.int .u8 0), (.int .u8 0), (.int .u8 0), (.int .u8 0), (.int .u8 0)] false) [(.t 18), (.t 21)], none⟩,
 ⟨some 23, none, .call (.f 49) [(.t 17), (.t 22)], none⟩,
 ⟨none, none, .store 8 (.t 5) (.t 23), none⟩]))
 (.keep [0, 1, 4, 5, 6] (.ops [⟨some 15, none, .mv (.t 6), none⟩,
 ⟨some 16, none, .bin .add (.t 15) (.c (.int .i64 1)), none⟩,
 ⟨some 6, none, .mv (.t 16), none⟩]))))
def J_model_atoms_word : AFn :=
 ⟨25, [.c 4 (some 8)], .seq (.ops [⟨some 4, none, .new [(.int .u8 0), (.int .u8 0), (.int .u8 0), (.int .u8 0), (.int .u8 0), (.int .u8 0), (.int .u8 0), (.int .u8 0)] [], none⟩])
 (.keep [0, 1, 4] (.seq (.ops [⟨some 7, none, .mv (.t 0), none⟩,
 ⟨some 8, none, .mv (.t 1), none⟩,
 ⟨some 9, none, .call (.f 48) [(.t 8), (.c (.int .i64 0))], none⟩,
 ⟨some 10, none, .ex (.mlk false true [(.int .u8 0), (.int .u8 0), (.int .u8 0), (.int .u8 0), (.int .u8 0), (.int .u8 0), (.int .u8 0), (.int .u8 0)] false) [(.t 7), (.t 9)], none⟩,
 ⟨some 5, none, .new [(.int .u8 0), (.int .u8 0), (.int .u8 0), (.int .u8 0), (.int .u8 0), (.int .u8 0), (.int .u8 0), (.int .u8 0)] [], none⟩,
 ⟨none, none, .store 8 (.t 5) (.t 10), none⟩])
 (.keep [0, 1, 4, 5] (.seq (.seq (.ops [⟨some 6, none, .mv (.c (.int .i64 1)), none⟩])
 (.keep [0, 1, 4, 5, 6] (.block 0 (.loop [0, 1, 4, 5, 6] (J_model_atoms_word_j2)))))
 (J_model_atoms_word_j1)))))⟩
theorem J_model_atoms_word_ok : chkFn Try.prog 27 J_model_atoms_word = true := by kernel_rfl
def J_model_atoms_set_j1 : ACode :=
 .keep [4, 5] (.seq (.ops [⟨some 20, none, .load (some 8) (.t 5), none⟩,
 ⟨none, none, .store 8 (.t 4) (.t 20), none⟩])
 (.ret))
def J_model_atoms_set_j2 : ACode :=
 .seq (.ops [⟨some 11, none, .bin .lss (.t 10) (.t 9), none⟩])
 (.keep [0, 4, 5, 8, 9, 10, 11] (.seq (.cond (.t 11)
 (.skip)
 (.exit 0))
 (.keep [0, 4, 5, 8, 9, 10] (.seq (.block 1 (.seq (.ops [⟨some 12, none, .idxa 1 (.t 8) (.t 10), none⟩,
 ⟨some 13, none, .load none (.t 12), none⟩,
 ⟨some 7, none, .mv (.t 13), none⟩])
 (.keep [0, 4, 5, 7, 8, 9, 10] (.draw [0, 4, 5, 8, 9, 10] [⟨some 14, none, .load (some 8) (.t 5), none⟩,
 ⟨some 15, none, .mv (.t 0), none⟩,
 ⟨some 16, none, .mv (.t 7), none⟩,
 ⟨some 17, none, .call (.f 27) [(.t 15), (.t 16)], none⟩,
 ⟨some 18, none, .call (.f 53) [(.t 14), (.t 17)], none⟩,
 ⟨none, none, .store 8 (.t 5) (.t 18), none⟩]))))
 (.keep [0, 4, 5, 8, 9, 10] (.ops [⟨some 19, none, .bin .add (.t 10) (.c (.int .i64 1)), none⟩,
 ⟨some 10, none, .mv (.t 19), none⟩]))))))
def J_model_atoms_set : AFn :=
 ⟨21, [.c 4 (some 8)], .seq (.ops [⟨some 4, none, .new [(.int .u8 0), (.int .u8 0), (.int .u8 0), (.int .u8 0), (.int .u8 0), (.int .u8 0), (.int .u8 0), (.int .u8 0)] [], none⟩])
 (.keep [0, 1, 4] (.seq (.ops [⟨some 5, none, .new [(.int .u8 0), (.int .u8 0), (.int .u8 0), (.int .u8 0), (.int .u8 0), (.int .u8 0), (.int .u8 0), (.int .u8 0)] [], none⟩])
 (.keep [0, 1, 4, 5] (.seq (.seq (.ops [⟨some 8, none, .mv (.t 1), none⟩,
 ⟨some 9, none, .lenl (.t 8), none⟩,
 ⟨some 10, none, .mv (.c (.int .i64 0)), none⟩])
 (.keep [0, 4, 5, 8, 9, 10] (.block 0 (.loop [0, 4, 5, 8, 9, 10] (J_model_atoms_set_j2)))))
 (J_model_atoms_set_j1)))))⟩
theorem J_model_atoms_set_ok : chkFn Try.prog 32 J_model_atoms_set = true := by kernel_rfl
def J_model_atoms_rule : AFn :=
 ⟨14, [.t 4], .seq (.ops [⟨some 3, none, .box (.t 1) [], none⟩,
 ⟨some 4, none, .mv (.c (.bool false)), none⟩])
 (.keep [0, 3] (.seq (.draw [4] [⟨some 5, none, .mv (.t 0), none⟩,
 ⟨some 6, none, .fld 0 (.t 3), none⟩,
 ⟨some 7, none, .load none (.t 6), none⟩,
 ⟨some 8, none, .call (.f 27) [(.t 5), (.t 7)], none⟩,
 ⟨some 9, none, .mv (.t 0), none⟩,
 ⟨some 10, none, .fld 1 (.t 3), none⟩,
 ⟨some 11, none, .load none (.t 10), none⟩,
 ⟨some 12, none, .call (.f 27) [(.t 9), (.t 11)], none⟩,
 ⟨some 13, none, .call (.f 37) [(.t 8), (.t 12)], none⟩,
 ⟨some 4, none, .mv (.t 13), none⟩])
 (.ret)))⟩
theorem J_model_atoms_rule_ok : chkFn Try.prog 35 J_model_atoms_rule = true := by kernel_rfl
def J_model_relation_within_j1 : ACode :=
 .keep [] (.seq (.ops [⟨some 4, none, .mv (.c (.bool true)), none⟩])
 (.ret))
def J_model_relation_within_j2 : ACode :=
 .seq (.ops [⟨some 7, none, .bin .lss (.t 6) (.c (.int .i64 8)), none⟩])
 (.keep [2, 3, 6, 7] (.seq (.cond (.t 7)
 (.skip)
 (.exit 0))
 (.keep [2, 3, 6] (.seq (.block 1 (.seq (.ops [⟨some 8, none, .mv (.t 6), none⟩,
 ⟨some 5, none, .mv (.t 8), none⟩])
 (.keep [2, 3, 5, 6] (.seq (.draw [2, 3, 6, 16] [⟨some 9, none, .mv (.t 5), none⟩,
 ⟨some 10, none, .ex (.idp 1 8) [(.t 2), (.t 9)], none⟩,
 ⟨some 11, none, .load none (.t 10), none⟩,
 ⟨some 12, none, .mv (.t 5), none⟩,
 ⟨some 13, none, .ex (.idp 1 8) [(.t 3), (.t 12)], none⟩,
 ⟨some 14, none, .load none (.t 13), none⟩,
 ⟨some 15, none, .bin .andNot (.t 11) (.t 14), none⟩,
 ⟨some 16, none, .bin .neq (.t 15) (.c (.int .u8 0)), none⟩])
 (.keep [2, 3, 6, 16] (.cond (.t 16)
 (.seq (.ops [⟨some 4, none, .mv (.c (.bool false)), none⟩])
 (.ret))
 (.skip)))))))
 (.keep [2, 3, 6] (.ops [⟨some 17, none, .bin .add (.t 6) (.c (.int .i64 1)), none⟩,
 ⟨some 6, none, .mv (.t 17), none⟩]))))))
def J_model_relation_within : AFn :=
 ⟨18, [.t 4], .seq (.ops [⟨some 2, none, .box (.t 0) [], none⟩,
 ⟨some 3, none, .box (.t 1) [], none⟩,
 ⟨some 4, none, .mv (.c (.bool false)), none⟩])
 (.keep [2, 3] (.seq (.seq (.ops [⟨some 6, none, .mv (.c (.int .i64 0)), none⟩])
 (.keep [2, 3, 6] (.block 0 (.loop [2, 3, 6] (J_model_relation_within_j2)))))
 (J_model_relation_within_j1)))⟩
theorem J_model_relation_within_ok : chkFn Try.prog 37 J_model_relation_within = true := by kernel_rfl
def J_model_relation_then_j1 : ACode :=
 .keep [4, 5] (.seq (.ops [⟨some 31, none, .load (some 8) (.t 5), none⟩,
 ⟨none, none, .store 8 (.t 4) (.t 31), none⟩])
 (.ret))
def J_model_relation_then_j2 : ACode :=
 .keep [2, 3, 4, 5, 8] (.ops [⟨some 30, none, .bin .add (.t 8) (.c (.int .i64 1)), none⟩,
 ⟨some 8, none, .mv (.t 30), none⟩])
def J_model_relation_then_j3 : ACode :=
 .keep [2, 3, 4, 5, 6, 8, 11] (.ops [⟨some 29, none, .bin .add (.t 11) (.c (.int .i64 1)), none⟩,
 ⟨some 11, none, .mv (.t 29), none⟩])
def J_model_relation_then_j4 : ACode :=
 .seq (.ops [⟨some 12, none, .bin .lss (.t 11) (.c (.int .i64 8)), none⟩])
 (.keep [2, 3, 4, 5, 6, 8, 11, 12] (.seq (.cond (.t 12)
 (.skip)
 (.exit 2))
 (.keep [2, 3, 4, 5, 6, 8, 11] (.seq (.block 3 (.seq (.ops [⟨some 13, none, .mv (.t 11), none⟩,
 ⟨some 7, none, .mv (.t 13), none⟩])
 (.keep [2, 3, 4, 5, 6, 7, 8, 11] (.seq (.ops [⟨some 14, none, .mv (.t 6), none⟩,
 ⟨some 15, none, .ex (.idp 1 8) [(.t 2), (.t 14)], none⟩,
 ⟨some 16, none, .load none (.t 15), none⟩,
 ⟨some 17, none, .mv (.t 7), none⟩,
 ⟨some 18, none, .bin .shr (.t 16) (.t 17), none⟩,
 ⟨some 19, none, .bin .and (.t 18) (.c (.int .u8 1)), none⟩,
 ⟨some 20, none, .bin .eql (.t 19) (.c (.int .u8 1)), none⟩])
 (.keep [2, 3, 4, 5, 6, 7, 8, 11, 20] (.cond (.t 20)
 (.draw [2, 3, 4, 5, 6, 8, 11] [⟨some 21, none, .mv (.t 6), none⟩,
 ⟨some 22, none, .ex (.idp 1 8) [(.t 5), (.t 21)], none⟩,
 ⟨some 23, none, .load none (.t 22), none⟩,
 ⟨some 24, none, .mv (.t 7), none⟩,
 ⟨some 25, none, .ex (.idp 1 8) [(.t 3), (.t 24)], none⟩,
 ⟨some 26, none, .load none (.t 25), none⟩,
 ⟨some 27, none, .bin .or (.t 23) (.t 26), none⟩,
 ⟨some 28, none, .ex (.idp 1 8) [(.t 5), (.t 21)], none⟩,
 ⟨none, none, .store 1 (.t 28) (.t 27), none⟩])
 (.skip)))))))
 (J_model_relation_then_j3)))))
def J_model_relation_then_j5 : ACode :=
 .seq (.ops [⟨some 9, none, .bin .lss (.t 8) (.c (.int .i64 8)), none⟩])
 (.keep [2, 3, 4, 5, 8, 9] (.seq (.cond (.t 9)
 (.skip)
 (.exit 0))
 (.keep [2, 3, 4, 5, 8] (.seq (.block 1 (.seq (.ops [⟨some 10, none, .mv (.t 8), none⟩,
 ⟨some 6, none, .mv (.t 10), none⟩])
 (.keep [2, 3, 4, 5, 6, 8] (.seq (.ops [⟨some 11, none, .mv (.c (.int .i64 0)), none⟩])
 (.keep [2, 3, 4, 5, 6, 8, 11] (.block 2 (.loop [2, 3, 4, 5, 6, 8, 11] (J_model_relation_then_j4))))))))
 (J_model_relation_then_j2)))))
def J_model_relation_then : AFn :=
 ⟨32, [.c 4 (some 8)], .seq (.ops [⟨some 2, none, .box (.t 0) [], none⟩,
 ⟨some 3, none, .box (.t 1) [], none⟩,
 ⟨some 4, none, .new [(.int .u8 0), (.int .u8 0), (.int .u8 0), (.int .u8 0), (.int .u8 0), (.int .u8 0), (.int .u8 0), (.int .u8 0)] [], none⟩])
 (.keep [2, 3, 4] (.seq (.ops [⟨some 5, none, .new [(.int .u8 0), (.int .u8 0), (.int .u8 0), (.int .u8 0), (.int .u8 0), (.int .u8 0), (.int .u8 0), (.int .u8 0)] [], none⟩])
 (.keep [2, 3, 4, 5] (.seq (.seq (.ops [⟨some 8, none, .mv (.c (.int .i64 0)), none⟩])
 (.keep [2, 3, 4, 5, 8] (.block 0 (.loop [2, 3, 4, 5, 8] (J_model_relation_then_j5)))))
 (J_model_relation_then_j1)))))⟩
theorem J_model_relation_then_ok : chkFn Try.prog 49 J_model_relation_then = true := by kernel_rfl
def J_model_relation_or_j1 : ACode :=
 .keep [2, 4] (.seq (.ops [⟨some 18, none, .load (some 8) (.t 2), none⟩,
 ⟨none, none, .store 8 (.t 4) (.t 18), none⟩])
 (.ret))
def J_model_relation_or_j2 : ACode :=
 .seq (.ops [⟨some 7, none, .bin .lss (.t 6) (.c (.int .i64 8)), none⟩])
 (.keep [2, 3, 4, 6, 7] (.seq (.cond (.t 7)
 (.skip)
 (.exit 0))
 (.keep [2, 3, 4, 6] (.seq (.block 1 (.seq (.ops [⟨some 8, none, .mv (.t 6), none⟩,
 ⟨some 5, none, .mv (.t 8), none⟩])
 (.keep [2, 3, 4, 5, 6] (.draw [2, 3, 4, 6] [⟨some 9, none, .mv (.t 5), none⟩,
 ⟨some 10, none, .ex (.idp 1 8) [(.t 2), (.t 9)], none⟩,
 ⟨some 11, none, .load none (.t 10), none⟩,
 ⟨some 12, none, .mv (.t 5), none⟩,
 ⟨some 13, none, .ex (.idp 1 8) [(.t 3), (.t 12)], none⟩,
 ⟨some 14, none, .load none (.t 13), none⟩,
 ⟨some 15, none, .bin .or (.t 11) (.t 14), none⟩,
 ⟨some 16, none, .ex (.idp 1 8) [(.t 2), (.t 9)], none⟩,
 ⟨none, none, .store 1 (.t 16) (.t 15), none⟩]))))
 (.keep [2, 3, 4, 6] (.ops [⟨some 17, none, .bin .add (.t 6) (.c (.int .i64 1)), none⟩,
 ⟨some 6, none, .mv (.t 17), none⟩]))))))
def J_model_relation_or : AFn :=
 ⟨19, [.c 4 (some 8)], .seq (.ops [⟨some 2, none, .box (.t 0) [], none⟩,
 ⟨some 3, none, .box (.t 1) [], none⟩,
 ⟨some 4, none, .new [(.int .u8 0), (.int .u8 0), (.int .u8 0), (.int .u8 0), (.int .u8 0), (.int .u8 0), (.int .u8 0), (.int .u8 0)] [], none⟩])
 (.keep [2, 3, 4] (.seq (.seq (.ops [⟨some 6, none, .mv (.c (.int .i64 0)), none⟩])
 (.keep [2, 3, 4, 6] (.block 0 (.loop [2, 3, 4, 6] (J_model_relation_or_j2)))))
 (J_model_relation_or_j1)))⟩
theorem J_model_relation_or_ok : chkFn Try.prog 53 J_model_relation_or = true := by kernel_rfl
end Go.Proofs.Ytlfnepcglnjogaa

/- Models: relations of eight worlds, over the abstract code. -/
-- fast
namespace Go.Proofs.Ytlfnepcglnjogaa
set_option linter.unusedSimpArgs false
set_option linter.unusedVariables false
open Go.RowKit Go.Lib

abbrev Rl := List UInt8
theorem boolE {a b : Bool} (h : a = b) : AV.bool a = AV.bool b := congrArg _ h
def u8 (b : UInt8) : AV := .int .u8 b.toNat
def rlC (r : Rl) : List AV := r.map u8
def rlV (r : Rl) : AV := .agg (rlC r)
def orR (r s : Rl) : Rl := List.zipWith (· ||| ·) r s
theorem frees_rlC : ∀ r : Rl, free.frees (rlC r) = true
  | [] => rfl
  | b :: r => by have := frees_rlC r; simp only [rlC, List.map_cons, free.frees, u8, free, Bool.true_and] at this ⊢; exact this
theorem free_rlV (r : Rl) : free (rlV r) = true := by simp [rlV, free, frees_rlC]
theorem len_rlC (r : Rl) : (rlC r).length = r.length := by simp [rlC]
theorem rlC_drop {r : Rl} {i : Nat} (h : i < r.length) : (rlC r).drop i = u8 r[i] :: (rlC r).drop (i + 1) := by
  unfold rlC
  rw [List.drop_eq_getElem_cons (by simpa using h)]; simp
theorem bv8 (x : BitVec 8) : ((x.toNat : Nat) : Int) % 256 = (x.toNat : Int) := Int.emod_eq_of_lt (by omega) (by have := x.isLt; omega)
theorem wrap8 (x : BitVec 8) : IntKind.u8.wrap (x.toNat : Int) = (x.toNat : Int) := by
  have := bv8 x
  simpa [IntKind.wrap, IntKind.bits, IntKind.signed] using this
theorem bvu (a : UInt8) : BitVec.ofInt 8 (a.toNat : Int) = a.toBitVec := by
  rw [BitVec.ofInt_natCast]
  apply BitVec.eq_of_toNat_eq
  have := a.toNat_lt
  simp
theorem bit_or (a b : UInt8) : bitV .or .u8 (a.toNat : Int) (b.toNat : Int) = ((a ||| b).toNat : Int) := by
  show IntKind.u8.wrap ((BitVec.ofInt 8 (a.toNat : Int) ||| BitVec.ofInt 8 (b.toNat : Int)).toNat : Int) = _
  rw [bvu, bvu, wrap8, ← UInt8.toBitVec_or, UInt8.toNat_toBitVec]
theorem bit_andn (a b : UInt8) : bitV .andNot .u8 (a.toNat : Int) (b.toNat : Int) = ((a &&& ~~~b).toNat : Int) := by
  show IntKind.u8.wrap ((BitVec.ofInt 8 (a.toNat : Int) &&& ~~~ BitVec.ofInt 8 (b.toNat : Int)).toNat : Int) = _
  rw [bvu, bvu, wrap8, ← UInt8.toBitVec_not, ← UInt8.toBitVec_and, UInt8.toNat_toBitVec]
theorem fdiv_pow (a j : Nat) : ((a : Int).fdiv (2 ^ j)) = ((a / 2 ^ j : Nat) : Int) := by
  have e : ((2 : Int) ^ j) = ((2 ^ j : Nat) : Int) := by simp
  rw [e, Int.fdiv_eq_ediv_of_nonneg _ (Int.natCast_nonneg _)]
  rfl
theorem bit_at (a : UInt8) (j : Nat) (hj : j < 8) : bitV .and .u8 ((a.toNat : Int).fdiv (2 ^ j)) 1 = if a.toNat.testBit j then 1 else 0 := by
  rw [fdiv_pow]
  have ha := a.toNat_lt
  have h1 : a.toNat / 2 ^ j < 256 := Nat.lt_of_le_of_lt (Nat.div_le_self _ _) (by simpa using ha)
  show IntKind.u8.wrap ((BitVec.ofInt 8 ((a.toNat / 2 ^ j : Nat) : Int) &&& BitVec.ofInt 8 ((1 : Nat) : Int)).toNat : Int) = _
  rw [wrap8, BitVec.ofInt_natCast, BitVec.ofInt_natCast, BitVec.toNat_and, BitVec.toNat_ofNat, BitVec.toNat_ofNat, Nat.mod_eq_of_lt (by simpa using h1)]
  have h2 : a.toNat.testBit j = ((a.toNat / 2 ^ j) % 2 == 1) := by
    rw [Nat.testBit_eq_decide_div_mod_eq]; rfl
  rw [h2]
  have h3 : (a.toNat / 2 ^ j) % 2 < 2 := Nat.mod_lt _ (by omega)
  rw [show (1 % 2 ^ 8) = 1 from rfl, Nat.and_one_is_mod]
  rcases Nat.lt_or_ge ((a.toNat / 2 ^ j) % 2) 1 with h | h
  · have : (a.toNat / 2 ^ j) % 2 = 0 := by omega
    rw [this]; rfl
  · have : (a.toNat / 2 ^ j) % 2 = 1 := by omega
    rw [this]; rfl
theorem orR_length (r s : Rl) (hr : r.length = 8) (hs : s.length = 8) : (orR r s).length = 8 := by simp [orR, hr, hs]
theorem or_len {r s : Rl} (hr : r.length = 8) (hs : s.length = 8) {i : Nat} (hi : i ≤ 8) : (orR (r.take i) (s.take i)).length = i := by simp [orR, hr, hs]; omega
theorem or_drop {r s : Rl} (hr : r.length = 8) (hs : s.length = 8) {i : Nat} (hi : i < 8) : (rlC (orR (r.take i) (s.take i) ++ r.drop i)).drop i = u8 (r[i]'(by omega)) :: rlC (r.drop (i + 1)) := by
  have hl := or_len hr hs (Nat.le_of_lt hi)
  simp only [rlC, List.map_append]
  rw [List.drop_append_of_le_length (by simp [hl]), List.drop_of_length_le (by simp [hl]), List.drop_eq_getElem_cons (by omega : i < r.length)]
  rfl
theorem or_splice {r s : Rl} (hr : r.length = 8) (hs : s.length = 8) {i : Nat} (hi : i < 8) : splice (rlC (orR (r.take i) (s.take i) ++ r.drop i)) i [u8 ((r[i]'(by omega)) ||| (s[i]'(by omega)))] = rlC (orR (r.take (i + 1)) (s.take (i + 1)) ++ r.drop (i + 1)) := by
  have hl := or_len hr hs (Nat.le_of_lt hi)
  have hd := or_drop hr hs hi
  simp only [splice]
  have e1 : (rlC (orR (r.take i) (s.take i) ++ r.drop i)).take i = rlC (orR (r.take i) (s.take i)) := by
    simp only [rlC, List.map_append]
    rw [List.take_append_of_le_length (by simp [hl]), List.take_of_length_le (by simp [hl])]
  have e2 : (rlC (orR (r.take i) (s.take i) ++ r.drop i)).drop (i + 1) = rlC (r.drop (i + 1)) := by
    rw [← List.drop_drop, hd]; rfl
  have e3 : orR (r.take (i + 1)) (s.take (i + 1)) = orR (r.take i) (s.take i) ++ [(r[i]'(by omega)) ||| (s[i]'(by omega))] := by
    rw [List.take_succ_eq_append_getElem (by omega : i < r.length), List.take_succ_eq_append_getElem (by omega : i < s.length)]
    unfold orR
    rw [List.zipWith_append (by simp [hr, hs])]; rfl
  have hlen : i < (rlC (orR (r.take i) (s.take i) ++ r.drop i)).length := by rw [len_rlC, List.length_append, hl, List.length_drop]; omega
  rw [List.set_eq_take_append_cons_drop, if_pos hlen, e1, e2, e3]
  simp [rlC]
theorem deg_rlC (r : Rl) : (rlC r).map deg = rlC r := by simp [rlC, u8, deg]
theorem take_rlC (r : Rl) (h : r.length = 8) : (rlC r).take 8 = rlC r := List.take_of_length_le (by simp [len_rlC, h])
theorem splice_from {α : Type} : ∀ (x p l : List α), l.length = p.length + x.length → l.take p.length = p → splice l p.length x = p ++ x
  | [], p, l, h, hp => by rw [splice_nil, ← hp, List.take_of_length_le (by simp at h; omega)]; simp
  | v :: x, p, l, h, hp => by
    rw [splice_cons]
    have := splice_from x (p ++ [v]) (l.set p.length v) (by simp at h ⊢; omega) (by
      simp only [List.length_append, List.length_singleton]
      have hlt : p.length < l.length := by simp at h; omega
      rw [List.take_succ_eq_append_getElem (by simpa using hlt), List.take_set_of_le (Nat.le_refl _), hp]
      simp)
    simpa using this
theorem splice_all {α : Type} (l x : List α) (h : l.length = x.length) : splice l 0 x = x := by
  have := splice_from x [] l (by simpa using h) rfl
  simpa using this
set_option maxRecDepth 100000 in
set_option maxHeartbeats 4000000 in
theorem p_ror (r s : Rl) (hr : r.length = 8) (hs : s.length = 8) : PCalls Try.prog 53 [rlV r, rlV s] (rlV (orR r s)) := by
  refine pcalls_of (by simp [free.frees, free_rlV]) (free_rlV _) (acalls_of mixed J_model_relation_or_ok (Nat.le_of_ble_eq_true rfl) ?_); simp only [J_model_relation_or, rlV, wk,if_true,if_false,forall_const,implies_true,ne_eq,eq_self,Nat.reduceEqDiff,Nat.reduceAdd,Nat.reduceMul,Nat.reduceSub,Nat.reduceLeDiff,Nat.reduceLT,Int.reduceEq,Int.reduceLT,Int.reduceLE,Int.reduceAdd,Int.reduceSub,Int.reduceMul,Int.reduceNeg,Int.reduceNe,reduceCtorEq,Int.reduceToNat,↓reduceIte]
  refine W_loop (fun n fr h => ∃ i : Nat, i ≤ 8 ∧ n = 8 - i ∧ fr = [(2, .ptr 0 0), (3, .ptr 1 0), (4, .ptr 2 0), (6, .int .i64 i)] ∧ h = [some (false, rlC (orR (r.take i) (s.take i) ++ r.drop i)), some (false, rlC s), some (false, [.int .u8 0, .int .u8 0, .int .u8 0, .int .u8 0, .int .u8 0, .int .u8 0, .int .u8 0, .int .u8 0])]) 8 ⟨0, by omega, by omega, rfl, by simp [orR]⟩ ?_
  rintro n fr h' ⟨i, hi, rfl, rfl, rfl⟩
  simp only [J_model_relation_or_j2, wk,if_true,if_false,forall_const,implies_true,ne_eq,eq_self,Nat.reduceEqDiff,Nat.reduceAdd,Nat.reduceMul,Nat.reduceSub,Nat.reduceLeDiff,Nat.reduceLT,Int.reduceEq,Int.reduceLT,Int.reduceLE,Int.reduceAdd,Int.reduceSub,Int.reduceMul,Int.reduceNeg,Int.reduceNe,reduceCtorEq,Int.reduceToNat,↓reduceIte]
  refine ⟨fun hlt => ?_, fun hge => ?_⟩
  · have hil : i < 8 := by omega
    have hin : ((0 ≤ (i : Int)) ∧ (i : Int) < ((8 : Nat) : Int)) = True := by simp; omega
    have hd1 := or_drop hr hs hil
    have hd2 := rlC_drop (r := s) (i := i) (by omega)
    have hsp := or_splice hr hs hil
    have hlen : (rlC (orR (r.take i) (s.take i) ++ r.drop i)).length = 8 := by rw [len_rlC, List.length_append, or_len hr hs hi, List.length_drop]; omega
    simp only [idpF, hin, Int.toNat_natCast, hd1, hd2, u8, bit_or, wk,if_true,if_false,forall_const,implies_true,ne_eq,eq_self,Nat.reduceEqDiff,Nat.reduceAdd,Nat.reduceMul,Nat.reduceSub,Nat.reduceLeDiff,Nat.reduceLT,Int.reduceEq,Int.reduceLT,Int.reduceLE,Int.reduceAdd,Int.reduceSub,Int.reduceMul,Int.reduceNeg,Int.reduceNe,reduceCtorEq,Int.reduceToNat,↓reduceIte]
    refine ⟨by omega, inR_of (by omega) (by omega), 8 - (i + 1), by omega, i + 1, by omega, rfl, by simp, ?_⟩
    simp only [splice, u8] at hsp
    rw [hsp]
  · obtain rfl : i = 8 := by omega
    have hf : orR (r.take 8) (s.take 8) ++ r.drop 8 = orR r s := by
      rw [List.take_of_length_le (by omega), List.take_of_length_le (by omega), List.drop_of_length_le (by omega), List.append_nil]
    have h8 := orR_length r s hr hs
    simp only [J_model_relation_or_j1, wk,if_true,if_false,forall_const,implies_true,ne_eq,eq_self,Nat.reduceEqDiff,Nat.reduceAdd,Nat.reduceMul,Nat.reduceSub,Nat.reduceLeDiff,Nat.reduceLT,Int.reduceEq,Int.reduceLT,Int.reduceLE,Int.reduceAdd,Int.reduceSub,Int.reduceMul,Int.reduceNeg,Int.reduceNe,reduceCtorEq,Int.reduceToNat,↓reduceIte]
    rw [hf, take_rlC _ h8, deg_rlC, splice_all _ _ (by simp [len_rlC, h8])]
    refine ⟨by simp [len_rlC, h8], by simp [len_rlC, h8], ?_⟩
    simp only [val, ev, lk, wk,if_true,if_false,forall_const,implies_true,ne_eq,eq_self,Nat.reduceEqDiff,Nat.reduceAdd,Nat.reduceMul,Nat.reduceSub,Nat.reduceLeDiff,Nat.reduceLT,Int.reduceEq,Int.reduceLT,Int.reduceLE,Int.reduceAdd,Int.reduceSub,Int.reduceMul,Int.reduceNeg,Int.reduceNe,reduceCtorEq,Int.reduceToNat,↓reduceIte]
    exact ⟨by simp [len_rlC, h8], by rw [take_rlC _ h8, deg_rlC]⟩
def withinR (r s : Rl) : Bool := (List.range 8).all fun i => decide (r.getD i 0 &&& ~~~ (s.getD i 0) = 0)
set_option maxRecDepth 100000 in
set_option maxHeartbeats 4000000 in
theorem p_mwithin (r s : Rl) (hr : r.length = 8) (hs : s.length = 8) : PCalls Try.prog 37 [rlV r, rlV s] (.bool (withinR r s)) := by
  refine pcalls_of (by simp [free.frees, free_rlV]) rfl (acalls_of mixed J_model_relation_within_ok (Nat.le_of_ble_eq_true rfl) ?_); simp only [J_model_relation_within, rlV, wk,if_true,if_false,forall_const,implies_true,ne_eq,eq_self,Nat.reduceEqDiff,Nat.reduceAdd,Nat.reduceMul,Nat.reduceSub,Nat.reduceLeDiff,Nat.reduceLT,Int.reduceEq,Int.reduceLT,Int.reduceLE,Int.reduceAdd,Int.reduceSub,Int.reduceMul,Int.reduceNeg,Int.reduceNe,reduceCtorEq,Int.reduceToNat,↓reduceIte]
  refine W_loop (fun n fr h => ∃ i : Nat, i ≤ 8 ∧ n = 8 - i ∧ (∀ j, j < i → r.getD j 0 &&& ~~~ (s.getD j 0) = 0) ∧ fr = [(2, .ptr 0 0), (3, .ptr 1 0), (6, .int .i64 i)] ∧ h = [some (false, rlC r), some (false, rlC s)]) 8 ⟨0, by omega, by omega, by simp, rfl, by simp⟩ ?_
  rintro n fr h' ⟨i, hi, rfl, hall, rfl, rfl⟩
  simp only [J_model_relation_within_j2, wk,if_true,if_false,forall_const,implies_true,ne_eq,eq_self,Nat.reduceEqDiff,Nat.reduceAdd,Nat.reduceMul,Nat.reduceSub,Nat.reduceLeDiff,Nat.reduceLT,Int.reduceEq,Int.reduceLT,Int.reduceLE,Int.reduceAdd,Int.reduceSub,Int.reduceMul,Int.reduceNeg,Int.reduceNe,reduceCtorEq,Int.reduceToNat,↓reduceIte]
  refine ⟨fun hlt => ?_, fun hge => ?_⟩
  · have hil : i < 8 := by omega
    have hin : ((0 ≤ (i : Int)) ∧ (i : Int) < ((8 : Nat) : Int)) = True := by simp; omega
    have hd1 := rlC_drop (r := r) (i := i) (by omega)
    have hd2 := rlC_drop (r := s) (i := i) (by omega)
    have g1 : r.getD i 0 = r[i] := by simp [List.getD_eq_getElem?_getD, List.getElem?_eq_getElem (by omega : i < r.length)]
    have g2 : s.getD i 0 = s[i] := by simp [List.getD_eq_getElem?_getD, List.getElem?_eq_getElem (by omega : i < s.length)]
    have hz : ∀ x : UInt8, ((x.toNat : Int) = 0) ↔ x = 0 := fun x => by
      constructor
      · intro h; apply UInt8.toNat_inj.1; simpa using h
      · rintro rfl; rfl
    simp only [idpF, hin, Int.toNat_natCast, hd1, hd2, u8, bit_andn, wk,if_true,if_false,forall_const,implies_true,ne_eq,eq_self,Nat.reduceEqDiff,Nat.reduceAdd,Nat.reduceMul,Nat.reduceSub,Nat.reduceLeDiff,Nat.reduceLT,Int.reduceEq,Int.reduceLT,Int.reduceLE,Int.reduceAdd,Int.reduceSub,Int.reduceMul,Int.reduceNeg,Int.reduceNe,reduceCtorEq,Int.reduceToNat,↓reduceIte]
    rw [hz]
    refine ⟨fun hne => boolE ?_, fun he => ⟨inR_of (by omega) (by omega), 8 - (i + 1), by omega, i + 1, by omega, rfl, fun j hj => ?_, by simp⟩⟩
    · symm
      simp only [withinR, List.all_eq_false, List.mem_range]
      exact ⟨i, hil, by rw [g1, g2]; simpa using hne⟩
    · rcases Nat.lt_succ_iff_lt_or_eq.1 hj with h | rfl
      · exact hall j h
      · rw [g1, g2]; exact he
  · obtain rfl : i = 8 := by omega
    simp only [J_model_relation_within_j1, wk,if_true,if_false,forall_const,implies_true,ne_eq,eq_self,Nat.reduceEqDiff,Nat.reduceAdd,Nat.reduceMul,Nat.reduceSub,Nat.reduceLeDiff,Nat.reduceLT,Int.reduceEq,Int.reduceLT,Int.reduceLE,Int.reduceAdd,Int.reduceSub,Int.reduceMul,Int.reduceNeg,Int.reduceNe,reduceCtorEq,Int.reduceToNat,↓reduceIte]
    refine boolE ?_
    symm
    simp only [withinR, List.all_eq_true, List.mem_range, decide_eq_true_eq]
    exact hall
def thenB (b : UInt8) (s : Rl) (j : Nat) : UInt8 := (List.range j).foldl (fun x k => if b.toNat.testBit k then x ||| s.getD k 0 else x) 0
def thenR (r s : Rl) : Rl := r.map fun b => thenB b s 8
theorem thenB_succ (b : UInt8) (s : Rl) (j : Nat) : thenB b s (j + 1) = if b.toNat.testBit j then thenB b s j ||| s.getD j 0 else thenB b s j := by
  simp only [thenB, List.range_succ, List.foldl_append, List.foldl_cons, List.foldl_nil]
def thenX (r s : Rl) (i : Nat) (b : UInt8) : Rl := (r.take i).map (fun b => thenB b s 8) ++ b :: List.replicate (7 - i) 0
theorem thenX_drop (r s : Rl) (hr : r.length = 8) {i : Nat} (hi : i < 8) (b : UInt8) : (rlC (thenX r s i b)).drop i = u8 b :: rlC (List.replicate (7 - i) 0) := by
  simp only [rlC, thenX, List.map_append, List.map_cons]
  rw [List.drop_append_of_le_length (by simp [hr]; omega), List.drop_of_length_le (by simp [hr]; omega)]
  rfl
theorem thenX_set (r s : Rl) (hr : r.length = 8) {i : Nat} (hi : i < 8) (b c : UInt8) : (rlC (thenX r s i b)).set i (u8 c) = rlC (thenX r s i c) := by
  have hl : ((r.take i).map (fun b => thenB b s 8)).length = i := by simp [hr]; omega
  simp only [rlC, thenX, List.map_append, List.map_cons]
  rw [List.set_append_right _ _ (by simp [hr]; omega)]
  congr 1
  rw [show i - (List.map u8 ((r.take i).map (fun b => thenB b s 8))).length = 0 by rw [List.length_map, hl]; omega]
  rfl
theorem thenX_len (r s : Rl) (hr : r.length = 8) {i : Nat} (hi : i < 8) (b : UInt8) : (rlC (thenX r s i b)).length = 8 := by
  simp [rlC, thenX, hr]; omega
theorem thenX_next (r s : Rl) (hr : r.length = 8) {i : Nat} (hi : i < 8) : thenX r s i (thenB (r[i]'(by omega)) s 8) = if i = 7 then thenR r s else thenX r s (i + 1) 0 := by
  have e : (r.take (i + 1)).map (fun b => thenB b s 8) = (r.take i).map (fun b => thenB b s 8) ++ [thenB (r[i]'(by omega)) s 8] := by
    rw [List.take_succ_eq_append_getElem (by omega : i < r.length), List.map_append]; rfl
  split
  · next h =>
    subst h
    rw [List.take_of_length_le (by omega)] at e
    simp only [thenX, thenR, e]
    rfl
  · next h =>
    simp only [thenX, e, List.append_assoc]
    rw [show 7 - i = (7 - (i + 1)) + 1 by omega, List.replicate_succ]
    rfl
set_option maxRecDepth 100000 in
set_option maxHeartbeats 4000000 in
theorem p_rthen (r s : Rl) (hr : r.length = 8) (hs : s.length = 8) : PCalls Try.prog 49 [rlV r, rlV s] (rlV (thenR r s)) := by
  refine pcalls_of (by simp [free.frees, free_rlV]) (free_rlV _) (acalls_of mixed J_model_relation_then_ok (Nat.le_of_ble_eq_true rfl) ?_); simp only [J_model_relation_then, rlV, wk,if_true,if_false,forall_const,implies_true,ne_eq,eq_self,Nat.reduceEqDiff,Nat.reduceAdd,Nat.reduceMul,Nat.reduceSub,Nat.reduceLeDiff,Nat.reduceLT,Int.reduceEq,Int.reduceLT,Int.reduceLE,Int.reduceAdd,Int.reduceSub,Int.reduceMul,Int.reduceNeg,Int.reduceNe,reduceCtorEq,Int.reduceToNat,↓reduceIte]
  refine W_loop (fun n fr h => ∃ i : Nat, i ≤ 8 ∧ n = 8 - i ∧ fr = [(2, .ptr 0 0), (3, .ptr 1 0), (4, .ptr 2 0), (5, .ptr 3 0), (8, .int .i64 i)] ∧ h = [some (false, rlC r), some (false, rlC s), some (false, [.int .u8 0, .int .u8 0, .int .u8 0, .int .u8 0, .int .u8 0, .int .u8 0, .int .u8 0, .int .u8 0]), some (false, rlC (if i = 8 then thenR r s else thenX r s i 0))]) 8 ⟨0, by omega, by omega, rfl, by simp [thenX, rlC, u8, List.replicate]⟩ ?_
  rintro n fr h' ⟨i, hi, rfl, rfl, rfl⟩
  simp only [J_model_relation_then_j5, wk,if_true,if_false,forall_const,implies_true,ne_eq,eq_self,Nat.reduceEqDiff,Nat.reduceAdd,Nat.reduceMul,Nat.reduceSub,Nat.reduceLeDiff,Nat.reduceLT,Int.reduceEq,Int.reduceLT,Int.reduceLE,Int.reduceAdd,Int.reduceSub,Int.reduceMul,Int.reduceNeg,Int.reduceNe,reduceCtorEq,Int.reduceToNat,↓reduceIte]
  refine ⟨fun hlt => ?_, fun hge => ?_⟩
  · have hil : i < 8 := by omega
    have hin : ((0 ≤ (i : Int)) ∧ (i : Int) < ((8 : Nat) : Int)) = True := by simp; omega
    have h8 : ¬ i = 8 := by omega
    rw [if_neg h8]
    refine W_loop (fun n fr h => ∃ j : Nat, j ≤ 8 ∧ n = 8 - j ∧ fr = [(2, .ptr 0 0), (3, .ptr 1 0), (4, .ptr 2 0), (5, .ptr 3 0), (6, .int .i64 i), (8, .int .i64 i), (11, .int .i64 j)] ∧ h = [some (false, rlC r), some (false, rlC s), some (false, [.int .u8 0, .int .u8 0, .int .u8 0, .int .u8 0, .int .u8 0, .int .u8 0, .int .u8 0, .int .u8 0]), some (false, rlC (thenX r s i (thenB (r[i]'(by omega)) s j)))]) 8 ⟨0, by omega, by omega, rfl, by simp [thenB]⟩ ?_
    rintro n fr h' ⟨j, hj, rfl, rfl, rfl⟩
    simp only [J_model_relation_then_j4, wk,if_true,if_false,forall_const,implies_true,ne_eq,eq_self,Nat.reduceEqDiff,Nat.reduceAdd,Nat.reduceMul,Nat.reduceSub,Nat.reduceLeDiff,Nat.reduceLT,Int.reduceEq,Int.reduceLT,Int.reduceLE,Int.reduceAdd,Int.reduceSub,Int.reduceMul,Int.reduceNeg,Int.reduceNe,reduceCtorEq,Int.reduceToNat,↓reduceIte]
    refine ⟨fun hlt => ?_, fun hge => ?_⟩
    · have hjl : j < 8 := by omega
      have hjn : ((0 ≤ (j : Int)) ∧ (j : Int) < ((8 : Nat) : Int)) = True := by simp; omega
      have hd1 := rlC_drop (r := r) (i := i) (by omega)
      have hd2 := rlC_drop (r := s) (i := j) (by omega)
      have hd3 := thenX_drop r s hr hil (thenB (r[i]'(by omega)) s j)
      have hsh : min j IntKind.u8.bits = j := by simp [IntKind.bits]; omega
      have hlen := thenX_len r s hr hil (thenB (r[i]'(by omega)) s j)
      have hset := thenX_set r s hr hil (thenB (r[i]'(by omega)) s j) (thenB (r[i]'(by omega)) s j ||| (s[j]'(by omega)))
      have hst := thenB_succ (r[i]'(by omega)) s j
      have g2 : s.getD j 0 = s[j] := by simp [List.getD_eq_getElem?_getD, List.getElem?_eq_getElem (by omega : j < s.length)]
      have hb := bit_at (r[i]'(by omega)) j hjl
      simp only [u8] at hd1 hd2 hd3 hset
      simp only [idpF, hin, hjn, Int.toNat_natCast, hd1, hd2, hd3, hsh, hb, bit_or, wk,if_true,if_false,forall_const,implies_true,ne_eq,eq_self,Nat.reduceEqDiff,Nat.reduceAdd,Nat.reduceMul,Nat.reduceSub,Nat.reduceLeDiff,Nat.reduceLT,Int.reduceEq,Int.reduceLT,Int.reduceLE,Int.reduceAdd,Int.reduceSub,Int.reduceMul,Int.reduceNeg,Int.reduceNe,reduceCtorEq,Int.reduceToNat,↓reduceIte]
      refine ⟨by omega, fun hb1 => ⟨by omega, ?_⟩, fun hb0 => ?_⟩
      · have hbt : (r[i]'(by omega)).toNat.testBit j = true := by
          cases hx : (r[i]'(by omega)).toNat.testBit j with
          | true => rfl
          | false => rw [hx] at hb1; simp at hb1
        simp only [J_model_relation_then_j3, wk,if_true,if_false,forall_const,implies_true,ne_eq,eq_self,Nat.reduceEqDiff,Nat.reduceAdd,Nat.reduceMul,Nat.reduceSub,Nat.reduceLeDiff,Nat.reduceLT,Int.reduceEq,Int.reduceLT,Int.reduceLE,Int.reduceAdd,Int.reduceSub,Int.reduceMul,Int.reduceNeg,Int.reduceNe,reduceCtorEq,Int.reduceToNat,↓reduceIte]
        refine ⟨inR_of (by omega) (by omega), 8 - (j + 1), by omega, j + 1, by omega, rfl, by simp, ?_⟩
        rw [hset, hst, if_pos hbt, g2]
      · have hbt : ¬ (r[i]'(by omega)).toNat.testBit j = true := fun hx => by rw [if_pos hx] at hb0; exact hb0 rfl
        simp only [J_model_relation_then_j3, wk,if_true,if_false,forall_const,implies_true,ne_eq,eq_self,Nat.reduceEqDiff,Nat.reduceAdd,Nat.reduceMul,Nat.reduceSub,Nat.reduceLeDiff,Nat.reduceLT,Int.reduceEq,Int.reduceLT,Int.reduceLE,Int.reduceAdd,Int.reduceSub,Int.reduceMul,Int.reduceNeg,Int.reduceNe,reduceCtorEq,Int.reduceToNat,↓reduceIte]
        refine ⟨inR_of (by omega) (by omega), 8 - (j + 1), by omega, j + 1, by omega, rfl, by simp, ?_⟩
        rw [hst, if_neg hbt]
    · obtain rfl : j = 8 := by omega
      simp only [J_model_relation_then_j2, wk,if_true,if_false,forall_const,implies_true,ne_eq,eq_self,Nat.reduceEqDiff,Nat.reduceAdd,Nat.reduceMul,Nat.reduceSub,Nat.reduceLeDiff,Nat.reduceLT,Int.reduceEq,Int.reduceLT,Int.reduceLE,Int.reduceAdd,Int.reduceSub,Int.reduceMul,Int.reduceNeg,Int.reduceNe,reduceCtorEq,Int.reduceToNat,↓reduceIte]
      refine ⟨inR_of (by omega) (by omega), 8 - (i + 1), by omega, i + 1, by omega, rfl, by simp, ?_⟩
      rw [thenX_next r s hr hil]
      simp [show (i + 1 = 8) = (i = 7) by simp]
  · obtain rfl : i = 8 := by omega
    have h8 : (thenR r s).length = 8 := by simp [thenR, hr]
    simp only [J_model_relation_then_j1, wk,if_true,if_false,forall_const,implies_true,ne_eq,eq_self,Nat.reduceEqDiff,Nat.reduceAdd,Nat.reduceMul,Nat.reduceSub,Nat.reduceLeDiff,Nat.reduceLT,Int.reduceEq,Int.reduceLT,Int.reduceLE,Int.reduceAdd,Int.reduceSub,Int.reduceMul,Int.reduceNeg,Int.reduceNe,reduceCtorEq,Int.reduceToNat,↓reduceIte]
    rw [take_rlC _ h8, deg_rlC, splice_all _ _ (by simp [len_rlC, h8])]
    refine ⟨by simp [len_rlC, h8], by simp [len_rlC, h8], ?_⟩
    simp only [val, ev, lk, wk,if_true,if_false,forall_const,implies_true,ne_eq,eq_self,Nat.reduceEqDiff,Nat.reduceAdd,Nat.reduceMul,Nat.reduceSub,Nat.reduceLeDiff,Nat.reduceLT,Int.reduceEq,Int.reduceLT,Int.reduceLE,Int.reduceAdd,Int.reduceSub,Int.reduceMul,Int.reduceNeg,Int.reduceNe,reduceCtorEq,Int.reduceToNat,↓reduceIte]
    exact ⟨by simp [len_rlC, h8], by rw [take_rlC _ h8, deg_rlC]⟩
end Go.Proofs.Ytlfnepcglnjogaa

namespace Go.Proofs.Ytlfnepcglnjogaa
open Go.RowKit
def F_model_told : AFn :=
 ⟨9, [.t 4], .seq (.ops [⟨some 2, none, .box (.t 0) [], none⟩,
 ⟨some 3, none, .box (.t 1) [], none⟩,
 ⟨some 4, none, .mv (.c (.lst .clip 0 [])), none⟩])
 (.keep [2, 3] (.seq (.ops [⟨some 5, none, .fld 0 (.t 2), none⟩,
 ⟨some 6, none, .load none (.t 5), none⟩,
 ⟨some 7, none, .ex (.sla 8) [(.t 3), (.t 6)], none⟩,
 ⟨some 8, none, .aph 5 1 1 (.c (.lst .clip 0 [])) (.t 7), none⟩,
 ⟨some 4, none, .mvo 8, none⟩])
 (.ret)))⟩
theorem F_model_told_ok : chkFn Try.prog 25 F_model_told = true := by kernel_rfl
end Go.Proofs.Ytlfnepcglnjogaa

namespace Go.Proofs.Ytlfnepcglnjogaa
open Go.RowKit
def F_ref02_Of : AFn :=
 ⟨29, [.t 2], .seq (.ops [⟨some 2, none, .mv (.c (.str ⟨#[]⟩)), none⟩])
 (.keep [0] (.seq (.ops [⟨some 5, none, .bsl 5 1 0 [] [], none⟩,
 ⟨some 3, none, .mvo 5, none⟩])
 (.keep [0, 3] (.seq (.seq (.ops [⟨some 4, none, .mv (.c (.int .i64 0)), none⟩])
 (.keep [0, 3, 4] (.block 0 (.loop [0, 3, 4] (.seq (.seq (.ops [⟨some 6, none, .mv (.t 4), none⟩,
 ⟨some 7, none, .mv (.t 0), none⟩,
 ⟨some 8, none, .lenl (.t 7), none⟩,
 ⟨some 9, none, .bin .lss (.t 6) (.t 8), none⟩])
 (.keep [0, 3, 4, 9] (.cond (.t 9)
 (.skip)
 (.exit 0))))
 (.keep [0, 3, 4] (.seq (.block 1 (.draw [0, 3, 4] [⟨some 12, none, .mvo 3, none⟩,
 ⟨some 13, none, .mv (.t 0), none⟩,
 ⟨some 14, none, .mv (.t 4), none⟩,
 ⟨some 15, none, .idxa 1 (.t 13) (.t 14), none⟩,
 ⟨some 16, none, .load none (.t 15), none⟩,
 ⟨some 17, none, .bin .quo (.t 16) (.c (.int .u16 256)), none⟩,
 ⟨some 18, none, .conv .u8 (.t 17), none⟩,
 ⟨some 19, none, .mv (.t 0), none⟩,
 ⟨some 20, none, .mv (.t 4), none⟩,
 ⟨some 21, none, .idxa 1 (.t 19) (.t 20), none⟩,
 ⟨some 22, none, .load none (.t 21), none⟩,
 ⟨some 23, none, .bin .rem (.t 22) (.c (.int .u16 256)), none⟩,
 ⟨some 24, none, .conv .u8 (.t 23), none⟩,
 ⟨some 25, none, .bsl 5 1 2 [(.int .u8 0), (.int .u8 0)] [(0, 1, (.t 18)), (1, 1, (.t 24))], none⟩,
 ⟨some 26, none, .appo 5 1 1 12 (.t 25), none⟩,
 ⟨some 3, none, .mvo 26, none⟩]))
 (.keep [0, 3, 4] (.ops [⟨some 10, none, .mv (.t 4), none⟩,
 ⟨some 11, none, .bin .add (.t 10) (.c (.int .i64 1)), none⟩,
 ⟨some 4, none, .mv (.t 11), none⟩])))))))))
 (.keep [3] (.seq (.ops [⟨some 27, none, .mv (.t 3), none⟩,
 ⟨some 28, none, .b2s (.t 27), none⟩,
 ⟨some 2, none, .mv (.t 28), none⟩])
 (.ret)))))))⟩
theorem F_ref02_Of_ok : chkFn Try.prog 22 F_ref02_Of = true := by kernel_rfl
def F_word_May : AFn :=
 ⟨26, [.t 2], .seq (.ops [⟨some 2, none, .mv (.c (.bool false)), none⟩])
 (.keep [0] (.seq (.seq (.ops [⟨some 4, none, .mv (.t 0), none⟩,
 ⟨some 5, none, .call (.f 46) [(.t 4)], none⟩,
 ⟨some 6, none, .mv (.t 5), none⟩,
 ⟨some 7, (some (6, false)), .mv (.t 0), none⟩,
 ⟨some 8, (some (6, false)), .call (.f 47) [(.t 7)], none⟩,
 ⟨some 9, (some (6, false)), .bin .lss (.t 8) (.c (.int .i64 1)), none⟩,
 ⟨some 10, none, .pick (.t 6) (.c (.bool true)) (.t 9), none⟩,
 ⟨some 11, none, .mv (.t 10), none⟩,
 ⟨some 12, (some (11, false)), .mv (.t 0), none⟩,
 ⟨some 13, (some (11, false)), .call (.f 47) [(.t 12)], none⟩,
 ⟨some 14, (some (11, false)), .bin .gtr (.t 13) (.c (.int .i64 8)), none⟩,
 ⟨some 15, none, .pick (.t 11) (.c (.bool true)) (.t 14), none⟩])
 (.keep [0, 15] (.cond (.t 15)
 (.seq (.ops [⟨some 2, none, .mv (.c (.bool false)), none⟩])
 (.ret))
 (.skip))))
 (.keep [0] (.seq (.seq (.ops [⟨some 16, none, .mv (.t 0), none⟩,
 ⟨some 17, none, .call (.f 47) [(.t 16)], none⟩,
 ⟨some 18, none, .mv (.c (.int .i64 0)), none⟩])
 (.keep [0, 17, 18] (.block 0 (.loop [0, 17, 18] (.seq (.ops [⟨some 19, none, .bin .lss (.t 18) (.t 17), none⟩])
 (.keep [0, 17, 18, 19] (.seq (.cond (.t 19)
 (.skip)
 (.exit 0))
 (.keep [0, 17, 18] (.seq (.block 1 (.seq (.ops [⟨some 20, none, .mv (.t 18), none⟩,
 ⟨some 3, none, .mv (.t 20), none⟩])
 (.keep [0, 3, 17, 18] (.seq (.ops [⟨some 21, none, .mv (.t 0), none⟩,
 ⟨some 22, none, .mv (.t 3), none⟩,
 ⟨some 23, none, .call (.f 48) [(.t 21), (.t 22)], none⟩,
 ⟨some 24, none, .bin .eql (.t 23) (.c (.int .u16 0)), none⟩])
 (.keep [0, 17, 18, 24] (.cond (.t 24)
 (.seq (.ops [⟨some 2, none, .mv (.c (.bool false)), none⟩])
 (.ret))
 (.skip)))))))
 (.keep [0, 17, 18] (.ops [⟨some 25, none, .bin .add (.t 18) (.c (.int .i64 1)), none⟩,
 ⟨some 18, none, .mv (.t 25), none⟩])))))))))))
 (.keep [] (.seq (.ops [⟨some 2, none, .mv (.c (.bool true)), none⟩])
 (.ret)))))))⟩
theorem F_word_May_ok : chkFn Try.prog 24 F_word_May = true := by kernel_rfl
def F_ref02_May : AFn :=
 ⟨32, [.t 2], .seq (.ops [⟨some 2, none, .mv (.c (.bool false)), none⟩])
 (.keep [0] (.seq (.ops [⟨some 5, none, .mv (.t 0), none⟩,
 ⟨some 6, none, .call (.f 50) [(.t 5)], none⟩,
 ⟨some 3, none, .mv (.t 6), none⟩])
 (.keep [0, 3] (.seq (.seq (.ops [⟨some 4, none, .mv (.c (.int .i64 0)), none⟩])
 (.keep [0, 3, 4] (.block 0 (.loop [0, 3, 4] (.seq (.seq (.ops [⟨some 7, none, .mv (.t 4), none⟩,
 ⟨some 8, none, .mv (.t 3), none⟩,
 ⟨some 9, none, .lenl (.t 8), none⟩,
 ⟨some 10, none, .bin .lss (.t 7) (.t 9), none⟩])
 (.keep [0, 3, 4, 10] (.cond (.t 10)
 (.skip)
 (.exit 0))))
 (.keep [0, 3, 4] (.seq (.block 1 (.seq (.ops [⟨some 13, none, .mv (.t 3), none⟩,
 ⟨some 14, none, .mv (.t 4), none⟩,
 ⟨some 15, none, .idxa 1 (.t 13) (.t 14), none⟩,
 ⟨some 16, none, .load none (.t 15), none⟩,
 ⟨some 17, none, .bin .eql (.t 16) (.c (.int .u16 0)), none⟩])
 (.keep [0, 3, 4, 17] (.cond (.t 17)
 (.seq (.ops [⟨some 2, none, .mv (.c (.bool false)), none⟩])
 (.ret))
 (.skip)))))
 (.keep [0, 3, 4] (.ops [⟨some 11, none, .mv (.t 4), none⟩,
 ⟨some 12, none, .bin .add (.t 11) (.c (.int .i64 1)), none⟩,
 ⟨some 4, none, .mv (.t 12), none⟩])))))))))
 (.keep [0, 3] (.seq (.ops [⟨some 18, none, .mv (.t 0), none⟩,
 ⟨some 19, none, .lens (.t 18), none⟩,
 ⟨some 20, none, .bin .rem (.t 19) (.c (.int .i64 2)), none⟩,
 ⟨some 21, none, .bin .eql (.t 20) (.c (.int .i64 0)), none⟩,
 ⟨some 22, none, .mv (.t 21), none⟩,
 ⟨some 23, (some (22, true)), .mv (.t 3), none⟩,
 ⟨some 24, (some (22, true)), .lenl (.t 23), none⟩,
 ⟨some 25, (some (22, true)), .bin .geq (.t 24) (.c (.int .i64 1)), none⟩,
 ⟨some 26, none, .pick (.t 22) (.t 25) (.c (.bool false)), none⟩,
 ⟨some 27, none, .mv (.t 26), none⟩,
 ⟨some 28, (some (27, true)), .mv (.t 3), none⟩,
 ⟨some 29, (some (27, true)), .lenl (.t 28), none⟩,
 ⟨some 30, (some (27, true)), .bin .leq (.t 29) (.c (.int .i64 8)), none⟩,
 ⟨some 31, none, .pick (.t 27) (.t 30) (.c (.bool false)), none⟩,
 ⟨some 2, none, .mv (.t 31), none⟩])
 (.ret)))))))⟩
theorem F_ref02_May_ok : chkFn Try.prog 28 F_ref02_May = true := by kernel_rfl
def F_set_May : AFn :=
 ⟨36, [.t 2], .seq (.ops [⟨some 2, none, .mv (.c (.bool false)), none⟩])
 (.keep [0] (.seq (.seq (.ops [⟨some 5, none, .mv (.t 0), none⟩,
 ⟨some 6, none, .lenl (.t 5), none⟩,
 ⟨some 7, none, .bin .lss (.t 6) (.c (.int .i64 1)), none⟩,
 ⟨some 8, none, .mv (.t 7), none⟩,
 ⟨some 9, (some (8, false)), .mv (.t 0), none⟩,
 ⟨some 10, (some (8, false)), .lenl (.t 9), none⟩,
 ⟨some 11, (some (8, false)), .bin .gtr (.t 10) (.c (.int .i64 16)), none⟩,
 ⟨some 12, none, .pick (.t 8) (.c (.bool true)) (.t 11), none⟩])
 (.keep [0, 12] (.cond (.t 12)
 (.seq (.ops [⟨some 2, none, .mv (.c (.bool false)), none⟩])
 (.ret))
 (.skip))))
 (.keep [0] (.seq (.seq (.ops [⟨some 13, none, .mv (.t 0), none⟩,
 ⟨some 14, none, .lenl (.t 13), none⟩,
 ⟨some 15, none, .mv (.c (.int .i64 0)), none⟩])
 (.keep [0, 13, 14, 15] (.block 0 (.loop [0, 13, 14, 15] (.seq (.ops [⟨some 16, none, .bin .lss (.t 15) (.t 14), none⟩])
 (.keep [0, 13, 14, 15, 16] (.seq (.cond (.t 16)
 (.skip)
 (.exit 0))
 (.keep [0, 13, 14, 15] (.seq (.block 1 (.seq (.ops [⟨some 17, none, .mv (.t 15), none⟩,
 ⟨some 18, none, .idxa 1 (.t 13) (.t 15), none⟩,
 ⟨some 19, none, .load none (.t 18), none⟩,
 ⟨some 3, none, .mv (.t 17), none⟩,
 ⟨some 4, none, .mv (.t 19), none⟩])
 (.keep [0, 3, 4, 13, 14, 15] (.seq (.seq (.ops [⟨some 20, none, .mv (.t 4), none⟩,
 ⟨some 21, none, .call (.f 24) [(.t 20)], none⟩,
 ⟨some 22, none, .not (.t 21), none⟩])
 (.keep [0, 3, 4, 13, 14, 15, 22] (.cond (.t 22)
 (.seq (.ops [⟨some 2, none, .mv (.c (.bool false)), none⟩])
 (.ret))
 (.skip))))
 (.keep [0, 3, 4, 13, 14, 15] (.seq (.ops [⟨some 23, none, .mv (.t 3), none⟩,
 ⟨some 24, none, .bin .gtr (.t 23) (.c (.int .i64 0)), none⟩,
 ⟨some 25, none, .mv (.t 24), none⟩,
 ⟨some 26, (some (25, true)), .mv (.t 0), none⟩,
 ⟨some 27, (some (25, true)), .mv (.t 3), none⟩,
 ⟨some 28, (some (25, true)), .bin .sub (.t 27) (.c (.int .i64 1)), none⟩,
 ⟨some 29, (some (25, true)), .idxa 1 (.t 26) (.t 28), none⟩,
 ⟨some 30, (some (25, true)), .load none (.t 29), none⟩,
 ⟨some 31, (some (25, true)), .mv (.t 4), none⟩,
 ⟨some 32, (some (25, true)), .call (.f 52) [(.t 30), (.t 31)], none⟩,
 ⟨some 33, (some (25, true)), .not (.t 32), none⟩,
 ⟨some 34, none, .pick (.t 25) (.t 33) (.c (.bool false)), none⟩])
 (.keep [0, 13, 14, 15, 34] (.cond (.t 34)
 (.seq (.ops [⟨some 2, none, .mv (.c (.bool false)), none⟩])
 (.ret))
 (.skip)))))))))
 (.keep [0, 13, 14, 15] (.ops [⟨some 35, none, .bin .add (.t 15) (.c (.int .i64 1)), none⟩,
 ⟨some 15, none, .mv (.t 35), none⟩])))))))))))
 (.keep [] (.seq (.ops [⟨some 2, none, .mv (.c (.bool true)), none⟩])
 (.ret)))))))⟩
theorem F_set_May_ok : chkFn Try.prog 31 F_set_May = true := by kernel_rfl
def F_ref03_May : AFn :=
 ⟨41, [.t 2], .seq (.ops [⟨some 2, none, .mv (.c (.bool false)), none⟩])
 (.keep [0] (.seq (.seq (.ops [⟨some 4, none, .mv (.t 0), none⟩,
 ⟨some 5, none, .lenl (.t 4), none⟩,
 ⟨some 6, none, .bin .lss (.t 5) (.c (.int .i64 1)), none⟩,
 ⟨some 7, none, .mv (.t 6), none⟩,
 ⟨some 8, (some (7, false)), .mv (.t 0), none⟩,
 ⟨some 9, (some (7, false)), .lenl (.t 8), none⟩,
 ⟨some 10, (some (7, false)), .bin .gtr (.t 9) (.c (.int .i64 16)), none⟩,
 ⟨some 11, none, .pick (.t 7) (.c (.bool true)) (.t 10), none⟩])
 (.keep [0, 11] (.cond (.t 11)
 (.seq (.ops [⟨some 2, none, .mv (.c (.bool false)), none⟩])
 (.ret))
 (.skip))))
 (.keep [0] (.seq (.seq (.ops [⟨some 3, none, .mv (.c (.int .i64 0)), none⟩])
 (.keep [0, 3] (.block 0 (.loop [0, 3] (.seq (.seq (.ops [⟨some 12, none, .mv (.t 3), none⟩,
 ⟨some 13, none, .mv (.t 0), none⟩,
 ⟨some 14, none, .lenl (.t 13), none⟩,
 ⟨some 15, none, .bin .lss (.t 12) (.t 14), none⟩])
 (.keep [0, 3, 15] (.cond (.t 15)
 (.skip)
 (.exit 0))))
 (.keep [0, 3] (.seq (.block 1 (.seq (.draw [0, 3, 40] [⟨some 18, none, .mv (.t 0), none⟩,
 ⟨some 19, none, .mv (.t 3), none⟩,
 ⟨some 20, none, .idxa 1 (.t 18) (.t 19), none⟩,
 ⟨some 21, none, .load none (.t 20), none⟩,
 ⟨some 22, none, .call (.f 28) [(.t 21)], none⟩,
 ⟨some 23, none, .not (.t 22), none⟩,
 ⟨some 24, none, .mv (.t 23), none⟩,
 ⟨some 25, (some (24, false)), .mv (.t 3), none⟩,
 ⟨some 26, (some (24, false)), .bin .gtr (.t 25) (.c (.int .i64 0)), none⟩,
 ⟨some 27, (some (24, false)), .mv (.t 26), none⟩,
 ⟨some 28, (some (27, true)), .mv (.t 0), none⟩,
 ⟨some 29, (some (27, true)), .mv (.t 3), none⟩,
 ⟨some 30, (some (27, true)), .bin .sub (.t 29) (.c (.int .i64 1)), none⟩,
 ⟨some 31, (some (27, true)), .idxa 1 (.t 28) (.t 30), none⟩,
 ⟨some 32, (some (27, true)), .load none (.t 31), none⟩,
 ⟨some 33, (some (27, true)), .mv (.t 0), none⟩,
 ⟨some 34, (some (27, true)), .mv (.t 3), none⟩,
 ⟨some 35, (some (27, true)), .idxa 1 (.t 33) (.t 34), none⟩,
 ⟨some 36, (some (27, true)), .load none (.t 35), none⟩,
 ⟨some 37, (some (27, true)), .call (.f 54) [(.t 32), (.t 36)], none⟩,
 ⟨some 38, (some (27, true)), .not (.t 37), none⟩,
 ⟨some 39, (some (24, false)), .pick (.t 27) (.t 38) (.c (.bool false)), none⟩,
 ⟨some 40, none, .pick (.t 24) (.c (.bool true)) (.t 39), none⟩])
 (.keep [0, 3, 40] (.cond (.t 40)
 (.seq (.ops [⟨some 2, none, .mv (.c (.bool false)), none⟩])
 (.ret))
 (.skip)))))
 (.keep [0, 3] (.ops [⟨some 16, none, .mv (.t 3), none⟩,
 ⟨some 17, none, .bin .add (.t 16) (.c (.int .i64 1)), none⟩,
 ⟨some 3, none, .mv (.t 17), none⟩])))))))))
 (.keep [] (.seq (.ops [⟨some 2, none, .mv (.c (.bool true)), none⟩])
 (.ret)))))))⟩
theorem F_ref03_May_ok : chkFn Try.prog 33 F_ref03_May = true := by kernel_rfl
def F_word_odd : AFn :=
 ⟨7, [.t 2], .seq (.ops [⟨some 2, none, .mv (.c (.bool false)), none⟩])
 (.keep [0] (.seq (.ops [⟨some 3, none, .mv (.t 0), none⟩,
 ⟨some 4, none, .lens (.t 3), none⟩,
 ⟨some 5, none, .bin .rem (.t 4) (.c (.int .i64 2)), none⟩,
 ⟨some 6, none, .bin .neq (.t 5) (.c (.int .i64 0)), none⟩,
 ⟨some 2, none, .mv (.t 6), none⟩])
 (.ret)))⟩
theorem F_word_odd_ok : chkFn Try.prog 46 F_word_odd = true := by kernel_rfl
def F_word_Len : AFn :=
 ⟨6, [.t 2], .seq (.ops [⟨some 2, none, .mv (.c (.int .i64 0)), none⟩])
 (.keep [0] (.seq (.ops [⟨some 3, none, .mv (.t 0), none⟩,
 ⟨some 4, none, .lens (.t 3), none⟩,
 ⟨some 5, none, .bin .quo (.t 4) (.c (.int .i64 2)), none⟩,
 ⟨some 2, none, .mv (.t 5), none⟩])
 (.ret)))⟩
theorem F_word_Len_ok : chkFn Try.prog 47 F_word_Len = true := by kernel_rfl
def F_word_At : AFn :=
 ⟨26, [.t 4], .seq (.ops [⟨some 4, none, .mv (.c (.int .u16 0)), none⟩])
 (.keep [0, 1] (.seq (.seq (.ops [⟨some 5, none, .mv (.t 1), none⟩,
 ⟨some 6, none, .bin .lss (.t 5) (.c (.int .i64 0)), none⟩,
 ⟨some 7, none, .mv (.t 6), none⟩,
 ⟨some 8, (some (7, false)), .mv (.t 1), none⟩,
 ⟨some 9, (some (7, false)), .mv (.t 0), none⟩,
 ⟨some 10, (some (7, false)), .call (.f 47) [(.t 9)], none⟩,
 ⟨some 11, (some (7, false)), .bin .geq (.t 8) (.t 10), none⟩,
 ⟨some 12, none, .pick (.t 7) (.c (.bool true)) (.t 11), none⟩])
 (.keep [0, 1, 12] (.cond (.t 12)
 (.seq (.ops [⟨some 4, none, .mv (.c (.int .u16 0)), none⟩])
 (.ret))
 (.skip))))
 (.keep [0, 1] (.seq (.draw [4] [⟨some 13, none, .mv (.t 0), none⟩,
 ⟨some 14, none, .mv (.t 1), none⟩,
 ⟨some 15, none, .bin .mul (.c (.int .i64 2)) (.t 14), none⟩,
 ⟨some 16, none, .idxs (.t 13) (.t 15), none⟩,
 ⟨some 17, none, .conv .u16 (.t 16), none⟩,
 ⟨some 18, none, .bin .shl (.t 17) (.c (.int .u64 8)), none⟩,
 ⟨some 19, none, .mv (.t 0), none⟩,
 ⟨some 20, none, .mv (.t 1), none⟩,
 ⟨some 21, none, .bin .mul (.c (.int .i64 2)) (.t 20), none⟩,
 ⟨some 22, none, .bin .add (.t 21) (.c (.int .i64 1)), none⟩,
 ⟨some 23, none, .idxs (.t 19) (.t 22), none⟩,
 ⟨some 24, none, .conv .u16 (.t 23), none⟩,
 ⟨some 25, none, .bin .or (.t 18) (.t 24), none⟩,
 ⟨some 4, none, .mv (.t 25), none⟩])
 (.ret)))))⟩
theorem F_word_At_ok : chkFn Try.prog 48 F_word_At = true := by kernel_rfl
def F_ref02_Atoms : AFn :=
 ⟨28, [.t 2], .seq (.ops [⟨some 2, none, .mv (.c (.lst .clip 0 [])), none⟩])
 (.keep [0] (.seq (.ops [⟨some 5, none, .bsl 51 1 0 [] [], none⟩,
 ⟨some 3, none, .mvo 5, none⟩])
 (.keep [0, 3] (.seq (.seq (.ops [⟨some 4, none, .mv (.c (.int .i64 0)), none⟩])
 (.keep [0, 3, 4] (.block 0 (.loop [0, 3, 4] (.seq (.seq (.ops [⟨some 6, none, .mv (.t 4), none⟩,
 ⟨some 7, none, .bin .add (.t 6) (.c (.int .i64 1)), none⟩,
 ⟨some 8, none, .mv (.t 0), none⟩,
 ⟨some 9, none, .lens (.t 8), none⟩,
 ⟨some 10, none, .bin .lss (.t 7) (.t 9), none⟩])
 (.keep [0, 3, 4, 10] (.cond (.t 10)
 (.skip)
 (.exit 0))))
 (.keep [0, 3, 4] (.seq (.block 1 (.draw [0, 3, 4] [⟨some 13, none, .mvo 3, none⟩,
 ⟨some 14, none, .mv (.t 0), none⟩,
 ⟨some 15, none, .mv (.t 4), none⟩,
 ⟨some 16, none, .idxs (.t 14) (.t 15), none⟩,
 ⟨some 17, none, .conv .u16 (.t 16), none⟩,
 ⟨some 18, none, .bin .mul (.t 17) (.c (.int .u16 256)), none⟩,
 ⟨some 19, none, .mv (.t 0), none⟩,
 ⟨some 20, none, .mv (.t 4), none⟩,
 ⟨some 21, none, .bin .add (.t 20) (.c (.int .i64 1)), none⟩,
 ⟨some 22, none, .idxs (.t 19) (.t 21), none⟩,
 ⟨some 23, none, .conv .u16 (.t 22), none⟩,
 ⟨some 24, none, .bin .add (.t 18) (.t 23), none⟩,
 ⟨some 25, none, .bsl 51 1 1 [(.int .u16 0)] [(0, 1, (.t 24))], none⟩,
 ⟨some 26, none, .appo 51 1 2 13 (.t 25), none⟩,
 ⟨some 3, none, .mvo 26, none⟩]))
 (.keep [0, 3, 4] (.ops [⟨some 11, none, .mv (.t 4), none⟩,
 ⟨some 12, none, .bin .add (.t 11) (.c (.int .i64 2)), none⟩,
 ⟨some 4, none, .mv (.t 12), none⟩])))))))))
 (.keep [3] (.seq (.ops [⟨some 27, none, .mv (.t 3), none⟩,
 ⟨some 2, none, .mv (.t 27), none⟩])
 (.ret)))))))⟩
theorem F_ref02_Atoms_ok : chkFn Try.prog 50 F_ref02_Atoms = true := by kernel_rfl
def F_word_Less : AFn :=
 ⟨18, [.t 4], .seq (.ops [⟨some 4, none, .mv (.c (.bool false)), none⟩])
 (.keep [0, 1] (.seq (.seq (.ops [⟨some 5, none, .mv (.t 0), none⟩,
 ⟨some 6, none, .lens (.t 5), none⟩,
 ⟨some 7, none, .mv (.t 1), none⟩,
 ⟨some 8, none, .lens (.t 7), none⟩,
 ⟨some 9, none, .bin .neq (.t 6) (.t 8), none⟩])
 (.keep [0, 1, 9] (.cond (.t 9)
 (.seq (.ops [⟨some 10, none, .mv (.t 0), none⟩,
 ⟨some 11, none, .lens (.t 10), none⟩,
 ⟨some 12, none, .mv (.t 1), none⟩,
 ⟨some 13, none, .lens (.t 12), none⟩,
 ⟨some 14, none, .bin .lss (.t 11) (.t 13), none⟩,
 ⟨some 4, none, .mv (.t 14), none⟩])
 (.ret))
 (.skip))))
 (.keep [0, 1] (.seq (.ops [⟨some 15, none, .mv (.t 0), none⟩,
 ⟨some 16, none, .mv (.t 1), none⟩,
 ⟨some 17, none, .bin .lss (.t 15) (.t 16), none⟩,
 ⟨some 4, none, .mv (.t 17), none⟩])
 (.ret)))))⟩
theorem F_word_Less_ok : chkFn Try.prog 52 F_word_Less = true := by kernel_rfl
def F_ref02_Less : AFn :=
 ⟨36, [.t 4], .seq (.ops [⟨some 4, none, .mv (.c (.bool false)), none⟩])
 (.keep [0, 1] (.seq (.seq (.ops [⟨some 6, none, .mv (.t 0), none⟩,
 ⟨some 7, none, .lens (.t 6), none⟩,
 ⟨some 8, none, .mv (.t 1), none⟩,
 ⟨some 9, none, .lens (.t 8), none⟩,
 ⟨some 10, none, .bin .neq (.t 7) (.t 9), none⟩])
 (.keep [0, 1, 10] (.cond (.t 10)
 (.seq (.ops [⟨some 11, none, .mv (.t 0), none⟩,
 ⟨some 12, none, .lens (.t 11), none⟩,
 ⟨some 13, none, .mv (.t 1), none⟩,
 ⟨some 14, none, .lens (.t 13), none⟩,
 ⟨some 15, none, .bin .lss (.t 12) (.t 14), none⟩,
 ⟨some 4, none, .mv (.t 15), none⟩])
 (.ret))
 (.skip))))
 (.keep [0, 1] (.seq (.seq (.ops [⟨some 5, none, .mv (.c (.int .i64 0)), none⟩])
 (.keep [0, 1, 5] (.block 0 (.loop [0, 1, 5] (.seq (.seq (.ops [⟨some 16, none, .mv (.t 5), none⟩,
 ⟨some 17, none, .mv (.t 0), none⟩,
 ⟨some 18, none, .lens (.t 17), none⟩,
 ⟨some 19, none, .bin .lss (.t 16) (.t 18), none⟩])
 (.keep [0, 1, 5, 19] (.cond (.t 19)
 (.skip)
 (.exit 0))))
 (.keep [0, 1, 5] (.seq (.block 1 (.seq (.draw [0, 1, 5, 28] [⟨some 22, none, .mv (.t 0), none⟩,
 ⟨some 23, none, .mv (.t 5), none⟩,
 ⟨some 24, none, .idxs (.t 22) (.t 23), none⟩,
 ⟨some 25, none, .mv (.t 1), none⟩,
 ⟨some 26, none, .mv (.t 5), none⟩,
 ⟨some 27, none, .idxs (.t 25) (.t 26), none⟩,
 ⟨some 28, none, .bin .neq (.t 24) (.t 27), none⟩])
 (.keep [0, 1, 5, 28] (.cond (.t 28)
 (.seq (.draw [4] [⟨some 29, none, .mv (.t 0), none⟩,
 ⟨some 30, none, .mv (.t 5), none⟩,
 ⟨some 31, none, .idxs (.t 29) (.t 30), none⟩,
 ⟨some 32, none, .mv (.t 1), none⟩,
 ⟨some 33, none, .mv (.t 5), none⟩,
 ⟨some 34, none, .idxs (.t 32) (.t 33), none⟩,
 ⟨some 35, none, .bin .lss (.t 31) (.t 34), none⟩,
 ⟨some 4, none, .mv (.t 35), none⟩])
 (.ret))
 (.skip)))))
 (.keep [0, 1, 5] (.ops [⟨some 20, none, .mv (.t 5), none⟩,
 ⟨some 21, none, .bin .add (.t 20) (.c (.int .i64 1)), none⟩,
 ⟨some 5, none, .mv (.t 21), none⟩])))))))))
 (.keep [] (.seq (.ops [⟨some 4, none, .mv (.c (.bool false)), none⟩])
 (.ret)))))))⟩
theorem F_ref02_Less_ok : chkFn Try.prog 54 F_ref02_Less = true := by kernel_rfl
def F_ref03_Equal : AFn :=
 ⟨26, [.t 4], .seq (.ops [⟨some 4, none, .mv (.c (.bool false)), none⟩])
 (.keep [0, 1] (.seq (.seq (.ops [⟨some 6, none, .mv (.t 0), none⟩,
 ⟨some 7, none, .lenl (.t 6), none⟩,
 ⟨some 8, none, .mv (.t 1), none⟩,
 ⟨some 9, none, .lenl (.t 8), none⟩,
 ⟨some 10, none, .bin .neq (.t 7) (.t 9), none⟩])
 (.keep [0, 1, 10] (.cond (.t 10)
 (.seq (.ops [⟨some 4, none, .mv (.c (.bool false)), none⟩])
 (.ret))
 (.skip))))
 (.keep [0, 1] (.seq (.seq (.ops [⟨some 5, none, .mv (.c (.int .i64 0)), none⟩])
 (.keep [0, 1, 5] (.block 0 (.loop [0, 1, 5] (.seq (.seq (.ops [⟨some 11, none, .mv (.t 5), none⟩,
 ⟨some 12, none, .mv (.t 0), none⟩,
 ⟨some 13, none, .lenl (.t 12), none⟩,
 ⟨some 14, none, .bin .lss (.t 11) (.t 13), none⟩])
 (.keep [0, 1, 5, 14] (.cond (.t 14)
 (.skip)
 (.exit 0))))
 (.keep [0, 1, 5] (.seq (.block 1 (.seq (.draw [0, 1, 5, 25] [⟨some 17, none, .mv (.t 0), none⟩,
 ⟨some 18, none, .mv (.t 5), none⟩,
 ⟨some 19, none, .idxa 1 (.t 17) (.t 18), none⟩,
 ⟨some 20, none, .load none (.t 19), none⟩,
 ⟨some 21, none, .mv (.t 1), none⟩,
 ⟨some 22, none, .mv (.t 5), none⟩,
 ⟨some 23, none, .idxa 1 (.t 21) (.t 22), none⟩,
 ⟨some 24, none, .load none (.t 23), none⟩,
 ⟨some 25, none, .bin .neq (.t 20) (.t 24), none⟩])
 (.keep [0, 1, 5, 25] (.cond (.t 25)
 (.seq (.ops [⟨some 4, none, .mv (.c (.bool false)), none⟩])
 (.ret))
 (.skip)))))
 (.keep [0, 1, 5] (.ops [⟨some 15, none, .mv (.t 5), none⟩,
 ⟨some 16, none, .bin .add (.t 15) (.c (.int .i64 1)), none⟩,
 ⟨some 5, none, .mv (.t 16), none⟩])))))))))
 (.keep [] (.seq (.ops [⟨some 4, none, .mv (.c (.bool true)), none⟩])
 (.ret)))))))⟩
theorem F_ref03_Equal_ok : chkFn Try.prog 68 F_ref03_Equal = true := by kernel_rfl
end Go.Proofs.Ytlfnepcglnjogaa

/- What the functions of packages word and set tell, over the abstract code. -/
namespace Go.Proofs.Ytlfnepcglnjogaa
set_option linter.unusedSimpArgs false
set_option linter.unusedVariables false
open Go.RowKit Go.Lib

theorem bool_eq {p q : Bool} (h : p = q) : AV.bool p = .bool q := by rw [h]
theorem int_eq {k : IntKind} {a b : Int} (h : a = b) : AV.int k a = .int k b := by rw [h]
theorem byteAt_eq {s : ByteArray} {i : Nat} (h : i < s.size) : byteAt s i = s[i].toNat := by
  have : i < s.data.toList.length := by simpa using h
  simp only [byteAt, List.getElem?_eq_getElem this]; rfl

theorem p_wlen (s : ByteArray) (hs : s.size ≤ 9223372036854775807) : PCalls Try.prog 47 [.str s] (.int .i64 ((s.size / 2 : Nat) : Int)) := by
  refine pcalls_of (by first | rfl | simp [free, free.frees, frees_str, frees_u8, frees_u16]) (by first | rfl | simp [free, free.frees, frees_str, frees_u8, frees_u16]) (acalls_of mixed F_word_Len_ok (Nat.le_of_ble_eq_true rfl) ?_); simp only [F_word_Len, wk,if_true,if_false,forall_const,implies_true,ne_eq,eq_self,Nat.reduceEqDiff,Nat.reduceAdd,Nat.reduceMul,Nat.reduceSub,Nat.reduceLeDiff,Nat.reduceLT,Int.reduceEq,Int.reduceLT,Int.reduceLE,Int.reduceAdd,Int.reduceSub,Int.reduceMul,Int.reduceNeg,Int.reduceNe,reduceCtorEq,Int.reduceToNat,↓reduceIte]
  rw [Int.tdiv_eq_ediv_of_nonneg (by omega)]
  exact ⟨inR_of (by omega) (by omega), rfl⟩
theorem p_wodd (s : ByteArray) : PCalls Try.prog 46 [.str s] (.bool (decide (s.size % 2 ≠ 0))) := by
  refine pcalls_of (by first | rfl | simp [free, free.frees, frees_str, frees_u8, frees_u16]) (by first | rfl | simp [free, free.frees, frees_str, frees_u8, frees_u16]) (acalls_of mixed F_word_odd_ok (Nat.le_of_ble_eq_true rfl) ?_); simp only [F_word_odd, wk,if_true,if_false,forall_const,implies_true,ne_eq,eq_self,Nat.reduceEqDiff,Nat.reduceAdd,Nat.reduceMul,Nat.reduceSub,Nat.reduceLeDiff,Nat.reduceLT,Int.reduceEq,Int.reduceLT,Int.reduceLE,Int.reduceAdd,Int.reduceSub,Int.reduceMul,Int.reduceNeg,Int.reduceNe,reduceCtorEq,Int.reduceToNat,↓reduceIte]
  rw [Int.tmod_eq_emod_of_nonneg (by omega)]
  refine bool_eq ?_
  rw [Bool.eq_iff_iff]; simp; omega
theorem or_word' (x y : Nat) (hx : x < 256) (hy : y < 256) : bitV .or .u16 (IntKind.u16.wrap (IntKind.u16.wrap (x : Int) * 2 ^ (min 8 IntKind.u16.bits))) (IntKind.u16.wrap (y : Int)) = ((x * 256 + y : Nat) : Int) := by
  have e1 : IntKind.u16.wrap (x : Int) = x := by rw [IntKind.wrap_u16]; omega
  have e2 : IntKind.u16.wrap (y : Int) = y := by rw [IntKind.wrap_u16]; omega
  have e3 : IntKind.u16.wrap ((x : Int) * 2 ^ (min 8 IntKind.u16.bits)) = ((x * 256 : Nat) : Int) := by
    rw [show (min 8 IntKind.u16.bits) = 8 by decide, IntKind.wrap_u16]; omega
  rw [e1, e2, e3]
  show bits .or .u16 _ _ = _
  rw [u16_or_nat _ _ (by omega) (by omega), nat_join 8 _ _ (by omega) (by omega)]
theorem p_wat (s : ByteArray) (i : Nat) (hs : s.size ≤ 9223372036854775807) (hi : 2 * i + 1 < s.size) : PCalls Try.prog 48 [.str s, .int .i64 i] (.int .u16 (atomAt s i)) := by
  refine pcalls_of (by first | rfl | simp [free, free.frees, frees_str, frees_u8, frees_u16]) (by first | rfl | simp [free, free.frees, frees_str, frees_u8, frees_u16]) (acalls_of mixed F_word_At_ok (Nat.le_of_ble_eq_true rfl) ?_); simp only [F_word_At, wk,if_true,if_false,forall_const,implies_true,ne_eq,eq_self,Nat.reduceEqDiff,Nat.reduceAdd,Nat.reduceMul,Nat.reduceSub,Nat.reduceLeDiff,Nat.reduceLT,Int.reduceEq,Int.reduceLT,Int.reduceLE,Int.reduceAdd,Int.reduceSub,Int.reduceMul,Int.reduceNeg,Int.reduceNe,reduceCtorEq,Int.reduceToNat,↓reduceIte]
  refine ⟨fun _ => ?_, fun h => by omega⟩
  refine PCalls.use (p_wlen s hs) ?_; simp only [wk,if_true,if_false,forall_const,implies_true,ne_eq,eq_self,Nat.reduceEqDiff,Nat.reduceAdd,Nat.reduceMul,Nat.reduceSub,Nat.reduceLeDiff,Nat.reduceLT,Int.reduceEq,Int.reduceLT,Int.reduceLE,Int.reduceAdd,Int.reduceSub,Int.reduceMul,Int.reduceNeg,Int.reduceNe,reduceCtorEq,Int.reduceToNat,↓reduceIte]
  refine ⟨fun h => by omega, fun _ => ?_⟩
  (repeat (refine And.intro (by first | omega | exact inR_of (by omega) (by omega) | exact ⟨by omega, by omega⟩ | exact ⟨by omega, by omega, by omega⟩ | rfl) ?_))
  refine int_eq ?_
  rw [show (2 * (i : Int)).toNat = 2 * i by omega, show (2 * (i : Int) + 1).toNat = 2 * i + 1 by omega, byteAt_eq (by omega), byteAt_eq hi, or_word' _ _ s[2 * i].toNat_lt s[2 * i + 1].toNat_lt]
  simp [atomAt, hi]
theorem p_wless (a b : ByteArray) : PCalls Try.prog 52 [.str a, .str b] (.bool (wless a b)) := by
  refine pcalls_of (by first | rfl | simp [free, free.frees, frees_str, frees_u8, frees_u16]) (by first | rfl | simp [free, free.frees, frees_str, frees_u8, frees_u16]) (acalls_of mixed F_word_Less_ok (Nat.le_of_ble_eq_true rfl) ?_); simp only [F_word_Less, wk,if_true,if_false,forall_const,implies_true,ne_eq,eq_self,Nat.reduceEqDiff,Nat.reduceAdd,Nat.reduceMul,Nat.reduceSub,Nat.reduceLeDiff,Nat.reduceLT,Int.reduceEq,Int.reduceLT,Int.reduceLE,Int.reduceAdd,Int.reduceSub,Int.reduceMul,Int.reduceNeg,Int.reduceNe,reduceCtorEq,Int.reduceToNat,↓reduceIte]
  refine ⟨fun h => bool_eq ?_, fun h => bool_eq ?_⟩
  · unfold wless; rw [if_neg (by omega)]; simp
  · unfold wless; rw [if_pos (by omega)]
theorem p_wmay (s : ByteArray) (hs : s.size ≤ 9223372036854775807) : PCalls Try.prog 24 [.str s] (.bool (wordMay s)) := by
  refine pcalls_of (by first | rfl | simp [free, free.frees, frees_str, frees_u8, frees_u16]) (by first | rfl | simp [free, free.frees, frees_str, frees_u8, frees_u16]) (acalls_of mixed F_word_May_ok (Nat.le_of_ble_eq_true rfl) ?_); simp only [F_word_May, wk,if_true,if_false,forall_const,implies_true,ne_eq,eq_self,Nat.reduceEqDiff,Nat.reduceAdd,Nat.reduceMul,Nat.reduceSub,Nat.reduceLeDiff,Nat.reduceLT,Int.reduceEq,Int.reduceLT,Int.reduceLE,Int.reduceAdd,Int.reduceSub,Int.reduceMul,Int.reduceNeg,Int.reduceNe,reduceCtorEq,Int.reduceToNat,↓reduceIte]
  refine PCalls.use (p_wodd s) ?_; simp only [wk,if_true,if_false,forall_const,implies_true,ne_eq,eq_self,Nat.reduceEqDiff,Nat.reduceAdd,Nat.reduceMul,Nat.reduceSub,Nat.reduceLeDiff,Nat.reduceLT,Int.reduceEq,Int.reduceLT,Int.reduceLE,Int.reduceAdd,Int.reduceSub,Int.reduceMul,Int.reduceNeg,Int.reduceNe,reduceCtorEq,Int.reduceToNat,↓reduceIte]
  refine ⟨fun ho => ?_, fun ho => bool_eq ?_⟩
  rotate_left
  · simp only [wordMay]; symm; rw [decide_eq_false_iff_not]; omega
  refine PCalls.use (p_wlen s hs) ?_; simp only [wk,if_true,if_false,forall_const,implies_true,ne_eq,eq_self,Nat.reduceEqDiff,Nat.reduceAdd,Nat.reduceMul,Nat.reduceSub,Nat.reduceLeDiff,Nat.reduceLT,Int.reduceEq,Int.reduceLT,Int.reduceLE,Int.reduceAdd,Int.reduceSub,Int.reduceMul,Int.reduceNeg,Int.reduceNe,reduceCtorEq,Int.reduceToNat,↓reduceIte]
  refine ⟨fun h1 => ?_, fun h1 => bool_eq ?_⟩
  rotate_left
  · simp only [wordMay]; symm; rw [decide_eq_false_iff_not]; omega
  refine PCalls.use (p_wlen s hs) ?_; simp only [wk,if_true,if_false,forall_const,implies_true,ne_eq,eq_self,Nat.reduceEqDiff,Nat.reduceAdd,Nat.reduceMul,Nat.reduceSub,Nat.reduceLeDiff,Nat.reduceLT,Int.reduceEq,Int.reduceLT,Int.reduceLE,Int.reduceAdd,Int.reduceSub,Int.reduceMul,Int.reduceNeg,Int.reduceNe,reduceCtorEq,Int.reduceToNat,↓reduceIte]
  refine ⟨fun h2 => bool_eq ?_, fun h2 => ?_⟩
  · simp only [wordMay]; symm; rw [decide_eq_false_iff_not]; omega
  refine PCalls.use (p_wlen s hs) ?_; simp only [wk,if_true,if_false,forall_const,implies_true,ne_eq,eq_self,Nat.reduceEqDiff,Nat.reduceAdd,Nat.reduceMul,Nat.reduceSub,Nat.reduceLeDiff,Nat.reduceLT,Int.reduceEq,Int.reduceLT,Int.reduceLE,Int.reduceAdd,Int.reduceSub,Int.reduceMul,Int.reduceNeg,Int.reduceNe,reduceCtorEq,Int.reduceToNat,↓reduceIte]
  refine W_loop (fun n fr h => ∃ i : Nat, i ≤ s.size / 2 ∧ n = s.size / 2 - i ∧ fr = [(0, .str s), (17, .int .i64 ((s.size / 2 : Nat) : Int)), (18, .int .i64 i)] ∧ (∀ j, j < i → atomAt s j ≠ 0)) (s.size / 2) ⟨0, by omega, by omega, rfl, fun j hj => by omega⟩ ?_
  rintro n fr h ⟨i, hi, rfl, rfl, hall⟩
  simp only [wk,if_true,if_false,forall_const,implies_true,ne_eq,eq_self,Nat.reduceEqDiff,Nat.reduceAdd,Nat.reduceMul,Nat.reduceSub,Nat.reduceLeDiff,Nat.reduceLT,Int.reduceEq,Int.reduceLT,Int.reduceLE,Int.reduceAdd,Int.reduceSub,Int.reduceMul,Int.reduceNeg,Int.reduceNe,reduceCtorEq,Int.reduceToNat,↓reduceIte]
  refine ⟨fun hlt => ?_, fun hge => bool_eq ?_⟩
  · refine PCalls.use (p_wat s i hs (by omega)) ?_; simp only [wk,if_true,if_false,forall_const,implies_true,ne_eq,eq_self,Nat.reduceEqDiff,Nat.reduceAdd,Nat.reduceMul,Nat.reduceSub,Nat.reduceLeDiff,Nat.reduceLT,Int.reduceEq,Int.reduceLT,Int.reduceLE,Int.reduceAdd,Int.reduceSub,Int.reduceMul,Int.reduceNeg,Int.reduceNe,reduceCtorEq,Int.reduceToNat,↓reduceIte]
    refine ⟨fun h0 => bool_eq ?_, fun h0 => ⟨inR_of (by omega) (by omega), s.size / 2 - (i + 1), by omega, i + 1, by omega, rfl, rfl, fun j hj => ?_⟩⟩
    · simp only [wordMay]; symm; rw [decide_eq_false_iff_not]; rintro ⟨_, _, _, h4⟩; exact h4 i (by omega) (by omega)
    · by_cases e : j = i
      · subst e; omega
      · exact hall j (by omega)
  · simp only [wordMay]; symm; rw [decide_eq_true_eq]; exact ⟨by omega, by omega, by omega, fun j hj => hall j (by omega)⟩

theorem drop_str {l : List ByteArray} {i : Nat} (h : i < l.length) : (l.map AV.str).drop i = AV.str l[i] :: (l.map AV.str).drop (i + 1) := by
  rw [List.drop_eq_getElem_cons (by simpa using h)]; simp
theorem p_smay (l : List ByteArray) (hl : l.length ≤ 9223372036854775807) (hs : ∀ x ∈ l, x.size ≤ 9223372036854775807) : PCalls Try.prog 31 [.lst .ro l.length (l.map .str)] (.bool (setMay l)) := by
  refine pcalls_of (by first | rfl | simp [free, free.frees, frees_str, frees_u8, frees_u16]) (by first | rfl | simp [free, free.frees, frees_str, frees_u8, frees_u16]) (acalls_of mixed F_set_May_ok (Nat.le_of_ble_eq_true rfl) ?_); simp only [F_set_May, wk,if_true,if_false,forall_const,implies_true,ne_eq,eq_self,Nat.reduceEqDiff,Nat.reduceAdd,Nat.reduceMul,Nat.reduceSub,Nat.reduceLeDiff,Nat.reduceLT,Int.reduceEq,Int.reduceLT,Int.reduceLE,Int.reduceAdd,Int.reduceSub,Int.reduceMul,Int.reduceNeg,Int.reduceNe,reduceCtorEq,Int.reduceToNat,↓reduceIte]
  refine ⟨fun h1 => ?_, fun h1 => bool_eq (setMay_len (by omega)).symm⟩
  refine ⟨fun h2 => bool_eq (setMay_len (by omega)).symm, fun h2 => ?_⟩
  refine W_loop (fun n fr h => ∃ i : Nat, i ≤ l.length ∧ n = l.length - i ∧ fr = [(0, .lst .ro l.length (l.map .str)), (13, .lst .ro l.length (l.map .str)), (14, .int .i64 l.length), (15, .int .i64 i)] ∧ risingTo l i = true) l.length ⟨0, by omega, by omega, rfl, risingTo_zero l⟩ ?_
  rintro n fr h ⟨i, hi, rfl, rfl, hris⟩
  simp only [wk,if_true,if_false,forall_const,implies_true,ne_eq,eq_self,Nat.reduceEqDiff,Nat.reduceAdd,Nat.reduceMul,Nat.reduceSub,Nat.reduceLeDiff,Nat.reduceLT,Int.reduceEq,Int.reduceLT,Int.reduceLE,Int.reduceAdd,Int.reduceSub,Int.reduceMul,Int.reduceNeg,Int.reduceNe,reduceCtorEq,Int.reduceToNat,↓reduceIte]
  refine ⟨fun hlt => ?_, fun hge => bool_eq ?_⟩
  · have hil : i < l.length := by omega
    have hget : l[i]? = some l[i] := by simp [hil]
    refine ⟨⟨by omega, hlt⟩, ?_⟩
    rw [show (i : Int).toNat = i by omega, drop_str hil]
    simp only [wk,if_true,if_false,forall_const,implies_true,ne_eq,eq_self,Nat.reduceEqDiff,Nat.reduceAdd,Nat.reduceMul,Nat.reduceSub,Nat.reduceLeDiff,Nat.reduceLT,Int.reduceEq,Int.reduceLT,Int.reduceLE,Int.reduceAdd,Int.reduceSub,Int.reduceMul,Int.reduceNeg,Int.reduceNe,reduceCtorEq,Int.reduceToNat,↓reduceIte]
    refine PCalls.use (p_wmay l[i] (hs _ (List.getElem_mem hil))) ?_; simp only [wk,if_true,if_false,forall_const,implies_true,ne_eq,eq_self,Nat.reduceEqDiff,Nat.reduceAdd,Nat.reduceMul,Nat.reduceSub,Nat.reduceLeDiff,Nat.reduceLT,Int.reduceEq,Int.reduceLT,Int.reduceLE,Int.reduceAdd,Int.reduceSub,Int.reduceMul,Int.reduceNeg,Int.reduceNe,reduceCtorEq,Int.reduceToNat,↓reduceIte]
    refine ⟨fun hw => bool_eq ?_, fun hw => ⟨fun h0 => ?_, fun h0 => ?_⟩⟩
    · symm
      refine setMay_no (k := i + 1) (by omega) ?_
      cases hi0 : i with
      | zero => subst hi0; rw [risingTo_one hget, hw]
      | succ m => subst hi0; rw [risingTo_succ (x := l[m]'(by omega)) (List.getElem?_eq_getElem (by omega)) hget, hw]; simp
    · obtain ⟨m, rfl⟩ : ∃ m, i = m + 1 := ⟨i - 1, by omega⟩
      (repeat (refine And.intro (by first | omega | exact inR_of (by omega) (by omega) | exact ⟨by omega, by omega⟩ | exact ⟨by omega, by omega, by omega⟩ | rfl) ?_))
      rw [show (((m + 1 : Nat) : Int) - 1).toNat = m by omega, drop_str (show m < l.length by omega)]
      simp only [wk,if_true,if_false,forall_const,implies_true,ne_eq,eq_self,Nat.reduceEqDiff,Nat.reduceAdd,Nat.reduceMul,Nat.reduceSub,Nat.reduceLeDiff,Nat.reduceLT,Int.reduceEq,Int.reduceLT,Int.reduceLE,Int.reduceAdd,Int.reduceSub,Int.reduceMul,Int.reduceNeg,Int.reduceNe,reduceCtorEq,Int.reduceToNat,↓reduceIte]
      refine PCalls.use (p_wless l[m] l[m + 1]) ?_; simp only [wk,if_true,if_false,forall_const,implies_true,ne_eq,eq_self,Nat.reduceEqDiff,Nat.reduceAdd,Nat.reduceMul,Nat.reduceSub,Nat.reduceLeDiff,Nat.reduceLT,Int.reduceEq,Int.reduceLT,Int.reduceLE,Int.reduceAdd,Int.reduceSub,Int.reduceMul,Int.reduceNeg,Int.reduceNe,reduceCtorEq,Int.reduceToNat,↓reduceIte]
      refine ⟨fun hw2 => bool_eq ?_, fun hw2 => ⟨inR_of (by omega) (by omega), l.length - (m + 2), by omega, m + 2, by omega, rfl, rfl, ?_⟩⟩
      · symm
        refine setMay_no (k := m + 2) (by omega) ?_
        rw [risingTo_succ (x := l[m]) (List.getElem?_eq_getElem (by omega)) hget, hw2]; simp
      · rw [risingTo_succ (x := l[m]) (List.getElem?_eq_getElem (by omega)) hget, hw2, hw, hris]; rfl
    · have hi0 : i = 0 := by omega
      subst hi0
      refine ⟨inR_of (by omega) (by omega), l.length - 1, by omega, 1, by omega, rfl, rfl, ?_⟩
      rw [risingTo_one hget, hw]
  · rw [setMay_eq l (by omega) (by omega), show l.length = i by omega, hris]

def atomsL (s : ByteArray) (k : Nat) : List AV := (List.range k).map fun i => AV.int .u16 (atomAt s i)
theorem atomsL_succ (s : ByteArray) (k : Nat) : atomsL s (k + 1) = atomsL s k ++ [.int .u16 (atomAt s k)] := by simp [atomsL, List.range_succ]
theorem atomsL_len (s : ByteArray) (k : Nat) : (atomsL s k).length = k := by simp [atomsL]
theorem atomsL_drop {s : ByteArray} {k i : Nat} (h : i < k) : (atomsL s k).drop i = .int .u16 (atomAt s i) :: (atomsL s k).drop (i + 1) := by
  rw [List.drop_eq_getElem_cons (by rw [atomsL_len]; exact h)]; simp [atomsL]
theorem frees_atoms (s : ByteArray) (k : Nat) : free.frees (atomsL s k) = true := by
  have : atomsL s k = ((List.range k).map (atomAt s)).map fun (b : Nat) => AV.int .u16 (b : Int) := by simp [atomsL]
  rw [this, frees_u16]
theorem p_ratoms (s : ByteArray) (hs : s.size ≤ 140737488355328) : PCalls Try.prog 50 [.str s] (.lst .ro (s.size / 2) (atomsL s (s.size / 2))) := by
  refine pcalls_of rfl (by simp [free, frees_atoms]) (acalls_of mixed F_ref02_Atoms_ok (Nat.le_of_ble_eq_true rfl) ?_); simp only [F_ref02_Atoms, wk,if_true,if_false,forall_const,implies_true,ne_eq,eq_self,Nat.reduceEqDiff,Nat.reduceAdd,Nat.reduceMul,Nat.reduceSub,Nat.reduceLeDiff,Nat.reduceLT,Int.reduceEq,Int.reduceLT,Int.reduceLE,Int.reduceAdd,Int.reduceSub,Int.reduceMul,Int.reduceNeg,Int.reduceNe,reduceCtorEq,Int.reduceToNat,↓reduceIte]
  refine W_loop (fun n fr h => ∃ k : Nat, k ≤ s.size / 2 ∧ n = s.size / 2 - k ∧ fr = [(0, .str s), (3, .lst (.own 51) k (atomsL s k)), (4, .int .i64 (2 * (k : Int)))]) (s.size / 2) ⟨0, by omega, by omega, rfl⟩ ?_
  rintro n fr h ⟨k, hk, rfl, rfl⟩
  simp only [wk,if_true,if_false,forall_const,implies_true,ne_eq,eq_self,Nat.reduceEqDiff,Nat.reduceAdd,Nat.reduceMul,Nat.reduceSub,Nat.reduceLeDiff,Nat.reduceLT,Int.reduceEq,Int.reduceLT,Int.reduceLE,Int.reduceAdd,Int.reduceSub,Int.reduceMul,Int.reduceNeg,Int.reduceNe,reduceCtorEq,Int.reduceToNat,↓reduceIte]
  refine ⟨inR_of (by omega) (by omega), fun hlt => ?_, fun hge => ?_⟩
  · (repeat (refine And.intro (by first | omega | exact inR_of (by omega) (by omega) | exact ⟨by omega, by omega⟩ | exact ⟨by omega, by omega, by omega⟩ | rfl) ?_))
    refine ⟨s.size / 2 - (k + 1), by omega, k + 1, by omega, rfl, ?_⟩
    have hin : 2 * k + 1 < s.size := by omega
    have hx : s[2 * k].toNat < 256 := s[2 * k].toNat_lt
    have hy : s[2 * k + 1].toNat < 256 := s[2 * k + 1].toNat_lt
    have e1 : (2 * (k : Int)).toNat = 2 * k := by omega
    have e2 : (2 * (k : Int) + 1).toNat = 2 * k + 1 := by omega
    rw [e1, e2, byteAt_eq (by omega), byteAt_eq hin, atomsL_succ]
    have e3 : IntKind.u16.wrap (IntKind.u16.wrap (IntKind.u16.wrap ((s[2 * k].toNat : Nat) : Int) * 256) + IntKind.u16.wrap ((s[2 * k + 1].toNat : Nat) : Int)) = ((atomAt s k : Nat) : Int) := by
      simp only [atomAt, hin, dif_pos, IntKind.wrap_u16]; omega
    rw [e3]
    have e4 : (2 * ((k + 1 : Nat) : Int)) = 2 * (k : Int) + 2 := by omega
    rw [e4]
  · obtain rfl : k = s.size / 2 := by omega
    rfl
theorem p_rwless (a b : ByteArray) (ha : a.size ≤ 9223372036854775807) : PCalls Try.prog 54 [.str a, .str b] (.bool (wless a b)) := by
  refine pcalls_of (by first | rfl | simp [free, free.frees, frees_str, frees_u8, frees_u16]) (by first | rfl | simp [free, free.frees, frees_str, frees_u8, frees_u16]) (acalls_of mixed F_ref02_Less_ok (Nat.le_of_ble_eq_true rfl) ?_); simp only [F_ref02_Less, wk,if_true,if_false,forall_const,implies_true,ne_eq,eq_self,Nat.reduceEqDiff,Nat.reduceAdd,Nat.reduceMul,Nat.reduceSub,Nat.reduceLeDiff,Nat.reduceLT,Int.reduceEq,Int.reduceLT,Int.reduceLE,Int.reduceAdd,Int.reduceSub,Int.reduceMul,Int.reduceNeg,Int.reduceNe,reduceCtorEq,Int.reduceToNat,↓reduceIte]
  refine ⟨fun h => bool_eq ?_, fun h => ?_⟩
  · unfold wless; rw [if_neg (by omega)]; simp
  have hsz : a.size = b.size := by omega
  refine W_loop (fun n fr h => ∃ i : Nat, i ≤ a.size ∧ n = a.size - i ∧ fr = [(0, .str a), (1, .str b), (5, .int .i64 i)] ∧ ∀ j, (h1 : j < a.size) → j < i → a[j] = b[j]'(by omega)) a.size ⟨0, by omega, by omega, rfl, fun j _ hj => by omega⟩ ?_
  rintro n fr h ⟨i, hi, rfl, rfl, hall⟩
  simp only [wk,if_true,if_false,forall_const,implies_true,ne_eq,eq_self,Nat.reduceEqDiff,Nat.reduceAdd,Nat.reduceMul,Nat.reduceSub,Nat.reduceLeDiff,Nat.reduceLT,Int.reduceEq,Int.reduceLT,Int.reduceLE,Int.reduceAdd,Int.reduceSub,Int.reduceMul,Int.reduceNeg,Int.reduceNe,reduceCtorEq,Int.reduceToNat,↓reduceIte]
  refine ⟨fun hlt => ?_, fun hge => bool_eq ?_⟩
  · have hia : i < a.size := by omega
    have hib : i < b.size := by omega
    (repeat (refine And.intro (by first | omega | exact inR_of (by omega) (by omega) | exact ⟨by omega, by omega⟩ | exact ⟨by omega, by omega, by omega⟩ | rfl) ?_))
    rw [show (i : Int).toNat = i by omega, byteAt_eq hia, byteAt_eq hib]
    refine ⟨fun hne => ?_, fun he => ?_⟩
    · (repeat (refine And.intro (by first | omega | exact inR_of (by omega) (by omega) | exact ⟨by omega, by omega⟩ | exact ⟨by omega, by omega, by omega⟩ | rfl) ?_))
      refine bool_eq ?_
      have hne' : a[i] ≠ b[i] := fun e => hne (by rw [e])
      rw [wless_at hsz hia (fun j h1 h2 => hall j h1 h2) hne']
      simp
    · refine ⟨inR_of (by omega) (by omega), a.size - (i + 1), by omega, i + 1, by omega, rfl, rfl, fun j h1 hj => ?_⟩
      by_cases e : j = i
      · subst e; exact UInt8.toNat_inj.1 (by omega)
      · exact hall j h1 (by omega)
  · rw [wless_same hsz (fun j h1 => hall j h1 (by omega))]
theorem p_rwmay (s : ByteArray) (hs : s.size ≤ 140737488355328) : PCalls Try.prog 28 [.str s] (.bool (wordMay s)) := by
  refine pcalls_of (by first | rfl | simp [free, free.frees, frees_str, frees_u8, frees_u16]) (by first | rfl | simp [free, free.frees, frees_str, frees_u8, frees_u16]) (acalls_of mixed F_ref02_May_ok (Nat.le_of_ble_eq_true rfl) ?_); simp only [F_ref02_May, wk,if_true,if_false,forall_const,implies_true,ne_eq,eq_self,Nat.reduceEqDiff,Nat.reduceAdd,Nat.reduceMul,Nat.reduceSub,Nat.reduceLeDiff,Nat.reduceLT,Int.reduceEq,Int.reduceLT,Int.reduceLE,Int.reduceAdd,Int.reduceSub,Int.reduceMul,Int.reduceNeg,Int.reduceNe,reduceCtorEq,Int.reduceToNat,↓reduceIte]
  refine PCalls.use (p_ratoms s hs) ?_; simp only [wk,if_true,if_false,forall_const,implies_true,ne_eq,eq_self,Nat.reduceEqDiff,Nat.reduceAdd,Nat.reduceMul,Nat.reduceSub,Nat.reduceLeDiff,Nat.reduceLT,Int.reduceEq,Int.reduceLT,Int.reduceLE,Int.reduceAdd,Int.reduceSub,Int.reduceMul,Int.reduceNeg,Int.reduceNe,reduceCtorEq,Int.reduceToNat,↓reduceIte]
  refine W_loop (fun n fr h => ∃ i : Nat, i ≤ s.size / 2 ∧ n = s.size / 2 - i ∧ fr = [(0, .str s), (3, .lst .ro (s.size / 2) (atomsL s (s.size / 2))), (4, .int .i64 i)] ∧ (∀ j, j < i → atomAt s j ≠ 0)) (s.size / 2) ⟨0, by omega, by omega, rfl, fun j hj => by omega⟩ ?_
  rintro n fr h ⟨i, hi, rfl, rfl, hall⟩
  simp only [wk,if_true,if_false,forall_const,implies_true,ne_eq,eq_self,Nat.reduceEqDiff,Nat.reduceAdd,Nat.reduceMul,Nat.reduceSub,Nat.reduceLeDiff,Nat.reduceLT,Int.reduceEq,Int.reduceLT,Int.reduceLE,Int.reduceAdd,Int.reduceSub,Int.reduceMul,Int.reduceNeg,Int.reduceNe,reduceCtorEq,Int.reduceToNat,↓reduceIte]
  refine ⟨fun hlt => ?_, fun hge => ?_⟩
  · (repeat (refine And.intro (by first | omega | exact inR_of (by omega) (by omega) | exact ⟨by omega, by omega⟩ | exact ⟨by omega, by omega, by omega⟩ | rfl) ?_))
    rw [show (i : Int).toNat = i by omega, atomsL_drop (by omega)]
    simp only [wk,if_true,if_false,forall_const,implies_true,ne_eq,eq_self,Nat.reduceEqDiff,Nat.reduceAdd,Nat.reduceMul,Nat.reduceSub,Nat.reduceLeDiff,Nat.reduceLT,Int.reduceEq,Int.reduceLT,Int.reduceLE,Int.reduceAdd,Int.reduceSub,Int.reduceMul,Int.reduceNeg,Int.reduceNe,reduceCtorEq,Int.reduceToNat,↓reduceIte]
    refine ⟨fun h0 => bool_eq ?_, fun h0 => ⟨inR_of (by omega) (by omega), s.size / 2 - (i + 1), by omega, i + 1, by omega, rfl, rfl, fun j hj => ?_⟩⟩
    · simp only [wordMay]; symm; rw [decide_eq_false_iff_not]; rintro ⟨_, _, _, h4⟩; exact h4 i (by omega) (by omega)
    · by_cases e : j = i
      · subst e; omega
      · exact hall j (by omega)
  · rw [Int.tmod_eq_emod_of_nonneg (by omega)]
    have hall' : ∀ j, j < s.size / 2 → atomAt s j ≠ 0 := fun j hj => hall j (by omega)
    refine ⟨fun h1 => ⟨fun h2 => bool_eq ?_, fun h2 => bool_eq ?_⟩, fun h1 => bool_eq ?_⟩
    · simp only [wordMay]; rw [Bool.eq_iff_iff, decide_eq_true_eq, decide_eq_true_eq]
      exact ⟨fun h3 => ⟨by omega, by omega, by omega, hall'⟩, fun h3 => by omega⟩
    · simp only [wordMay]; symm; rw [decide_eq_false_iff_not]; omega
    · simp only [wordMay]; symm; rw [decide_eq_false_iff_not]; omega
set_option maxRecDepth 100000 in
set_option maxHeartbeats 2000000 in
theorem p_rsmay (l : List ByteArray) (hl : l.length ≤ 9223372036854775807) (hs : ∀ x ∈ l, x.size ≤ 140737488355328) : PCalls Try.prog 33 [.lst .ro l.length (l.map .str)] (.bool (setMay l)) := by
  refine pcalls_of (by first | rfl | simp [free, free.frees, frees_str, frees_u8, frees_u16]) (by first | rfl | simp [free, free.frees, frees_str, frees_u8, frees_u16]) (acalls_of mixed F_ref03_May_ok (Nat.le_of_ble_eq_true rfl) ?_); simp only [F_ref03_May, wk,if_true,if_false,forall_const,implies_true,ne_eq,eq_self,Nat.reduceEqDiff,Nat.reduceAdd,Nat.reduceMul,Nat.reduceSub,Nat.reduceLeDiff,Nat.reduceLT,Int.reduceEq,Int.reduceLT,Int.reduceLE,Int.reduceAdd,Int.reduceSub,Int.reduceMul,Int.reduceNeg,Int.reduceNe,reduceCtorEq,Int.reduceToNat,↓reduceIte]
  refine ⟨fun h1 => ?_, fun h1 => bool_eq (setMay_len (by omega)).symm⟩
  refine ⟨fun h2 => bool_eq (setMay_len (by omega)).symm, fun h2 => ?_⟩
  refine W_loop (fun n fr h => ∃ i : Nat, i ≤ l.length ∧ n = l.length - i ∧ fr = [(0, .lst .ro l.length (l.map .str)), (3, .int .i64 i)] ∧ risingTo l i = true) l.length ⟨0, by omega, by omega, rfl, risingTo_zero l⟩ ?_
  rintro n fr h ⟨i, hi, rfl, rfl, hris⟩
  simp only [wk,if_true,if_false,forall_const,implies_true,ne_eq,eq_self,Nat.reduceEqDiff,Nat.reduceAdd,Nat.reduceMul,Nat.reduceSub,Nat.reduceLeDiff,Nat.reduceLT,Int.reduceEq,Int.reduceLT,Int.reduceLE,Int.reduceAdd,Int.reduceSub,Int.reduceMul,Int.reduceNeg,Int.reduceNe,reduceCtorEq,Int.reduceToNat,↓reduceIte]
  refine ⟨fun hlt => ?_, fun hge => bool_eq ?_⟩
  · have hil : i < l.length := by omega
    have hget : l[i]? = some l[i] := by simp [hil]
    (repeat (refine And.intro (by first | omega | exact inR_of (by omega) (by omega) | exact ⟨by omega, by omega⟩ | exact ⟨by omega, by omega, by omega⟩ | rfl) ?_))
    rw [show (i : Int).toNat = i by omega, drop_str hil]
    simp only [wk,if_true,if_false,forall_const,implies_true,ne_eq,eq_self,Nat.reduceEqDiff,Nat.reduceAdd,Nat.reduceMul,Nat.reduceSub,Nat.reduceLeDiff,Nat.reduceLT,Int.reduceEq,Int.reduceLT,Int.reduceLE,Int.reduceAdd,Int.reduceSub,Int.reduceMul,Int.reduceNeg,Int.reduceNe,reduceCtorEq,Int.reduceToNat,↓reduceIte]
    refine ⟨_, p_rwmay l[i] (hs _ (List.getElem_mem hil)), ?_⟩; simp only [wk,if_true,if_false,forall_const,implies_true,ne_eq,eq_self,Nat.reduceEqDiff,Nat.reduceAdd,Nat.reduceMul,Nat.reduceSub,Nat.reduceLeDiff,Nat.reduceLT,Int.reduceEq,Int.reduceLT,Int.reduceLE,Int.reduceAdd,Int.reduceSub,Int.reduceMul,Int.reduceNeg,Int.reduceNe,reduceCtorEq,Int.reduceToNat,↓reduceIte]
    refine ⟨fun hw => ⟨fun h0 => ?_, fun h0 => ?_⟩, fun hw => bool_eq ?_⟩
    · obtain ⟨m, rfl⟩ : ∃ m, i = m + 1 := ⟨i - 1, by omega⟩
      (repeat (refine And.intro (by first | omega | exact inR_of (by omega) (by omega) | exact ⟨by omega, by omega⟩ | exact ⟨by omega, by omega, by omega⟩ | rfl) ?_))
      rw [show (((m + 1 : Nat) : Int) - 1).toNat = m by omega, drop_str (show m < l.length by omega)]
      simp only [wk,if_true,if_false,forall_const,implies_true,ne_eq,eq_self,Nat.reduceEqDiff,Nat.reduceAdd,Nat.reduceMul,Nat.reduceSub,Nat.reduceLeDiff,Nat.reduceLT,Int.reduceEq,Int.reduceLT,Int.reduceLE,Int.reduceAdd,Int.reduceSub,Int.reduceMul,Int.reduceNeg,Int.reduceNe,reduceCtorEq,Int.reduceToNat,↓reduceIte]
      (repeat (refine And.intro (by first | omega | exact inR_of (by omega) (by omega) | exact ⟨by omega, by omega⟩ | exact ⟨by omega, by omega, by omega⟩ | rfl) ?_))
      rw [show ((m + 1 : Nat) : Int).toNat = m + 1 by omega, drop_str hil]
      simp only [wk,if_true,if_false,forall_const,implies_true,ne_eq,eq_self,Nat.reduceEqDiff,Nat.reduceAdd,Nat.reduceMul,Nat.reduceSub,Nat.reduceLeDiff,Nat.reduceLT,Int.reduceEq,Int.reduceLT,Int.reduceLE,Int.reduceAdd,Int.reduceSub,Int.reduceMul,Int.reduceNeg,Int.reduceNe,reduceCtorEq,Int.reduceToNat,↓reduceIte]
      refine ⟨_, p_rwless l[m] l[m + 1] (by have := hs l[m] (List.getElem_mem (by omega)); omega), ?_⟩; simp only [wk,if_true,if_false,forall_const,implies_true,ne_eq,eq_self,Nat.reduceEqDiff,Nat.reduceAdd,Nat.reduceMul,Nat.reduceSub,Nat.reduceLeDiff,Nat.reduceLT,Int.reduceEq,Int.reduceLT,Int.reduceLE,Int.reduceAdd,Int.reduceSub,Int.reduceMul,Int.reduceNeg,Int.reduceNe,reduceCtorEq,Int.reduceToNat,↓reduceIte]
      refine ⟨fun hw2 => bool_eq ?_, fun hw2 => ⟨inR_of (by omega) (by omega), l.length - (m + 2), by omega, m + 2, by omega, rfl, rfl, ?_⟩⟩
      · symm
        refine setMay_no (k := m + 2) (by omega) ?_
        rw [risingTo_succ (x := l[m]) (List.getElem?_eq_getElem (by omega)) hget, hw2]; simp
      · rw [risingTo_succ (x := l[m]) (List.getElem?_eq_getElem (by omega)) hget, hw2, hw, hris]; rfl
    · have hi0 : i = 0 := by omega
      subst hi0
      refine ⟨inR_of (by omega) (by omega), l.length - 1, by omega, 1, by omega, rfl, rfl, ?_⟩
      rw [risingTo_one hget, hw]
    · symm
      refine setMay_no (k := i + 1) (by omega) ?_
      cases hi0 : i with
      | zero => subst hi0; rw [risingTo_one hget, hw]
      | succ m => subst hi0; rw [risingTo_succ (x := l[m]'(by omega)) (List.getElem?_eq_getElem (by omega)) hget, hw]; simp
  · rw [setMay_eq l (by omega) (by omega), show l.length = i by omega, hris]
theorem p_requal (a b : List ByteArray) (ha : a.length ≤ 9223372036854775807) : PCalls Try.prog 68 [.lst .ro a.length (a.map .str), .lst .ro b.length (b.map .str)] (.bool (decide (a = b))) := by
  refine pcalls_of (by first | rfl | simp [free, free.frees, frees_str, frees_u8, frees_u16]) (by first | rfl | simp [free, free.frees, frees_str, frees_u8, frees_u16]) (acalls_of mixed F_ref03_Equal_ok (Nat.le_of_ble_eq_true rfl) ?_); simp only [F_ref03_Equal, wk,if_true,if_false,forall_const,implies_true,ne_eq,eq_self,Nat.reduceEqDiff,Nat.reduceAdd,Nat.reduceMul,Nat.reduceSub,Nat.reduceLeDiff,Nat.reduceLT,Int.reduceEq,Int.reduceLT,Int.reduceLE,Int.reduceAdd,Int.reduceSub,Int.reduceMul,Int.reduceNeg,Int.reduceNe,reduceCtorEq,Int.reduceToNat,↓reduceIte]
  refine ⟨fun h => bool_eq ?_, fun h => ?_⟩
  · symm; rw [decide_eq_false_iff_not]; intro e; rw [e] at h; exact h rfl
  have hab : a.length = b.length := by omega
  refine W_loop (fun n fr h => ∃ i : Nat, i ≤ a.length ∧ n = a.length - i ∧ fr = [(0, .lst .ro a.length (a.map .str)), (1, .lst .ro b.length (b.map .str)), (5, .int .i64 i)] ∧ a.take i = b.take i) a.length ⟨0, by omega, by omega, rfl, rfl⟩ ?_
  rintro n fr h ⟨i, hi, rfl, rfl, hall⟩
  simp only [wk,if_true,if_false,forall_const,implies_true,ne_eq,eq_self,Nat.reduceEqDiff,Nat.reduceAdd,Nat.reduceMul,Nat.reduceSub,Nat.reduceLeDiff,Nat.reduceLT,Int.reduceEq,Int.reduceLT,Int.reduceLE,Int.reduceAdd,Int.reduceSub,Int.reduceMul,Int.reduceNeg,Int.reduceNe,reduceCtorEq,Int.reduceToNat,↓reduceIte]
  refine ⟨fun hlt => ?_, fun hge => bool_eq ?_⟩
  · have hia : i < a.length := by omega
    have hib : i < b.length := by omega
    (repeat (refine And.intro (by first | omega | exact inR_of (by omega) (by omega) | exact ⟨by omega, by omega⟩ | exact ⟨by omega, by omega, by omega⟩ | rfl) ?_))
    rw [show (i : Int).toNat = i by omega, drop_str hia]
    simp only [wk,if_true,if_false,forall_const,implies_true,ne_eq,eq_self,Nat.reduceEqDiff,Nat.reduceAdd,Nat.reduceMul,Nat.reduceSub,Nat.reduceLeDiff,Nat.reduceLT,Int.reduceEq,Int.reduceLT,Int.reduceLE,Int.reduceAdd,Int.reduceSub,Int.reduceMul,Int.reduceNeg,Int.reduceNe,reduceCtorEq,Int.reduceToNat,↓reduceIte]
    (repeat (refine And.intro (by first | omega | exact inR_of (by omega) (by omega) | exact ⟨by omega, by omega⟩ | exact ⟨by omega, by omega, by omega⟩ | rfl) ?_))
    rw [show (i : Int).toNat = i by omega, drop_str hib]
    simp only [wk,if_true,if_false,forall_const,implies_true,ne_eq,eq_self,Nat.reduceEqDiff,Nat.reduceAdd,Nat.reduceMul,Nat.reduceSub,Nat.reduceLeDiff,Nat.reduceLT,Int.reduceEq,Int.reduceLT,Int.reduceLE,Int.reduceAdd,Int.reduceSub,Int.reduceMul,Int.reduceNeg,Int.reduceNe,reduceCtorEq,Int.reduceToNat,↓reduceIte]
    refine ⟨fun hne => bool_eq ?_, fun he => ?_⟩
    · symm; rw [decide_eq_false_iff_not]; intro e; subst e; exact hne rfl
    · refine ⟨inR_of (by omega) (by omega), a.length - (i + 1), by omega, i + 1, by omega, rfl, rfl, ?_⟩
      rw [List.take_succ_eq_append_getElem hia, List.take_succ_eq_append_getElem hib, hall, he]
  · symm; rw [decide_eq_true_eq]
    rw [List.take_of_length_le (by omega), List.take_of_length_le (by omega)] at hall
    exact hall

abbrev u8s (l : List UInt8) : List AV := l.map fun b => AV.int .u8 b.toNat
theorem u8s_app (l m : List UInt8) : u8s l ++ u8s m = u8s (l ++ m) := by simp [u8s]
def atomBytes (l : List Nat) : List UInt8 := l.flatMap fun a => [UInt8.ofNat (a / 256), UInt8.ofNat (a % 256)]
abbrev u16s (l : List Nat) : List AV := l.map fun (b : Nat) => AV.int .u16 (b : Int)
theorem u16s_drop {l : List Nat} {i : Nat} (h : i < l.length) : (u16s l).drop i = .int .u16 ((l[i] : Nat) : Int) :: (u16s l).drop (i + 1) := by
  rw [List.drop_eq_getElem_cons (by simpa using h)]; simp
theorem p_rof (l : List Nat) (hl : l.length ≤ 70368744177664) (ha : ∀ a ∈ l, a < 65536) : PCalls Try.prog 22 [.lst .ro l.length (u16s l)] (.str ⟨(atomBytes l).toArray⟩) := by
  refine pcalls_of (by first | rfl | simp [free, free.frees, frees_str, frees_u8, frees_u16]) (by first | rfl | simp [free, free.frees, frees_str, frees_u8, frees_u16]) (acalls_of mixed F_ref02_Of_ok (Nat.le_of_ble_eq_true rfl) ?_); simp only [F_ref02_Of, wk,if_true,if_false,forall_const,implies_true,ne_eq,eq_self,Nat.reduceEqDiff,Nat.reduceAdd,Nat.reduceMul,Nat.reduceSub,Nat.reduceLeDiff,Nat.reduceLT,Int.reduceEq,Int.reduceLT,Int.reduceLE,Int.reduceAdd,Int.reduceSub,Int.reduceMul,Int.reduceNeg,Int.reduceNe,reduceCtorEq,Int.reduceToNat,↓reduceIte]
  refine W_loop (fun n fr h => ∃ i : Nat, i ≤ l.length ∧ n = l.length - i ∧ fr = [(0, .lst .ro l.length (u16s l)), (3, .lst (.own 5) (2 * i) (u8s (atomBytes (l.take i)))), (4, .int .i64 i)]) l.length ⟨0, by omega, by omega, rfl⟩ ?_
  rintro n fr h ⟨i, hi, rfl, rfl⟩
  simp only [wk,if_true,if_false,forall_const,implies_true,ne_eq,eq_self,Nat.reduceEqDiff,Nat.reduceAdd,Nat.reduceMul,Nat.reduceSub,Nat.reduceLeDiff,Nat.reduceLT,Int.reduceEq,Int.reduceLT,Int.reduceLE,Int.reduceAdd,Int.reduceSub,Int.reduceMul,Int.reduceNeg,Int.reduceNe,reduceCtorEq,Int.reduceToNat,↓reduceIte]
  refine ⟨fun hlt => ?_, fun hge => ?_⟩
  · have hil : i < l.length := by omega
    have h16 := ha l[i] (List.getElem_mem hil)
    (repeat (refine And.intro (by first | omega | exact inR_of (by omega) (by omega) | exact ⟨by omega, by omega⟩ | exact ⟨by omega, by omega, by omega⟩ | rfl) ?_))
    rw [show (i : Int).toNat = i by omega, u16s_drop hil]
    simp only [wk,if_true,if_false,forall_const,implies_true,ne_eq,eq_self,Nat.reduceEqDiff,Nat.reduceAdd,Nat.reduceMul,Nat.reduceSub,Nat.reduceLeDiff,Nat.reduceLT,Int.reduceEq,Int.reduceLT,Int.reduceLE,Int.reduceAdd,Int.reduceSub,Int.reduceMul,Int.reduceNeg,Int.reduceNe,reduceCtorEq,Int.reduceToNat,↓reduceIte]
    refine ⟨⟨by omega, by omega⟩, ?_⟩
    rw [show (i : Int).toNat = i by omega, u16s_drop hil]
    simp only [wk,if_true,if_false,forall_const,implies_true,ne_eq,eq_self,Nat.reduceEqDiff,Nat.reduceAdd,Nat.reduceMul,Nat.reduceSub,Nat.reduceLeDiff,Nat.reduceLT,Int.reduceEq,Int.reduceLT,Int.reduceLE,Int.reduceAdd,Int.reduceSub,Int.reduceMul,Int.reduceNeg,Int.reduceNe,reduceCtorEq,Int.reduceToNat,↓reduceIte]
    (repeat (refine And.intro (by first | omega | exact inR_of (by omega) (by omega) | exact ⟨by omega, by omega⟩ | exact ⟨by omega, by omega, by omega⟩ | rfl) ?_))
    refine ⟨l.length - (i + 1), by omega, i + 1, by omega, rfl, ?_⟩
    have e1 : IntKind.u8.wrap (IntKind.u16.wrap ((l[i] : Int).tdiv 256)) = ((UInt8.ofNat (l[i] / 256)).toNat : Int) := by
      rw [Int.tdiv_eq_ediv_of_nonneg (by omega), IntKind.wrap_u16, IntKind.wrap_u8]; simp only [UInt8.toNat_ofNat']; omega
    have e2 : IntKind.u8.wrap ((l[i] : Int).tmod 256) = ((UInt8.ofNat (l[i] % 256)).toNat : Int) := by
      rw [Int.tmod_eq_emod_of_nonneg (by omega), IntKind.wrap_u8]; simp only [UInt8.toNat_ofNat']; omega
    have e3 : atomBytes (l.take (i + 1)) = atomBytes (l.take i) ++ [UInt8.ofNat (l[i] / 256), UInt8.ofNat (l[i] % 256)] := by rw [List.take_succ_eq_append_getElem hil, atomBytes, List.flatMap_append]; rfl
    rw [e1, e2, e3, ← u8s_app]
    rfl
  · have : i = l.length := by omega
    subst this
    refine ⟨atomBytes l, by rw [List.take_length], ?_, rfl⟩
    have : ∀ l : List Nat, (atomBytes l).length = 2 * l.length := by
      intro l; induction l with
      | nil => rfl
      | cons a l ih => simp only [atomBytes, List.flatMap_cons, List.length_append, List.length_cons, List.length_nil] at ih ⊢; omega
    rw [this]
end Go.Proofs.Ytlfnepcglnjogaa

/- Models: a model's rows as a map, over the abstract code. -/
-- fast
namespace Go.Proofs.Ytlfnepcglnjogaa
set_option linter.unusedSimpArgs false
set_option linter.unusedVariables false
open Go.RowKit Go.Lib

abbrev Am := List (Nat × Rl)
def kA (a : Nat) : AV := .int .u16 (a : Int)
def amK (l : Am) : List AV := l.map fun p => kA p.1
def amV (l : Am) : List AV := l.map fun p => rlV p.2
def amPut (a : Nat) (x : Rl) : Am → Am
  | [] => [(a, x)]
  | p :: l => if a = p.1 then (p.1, x) :: l else p :: amPut a x l
def amGet (a : Nat) : Am → Option Rl
  | [] => none
  | p :: l => if a = p.1 then some p.2 else amGet a l
def zR : Rl := [0, 0, 0, 0, 0, 0, 0, 0]
theorem kEq_kA (a b : Nat) : kEq (kA a) (kA b) = decide (a = b) := by
  simp only [kEq, kA]
  rw [Bool.eq_iff_iff]; simp; constructor <;> intro h <;> omega
theorem mFind_shift (key : AV) : ∀ (ks : List AV) (i : Nat), mFind key ks (i + 1) = (mFind key ks i).map (· + 1)
  | [], i => rfl
  | a :: l, i => by
    simp only [mFind]
    split
    · rfl
    · exact mFind_shift key l (i + 1)
theorem am_find (a : Nat) : ∀ l : Am, (match mFind (kA a) (amK l) 0 with
    | some i => amGet a l = some ((l.map (·.2)).getD i []) ∧ (amV l).getD i .nilp = rlV ((l.map (·.2)).getD i [])
    | none => amGet a l = none)
  | [] => rfl
  | p :: l => by
    have ih := am_find a l
    simp only [amK, List.map_cons, mFind, kEq_kA, amGet]
    by_cases h : a = p.1
    · simp [h, amV]
    · simp only [h, decide_false, Bool.false_eq_true, if_false]
      rw [mFind_shift]
      simp only [amK] at ih
      cases hm : mFind (kA a) (List.map (fun p => kA p.1) l) 0 with
      | none => rw [hm] at ih; exact ih
      | some i => rw [hm] at ih; simpa [amV] using ih
theorem am_keys (a : Nat) (x : Rl) : ∀ l : Am, mKeys (kA a) (amK l) = amK (amPut a x l)
  | [] => rfl
  | p :: l => by
    have ih := am_keys a x l
    simp only [mKeys, amK, List.map_cons, mFind, kEq_kA, amPut] at ih ⊢
    by_cases h : a = p.1
    · simp [h]
    · simp only [h, decide_false, Bool.false_eq_true, if_false]
      rw [mFind_shift]
      cases hm : mFind (kA a) (List.map (fun p => kA p.1) l) 0 with
      | none => rw [hm] at ih; simpa using ih
      | some i => rw [hm] at ih; simpa using ih
theorem am_vals (a : Nat) (x : Rl) : ∀ l : Am, mVals (kA a) (rlV x) (amK l) (amV l) = amV (amPut a x l)
  | [] => rfl
  | p :: l => by
    have ih := am_vals a x l
    simp only [mVals, amK, amV, List.map_cons, mFind, kEq_kA, amPut] at ih ⊢
    by_cases h : a = p.1
    · simp [h]
    · simp only [h, decide_false, Bool.false_eq_true, if_false]
      rw [mFind_shift]
      cases hm : mFind (kA a) (List.map (fun p => kA p.1) l) 0 with
      | none => rw [hm] at ih; simpa using ih
      | some i => rw [hm] at ih; simpa using ih
theorem am_get_put (a b : Nat) (x : Rl) : ∀ l : Am, amGet a (amPut b x l) = if a = b then some x else amGet a l
  | [] => by simp only [amPut, amGet]
  | p :: l => by
    have ih := am_get_put a b x l
    simp only [amPut]
    by_cases h : b = p.1
    · subst h
      simp only [if_true, amGet]
      by_cases h2 : a = p.1 <;> simp [h2]
    · simp only [h, if_false, amGet, ih]
      by_cases h2 : a = p.1
      · subst h2
        have : ¬ p.1 = b := fun e => h e.symm
        simp [this]
      · simp [h2]
theorem am_same (a : Nat) (l : Am) : ((amK l).all (kSame (kA a))) = true := by
  simp [amK, List.all_eq_true, kSame, kA]
theorem am_look (a : Nat) (l : Am) (z : List AV) (hz : z = rlC zR) : mlkF false true z false [.fmp (amK l) (amV l), kA a] = some (rlV ((amGet a l).getD zR)) := by
  have h := am_find a l
  have h1 : isKey false (kA a) = true := rfl
  simp only [mlkF, h1, am_same, Bool.and_self, if_true]
  cases hm : mFind (kA a) (amK l) 0 with
  | none => rw [hm] at h; simp only [] at h ⊢; rw [h]; subst hz; rfl
  | some i => rw [hm] at h; simp only [] at h ⊢; rw [h.1, h.2]; rfl

structure Row where
  atom : Nat
  to : Rl
structure Mdl where
  n : Int
  rows : List Row
def rowC (x : Row) : List AV := [kA x.atom, .lst .ro x.to.length (rlC x.to)]
def rowsC (l : List Row) : List AV := l.flatMap rowC
def mdV (m : Mdl) : AV := .agg [.int .i64 m.n, .lst .ro m.rows.length (rowsC m.rows)]
def smallW (x : Row) : Prop := x.atom < 65536 ∧ x.to.length ≤ 1000
def pad (to : Rl) : Rl := to.take 8 ++ List.replicate (8 - to.length) 0
theorem pad_length (to : Rl) : (pad to).length = 8 := by simp [pad]; omega
def readM (l : List Row) : Am := l.foldl (fun q x => amPut x.atom (pad x.to) q) []
theorem rowsC_at : ∀ {l : List Row} {i : Nat} (h : i < l.length), (rowsC l).drop (i * 2) = rowC l[i] ++ rowsC (l.drop (i + 1))
  | x :: l, 0, _ => rfl
  | x :: l, i + 1, h => by
    have := rowsC_at (l := l) (i := i) (by simpa using h)
    simp only [rowsC, List.flatMap_cons] at this ⊢
    rw [show (i + 1) * 2 = (rowC x).length + i * 2 by simp [rowC]; omega, ← List.drop_drop, List.drop_left]
    exact this
theorem frees_app : ∀ a b : List AV, free.frees (a ++ b) = (free.frees a && free.frees b)
  | [], b => by simp [free.frees]
  | x :: a, b => by simp [free.frees, frees_app a b, Bool.and_assoc]
theorem frees_rowsC (l : List Row) : free.frees (rowsC l) = true := by
  induction l with
  | nil => rfl
  | cons x l ih => simp only [rowsC, List.flatMap_cons] at ih ⊢; rw [frees_app, ih]; simp [rowC, free.frees, free, kA, frees_rlC]
theorem free_mdV (m : Mdl) : free (mdV m) = true := by simp [mdV, free, free.frees, frees_rowsC]
theorem splice_from' {α : Type} : ∀ (x p l : List α), p.length + x.length ≤ l.length → l.take p.length = p → splice l p.length x = p ++ x ++ l.drop (p.length + x.length)
  | [], p, l, h, hp => by rw [splice_nil]; conv => lhs; rw [← List.take_append_drop p.length l, hp]
                          simp
  | v :: x, p, l, h, hp => by
    rw [splice_cons]
    have hlt : p.length < l.length := by simp at h; omega
    have := splice_from' x (p ++ [v]) (l.set p.length v) (by simp at h ⊢; omega) (by
      simp only [List.length_append, List.length_singleton]
      rw [List.take_succ_eq_append_getElem (by simpa using hlt), List.take_set_of_le (Nat.le_refl _), hp]
      simp)
    simp only [List.length_append, List.length_singleton] at this
    rw [this, List.drop_set_of_lt (by omega)]
    simp [Nat.add_assoc, Nat.add_comm 1]
theorem rlC_take (r : Rl) (n : Nat) : rlC (r.take n) = (rlC r).take n := by simp [rlC]
theorem pvl_rlC : ∀ r : Rl, ∃ vs, pvl (rlC r) = some vs
  | [] => ⟨[], rfl⟩
  | b :: r => by
    obtain ⟨vs, h⟩ := pvl_rlC r
    simp only [rlC] at h
    exact ⟨.int .u8 b.toNat :: vs, by simp only [rlC, List.map_cons, pvl, u8, pv1, h]⟩
theorem pv_rlV (r : Rl) : (pv (.agg (rlC r))).isSome = true := by
  obtain ⟨vs, h⟩ := pvl_rlC r
  simp only [pv, h]; rfl
theorem readM_succ {l : List Row} {i : Nat} (h : i < l.length) : readM (l.take (i + 1)) = amPut l[i].atom (pad l[i].to) (readM (l.take i)) := by
  unfold readM
  rw [List.take_succ_eq_append_getElem h, List.foldl_append]; rfl
theorem cpy_pad (to : Rl) : splice (rlC zR) 0 ((rlC to).take (min to.length 8 * 1)) = rlC (pad to) := by
  have hp : rlC (pad to) = (rlC to).take (min to.length 8 * 1) ++ (rlC zR).drop (min to.length 8) := by
    simp only [pad, rlC, List.map_append, List.map_replicate, Nat.mul_one]
    congr 1
    · rw [← List.map_take]
      congr 1
      rcases Nat.le_total to.length 8 with h | h
      · rw [Nat.min_eq_left h, List.take_of_length_le h, List.take_of_length_le (Nat.le_refl _)]
      · rw [Nat.min_eq_right h]
    · have hz : List.map u8 zR = List.replicate 8 (u8 0) := rfl
      rw [hz, List.drop_replicate]
      congr 1; omega
  rw [hp]
  have key : ∀ (x l : List AV), x.length ≤ l.length → splice l 0 x = x ++ l.drop x.length := by
    intro x l hl
    have h1 := splice_from' x [] l (by simpa using hl) rfl
    simpa using h1
  rw [key _ _ (by simp [len_rlC, zR]; omega)]
  congr 2
  simp [len_rlC]
set_option maxRecDepth 100000 in
set_option maxHeartbeats 4000000 in
theorem p_mtold (m : Mdl) (r : Rl) (hr : r.length = 8) (h0 : 0 ≤ m.n) (h8 : m.n ≤ 8) : PCalls Try.prog 25 [mdV m, rlV r] (.lst .ro m.n.toNat (rlC (r.take m.n.toNat))) := by
  refine pcalls_of (by simp [free.frees, free_rlV, free_mdV]) (by simp [free, frees_rlC]) (acalls_of mixed F_model_told_ok (Nat.le_of_ble_eq_true rfl) ?_); simp only [F_model_told, mdV, rlV, wk,if_true,if_false,forall_const,implies_true,ne_eq,eq_self,Nat.reduceEqDiff,Nat.reduceAdd,Nat.reduceMul,Nat.reduceSub,Nat.reduceLeDiff,Nat.reduceLT,Int.reduceEq,Int.reduceLT,Int.reduceLE,Int.reduceAdd,Int.reduceSub,Int.reduceMul,Int.reduceNeg,Int.reduceNe,reduceCtorEq,Int.reduceToNat,↓reduceIte]
  have hin : (0 ≤ m.n ∧ m.n ≤ ((8 : Nat) : Int)) = True := by simp; omega
  simp only [slaF, hin, wk,if_true,if_false,forall_const,implies_true,ne_eq,eq_self,Nat.reduceEqDiff,Nat.reduceAdd,Nat.reduceMul,Nat.reduceSub,Nat.reduceLeDiff,Nat.reduceLT,Int.reduceEq,Int.reduceLT,Int.reduceLE,Int.reduceAdd,Int.reduceSub,Int.reduceMul,Int.reduceNeg,Int.reduceNe,reduceCtorEq,Int.reduceToNat,↓reduceIte]
  refine ⟨⟨by rw [len_rlC, hr]; omega, by omega, by omega⟩, ?_⟩
  rw [← rlC_take, deg_rlC]
set_option maxRecDepth 100000 in
set_option maxHeartbeats 4000000 in
theorem p_mread (m : Mdl) (hl : m.rows.length ≤ 1000) (hs : ∀ x ∈ m.rows, smallW x) : PCalls Try.prog 26 [mdV m] (.fmp (amK (readM m.rows)) (amV (readM m.rows))) := by
  refine pcalls_of (by simp [free.frees, free_mdV]) (by simp [free]) (acalls_of mixed J_model_read_ok (Nat.le_of_ble_eq_true rfl) ?_); simp only [J_model_read, mdV, wk,if_true,if_false,forall_const,implies_true,ne_eq,eq_self,Nat.reduceEqDiff,Nat.reduceAdd,Nat.reduceMul,Nat.reduceSub,Nat.reduceLeDiff,Nat.reduceLT,Int.reduceEq,Int.reduceLT,Int.reduceLE,Int.reduceAdd,Int.reduceSub,Int.reduceMul,Int.reduceNeg,Int.reduceNe,reduceCtorEq,Int.reduceToNat,↓reduceIte]
  intro b
  refine W_loop (fun n fr h => ∃ i : Nat, i ≤ m.rows.length ∧ n = m.rows.length - i ∧ fr = [(3, .omp b (amK (readM (m.rows.take i))) (amV (readM (m.rows.take i)))), (9, .lst .ro m.rows.length (rowsC m.rows)), (10, .int .i64 m.rows.length), (11, .int .i64 i)]) m.rows.length ⟨0, by omega, by omega, rfl⟩ ?_
  rintro n fr h' ⟨i, hi, rfl, rfl⟩
  simp only [J_model_read_j2, wk,if_true,if_false,forall_const,implies_true,ne_eq,eq_self,Nat.reduceEqDiff,Nat.reduceAdd,Nat.reduceMul,Nat.reduceSub,Nat.reduceLeDiff,Nat.reduceLT,Int.reduceEq,Int.reduceLT,Int.reduceLE,Int.reduceAdd,Int.reduceSub,Int.reduceMul,Int.reduceNeg,Int.reduceNe,reduceCtorEq,Int.reduceToNat,↓reduceIte]
  refine ⟨fun hlt => ?_, fun hge => ?_⟩
  · have hil : i < m.rows.length := by omega
    have hin : ((0 ≤ (i : Int)) ∧ (i : Int) < (m.rows.length : Int)) = True := by simp; omega
    have hd := rowsC_at hil
    simp only [rowC, kA, List.cons_append, List.nil_append] at hd
    have g1 : ∀ x y, ((h' ++ [x]) ++ [y])[h'.length]? = some x := fun x y => by simp
    have g1' : ∀ x y : Option (Bool × List AV), ((h' ++ [x]) ++ [y])[(h' ++ [x]).length]? = some y := fun x y => by simp
    simp only [hin, Int.toNat_natCast, hd, slaF, g1, g1', wk,if_true,if_false,forall_const,implies_true,ne_eq,eq_self,Nat.reduceEqDiff,Nat.reduceAdd,Nat.reduceMul,Nat.reduceSub,Nat.reduceLeDiff,Nat.reduceLT,Int.reduceEq,Int.reduceLT,Int.reduceLE,Int.reduceAdd,Int.reduceSub,Int.reduceMul,Int.reduceNeg,Int.reduceNe,reduceCtorEq,Int.reduceToNat,↓reduceIte]
    have hc : splice [.int .u8 0, .int .u8 0, .int .u8 0, .int .u8 0, .int .u8 0, .int .u8 0, .int .u8 0, .int .u8 0] 0 (List.take (min (List.length m.rows[i].to) 8) (rlC m.rows[i].to)) = rlC (pad m.rows[i].to) := by
      have := cpy_pad m.rows[i].to
      rw [Nat.mul_one] at this
      exact this
    have hk := am_same m.rows[i].atom (readM (m.rows.take i))
    have hks := am_keys m.rows[i].atom (pad m.rows[i].to) (readM (m.rows.take i))
    have hvs := am_vals m.rows[i].atom (pad m.rows[i].to) (readM (m.rows.take i))
    simp only [kA, rlV] at hk hks hvs
    rw [hc, take_rlC _ (pad_length _), deg_rlC, hk, hks, hvs, pv_rlV]
    exact ⟨by rw [len_rlC], by rw [len_rlC, pad_length]; omega, rfl, inR_of (by omega) (by omega), m.rows.length - (i + 1), by omega, i + 1, by omega, rfl, by rw [readM_succ hil]; simp⟩
  · obtain rfl : i = m.rows.length := by omega
    simp only [J_model_read_j1, wk,if_true,if_false,forall_const,implies_true,ne_eq,eq_self,Nat.reduceEqDiff,Nat.reduceAdd,Nat.reduceMul,Nat.reduceSub,Nat.reduceLeDiff,Nat.reduceLT,Int.reduceEq,Int.reduceLT,Int.reduceLE,Int.reduceAdd,Int.reduceSub,Int.reduceMul,Int.reduceNeg,Int.reduceNe,reduceCtorEq,Int.reduceToNat,↓reduceIte]
    rw [List.take_of_length_le (Nat.le_refl _)]
end Go.Proofs.Ytlfnepcglnjogaa

/- Models: words' and sets' relations, over the abstract code. -/
-- fast
namespace Go.Proofs.Ytlfnepcglnjogaa
set_option linter.unusedSimpArgs false
set_option linter.unusedVariables false
open Go.RowKit Go.Lib

theorem frees_strs : ∀ l : List ByteArray, free.frees (l.map .str) = true
  | [] => rfl
  | x :: l => by simp [free.frees, free, frees_strs l]
def relA (l : List Row) (a : Nat) : Rl := (amGet a (readM l)).getD zR
theorem relA_foldl (a : Nat) : ∀ (l : List Row) (q : Am), (amGet a (l.foldl (fun q x => amPut x.atom (pad x.to) q) q)).getD zR = l.foldl (fun acc x => if a = x.atom then pad x.to else acc) ((amGet a q).getD zR)
  | [], q => rfl
  | x :: l, q => by
    simp only [List.foldl_cons]
    rw [relA_foldl a l, am_get_put]
    split <;> rfl
theorem relA_eq (l : List Row) (a : Nat) : relA l a = l.foldl (fun acc x => if a = x.atom then pad x.to else acc) zR := relA_foldl a l []
theorem relA_length (l : List Row) (a : Nat) : (relA l a).length = 8 := by
  rw [relA_eq]
  have key : ∀ (l : List Row) (z : Rl), z.length = 8 → (l.foldl (fun acc x => if a = x.atom then pad x.to else acc) z).length = 8 := by
    intro l
    induction l with
    | nil => intro z hz; exact hz
    | cons x l ih => intro z hz; simp only [List.foldl_cons]; refine ih _ ?_; split; exact pad_length _; exact hz
  exact key l zR rfl
def wordN (l : List Row) (w : ByteArray) : Nat → Rl
  | 0 => relA l (atomAt w 0)
  | k + 1 => thenR (wordN l w k) (relA l (atomAt w (k + 1)))
def wordR (l : List Row) (w : ByteArray) : Rl := wordN l w (w.size / 2 - 1)
theorem wordN_length (l : List Row) (w : ByteArray) : ∀ k, (wordN l w k).length = 8
  | 0 => relA_length _ _
  | k + 1 => by simp only [wordN, thenR, List.length_map]; exact wordN_length l w k
theorem wordR_length (l : List Row) (w : ByteArray) : (wordR l w).length = 8 := wordN_length _ _ _
def setN (l : List Row) (s : List ByteArray) : Rl := s.foldl (fun r w => orR r (wordR l w)) zR
theorem setN_length (l : List Row) (s : List ByteArray) : (setN l s).length = 8 := by
  have key : ∀ (s : List ByteArray) (z : Rl), z.length = 8 → (s.foldl (fun r w => orR r (wordR l w)) z).length = 8 := by
    intro s
    induction s with
    | nil => intro z hz; exact hz
    | cons x s ih => intro z hz; simp only [List.foldl_cons]; exact ih _ (orR_length _ _ hz (wordR_length _ _))
  exact key s zR rfl
def mpV (l : List Row) : AV := .fmp (amK (readM l)) (amV (readM l))
theorem look_rel (l : List Row) (a : Nat) : mlkF false true [.int .u8 0, .int .u8 0, .int .u8 0, .int .u8 0, .int .u8 0, .int .u8 0, .int .u8 0, .int .u8 0] false [.fmp (amK (readM l)) (amV (readM l)), .int .u16 (a : Int)] = some (rlV (relA l a)) := am_look a (readM l) _ rfl
set_option maxRecDepth 100000 in
set_option maxHeartbeats 4000000 in
theorem p_mword (l : List Row) (w : ByteArray) (hw : wordMay w = true) (hs : w.size ≤ 1000) : PCalls Try.prog 27 [mpV l, .str w] (rlV (wordR l w)) := by
  have hm := hw
  simp only [wordMay, Bool.and_eq_true, decide_eq_true_eq] at hm
  refine pcalls_of (by simp [free.frees, free, mpV]) (free_rlV _) (acalls_of mixed J_model_atoms_word_ok (Nat.le_of_ble_eq_true rfl) ?_); simp only [J_model_atoms_word, mpV, wk,if_true,if_false,forall_const,implies_true,ne_eq,eq_self,Nat.reduceEqDiff,Nat.reduceAdd,Nat.reduceMul,Nat.reduceSub,Nat.reduceLeDiff,Nat.reduceLT,Int.reduceEq,Int.reduceLT,Int.reduceLE,Int.reduceAdd,Int.reduceSub,Int.reduceMul,Int.reduceNeg,Int.reduceNe,reduceCtorEq,Int.reduceToNat,↓reduceIte]
  refine PCalls.use (p_wat w 0 (by omega) (by omega)) ?_; simp only [wk,if_true,if_false,forall_const,implies_true,ne_eq,eq_self,Nat.reduceEqDiff,Nat.reduceAdd,Nat.reduceMul,Nat.reduceSub,Nat.reduceLeDiff,Nat.reduceLT,Int.reduceEq,Int.reduceLT,Int.reduceLE,Int.reduceAdd,Int.reduceSub,Int.reduceMul,Int.reduceNeg,Int.reduceNe,reduceCtorEq,Int.reduceToNat,↓reduceIte]
  have hl := look_rel l (atomAt w 0)
  have hA := relA_length l (atomAt w 0)
  simp only [rlV] at hl
  simp only [hl, wk,if_true,if_false,forall_const,implies_true,ne_eq,eq_self,Nat.reduceEqDiff,Nat.reduceAdd,Nat.reduceMul,Nat.reduceSub,Nat.reduceLeDiff,Nat.reduceLT,Int.reduceEq,Int.reduceLT,Int.reduceLE,Int.reduceAdd,Int.reduceSub,Int.reduceMul,Int.reduceNeg,Int.reduceNe,reduceCtorEq,Int.reduceToNat,↓reduceIte]
  rw [splice_all _ _ (by simp [len_rlC, hA])]
  refine ⟨by simp [len_rlC, hA], ?_⟩
  refine W_loop (fun n fr h => ∃ i : Nat, i + 1 ≤ w.size / 2 ∧ n = w.size / 2 - i ∧ fr = [(0, mpV l), (1, .str w), (4, .ptr 0 0), (5, .ptr 1 0), (6, .int .i64 ((i + 1 : Nat) : Int))] ∧ h = [some (false, [.int .u8 0, .int .u8 0, .int .u8 0, .int .u8 0, .int .u8 0, .int .u8 0, .int .u8 0, .int .u8 0]), some (false, rlC (wordN l w i))]) (w.size / 2) ⟨0, by omega, by omega, rfl, rfl⟩ ?_
  rintro n fr h' ⟨i, hi, rfl, rfl, rfl⟩
  simp only [J_model_atoms_word_j2, mpV, wk,if_true,if_false,forall_const,implies_true,ne_eq,eq_self,Nat.reduceEqDiff,Nat.reduceAdd,Nat.reduceMul,Nat.reduceSub,Nat.reduceLeDiff,Nat.reduceLT,Int.reduceEq,Int.reduceLT,Int.reduceLE,Int.reduceAdd,Int.reduceSub,Int.reduceMul,Int.reduceNeg,Int.reduceNe,reduceCtorEq,Int.reduceToNat,↓reduceIte]
  refine PCalls.use (p_wlen w (by omega)) ?_; simp only [wk,if_true,if_false,forall_const,implies_true,ne_eq,eq_self,Nat.reduceEqDiff,Nat.reduceAdd,Nat.reduceMul,Nat.reduceSub,Nat.reduceLeDiff,Nat.reduceLT,Int.reduceEq,Int.reduceLT,Int.reduceLE,Int.reduceAdd,Int.reduceSub,Int.reduceMul,Int.reduceNeg,Int.reduceNe,reduceCtorEq,Int.reduceToNat,↓reduceIte]
  have h8 := wordN_length l w i
  refine ⟨fun hlt => ?_, fun hge => ?_⟩
  · have hil : i + 1 < w.size / 2 := by omega
    refine ⟨by rw [len_rlC, h8]; omega, ?_⟩
    refine ⟨_, p_wat w (i + 1) (by omega) (by omega), ?_⟩; simp only [wk,if_true,if_false,forall_const,implies_true,ne_eq,eq_self,Nat.reduceEqDiff,Nat.reduceAdd,Nat.reduceMul,Nat.reduceSub,Nat.reduceLeDiff,Nat.reduceLT,Int.reduceEq,Int.reduceLT,Int.reduceLE,Int.reduceAdd,Int.reduceSub,Int.reduceMul,Int.reduceNeg,Int.reduceNe,reduceCtorEq,Int.reduceToNat,↓reduceIte]
    have hl2 := look_rel l (atomAt w (i + 1))
    have hA2 := relA_length l (atomAt w (i + 1))
    have q := p_rthen (wordN l w i) (relA l (atomAt w (i + 1))) h8 hA2
    simp only [rlV] at hl2 q
    simp only [take_rlC _ h8, deg_rlC, hl2, wk,if_true,if_false,forall_const,implies_true,ne_eq,eq_self,Nat.reduceEqDiff,Nat.reduceAdd,Nat.reduceMul,Nat.reduceSub,Nat.reduceLeDiff,Nat.reduceLT,Int.reduceEq,Int.reduceLT,Int.reduceLE,Int.reduceAdd,Int.reduceSub,Int.reduceMul,Int.reduceNeg,Int.reduceNe,reduceCtorEq,Int.reduceToNat,↓reduceIte]
    refine ⟨_, q, ?_⟩; simp only [wk,if_true,if_false,forall_const,implies_true,ne_eq,eq_self,Nat.reduceEqDiff,Nat.reduceAdd,Nat.reduceMul,Nat.reduceSub,Nat.reduceLeDiff,Nat.reduceLT,Int.reduceEq,Int.reduceLT,Int.reduceLE,Int.reduceAdd,Int.reduceSub,Int.reduceMul,Int.reduceNeg,Int.reduceNe,reduceCtorEq,Int.reduceToNat,↓reduceIte]
    have h9 : (thenR (wordN l w i) (relA l (atomAt w (i + 1)))).length = 8 := wordN_length l w (i + 1)
    rw [splice_all _ _ (by simp [len_rlC, h8, h9])]
    exact ⟨⟨by rw [len_rlC, h9], by rw [len_rlC, h8]; omega⟩, inR_of (by omega) (by omega), w.size / 2 - (i + 1), by omega, i + 1, by omega, rfl, by simp, rfl⟩
  · have he : wordR l w = wordN l w i := by
      unfold wordR; congr 1; omega
    simp only [J_model_atoms_word_j1, wk,if_true,if_false,forall_const,implies_true,ne_eq,eq_self,Nat.reduceEqDiff,Nat.reduceAdd,Nat.reduceMul,Nat.reduceSub,Nat.reduceLeDiff,Nat.reduceLT,Int.reduceEq,Int.reduceLT,Int.reduceLE,Int.reduceAdd,Int.reduceSub,Int.reduceMul,Int.reduceNeg,Int.reduceNe,reduceCtorEq,Int.reduceToNat,↓reduceIte]
    rw [take_rlC _ h8, deg_rlC, splice_all _ _ (by simp [len_rlC, h8]), he]
    refine ⟨by simp [len_rlC, h8], by simp [len_rlC, h8], ?_⟩
    simp only [val, ev, lk, wk,if_true,if_false,forall_const,implies_true,ne_eq,eq_self,Nat.reduceEqDiff,Nat.reduceAdd,Nat.reduceMul,Nat.reduceSub,Nat.reduceLeDiff,Nat.reduceLT,Int.reduceEq,Int.reduceLT,Int.reduceLE,Int.reduceAdd,Int.reduceSub,Int.reduceMul,Int.reduceNeg,Int.reduceNe,reduceCtorEq,Int.reduceToNat,↓reduceIte]
    exact ⟨by simp [len_rlC, h8], by rw [take_rlC _ h8, deg_rlC]; rfl⟩
set_option maxRecDepth 100000 in
set_option maxHeartbeats 4000000 in
theorem p_mset (l : List Row) (s : List ByteArray) (hn : s.length ≤ 1000) (hw : ∀ w ∈ s, wordMay w = true ∧ w.size ≤ 1000) : PCalls Try.prog 32 [mpV l, .lst .ro s.length (s.map .str)] (rlV (setN l s)) := by
  refine pcalls_of (by simp [free.frees, free, mpV, frees_strs]) (free_rlV _) (acalls_of mixed J_model_atoms_set_ok (Nat.le_of_ble_eq_true rfl) ?_); simp only [J_model_atoms_set, mpV, wk,if_true,if_false,forall_const,implies_true,ne_eq,eq_self,Nat.reduceEqDiff,Nat.reduceAdd,Nat.reduceMul,Nat.reduceSub,Nat.reduceLeDiff,Nat.reduceLT,Int.reduceEq,Int.reduceLT,Int.reduceLE,Int.reduceAdd,Int.reduceSub,Int.reduceMul,Int.reduceNeg,Int.reduceNe,reduceCtorEq,Int.reduceToNat,↓reduceIte]
  refine W_loop (fun n fr h => ∃ i : Nat, i ≤ s.length ∧ n = s.length - i ∧ fr = [(0, mpV l), (4, .ptr 0 0), (5, .ptr 1 0), (8, .lst .ro s.length (s.map .str)), (9, .int .i64 s.length), (10, .int .i64 i)] ∧ h = [some (false, [.int .u8 0, .int .u8 0, .int .u8 0, .int .u8 0, .int .u8 0, .int .u8 0, .int .u8 0, .int .u8 0]), some (false, rlC (setN l (s.take i)))]) s.length ⟨0, by omega, by omega, rfl, rfl⟩ ?_
  rintro n fr h' ⟨i, hi, rfl, rfl, rfl⟩
  simp only [J_model_atoms_set_j2, mpV, wk,if_true,if_false,forall_const,implies_true,ne_eq,eq_self,Nat.reduceEqDiff,Nat.reduceAdd,Nat.reduceMul,Nat.reduceSub,Nat.reduceLeDiff,Nat.reduceLT,Int.reduceEq,Int.reduceLT,Int.reduceLE,Int.reduceAdd,Int.reduceSub,Int.reduceMul,Int.reduceNeg,Int.reduceNe,reduceCtorEq,Int.reduceToNat,↓reduceIte]
  have h8 := setN_length l (s.take i)
  refine ⟨fun hlt => ?_, fun hge => ?_⟩
  · have hil : i < s.length := by omega
    have hin : ((0 ≤ (i : Int)) ∧ (i : Int) < (s.length : Int)) = True := by simp; omega
    have hd : (s.map AV.str).drop i = .str s[i] :: (s.map AV.str).drop (i + 1) := by
      rw [List.drop_eq_getElem_cons (by simpa using hil)]; simp
    have hwi := hw s[i] (List.getElem_mem hil)
    have qw := p_mword l s[i] hwi.1 hwi.2
    have qo := p_ror (setN l (s.take i)) (wordR l s[i]) h8 (wordR_length _ _)
    simp only [rlV, mpV] at qw qo
    simp only [hin, Int.toNat_natCast, hd, wk,if_true,if_false,forall_const,implies_true,ne_eq,eq_self,Nat.reduceEqDiff,Nat.reduceAdd,Nat.reduceMul,Nat.reduceSub,Nat.reduceLeDiff,Nat.reduceLT,Int.reduceEq,Int.reduceLT,Int.reduceLE,Int.reduceAdd,Int.reduceSub,Int.reduceMul,Int.reduceNeg,Int.reduceNe,reduceCtorEq,Int.reduceToNat,↓reduceIte]
    rw [take_rlC _ h8, deg_rlC]
    refine ⟨by simp [len_rlC, h8], ?_⟩
    refine ⟨_, qw, ?_⟩; simp only [wk,if_true,if_false,forall_const,implies_true,ne_eq,eq_self,Nat.reduceEqDiff,Nat.reduceAdd,Nat.reduceMul,Nat.reduceSub,Nat.reduceLeDiff,Nat.reduceLT,Int.reduceEq,Int.reduceLT,Int.reduceLE,Int.reduceAdd,Int.reduceSub,Int.reduceMul,Int.reduceNeg,Int.reduceNe,reduceCtorEq,Int.reduceToNat,↓reduceIte]
    refine ⟨_, qo, ?_⟩; simp only [wk,if_true,if_false,forall_const,implies_true,ne_eq,eq_self,Nat.reduceEqDiff,Nat.reduceAdd,Nat.reduceMul,Nat.reduceSub,Nat.reduceLeDiff,Nat.reduceLT,Int.reduceEq,Int.reduceLT,Int.reduceLE,Int.reduceAdd,Int.reduceSub,Int.reduceMul,Int.reduceNeg,Int.reduceNe,reduceCtorEq,Int.reduceToNat,↓reduceIte]
    have h9 : setN l (s.take (i + 1)) = orR (setN l (s.take i)) (wordR l s[i]) := by
      unfold setN
      rw [List.take_succ_eq_append_getElem hil, List.foldl_append]; rfl
    have h10 := setN_length l (s.take (i + 1))
    rw [← h9, splice_all _ _ (by simp [len_rlC, h8, h10])]
    exact ⟨⟨by rw [len_rlC, h10], by rw [len_rlC, h8]; omega⟩, inR_of (by omega) (by omega), s.length - (i + 1), by omega, i + 1, by omega, rfl, by simp, rfl⟩
  · obtain rfl : i = s.length := by omega
    rw [List.take_of_length_le (Nat.le_refl _)] at h8 ⊢
    simp only [J_model_atoms_set_j1, wk,if_true,if_false,forall_const,implies_true,ne_eq,eq_self,Nat.reduceEqDiff,Nat.reduceAdd,Nat.reduceMul,Nat.reduceSub,Nat.reduceLeDiff,Nat.reduceLT,Int.reduceEq,Int.reduceLT,Int.reduceLE,Int.reduceAdd,Int.reduceSub,Int.reduceMul,Int.reduceNeg,Int.reduceNe,reduceCtorEq,Int.reduceToNat,↓reduceIte]
    rw [take_rlC _ h8, deg_rlC, splice_all _ _ (by simp [len_rlC, h8])]
    refine ⟨by simp [len_rlC, h8], by simp [len_rlC, h8], ?_⟩
    simp only [val, ev, lk, wk,if_true,if_false,forall_const,implies_true,ne_eq,eq_self,Nat.reduceEqDiff,Nat.reduceAdd,Nat.reduceMul,Nat.reduceSub,Nat.reduceLeDiff,Nat.reduceLT,Int.reduceEq,Int.reduceLT,Int.reduceLE,Int.reduceAdd,Int.reduceSub,Int.reduceMul,Int.reduceNeg,Int.reduceNe,reduceCtorEq,Int.reduceToNat,↓reduceIte]
    exact ⟨by simp [len_rlC, h8], by rw [take_rlC _ h8, deg_rlC]; rfl⟩
set_option maxRecDepth 100000 in
set_option maxHeartbeats 4000000 in
theorem p_mrule (l : List Row) (a b : ByteArray) (ha : wordMay a = true ∧ a.size ≤ 1000) (hb : wordMay b = true ∧ b.size ≤ 1000) : PCalls Try.prog 35 [mpV l, .agg [.str a, .str b]] (.bool (withinR (wordR l a) (wordR l b))) := by
  have qa := p_mword l a ha.1 ha.2
  have qb := p_mword l b hb.1 hb.2
  have qw := p_mwithin (wordR l a) (wordR l b) (wordR_length _ _) (wordR_length _ _)
  simp only [rlV, mpV] at qa qb qw
  refine pcalls_of (by simp [free.frees, free, mpV]) rfl (acalls_of mixed J_model_atoms_rule_ok (Nat.le_of_ble_eq_true rfl) ?_); simp only [J_model_atoms_rule, mpV, wk,if_true,if_false,forall_const,implies_true,ne_eq,eq_self,Nat.reduceEqDiff,Nat.reduceAdd,Nat.reduceMul,Nat.reduceSub,Nat.reduceLeDiff,Nat.reduceLT,Int.reduceEq,Int.reduceLT,Int.reduceLE,Int.reduceAdd,Int.reduceSub,Int.reduceMul,Int.reduceNeg,Int.reduceNe,reduceCtorEq,Int.reduceToNat,↓reduceIte]
  refine ⟨_, qa, ?_⟩; simp only [wk,if_true,if_false,forall_const,implies_true,ne_eq,eq_self,Nat.reduceEqDiff,Nat.reduceAdd,Nat.reduceMul,Nat.reduceSub,Nat.reduceLeDiff,Nat.reduceLT,Int.reduceEq,Int.reduceLT,Int.reduceLE,Int.reduceAdd,Int.reduceSub,Int.reduceMul,Int.reduceNeg,Int.reduceNe,reduceCtorEq,Int.reduceToNat,↓reduceIte]
  refine ⟨_, qb, ?_⟩; simp only [wk,if_true,if_false,forall_const,implies_true,ne_eq,eq_self,Nat.reduceEqDiff,Nat.reduceAdd,Nat.reduceMul,Nat.reduceSub,Nat.reduceLeDiff,Nat.reduceLT,Int.reduceEq,Int.reduceLT,Int.reduceLE,Int.reduceAdd,Int.reduceSub,Int.reduceMul,Int.reduceNeg,Int.reduceNe,reduceCtorEq,Int.reduceToNat,↓reduceIte]
  refine ⟨_, qw, ?_⟩; simp only [wk,if_true,if_false,forall_const,implies_true,ne_eq,eq_self,Nat.reduceEqDiff,Nat.reduceAdd,Nat.reduceMul,Nat.reduceSub,Nat.reduceLeDiff,Nat.reduceLT,Int.reduceEq,Int.reduceLT,Int.reduceLE,Int.reduceAdd,Int.reduceSub,Int.reduceMul,Int.reduceNeg,Int.reduceNe,reduceCtorEq,Int.reduceToNat,↓reduceIte]
def mdMay (m : Mdl) : Bool := decide (1 ≤ m.n ∧ m.n ≤ 8) && m.rows.all fun x => decide ((x.to.length : Int) = m.n) && x.to.all fun b => decide (b.toNat / 2 ^ m.n.toNat = 0)
set_option maxRecDepth 100000 in
set_option maxHeartbeats 4000000 in
theorem p_mmay (m : Mdl) (hl : m.rows.length ≤ 1000) (hs : ∀ x ∈ m.rows, smallW x) : PCalls Try.prog 8 [mdV m] (.bool (mdMay m)) := by
  refine pcalls_of (by simp [free.frees, free_mdV]) rfl (acalls_of mixed J_model_May_ok (Nat.le_of_ble_eq_true rfl) ?_); simp only [J_model_May, mdV, wk,if_true,if_false,forall_const,implies_true,ne_eq,eq_self,Nat.reduceEqDiff,Nat.reduceAdd,Nat.reduceMul,Nat.reduceSub,Nat.reduceLeDiff,Nat.reduceLT,Int.reduceEq,Int.reduceLT,Int.reduceLE,Int.reduceAdd,Int.reduceSub,Int.reduceMul,Int.reduceNeg,Int.reduceNe,reduceCtorEq,Int.reduceToNat,↓reduceIte]
  have bad : ¬ (1 ≤ m.n ∧ m.n ≤ 8) → mdMay m = false := fun h => by simp [mdMay, h]
  refine ⟨fun h1 => ⟨fun h2 => boolE (bad (by omega)).symm, fun h2 => ?_⟩, fun h1 => boolE (bad (by omega)).symm⟩
  refine W_loop (fun n fr h => ∃ i : Nat, i ≤ m.rows.length ∧ n = m.rows.length - i ∧ (∀ x ∈ m.rows.take i, (x.to.length : Int) = m.n ∧ ∀ b ∈ x.to, b.toNat / 2 ^ m.n.toNat = 0) ∧ fr = [(1, .ptr 0 0), (16, .lst .ro m.rows.length (rowsC m.rows)), (17, .int .i64 m.rows.length), (18, .int .i64 i)] ∧ ∃ ex, h = some (false, [.int .i64 m.n, .lst .ro m.rows.length (rowsC m.rows)]) :: ex) m.rows.length ⟨0, by omega, by omega, by simp, rfl, _, rfl⟩ ?_
  rintro n fr h' ⟨i, hi, rfl, hall, rfl, ex, rfl⟩
  simp only [J_model_May_j4, wk,if_true,if_false,forall_const,implies_true,ne_eq,eq_self,Nat.reduceEqDiff,Nat.reduceAdd,Nat.reduceMul,Nat.reduceSub,Nat.reduceLeDiff,Nat.reduceLT,Int.reduceEq,Int.reduceLT,Int.reduceLE,Int.reduceAdd,Int.reduceSub,Int.reduceMul,Int.reduceNeg,Int.reduceNe,reduceCtorEq,Int.reduceToNat,↓reduceIte]
  refine ⟨fun hlt => ?_, fun hge => ?_⟩
  · have hil : i < m.rows.length := by omega
    have hin : ((0 ≤ (i : Int)) ∧ (i : Int) < (m.rows.length : Int)) = True := by simp; omega
    have hd := rowsC_at hil
    simp only [rowC, kA, List.cons_append, List.nil_append] at hd
    simp only [hin, Int.toNat_natCast, hd, wk,if_true,if_false,forall_const,implies_true,ne_eq,eq_self,Nat.reduceEqDiff,Nat.reduceAdd,Nat.reduceMul,Nat.reduceSub,Nat.reduceLeDiff,Nat.reduceLT,Int.reduceEq,Int.reduceLT,Int.reduceLE,Int.reduceAdd,Int.reduceSub,Int.reduceMul,Int.reduceNeg,Int.reduceNe,reduceCtorEq,Int.reduceToNat,↓reduceIte]
    have hmem := List.getElem_mem hil
    generalize hx : m.rows[i] = x at hmem hd ⊢
    have badx : (¬ ((x.to.length : Int) = m.n ∧ ∀ b ∈ x.to, b.toNat / 2 ^ m.n.toNat = 0)) → mdMay m = false := fun h => by
      cases hb : mdMay m with
      | false => rfl
      | true =>
        simp only [mdMay, Bool.and_eq_true, decide_eq_true_eq, List.all_eq_true] at hb
        exact absurd (hb.2 x hmem) h
    refine ⟨fun hne => boolE (badx (fun h => hne h.1)).symm, fun he => ?_⟩
    refine W_loop (fun n fr h => ∃ j : Nat, j ≤ x.to.length ∧ n = x.to.length - j ∧ (∀ b ∈ x.to.take j, b.toNat / 2 ^ m.n.toNat = 0) ∧ fr = [(1, .ptr 0 0), (16, .lst .ro m.rows.length (rowsC m.rows)), (17, .int .i64 m.rows.length), (18, .int .i64 i), (29, .lst .ro x.to.length (rlC x.to)), (30, .int .i64 x.to.length), (31, .int .i64 j)] ∧ ∃ ex, h = some (false, [.int .i64 m.n, .lst .ro m.rows.length (rowsC m.rows)]) :: ex) x.to.length ⟨0, by omega, by omega, by simp, rfl, _, rfl⟩ ?_
    rintro n fr h' ⟨j, hj, rfl, hallj, rfl, ex', rfl⟩
    simp only [J_model_May_j3, wk,if_true,if_false,forall_const,implies_true,ne_eq,eq_self,Nat.reduceEqDiff,Nat.reduceAdd,Nat.reduceMul,Nat.reduceSub,Nat.reduceLeDiff,Nat.reduceLT,Int.reduceEq,Int.reduceLT,Int.reduceLE,Int.reduceAdd,Int.reduceSub,Int.reduceMul,Int.reduceNeg,Int.reduceNe,reduceCtorEq,Int.reduceToNat,↓reduceIte]
    refine ⟨fun hlt => ?_, fun hge => ?_⟩
    · have hjl : j < x.to.length := by omega
      have hjn : ((0 ≤ (j : Int)) ∧ (j : Int) < (x.to.length : Int)) = True := by simp; omega
      have hd2 := rlC_drop hjl
      have hmn : min m.n.toNat IntKind.u8.bits = m.n.toNat := by simp [IntKind.bits]; omega
      simp only [u8] at hd2
      simp only [hjn, Int.toNat_natCast, hd2, hmn, fdiv_pow, wk,if_true,if_false,forall_const,implies_true,ne_eq,eq_self,Nat.reduceEqDiff,Nat.reduceAdd,Nat.reduceMul,Nat.reduceSub,Nat.reduceLeDiff,Nat.reduceLT,Int.reduceEq,Int.reduceLT,Int.reduceLE,Int.reduceAdd,Int.reduceSub,Int.reduceMul,Int.reduceNeg,Int.reduceNe,reduceCtorEq,Int.reduceToNat,↓reduceIte]
      refine ⟨by omega, fun hne => boolE (badx (fun h => hne (by exact_mod_cast h.2 _ (List.getElem_mem hjl)))).symm, fun hz => ⟨inR_of (by omega) (by omega), x.to.length - (j + 1), by omega, j + 1, by omega, rfl, fun b hb => ?_, by simp, _, rfl⟩⟩
      rw [List.take_succ_eq_append_getElem hjl, List.mem_append, List.mem_singleton] at hb
      rcases hb with hb | rfl
      · exact hallj b hb
      · exact_mod_cast hz
    · obtain rfl : j = x.to.length := by omega
      rw [List.take_of_length_le (Nat.le_refl _)] at hallj
      simp only [J_model_May_j2, wk,if_true,if_false,forall_const,implies_true,ne_eq,eq_self,Nat.reduceEqDiff,Nat.reduceAdd,Nat.reduceMul,Nat.reduceSub,Nat.reduceLeDiff,Nat.reduceLT,Int.reduceEq,Int.reduceLT,Int.reduceLE,Int.reduceAdd,Int.reduceSub,Int.reduceMul,Int.reduceNeg,Int.reduceNe,reduceCtorEq,Int.reduceToNat,↓reduceIte]
      refine ⟨inR_of (by omega) (by omega), m.rows.length - (i + 1), by omega, i + 1, by omega, rfl, fun y hy => ?_, by simp, _, rfl⟩
      rw [List.take_succ_eq_append_getElem hil, List.mem_append, List.mem_singleton] at hy
      rcases hy with hy | rfl
      · exact hall y hy
      · rw [hx]; exact ⟨he, hallj⟩
  · obtain rfl : i = m.rows.length := by omega
    rw [List.take_of_length_le (Nat.le_refl _)] at hall
    simp only [J_model_May_j1, wk,if_true,if_false,forall_const,implies_true,ne_eq,eq_self,Nat.reduceEqDiff,Nat.reduceAdd,Nat.reduceMul,Nat.reduceSub,Nat.reduceLeDiff,Nat.reduceLT,Int.reduceEq,Int.reduceLT,Int.reduceLE,Int.reduceAdd,Int.reduceSub,Int.reduceMul,Int.reduceNeg,Int.reduceNe,reduceCtorEq,Int.reduceToNat,↓reduceIte]
    refine boolE ?_
    symm
    simp only [mdMay, Bool.and_eq_true, decide_eq_true_eq, List.all_eq_true]
    exact ⟨by omega, fun x hx => hall x hx⟩
end Go.Proofs.Ytlfnepcglnjogaa

/- Models: what the program tells of words and sets, over the abstract code. -/
-- fast
namespace Go.Proofs.Ytlfnepcglnjogaa
set_option linter.unusedSimpArgs false
set_option linter.unusedVariables false
open Go.RowKit Go.Lib

def smallMd (m : Mdl) : Prop := m.rows.length ≤ 1000 ∧ ∀ x ∈ m.rows, smallW x
def toldV (m : Mdl) (r : Rl) : AV := .lst .ro m.n.toNat (rlC (r.take m.n.toNat))
def mWordV (m : Mdl) (w : ByteArray) : AV := if mdMay m && wordMay w then .tup [toldV m (wordR m.rows w), .int .i64 0] else .tup [.lst .clip 0 [], .int .i64 2]
def mSetV (m : Mdl) (s : List ByteArray) : AV := if mdMay m && setMay s then .tup [toldV m (setN m.rows s), .int .i64 0] else .tup [.lst .clip 0 [], .int .i64 2]
def tupB (ok b : Bool) : AV := if ok then .tup [.bool b, .int .i64 0] else .tup [.bool false, .int .i64 2]
theorem mdMay_n {m : Mdl} (h : mdMay m = true) : 1 ≤ m.n ∧ m.n ≤ 8 := by
  simp only [mdMay, Bool.and_eq_true, decide_eq_true_eq] at h; exact h.1
theorem free_told (m : Mdl) (r : Rl) : free (toldV m r) = true := by simp [toldV, free, frees_rlC]
theorem free_mWordV (m : Mdl) (w : ByteArray) : free (mWordV m w) = true := by unfold mWordV; split <;> simp [free, free.frees, free_told]
theorem free_mSetV (m : Mdl) (w : List ByteArray) : free (mSetV m w) = true := by unfold mSetV; split <;> simp [free, free.frees, free_told]
theorem free_tupB (a b : Bool) : free (tupB a b) = true := by unfold tupB; split <;> simp [free, free.frees]
set_option maxRecDepth 100000 in
set_option maxHeartbeats 4000000 in
theorem p_mWord (m : Mdl) (w : ByteArray) (hm : smallMd m) (hw : w.size ≤ 1000) : PCalls Try.prog 10 [mdV m, .str w] (mWordV m w) := by
  refine pcalls_of (by simp [free.frees, free, free_mdV]) (free_mWordV _ _) (acalls_of mixed J_model_Word_ok (Nat.le_of_ble_eq_true rfl) ?_); simp only [J_model_Word, mdV, wk,if_true,if_false,forall_const,implies_true,ne_eq,eq_self,Nat.reduceEqDiff,Nat.reduceAdd,Nat.reduceMul,Nat.reduceSub,Nat.reduceLeDiff,Nat.reduceLT,Int.reduceEq,Int.reduceLT,Int.reduceLE,Int.reduceAdd,Int.reduceSub,Int.reduceMul,Int.reduceNeg,Int.reduceNe,reduceCtorEq,Int.reduceToNat,↓reduceIte]
  have qm := p_mmay m hm.1 hm.2
  have qw := p_wmay w (by omega)
  have qr := p_mread m hm.1 hm.2
  simp only [mdV] at qm qr
  refine PCalls.use (qm) ?_; simp only [wk,if_true,if_false,forall_const,implies_true,ne_eq,eq_self,Nat.reduceEqDiff,Nat.reduceAdd,Nat.reduceMul,Nat.reduceSub,Nat.reduceLeDiff,Nat.reduceLT,Int.reduceEq,Int.reduceLT,Int.reduceLE,Int.reduceAdd,Int.reduceSub,Int.reduceMul,Int.reduceNeg,Int.reduceNe,reduceCtorEq,Int.reduceToNat,↓reduceIte]
  cases hmm : mdMay m with
  | false => simp only [hmm, wk,if_true,if_false,forall_const,implies_true,ne_eq,eq_self,Nat.reduceEqDiff,Nat.reduceAdd,Nat.reduceMul,Nat.reduceSub,Nat.reduceLeDiff,Nat.reduceLT,Int.reduceEq,Int.reduceLT,Int.reduceLE,Int.reduceAdd,Int.reduceSub,Int.reduceMul,Int.reduceNeg,Int.reduceNe,reduceCtorEq,Int.reduceToNat,↓reduceIte]; simp [mWordV, hmm]
  | true =>
    try simp only [hmm, wk,if_true,if_false,forall_const,implies_true,ne_eq,eq_self,Nat.reduceEqDiff,Nat.reduceAdd,Nat.reduceMul,Nat.reduceSub,Nat.reduceLeDiff,Nat.reduceLT,Int.reduceEq,Int.reduceLT,Int.reduceLE,Int.reduceAdd,Int.reduceSub,Int.reduceMul,Int.reduceNeg,Int.reduceNe,reduceCtorEq,Int.reduceToNat,↓reduceIte]
    refine PCalls.use (qw) ?_; simp only [wk,if_true,if_false,forall_const,implies_true,ne_eq,eq_self,Nat.reduceEqDiff,Nat.reduceAdd,Nat.reduceMul,Nat.reduceSub,Nat.reduceLeDiff,Nat.reduceLT,Int.reduceEq,Int.reduceLT,Int.reduceLE,Int.reduceAdd,Int.reduceSub,Int.reduceMul,Int.reduceNeg,Int.reduceNe,reduceCtorEq,Int.reduceToNat,↓reduceIte]
    cases hww : wordMay w with
    | false => simp only [hww, wk,if_true,if_false,forall_const,implies_true,ne_eq,eq_self,Nat.reduceEqDiff,Nat.reduceAdd,Nat.reduceMul,Nat.reduceSub,Nat.reduceLeDiff,Nat.reduceLT,Int.reduceEq,Int.reduceLT,Int.reduceLE,Int.reduceAdd,Int.reduceSub,Int.reduceMul,Int.reduceNeg,Int.reduceNe,reduceCtorEq,Int.reduceToNat,↓reduceIte]; simp [mWordV, hmm, hww]
    | true =>
      try simp only [hww, wk,if_true,if_false,forall_const,implies_true,ne_eq,eq_self,Nat.reduceEqDiff,Nat.reduceAdd,Nat.reduceMul,Nat.reduceSub,Nat.reduceLeDiff,Nat.reduceLT,Int.reduceEq,Int.reduceLT,Int.reduceLE,Int.reduceAdd,Int.reduceSub,Int.reduceMul,Int.reduceNeg,Int.reduceNe,reduceCtorEq,Int.reduceToNat,↓reduceIte]
      have qd := p_mword m.rows w hww hw
      have qt := p_mtold m (wordR m.rows w) (wordR_length _ _) (by have := mdMay_n hmm; omega) (mdMay_n hmm).2
      simp only [mpV, mdV] at qd qt
      refine ⟨_, qr, ?_⟩; simp only [wk,if_true,if_false,forall_const,implies_true,ne_eq,eq_self,Nat.reduceEqDiff,Nat.reduceAdd,Nat.reduceMul,Nat.reduceSub,Nat.reduceLeDiff,Nat.reduceLT,Int.reduceEq,Int.reduceLT,Int.reduceLE,Int.reduceAdd,Int.reduceSub,Int.reduceMul,Int.reduceNeg,Int.reduceNe,reduceCtorEq,Int.reduceToNat,↓reduceIte]
      refine ⟨_, qd, ?_⟩; try simp only [wk,if_true,if_false,forall_const,implies_true,ne_eq,eq_self,Nat.reduceEqDiff,Nat.reduceAdd,Nat.reduceMul,Nat.reduceSub,Nat.reduceLeDiff,Nat.reduceLT,Int.reduceEq,Int.reduceLT,Int.reduceLE,Int.reduceAdd,Int.reduceSub,Int.reduceMul,Int.reduceNeg,Int.reduceNe,reduceCtorEq,Int.reduceToNat,↓reduceIte]
      refine PCalls.use (qt) ?_; simp only [wk,if_true,if_false,forall_const,implies_true,ne_eq,eq_self,Nat.reduceEqDiff,Nat.reduceAdd,Nat.reduceMul,Nat.reduceSub,Nat.reduceLeDiff,Nat.reduceLT,Int.reduceEq,Int.reduceLT,Int.reduceLE,Int.reduceAdd,Int.reduceSub,Int.reduceMul,Int.reduceNeg,Int.reduceNe,reduceCtorEq,Int.reduceToNat,↓reduceIte]
      simp [mWordV, hmm, hww, toldV]
set_option maxRecDepth 100000 in
set_option maxHeartbeats 4000000 in
theorem p_mSet (m : Mdl) (s : List ByteArray) (hm : smallMd m) (hn : s.length ≤ 1000) (hs : ∀ w ∈ s, w.size ≤ 1000) : PCalls Try.prog 12 [mdV m, .lst .ro s.length (s.map .str)] (mSetV m s) := by
  refine pcalls_of (by simp [free.frees, free, free_mdV, frees_strs]) (free_mSetV _ _) (acalls_of mixed J_model_Set_ok (Nat.le_of_ble_eq_true rfl) ?_); simp only [J_model_Set, mdV, wk,if_true,if_false,forall_const,implies_true,ne_eq,eq_self,Nat.reduceEqDiff,Nat.reduceAdd,Nat.reduceMul,Nat.reduceSub,Nat.reduceLeDiff,Nat.reduceLT,Int.reduceEq,Int.reduceLT,Int.reduceLE,Int.reduceAdd,Int.reduceSub,Int.reduceMul,Int.reduceNeg,Int.reduceNe,reduceCtorEq,Int.reduceToNat,↓reduceIte]
  have qm := p_mmay m hm.1 hm.2
  have qw := p_smay s (by omega) (fun x hx => by have := hs x hx; omega)
  have qr := p_mread m hm.1 hm.2
  simp only [mdV] at qm qr
  refine PCalls.use (qm) ?_; simp only [wk,if_true,if_false,forall_const,implies_true,ne_eq,eq_self,Nat.reduceEqDiff,Nat.reduceAdd,Nat.reduceMul,Nat.reduceSub,Nat.reduceLeDiff,Nat.reduceLT,Int.reduceEq,Int.reduceLT,Int.reduceLE,Int.reduceAdd,Int.reduceSub,Int.reduceMul,Int.reduceNeg,Int.reduceNe,reduceCtorEq,Int.reduceToNat,↓reduceIte]
  cases hmm : mdMay m with
  | false => simp only [hmm, wk,if_true,if_false,forall_const,implies_true,ne_eq,eq_self,Nat.reduceEqDiff,Nat.reduceAdd,Nat.reduceMul,Nat.reduceSub,Nat.reduceLeDiff,Nat.reduceLT,Int.reduceEq,Int.reduceLT,Int.reduceLE,Int.reduceAdd,Int.reduceSub,Int.reduceMul,Int.reduceNeg,Int.reduceNe,reduceCtorEq,Int.reduceToNat,↓reduceIte]; simp [mSetV, hmm]
  | true =>
    try simp only [hmm, wk,if_true,if_false,forall_const,implies_true,ne_eq,eq_self,Nat.reduceEqDiff,Nat.reduceAdd,Nat.reduceMul,Nat.reduceSub,Nat.reduceLeDiff,Nat.reduceLT,Int.reduceEq,Int.reduceLT,Int.reduceLE,Int.reduceAdd,Int.reduceSub,Int.reduceMul,Int.reduceNeg,Int.reduceNe,reduceCtorEq,Int.reduceToNat,↓reduceIte]
    refine PCalls.use (qw) ?_; simp only [wk,if_true,if_false,forall_const,implies_true,ne_eq,eq_self,Nat.reduceEqDiff,Nat.reduceAdd,Nat.reduceMul,Nat.reduceSub,Nat.reduceLeDiff,Nat.reduceLT,Int.reduceEq,Int.reduceLT,Int.reduceLE,Int.reduceAdd,Int.reduceSub,Int.reduceMul,Int.reduceNeg,Int.reduceNe,reduceCtorEq,Int.reduceToNat,↓reduceIte]
    cases hww : setMay s with
    | false => simp only [hww, wk,if_true,if_false,forall_const,implies_true,ne_eq,eq_self,Nat.reduceEqDiff,Nat.reduceAdd,Nat.reduceMul,Nat.reduceSub,Nat.reduceLeDiff,Nat.reduceLT,Int.reduceEq,Int.reduceLT,Int.reduceLE,Int.reduceAdd,Int.reduceSub,Int.reduceMul,Int.reduceNeg,Int.reduceNe,reduceCtorEq,Int.reduceToNat,↓reduceIte]; simp [mSetV, hmm, hww]
    | true =>
      try simp only [hww, wk,if_true,if_false,forall_const,implies_true,ne_eq,eq_self,Nat.reduceEqDiff,Nat.reduceAdd,Nat.reduceMul,Nat.reduceSub,Nat.reduceLeDiff,Nat.reduceLT,Int.reduceEq,Int.reduceLT,Int.reduceLE,Int.reduceAdd,Int.reduceSub,Int.reduceMul,Int.reduceNeg,Int.reduceNe,reduceCtorEq,Int.reduceToNat,↓reduceIte]
      have qd := p_mset m.rows s hn (fun w hx => ⟨(setMay_words hww).2 w hx, hs w hx⟩)
      have qt := p_mtold m (setN m.rows s) (setN_length _ _) (by have := mdMay_n hmm; omega) (mdMay_n hmm).2
      simp only [mpV, mdV] at qd qt
      refine ⟨_, qr, ?_⟩; simp only [wk,if_true,if_false,forall_const,implies_true,ne_eq,eq_self,Nat.reduceEqDiff,Nat.reduceAdd,Nat.reduceMul,Nat.reduceSub,Nat.reduceLeDiff,Nat.reduceLT,Int.reduceEq,Int.reduceLT,Int.reduceLE,Int.reduceAdd,Int.reduceSub,Int.reduceMul,Int.reduceNeg,Int.reduceNe,reduceCtorEq,Int.reduceToNat,↓reduceIte]
      refine ⟨_, qd, ?_⟩; try simp only [wk,if_true,if_false,forall_const,implies_true,ne_eq,eq_self,Nat.reduceEqDiff,Nat.reduceAdd,Nat.reduceMul,Nat.reduceSub,Nat.reduceLeDiff,Nat.reduceLT,Int.reduceEq,Int.reduceLT,Int.reduceLE,Int.reduceAdd,Int.reduceSub,Int.reduceMul,Int.reduceNeg,Int.reduceNe,reduceCtorEq,Int.reduceToNat,↓reduceIte]
      refine PCalls.use (qt) ?_; simp only [wk,if_true,if_false,forall_const,implies_true,ne_eq,eq_self,Nat.reduceEqDiff,Nat.reduceAdd,Nat.reduceMul,Nat.reduceSub,Nat.reduceLeDiff,Nat.reduceLT,Int.reduceEq,Int.reduceLT,Int.reduceLE,Int.reduceAdd,Int.reduceSub,Int.reduceMul,Int.reduceNeg,Int.reduceNe,reduceCtorEq,Int.reduceToNat,↓reduceIte]
      simp [mSetV, hmm, hww, toldV]
set_option maxRecDepth 100000 in
set_option maxHeartbeats 4000000 in
theorem p_mHolds (m : Mdl) (a b : ByteArray) (hm : smallMd m) (ha : a.size ≤ 1000) (hb : b.size ≤ 1000) : PCalls Try.prog 14 [mdV m, .agg [.str a, .str b]] (tupB (mdMay m && (wordMay a && wordMay b)) (withinR (wordR m.rows a) (wordR m.rows b))) := by
  refine pcalls_of (by simp [free.frees, free, free_mdV]) (free_tupB _ _) (acalls_of mixed J_model_Holds_ok (Nat.le_of_ble_eq_true rfl) ?_); simp only [J_model_Holds, mdV, wk,if_true,if_false,forall_const,implies_true,ne_eq,eq_self,Nat.reduceEqDiff,Nat.reduceAdd,Nat.reduceMul,Nat.reduceSub,Nat.reduceLeDiff,Nat.reduceLT,Int.reduceEq,Int.reduceLT,Int.reduceLE,Int.reduceAdd,Int.reduceSub,Int.reduceMul,Int.reduceNeg,Int.reduceNe,reduceCtorEq,Int.reduceToNat,↓reduceIte]
  have qm := p_mmay m hm.1 hm.2
  have qa := p_wmay a (by omega)
  have qb := p_wmay b (by omega)
  have qr := p_mread m hm.1 hm.2
  simp only [mdV] at qm qr
  refine PCalls.use (qm) ?_; simp only [wk,if_true,if_false,forall_const,implies_true,ne_eq,eq_self,Nat.reduceEqDiff,Nat.reduceAdd,Nat.reduceMul,Nat.reduceSub,Nat.reduceLeDiff,Nat.reduceLT,Int.reduceEq,Int.reduceLT,Int.reduceLE,Int.reduceAdd,Int.reduceSub,Int.reduceMul,Int.reduceNeg,Int.reduceNe,reduceCtorEq,Int.reduceToNat,↓reduceIte]
  cases hmm : mdMay m with
  | false => simp only [hmm, wk,if_true,if_false,forall_const,implies_true,ne_eq,eq_self,Nat.reduceEqDiff,Nat.reduceAdd,Nat.reduceMul,Nat.reduceSub,Nat.reduceLeDiff,Nat.reduceLT,Int.reduceEq,Int.reduceLT,Int.reduceLE,Int.reduceAdd,Int.reduceSub,Int.reduceMul,Int.reduceNeg,Int.reduceNe,reduceCtorEq,Int.reduceToNat,↓reduceIte]; simp [tupB, hmm]
  | true =>
    try simp only [hmm, wk,if_true,if_false,forall_const,implies_true,ne_eq,eq_self,Nat.reduceEqDiff,Nat.reduceAdd,Nat.reduceMul,Nat.reduceSub,Nat.reduceLeDiff,Nat.reduceLT,Int.reduceEq,Int.reduceLT,Int.reduceLE,Int.reduceAdd,Int.reduceSub,Int.reduceMul,Int.reduceNeg,Int.reduceNe,reduceCtorEq,Int.reduceToNat,↓reduceIte]
    refine PCalls.use (qa) ?_; simp only [wk,if_true,if_false,forall_const,implies_true,ne_eq,eq_self,Nat.reduceEqDiff,Nat.reduceAdd,Nat.reduceMul,Nat.reduceSub,Nat.reduceLeDiff,Nat.reduceLT,Int.reduceEq,Int.reduceLT,Int.reduceLE,Int.reduceAdd,Int.reduceSub,Int.reduceMul,Int.reduceNeg,Int.reduceNe,reduceCtorEq,Int.reduceToNat,↓reduceIte]
    cases haa : wordMay a with
    | false => simp only [haa, wk,if_true,if_false,forall_const,implies_true,ne_eq,eq_self,Nat.reduceEqDiff,Nat.reduceAdd,Nat.reduceMul,Nat.reduceSub,Nat.reduceLeDiff,Nat.reduceLT,Int.reduceEq,Int.reduceLT,Int.reduceLE,Int.reduceAdd,Int.reduceSub,Int.reduceMul,Int.reduceNeg,Int.reduceNe,reduceCtorEq,Int.reduceToNat,↓reduceIte]; simp [tupB, hmm, haa]
    | true =>
      try simp only [haa, wk,if_true,if_false,forall_const,implies_true,ne_eq,eq_self,Nat.reduceEqDiff,Nat.reduceAdd,Nat.reduceMul,Nat.reduceSub,Nat.reduceLeDiff,Nat.reduceLT,Int.reduceEq,Int.reduceLT,Int.reduceLE,Int.reduceAdd,Int.reduceSub,Int.reduceMul,Int.reduceNeg,Int.reduceNe,reduceCtorEq,Int.reduceToNat,↓reduceIte]
      refine PCalls.use (qb) ?_; simp only [wk,if_true,if_false,forall_const,implies_true,ne_eq,eq_self,Nat.reduceEqDiff,Nat.reduceAdd,Nat.reduceMul,Nat.reduceSub,Nat.reduceLeDiff,Nat.reduceLT,Int.reduceEq,Int.reduceLT,Int.reduceLE,Int.reduceAdd,Int.reduceSub,Int.reduceMul,Int.reduceNeg,Int.reduceNe,reduceCtorEq,Int.reduceToNat,↓reduceIte]
      cases hbb : wordMay b with
      | false => simp only [hbb, wk,if_true,if_false,forall_const,implies_true,ne_eq,eq_self,Nat.reduceEqDiff,Nat.reduceAdd,Nat.reduceMul,Nat.reduceSub,Nat.reduceLeDiff,Nat.reduceLT,Int.reduceEq,Int.reduceLT,Int.reduceLE,Int.reduceAdd,Int.reduceSub,Int.reduceMul,Int.reduceNeg,Int.reduceNe,reduceCtorEq,Int.reduceToNat,↓reduceIte]; simp [tupB, hmm, haa, hbb]
      | true =>
        try simp only [hbb, wk,if_true,if_false,forall_const,implies_true,ne_eq,eq_self,Nat.reduceEqDiff,Nat.reduceAdd,Nat.reduceMul,Nat.reduceSub,Nat.reduceLeDiff,Nat.reduceLT,Int.reduceEq,Int.reduceLT,Int.reduceLE,Int.reduceAdd,Int.reduceSub,Int.reduceMul,Int.reduceNeg,Int.reduceNe,reduceCtorEq,Int.reduceToNat,↓reduceIte]
        have qd := p_mrule m.rows a b ⟨haa, ha⟩ ⟨hbb, hb⟩
        simp only [mpV] at qd
        refine ⟨_, qr, ?_⟩; simp only [wk,if_true,if_false,forall_const,implies_true,ne_eq,eq_self,Nat.reduceEqDiff,Nat.reduceAdd,Nat.reduceMul,Nat.reduceSub,Nat.reduceLeDiff,Nat.reduceLT,Int.reduceEq,Int.reduceLT,Int.reduceLE,Int.reduceAdd,Int.reduceSub,Int.reduceMul,Int.reduceNeg,Int.reduceNe,reduceCtorEq,Int.reduceToNat,↓reduceIte]
        refine ⟨_, qd, ?_⟩; simp only [wk,if_true,if_false,forall_const,implies_true,ne_eq,eq_self,Nat.reduceEqDiff,Nat.reduceAdd,Nat.reduceMul,Nat.reduceSub,Nat.reduceLeDiff,Nat.reduceLT,Int.reduceEq,Int.reduceLT,Int.reduceLE,Int.reduceAdd,Int.reduceSub,Int.reduceMul,Int.reduceNeg,Int.reduceNe,reduceCtorEq,Int.reduceToNat,↓reduceIte]
        simp [tupB, hmm, haa, hbb]
set_option maxRecDepth 100000 in
set_option maxHeartbeats 4000000 in
theorem p_mSpeaks (m : Mdl) (a b : List ByteArray) (hm : smallMd m) (ha : a.length ≤ 1000 ∧ ∀ w ∈ a, w.size ≤ 1000) (hb : b.length ≤ 1000 ∧ ∀ w ∈ b, w.size ≤ 1000) : PCalls Try.prog 16 [mdV m, .lst .ro a.length (a.map .str), .lst .ro b.length (b.map .str)] (tupB (mdMay m && (setMay a && setMay b)) (withinR (setN m.rows b) (setN m.rows a))) := by
  refine pcalls_of (by simp [free.frees, free, free_mdV, frees_strs]) (free_tupB _ _) (acalls_of mixed J_model_Speaks_ok (Nat.le_of_ble_eq_true rfl) ?_); simp only [J_model_Speaks, mdV, wk,if_true,if_false,forall_const,implies_true,ne_eq,eq_self,Nat.reduceEqDiff,Nat.reduceAdd,Nat.reduceMul,Nat.reduceSub,Nat.reduceLeDiff,Nat.reduceLT,Int.reduceEq,Int.reduceLT,Int.reduceLE,Int.reduceAdd,Int.reduceSub,Int.reduceMul,Int.reduceNeg,Int.reduceNe,reduceCtorEq,Int.reduceToNat,↓reduceIte]
  have qm := p_mmay m hm.1 hm.2
  have qa := p_smay a (by omega) (fun x hx => by have := ha.2 x hx; omega)
  have qb := p_smay b (by omega) (fun x hx => by have := hb.2 x hx; omega)
  have qr := p_mread m hm.1 hm.2
  simp only [mdV] at qm qr
  refine PCalls.use (qm) ?_; simp only [wk,if_true,if_false,forall_const,implies_true,ne_eq,eq_self,Nat.reduceEqDiff,Nat.reduceAdd,Nat.reduceMul,Nat.reduceSub,Nat.reduceLeDiff,Nat.reduceLT,Int.reduceEq,Int.reduceLT,Int.reduceLE,Int.reduceAdd,Int.reduceSub,Int.reduceMul,Int.reduceNeg,Int.reduceNe,reduceCtorEq,Int.reduceToNat,↓reduceIte]
  cases hmm : mdMay m with
  | false => simp only [hmm, wk,if_true,if_false,forall_const,implies_true,ne_eq,eq_self,Nat.reduceEqDiff,Nat.reduceAdd,Nat.reduceMul,Nat.reduceSub,Nat.reduceLeDiff,Nat.reduceLT,Int.reduceEq,Int.reduceLT,Int.reduceLE,Int.reduceAdd,Int.reduceSub,Int.reduceMul,Int.reduceNeg,Int.reduceNe,reduceCtorEq,Int.reduceToNat,↓reduceIte]; simp [tupB, hmm]
  | true =>
    try simp only [hmm, wk,if_true,if_false,forall_const,implies_true,ne_eq,eq_self,Nat.reduceEqDiff,Nat.reduceAdd,Nat.reduceMul,Nat.reduceSub,Nat.reduceLeDiff,Nat.reduceLT,Int.reduceEq,Int.reduceLT,Int.reduceLE,Int.reduceAdd,Int.reduceSub,Int.reduceMul,Int.reduceNeg,Int.reduceNe,reduceCtorEq,Int.reduceToNat,↓reduceIte]
    refine PCalls.use (qa) ?_; simp only [wk,if_true,if_false,forall_const,implies_true,ne_eq,eq_self,Nat.reduceEqDiff,Nat.reduceAdd,Nat.reduceMul,Nat.reduceSub,Nat.reduceLeDiff,Nat.reduceLT,Int.reduceEq,Int.reduceLT,Int.reduceLE,Int.reduceAdd,Int.reduceSub,Int.reduceMul,Int.reduceNeg,Int.reduceNe,reduceCtorEq,Int.reduceToNat,↓reduceIte]
    cases haa : setMay a with
    | false => simp only [haa, wk,if_true,if_false,forall_const,implies_true,ne_eq,eq_self,Nat.reduceEqDiff,Nat.reduceAdd,Nat.reduceMul,Nat.reduceSub,Nat.reduceLeDiff,Nat.reduceLT,Int.reduceEq,Int.reduceLT,Int.reduceLE,Int.reduceAdd,Int.reduceSub,Int.reduceMul,Int.reduceNeg,Int.reduceNe,reduceCtorEq,Int.reduceToNat,↓reduceIte]; simp [tupB, hmm, haa]
    | true =>
      try simp only [haa, wk,if_true,if_false,forall_const,implies_true,ne_eq,eq_self,Nat.reduceEqDiff,Nat.reduceAdd,Nat.reduceMul,Nat.reduceSub,Nat.reduceLeDiff,Nat.reduceLT,Int.reduceEq,Int.reduceLT,Int.reduceLE,Int.reduceAdd,Int.reduceSub,Int.reduceMul,Int.reduceNeg,Int.reduceNe,reduceCtorEq,Int.reduceToNat,↓reduceIte]
      refine PCalls.use (qb) ?_; simp only [wk,if_true,if_false,forall_const,implies_true,ne_eq,eq_self,Nat.reduceEqDiff,Nat.reduceAdd,Nat.reduceMul,Nat.reduceSub,Nat.reduceLeDiff,Nat.reduceLT,Int.reduceEq,Int.reduceLT,Int.reduceLE,Int.reduceAdd,Int.reduceSub,Int.reduceMul,Int.reduceNeg,Int.reduceNe,reduceCtorEq,Int.reduceToNat,↓reduceIte]
      cases hbb : setMay b with
      | false => simp only [hbb, wk,if_true,if_false,forall_const,implies_true,ne_eq,eq_self,Nat.reduceEqDiff,Nat.reduceAdd,Nat.reduceMul,Nat.reduceSub,Nat.reduceLeDiff,Nat.reduceLT,Int.reduceEq,Int.reduceLT,Int.reduceLE,Int.reduceAdd,Int.reduceSub,Int.reduceMul,Int.reduceNeg,Int.reduceNe,reduceCtorEq,Int.reduceToNat,↓reduceIte]; simp [tupB, hmm, haa, hbb]
      | true =>
        try simp only [hbb, wk,if_true,if_false,forall_const,implies_true,ne_eq,eq_self,Nat.reduceEqDiff,Nat.reduceAdd,Nat.reduceMul,Nat.reduceSub,Nat.reduceLeDiff,Nat.reduceLT,Int.reduceEq,Int.reduceLT,Int.reduceLE,Int.reduceAdd,Int.reduceSub,Int.reduceMul,Int.reduceNeg,Int.reduceNe,reduceCtorEq,Int.reduceToNat,↓reduceIte]
        have qd := p_mset m.rows a ha.1 (fun w hx => ⟨(setMay_words haa).2 w hx, ha.2 w hx⟩)
        have qe := p_mset m.rows b hb.1 (fun w hx => ⟨(setMay_words hbb).2 w hx, hb.2 w hx⟩)
        have qw := p_mwithin (setN m.rows b) (setN m.rows a) (setN_length _ _) (setN_length _ _)
        simp only [mpV, rlV] at qd qe qw
        refine PCalls.use (qr) ?_; simp only [wk,if_true,if_false,forall_const,implies_true,ne_eq,eq_self,Nat.reduceEqDiff,Nat.reduceAdd,Nat.reduceMul,Nat.reduceSub,Nat.reduceLeDiff,Nat.reduceLT,Int.reduceEq,Int.reduceLT,Int.reduceLE,Int.reduceAdd,Int.reduceSub,Int.reduceMul,Int.reduceNeg,Int.reduceNe,reduceCtorEq,Int.reduceToNat,↓reduceIte]
        refine PCalls.use (qe) ?_; simp only [wk,if_true,if_false,forall_const,implies_true,ne_eq,eq_self,Nat.reduceEqDiff,Nat.reduceAdd,Nat.reduceMul,Nat.reduceSub,Nat.reduceLeDiff,Nat.reduceLT,Int.reduceEq,Int.reduceLT,Int.reduceLE,Int.reduceAdd,Int.reduceSub,Int.reduceMul,Int.reduceNeg,Int.reduceNe,reduceCtorEq,Int.reduceToNat,↓reduceIte]
        refine PCalls.use (qd) ?_; simp only [wk,if_true,if_false,forall_const,implies_true,ne_eq,eq_self,Nat.reduceEqDiff,Nat.reduceAdd,Nat.reduceMul,Nat.reduceSub,Nat.reduceLeDiff,Nat.reduceLT,Int.reduceEq,Int.reduceLT,Int.reduceLE,Int.reduceAdd,Int.reduceSub,Int.reduceMul,Int.reduceNeg,Int.reduceNe,reduceCtorEq,Int.reduceToNat,↓reduceIte]
        refine PCalls.use (qw) ?_; simp only [wk,if_true,if_false,forall_const,implies_true,ne_eq,eq_self,Nat.reduceEqDiff,Nat.reduceAdd,Nat.reduceMul,Nat.reduceSub,Nat.reduceLeDiff,Nat.reduceLT,Int.reduceEq,Int.reduceLT,Int.reduceLE,Int.reduceAdd,Int.reduceSub,Int.reduceMul,Int.reduceNeg,Int.reduceNe,reduceCtorEq,Int.reduceToNat,↓reduceIte]
        simp [tupB, hmm, haa, hbb]
end Go.Proofs.Ytlfnepcglnjogaa
