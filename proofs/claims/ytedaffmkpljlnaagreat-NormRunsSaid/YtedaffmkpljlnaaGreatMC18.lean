/- Texts of one proof, laid together: Ab14 FnT Ab15 Ab16 Ab17 FnP Pw Ak FnS Sr Ss Az Aw Ax. -/
import Derived.Test.YtedaffmkpljlnaaGreatMC17
import Derived.Test.YtedaffmkpljlnaaGreatProg
import Derived.Test.YtedaffmkpljlnaaGreatMC5
import Derived.Test.YtedaffmkpljlnaaGreatMC13
set_option maxRecDepth 100000
set_option maxHeartbeats 16000000

set_option linter.unusedSimpArgs false
set_option linter.unusedVariables false
/- The abstract layer, fifteenth part: how code is walked. -/
namespace Go.Proofs.YtedaffmkpljlnaaGreat
open Go.RowKit Go.Lib

section
variable (P : Program)
theorem W_skip (fr : Fr) (h : Hp) (Q : Exit → Fr → Hp → Prop) : W P .skip fr h Q = Q .normal fr h := id rfl
theorem W_ops (l : List AStm) (fr : Fr) (h : Hp) (Q : Exit → Fr → Hp → Prop) : W P (.ops l) fr h Q = WOps P l fr h (Q .normal) := id rfl
theorem W_draw (v : List Nat) (l : List AStm) (fr : Fr) (h : Hp) (Q : Exit → Fr → Hp → Prop) : W P (.draw v l) fr h Q = VOps P l fr h (kdraw v Q) := id rfl
theorem W_seq (a b : ACode) (fr : Fr) (h : Hp) (Q : Exit → Fr → Hp → Prop) : W P (.seq a b) fr h Q = W P a fr h (kseq P b Q) := id rfl
theorem W_cond (c : Opd) (a b : ACode) (fr : Fr) (h : Hp) (Q : Exit → Fr → Hp → Prop) : W P (.cond c a b) fr h Q = match ev fr c with
  | some (.bool p) => (p = true → W P a fr h Q) ∧ (p = false → W P b fr h Q)
  | _ => False := id rfl
theorem W_block (i : Nat) (a : ACode) (fr : Fr) (h : Hp) (Q : Exit → Fr → Hp → Prop) : W P (.block i a) fr h Q = W P a fr h (kblock i Q) := id rfl
theorem W_exit (i : Nat) (fr : Fr) (h : Hp) (Q : Exit → Fr → Hp → Prop) : W P (.exit i) fr h Q = Q (.exit i) fr h := id rfl
theorem W_ret (fr : Fr) (h : Hp) (Q : Exit → Fr → Hp → Prop) : W P .ret fr h Q = Q .ret fr h := id rfl
theorem W_keep (l : List Nat) (a : ACode) (fr : Fr) (h : Hp) (Q : Exit → Fr → Hp → Prop) : W P (.keep l a) fr h Q = W P a (restr l fr) h Q := id rfl
theorem W_loop {P : Program} {vars : List Nat} {a : ACode} {fr : Fr} {h : Hp} {Q : Exit → Fr → Hp → Prop} (I : Nat → Fr → Hp → Prop) (n : Nat) (h0 : I n (restr vars fr) h) (hr : ∀ n fr h, I n fr h → W P a fr h (kloop vars I n Q)) : W P (.loop vars a) fr h Q := ⟨I, ⟨n, h0⟩, hr⟩
theorem kseq_normal (b : ACode) (Q : Exit → Fr → Hp → Prop) (fr : Fr) (h : Hp) : kseq P b Q .normal fr h = W P b fr h Q := id rfl
theorem kseq_exit (b : ACode) (Q : Exit → Fr → Hp → Prop) (i : Nat) (fr : Fr) (h : Hp) : kseq P b Q (.exit i) fr h = Q (.exit i) fr h := id rfl
theorem kseq_ret (b : ACode) (Q : Exit → Fr → Hp → Prop) (fr : Fr) (h : Hp) : kseq P b Q .ret fr h = Q .ret fr h := id rfl
theorem kblock_normal (i : Nat) (Q : Exit → Fr → Hp → Prop) (fr : Fr) (h : Hp) : kblock i Q .normal fr h = Q .normal fr h := id rfl
theorem kblock_exit (i j : Nat) (Q : Exit → Fr → Hp → Prop) (fr : Fr) (h : Hp) : kblock i Q (.exit j) fr h = if j = i then Q .normal fr h else Q (.exit j) fr h := id rfl
theorem kblock_ret (i : Nat) (Q : Exit → Fr → Hp → Prop) (fr : Fr) (h : Hp) : kblock i Q .ret fr h = Q .ret fr h := id rfl
theorem kloop_normal (v : List Nat) (I : Nat → Fr → Hp → Prop) (n : Nat) (Q : Exit → Fr → Hp → Prop) (fr : Fr) (h : Hp) : kloop v I n Q .normal fr h = ∃ m, m < n ∧ I m (restr v fr) h := id rfl
theorem kloop_exit (v : List Nat) (I : Nat → Fr → Hp → Prop) (n : Nat) (Q : Exit → Fr → Hp → Prop) (i : Nat) (fr : Fr) (h : Hp) : kloop v I n Q (.exit i) fr h = Q (.exit i) fr h := id rfl
theorem kloop_ret (v : List Nat) (I : Nat → Fr → Hp → Prop) (n : Nat) (Q : Exit → Fr → Hp → Prop) (fr : Fr) (h : Hp) : kloop v I n Q .ret fr h = Q .ret fr h := id rfl
theorem kret_normal (rs : List RV) (R : AV → Hp → Prop) (fr : Fr) (h : Hp) : kret rs R .normal fr h = resL fr h rs (res1 (fun a => R a h)) := id rfl
theorem kret_ret (rs : List RV) (R : AV → Hp → Prop) (fr : Fr) (h : Hp) : kret rs R .ret fr h = resL fr h rs (res1 (fun a => R a h)) := id rfl
theorem kdraw_eq (v : List Nat) (Q : Exit → Fr → Hp → Prop) (fr : Fr) (h : Hp) : kdraw v Q fr h = Q .normal (restr v fr) h := id rfl
theorem kval_eq (d : Option Nat) (fr : Fr) (h : Hp) (K : Fr → Hp → Prop) (a : AV) : kval d fr h K a = K (put d a fr) h := id rfl
theorem kv_eq (h : Hp) (R : AV → Hp → Prop) (a : AV) : kv h R a = R a h := id rfl
theorem kput_eq (d : Option Nat) (o : AOp) (fr : Fr) (K : Fr → Hp → Prop) (a : AV) (h : Hp) : kput d o fr K a h = K (put d a (tk o fr)) h := id rfl
theorem kbox_eq (d : Option Nat) (fr : Fr) (h : Hp) (K : Fr → Hp → Prop) (l : List AV) : kbox d fr h K l = K (put d (.ptr h.length 0) fr) (h ++ [some (false, l)]) := id rfl
theorem kobj_eq (h : Hp) (R : AV → Hp → Prop) (l : List AV) : kobj h R l = R (.ptr h.length 0) (h ++ [some (false, l)]) := id rfl
theorem klst_eq (d : Option Nat) (e n : Nat) (fr : Fr) (h : Hp) (K : Fr → Hp → Prop) (l : List AV) : klst d e n fr h K l = K (put d (.lst (.own e) n l) fr) h := id rfl
theorem krow_eq (e n : Nat) (h : Hp) (R : AV → Hp → Prop) (l : List AV) : krow e n h R l = R (.lst (.own e) n l) h := id rfl
theorem kcall_eq (d : Option Nat) (fr : Fr) (K : Fr → Hp → Prop) (a : AV) (h : Hp) : kcall d fr K a h = K (put d a fr) h := id rfl
theorem put_some (k : Nat) (a : AV) (fr : Fr) : put (some k) a fr = (k, a) :: fr := id rfl
theorem put_none (a : AV) (fr : Fr) : put none a fr = fr := id rfl
theorem lk_nil (k : Nat) : lk [] k = none := id rfl
theorem restr_nil (fr : Fr) : restr [] fr = [] := id rfl
theorem restr_cons (k : Nat) (r : List Nat) (fr : Fr) : restr (k :: r) fr = match lk fr k with
  | some a => (k, a) :: restr r fr
  | none => restr r fr := id rfl
theorem ev_t (fr : Fr) (k : Nat) : ev fr (.t k) = (lk fr k).map deg := id rfl
theorem ev_c (fr : Fr) (a : AV) : ev fr (.c a) = some a := id rfl
theorem ev_f (fr : Fr) (i : FuncId) : ev fr (.f i) = some (.fn i []) := id rfl
theorem evs_nil (fr : Fr) : evs fr [] = some [] := id rfl
theorem evs_cons (fr : Fr) (x : Opd) (r : List Opd) : evs fr (x :: r) = match ev fr x, evs fr r with
  | some a, some l => some (a :: l)
  | _, _ => none := id rfl
theorem evD_none (fr : Fr) (d : AV) : evD fr d none = some d := id rfl
theorem evD_some (fr : Fr) (d : AV) (x : Opd) : evD fr d (some x) = ev fr x := id rfl
theorem degr_nil (k : Nat) : degr k [] = [] := id rfl
theorem degr_cons (k j : Nat) (a : AV) (r : Fr) : degr k ((j, a) :: r) = (j, if j = k then deg a else a) :: degr k r := id rfl
theorem args0_nil (k : Nat) : args0 k [] = [] := id rfl
theorem args0_cons (k : Nat) (a : AV) (l : List AV) : args0 k (a :: l) = (k, a) :: args0 (k + 1) l := id rfl
theorem buildK_nil (fr : Fr) (t : List AV) (K : List AV → Prop) : buildK fr t [] K = K t := id rfl
theorem buildK_cons (fr : Fr) (t : List AV) (o s : Nat) (x : Opd) (r : List (Nat × Nat × Opd)) (K : List AV → Prop) : buildK fr t ((o, s, x) :: r) K = match ev fr x with
  | some a => (isTup a = false ∧ (cellsOf a).length = s ∧ o + s ≤ t.length) ∧ buildK fr (splice t o (cellsOf a)) r K
  | none => False := id rfl
theorem upgK_nil (l : List AV) (K : List AV → Prop) : upgK [] l K = K l := id rfl
theorem upgK_cons (i e s : Nat) (r : List (Nat × Nat × Nat)) (l : List AV) (K : List AV → Prop) : upgK ((i, e, s) :: r) l K = match l[i]? with
  | some (.lst .clip n c) => c.length = n * s ∧ upgK r (l.set i (.lst (.own e) n c)) K
  | _ => False := id rfl
theorem resL_nil (fr : Fr) (h : Hp) (K : List AV → Prop) : resL fr h [] K = K [] := id rfl
theorem resL_t (fr : Fr) (h : Hp) (k : Nat) (r : List RV) (K : List AV → Prop) : resL fr h (.t k :: r) K = match ev fr (.t k) with
  | some a => resL fr h r (fun l => K (a :: l))
  | none => False := id rfl
theorem resL_c (fr : Fr) (h : Hp) (k : Nat) (s : Option Nat) (r : List RV) (K : List AV → Prop) : resL fr h (.c k s :: r) K = val fr h (.load s (.t k)) (fun a => resL fr h r (fun l => K (a :: l))) := id rfl
theorem res1_one (K : AV → Prop) (a : AV) : res1 K [a] = K a := id rfl
theorem res1_nil (K : AV → Prop) : res1 K [] = K (.tup []) := id rfl
theorem res1_two (K : AV → Prop) (a b : AV) (l : List AV) : res1 K (a :: b :: l) = K (.tup (a :: b :: l)) := id rfl
end

theorem lk_cons' (j k : Nat) (a : AV) (r : Fr) : lk ((j, a) :: r) k = if j = k then some a else lk r k := id rfl
theorem splice_nil' {α : Type} (l : List α) (o : Nat) : splice l o [] = l := id rfl
theorem splice_cons' {α : Type} (l : List α) (o : Nat) (v : α) (r : List α) : splice l o (v :: r) = splice (l.set o v) (o + 1) r := id rfl
theorem WOps_nil' (P : Program) (fr : Fr) (h : Hp) (K : Fr → Hp → Prop) : WOps P [] fr h K = K fr h := id rfl
theorem WOps_cons' (P : Program) (d : Option Nat) (o : AOp) (f : Option (FB × List Nat)) (r : List AStm) (fr : Fr) (h : Hp) (K : Fr → Hp → Prop) : WOps P (⟨d, none, o, f⟩ :: r) fr h K = wop P d o fr h (kops P r K) := id rfl
theorem WOps_gd' (P : Program) (d : Option Nat) (q : Nat) (want : Bool) (o : AOp) (f : Option (FB × List Nat)) (r : List AStm) (fr : Fr) (h : Hp) (K : Fr → Hp → Prop) : WOps P (⟨d, some (q, want), o, f⟩ :: r) fr h K = match lk fr q with
      | some (.bool p) => (p = want → wop P d o ((q, .bool want) :: fr) h (kops P r K)) ∧ (p = !want → WOps P r (put d (.tup []) ((q, .bool (!want)) :: fr)) h K)
      | some (.tup []) => WOps P r (put d (.tup []) fr) h K
      | _ => False := id rfl
theorem kops_eq' (P : Program) (r : List AStm) (K : Fr → Hp → Prop) (fr : Fr) (h : Hp) : kops P r K fr h = WOps P r fr h K := id rfl
theorem VOps_nil' (P : Program) (fr : Fr) (h : Hp) (K : Fr → Hp → Prop) : VOps P [] fr h K = K fr h := id rfl
theorem VOps_cons' (P : Program) (d : Option Nat) (o : AOp) (r : List AStm) (fr : Fr) (h : Hp) (K : Fr → Hp → Prop) : VOps P (⟨d, none, o, none⟩ :: r) fr h K = eff P o fr h (kput d o fr (kvops P r K)) := id rfl
theorem VOps_gd' (P : Program) (d : Option Nat) (q : Nat) (want : Bool) (o : AOp) (r : List AStm) (fr : Fr) (h : Hp) (K : Fr → Hp → Prop) : VOps P (⟨d, some (q, want), o, none⟩ :: r) fr h K = match lk fr q with
      | some (.bool p) => (p = want → eff P o ((q, .bool want) :: fr) h (kput d o ((q, .bool want) :: fr) (kvops P r K))) ∧ (p = !want → VOps P r (put d (.tup []) ((q, .bool (!want)) :: fr)) h K)
      | some (.tup []) => VOps P r (put d (.tup []) fr) h K
      | _ => False := id rfl
theorem VOps_ft' (P : Program) (d : Option Nat) (o : AOp) (b : FB) (ps : List Nat) (r : List AStm) (fr : Fr) (h : Hp) (K : Fr → Hp → Prop) : VOps P (⟨d, none, o, some (b, ps)⟩ :: r) fr h K = (apart fr (fbId b fr h) ps ∧ effF P b o fr h (kput d o fr (kvops P r K))) := id rfl
theorem VOps_gdft' (P : Program) (d : Option Nat) (q : Nat) (want : Bool) (o : AOp) (b : FB) (ps : List Nat) (r : List AStm) (fr : Fr) (h : Hp) (K : Fr → Hp → Prop) : VOps P (⟨d, some (q, want), o, some (b, ps)⟩ :: r) fr h K = match lk fr q with
      | some (.bool p) => (p = want → apart ((q, .bool want) :: fr) (fbId b ((q, .bool want) :: fr) h) ps ∧ effF P b o ((q, .bool want) :: fr) h (kput d o ((q, .bool want) :: fr) (kvops P r K))) ∧ (p = !want → VOps P r (put d (.tup []) ((q, .bool (!want)) :: fr)) h K)
      | some (.tup []) => VOps P r (put d (.tup []) fr) h K
      | _ => False := id rfl
theorem apart_nil (fr : Fr) (i : Option Nat) : apart fr i [] = True := id rfl
theorem apart_cons (fr : Fr) (i : Option Nat) (p : Nat) (r : List Nat) : apart fr i (p :: r) = ((match i, ptrId (lk fr p) with
  | some a, some b => a ≠ b
  | _, _ => False) ∧ apart fr i r) := id rfl
theorem ptrId_ptr (i o : Nat) : ptrId (some (.ptr i o)) = some i := id rfl
theorem ptrId_hs (i n : Nat) : ptrId (some (.hs i n)) = some i := id rfl
theorem sameId_eq (x : Option AV) (i : Option Nat) : sameId x i = (match ptrId x, i with
 | some a, some b => a = b
 | _, _ => False) := id rfl
theorem fbId_s (k : Nat) (fr : Fr) (h : Hp) : fbId (.s k) fr h = ptrId (lk fr k) := id rfl
theorem fbId_h (k : Nat) (fr : Fr) (h : Hp) : fbId (.h k) fr h = if k < h.length then some (h.length - 1 - k) else none := id rfl
theorem effF_load (P : Program) (b : FB) (s : Option Nat) (x : Opd) (fr : Fr) (h : Hp) (R : AV → Hp → Prop) : effF P b (.load s x) fr h R = (sameId (ev fr x) (fbId b fr h) ∧ eff P (.load s x) fr h R) := id rfl
theorem effF_loado (P : Program) (b : FB) (x : Opd) (fr : Fr) (h : Hp) (R : AV → Hp → Prop) : effF P b (.loado x) fr h R = (sameId (ev fr x) (fbId b fr h) ∧ eff P (.loado x) fr h R) := id rfl
theorem effF_store (P : Program) (b : FB) (n : Nat) (a x : Opd) (fr : Fr) (h : Hp) (R : AV → Hp → Prop) : effF P b (.store n a x) fr h R = (sameId (ev fr a) (fbId b fr h) ∧ eff P (.store n a x) fr h R) := id rfl
theorem effF_stores (P : Program) (b : FB) (n : Nat) (a x : Opd) (fr : Fr) (h : Hp) (R : AV → Hp → Prop) : effF P b (.stores n a x) fr h R = (sameId (ev fr a) (fbId b fr h) ∧ eff P (.stores n a x) fr h R) := id rfl
theorem effF_storeo (P : Program) (b : FB) (a : Opd) (k : Nat) (fr : Fr) (h : Hp) (R : AV → Hp → Prop) : effF P b (.storeo a k) fr h R = (sameId (ev fr a) (fbId b fr h) ∧ eff P (.storeo a k) fr h R) := id rfl
theorem effF_calli (P : Program) (b : FB) (f : Opd) (args : List Opd) (fr : Fr) (h : Hp) (R : AV → Hp → Prop) : effF P b (.calli f args) fr h R = (match ev fr f, evs fr args, fbId b fr h with
  | some (.fn f' caps), some l, some id => ∃ v l0 l1, h[id]? = some (some (false, l0)) ∧ (∀ h0 : Hp, h0[id]? = some (some (false, l0)) → ACalls P f' (l ++ caps) h0 (fun a h' => a = v ∧ h' = h0.set id (some (false, l1)))) ∧ R v (h.set id (some (false, l1)))
  | _, _, _ => False) := id rfl
theorem effF_new (P : Program) (b : FB) (l : List AV) (u : List (Nat × Nat × Nat)) (fr : Fr) (h : Hp) (R : AV → Hp → Prop) : effF P b (.new l u) fr h R = (match fbId b fr h with
  | some id => h[id]? = some none ∧ upgK u l (fun l' => R (.ptr id 0) (h.set id (some (false, l'))))
  | none => False) := id rfl
theorem effF_box (P : Program) (b : FB) (x : Opd) (u : List (Nat × Nat × Nat)) (fr : Fr) (h : Hp) (R : AV → Hp → Prop) : effF P b (.box x u) fr h R = (match fbId b fr h, ev fr x with
  | some id, some a => h[id]? = some none ∧ isTup a = false ∧ upgK u (cellsOf a) (fun l' => R (.ptr id 0) (h.set id (some (false, l'))))
  | _, _ => False) := id rfl
theorem effF_mkn (P : Program) (b : FB) (e s y : Nat) (z : List AV) (c : Opd) (fr : Fr) (h : Hp) (R : AV → Hp → Prop) : effF P b (.mkn e s y z c) fr h R = (match fbId b fr h, ev fr c with
  | some id, some (.int _ n) => h[id]? = some none ∧ (0 ≤ n ∧ y * n ≤ 140737488355328 ∧ n ≤ 9223372036854775807) ∧ R (.hs id n.toNat) (h.set id (some (false, (List.range (n.toNat * s)).map fun i => z.getD (i % s) .nilp)))
  | _, _ => False) := id rfl
theorem W_scope (P : Program) (a : ACode) (fr : Fr) (h : Hp) (Q : Exit → Fr → Hp → Prop) : W P (.scope a) fr h Q = W P a fr h (kscope Q) := id rfl
theorem W_dead (P : Program) (fr : Fr) (h : Hp) (Q : Exit → Fr → Hp → Prop) : W P .dead fr h Q = False := id rfl
theorem kscope_normal (Q : Exit → Fr → Hp → Prop) (fr : Fr) (h : Hp) : kscope Q .normal fr h = Q .normal fr h := id rfl
theorem kscope_exit (Q : Exit → Fr → Hp → Prop) (i : Nat) (fr : Fr) (h : Hp) : kscope Q (.exit i) fr h = Q (.exit i) fr h := id rfl
theorem kscope_ret (Q : Exit → Fr → Hp → Prop) (fr : Fr) (h : Hp) : kscope Q .ret fr h = Q .ret fr h := id rfl
theorem W_holes (P : Program) (m : Nat) (a : ACode) (fr : Fr) (h : Hp) (Q : Exit → Fr → Hp → Prop) : W P (.holes m a) fr h Q = W P a fr (h ++ List.replicate m none) Q := id rfl
theorem rep2 : List.replicate 2 (none : Option (Bool × List AV)) = [none, none] := id rfl
theorem rep3 : List.replicate 3 (none : Option (Bool × List AV)) = [none, none, none] := id rfl
theorem kvops_eq' (P : Program) (r : List AStm) (K : Fr → Hp → Prop) (fr : Fr) (h : Hp) : kvops P r K fr h = VOps P r fr h K := id rfl
theorem frees_str : ∀ l : List ByteArray, free.frees (l.map AV.str) = true
 | [] => rfl
 | _ :: l => by simp [free.frees, free, frees_str l]
theorem frees_u8 : ∀ l : List UInt8, free.frees (l.map fun b => AV.int .u8 b.toNat) = true
 | [] => rfl
 | _ :: l => by simp [free.frees, free, frees_u8 l]
theorem frees_u16 : ∀ l : List Nat, free.frees (l.map fun (b : Nat) => AV.int .u16 (b : Int)) = true
 | [] => rfl
 | _ :: l => by simp [free.frees, free, frees_u16 l]
theorem inR_of {z : Int} (h1 : -9223372036854775808 ≤ z) (h2 : z ≤ 9223372036854775807) : inR z := ⟨h1, h2⟩
theorem ACalls.use {P : Program} {f : FuncId} {args : List AV} {h : Hp} {R R' : AV → Hp → Prop} (hc : ACalls P f args h R) (hr : ∀ a h', R a h' → R' a h') : ACalls P f args h R' := hc.mono hr
theorem mixed : Tryz.prog.follows .mixedOrders = true := by kernel_rfl

end Go.Proofs.YtedaffmkpljlnaaGreat
namespace Go.Proofs.YtedaffmkpljlnaaGreat
open Go.RowKit
def J_ref04_Word : AFn :=
 ⟨97,[.t 2],.seq (.ops [Zo 1 (.box (.t 0) []),
 Zo 2 (.mv (.c (.str ⟨#[]⟩)))])
 (.keep [1] (.seq (.ops [Zo 4 (.fld 1 (.t 1)),
 Zo 5 (.load none (.t 4)),
 Zo 6 (.bin .eql (.t 5) (.c (.str ⟨#[]⟩))),
 Zm 7 6,
 ⟨some 8,(some (7,true)),.fld 2 (.t 1),none⟩,
 ⟨some 9,(some (7,true)),.load none (.t 8),none⟩,
 ⟨some 10,(some (7,true)),.bin .eql (.t 9) (.c (.int .i64 0)),none⟩,
 Zo 11 (.pick (.t 7) (.t 10) (.c (.bool false))),
 Zm 3 11])
 (.keep [1,3] (.seq (.seq (.ops [Zo 12 (.fld 0 (.t 1)),
 Zo 13 (.load none (.t 12))])
 (.keep [1,3,13] (.block 0 (.seq (.ops [Zo 15 (.bin .eql (.t 13) (.c (.int .i64 1))),
 Zm 14 15])
 (.keep [1,3,13,14] (.cond (.t 14)
 (.seq (.seq (.ops [Zo 16 (.fld 2 (.t 1)),
 Zo 17 (.load none (.t 16)),
 Zo 18 (.bin .eql (.t 17) (.c (.int .i64 0))),
 Zm 19 18,
 ⟨some 20,(some (19,true)),.fld 1 (.t 1),none⟩,
 ⟨some 21,(some (19,true)),.load none (.t 20),none⟩,
 ⟨some 22,(some (19,true)),.bin .eql (.t 21) (.c (.str ⟨#[68]⟩)),none⟩,
 Zo 23 (.pick (.t 19) (.t 22) (.c (.bool false)))])
 (.keep [1,23] (.cond (.t 23)
 (.seq (.ops [Zo 2 (.mv (.c (.str ⟨#[68]⟩)))])
 (.ret))
 (.skip))))
 (.keep [1] (.seq (.seq (.ops [Zo 24 (.fld 1 (.t 1)),
 Zo 25 (.load none (.t 24)),
 Zo 26 (.call (.f 77) [(.t 25)]),
 Zo 27 (.not (.t 26)),
 Zm 28 27,
 ⟨some 29,(some (28,false)),.fld 2 (.t 1),none⟩,
 ⟨some 30,(some (28,false)),.load none (.t 29),none⟩,
 ⟨some 31,(some (28,false)),.bin .lss (.t 30) (.c (.int .i64 1)),none⟩,
 Zo 32 (.pick (.t 28) (.c (.bool true)) (.t 31)),
 Zm 33 32,
 ⟨some 34,(some (33,false)),.fld 2 (.t 1),none⟩,
 ⟨some 35,(some (33,false)),.load none (.t 34),none⟩,
 ⟨some 36,(some (33,false)),.bin .gtr (.t 35) (.c (.int .i64 5)),none⟩,
 Zo 37 (.pick (.t 33) (.c (.bool true)) (.t 36)),
 Zm 38 37,
 ⟨some 39,(some (38,false)),.fld 2 (.t 1),none⟩,
 ⟨some 40,(some (38,false)),.load none (.t 39),none⟩,
 ⟨some 41,(some (38,false)),.bin .eql (.t 40) (.c (.int .i64 3)),none⟩,
 ⟨some 42,(some (38,false)),.mv (.t 41),none⟩,
 ⟨some 43,(some (42,true)),.fld 1 (.t 1),none⟩,
 ⟨some 44,(some (42,true)),.load none (.t 43),none⟩,
 ⟨some 45,(some (42,true)),.call (.f 78) [(.t 44)],none⟩,
 ⟨some 46,(some (42,true)),.bin .neq (.t 45) (.c (.int .i64 0)),none⟩,
 ⟨some 47,(some (38,false)),.pick (.t 42) (.t 46) (.c (.bool false)),none⟩,
 Zo 48 (.pick (.t 38) (.c (.bool true)) (.t 47))])
 (.keep [1,48] (.cond (.t 48)
 (.seq (.ops [Zo 2 (.mv (.c (.str ⟨#[]⟩)))])
 (.ret))
 (.skip))))
 (.keep [1] (.seq (.draw [2] [Zo 49 (.fld 2 (.t 1)),
 Zo 50 (.load none (.t 49)),
 Zo 51 (.call (.f 79) [(.t 50)]),
 Zo 52 (.fld 1 (.t 1)),
 Zo 53 (.load none (.t 52)),
 Zo 54 (.bin .add (.t 51) (.t 53)),
 Zm 2 54])
 (.ret))))))
 (.seq (.ops [Zo 56 (.bin .eql (.t 13) (.c (.int .i64 8))),
 Zm 55 56])
 (.keep [1,3,13,55] (.cond (.t 55)
 (.seq (.seq (.ops [Zo 57 (.fld 1 (.t 1)),
 Zo 58 (.load none (.t 57)),
 Zo 59 (.call (.f 80) [(.t 58)]),
 Zm 60 59,
 ⟨some 61,(some (60,true)),.fld 2 (.t 1),none⟩,
 ⟨some 62,(some (60,true)),.load none (.t 61),none⟩,
 ⟨some 63,(some (60,true)),.bin .eql (.t 62) (.c (.int .i64 0)),none⟩,
 Zo 64 (.pick (.t 60) (.t 63) (.c (.bool false)))])
 (.keep [1,64] (.cond (.t 64)
 (.seq (.ops [Zo 65 (.fld 1 (.t 1)),
 Zo 66 (.load none (.t 65)),
 Zm 2 66])
 (.ret))
 (.skip))))
 (.keep [] (.seq (.ops [Zo 2 (.mv (.c (.str ⟨#[]⟩)))])
 (.ret))))
 (.seq (.ops [Zo 68 (.bin .eql (.t 13) (.c (.int .i64 9))),
 Zm 67 68])
 (.keep [1,3,67] (.cond (.t 67)
 (.seq (.seq (.ops [Zo 69 (.fld 1 (.t 1)),
 Zo 70 (.load none (.t 69)),
 Zo 71 (.call (.f 81) [(.t 70)]),
 Zm 72 71,
 ⟨some 73,(some (72,true)),.fld 2 (.t 1),none⟩,
 ⟨some 74,(some (72,true)),.load none (.t 73),none⟩,
 ⟨some 75,(some (72,true)),.bin .eql (.t 74) (.c (.int .i64 0)),none⟩,
 Zo 76 (.pick (.t 72) (.t 75) (.c (.bool false)))])
 (.keep [1,76] (.cond (.t 76)
 (.seq (.ops [Zo 77 (.fld 1 (.t 1)),
 Zo 78 (.load none (.t 77)),
 Zm 2 78])
 (.ret))
 (.skip))))
 (.keep [] (.seq (.ops [Zo 2 (.mv (.c (.str ⟨#[]⟩)))])
 (.ret))))
 (.skip)))))))))))))
 (.keep [1,3] (.seq (.seq (.ops [Zm 79 3,
 Zo 80 (.not (.t 79)),
 Zm 81 80,
 ⟨some 82,(some (81,false)),.fld 0 (.t 1),none⟩,
 ⟨some 83,(some (81,false)),.load none (.t 82),none⟩,
 ⟨some 84,(some (81,false)),.bin .lss (.t 83) (.c (.int .i64 2)),none⟩,
 Zo 85 (.pick (.t 81) (.c (.bool true)) (.t 84)),
 Zm 86 85,
 ⟨some 87,(some (86,false)),.fld 0 (.t 1),none⟩,
 ⟨some 88,(some (86,false)),.load none (.t 87),none⟩,
 ⟨some 89,(some (86,false)),.bin .gtr (.t 88) (.c (.int .i64 7)),none⟩,
 Zo 90 (.pick (.t 86) (.c (.bool true)) (.t 89))])
 (.keep [1,90] (.cond (.t 90)
 (.seq (.ops [Zo 2 (.mv (.c (.str ⟨#[]⟩)))])
 (.ret))
 (.skip))))
 (.keep [1] (.seq (.ops [Zo 91 (.bsl 9 1 6 [(.str ⟨#[]⟩),(.str ⟨#[]⟩),(.str ⟨#[]⟩),(.str ⟨#[]⟩),(.str ⟨#[]⟩),(.str ⟨#[]⟩)] [(0,1,(.c (.str ⟨#[97,110,100]⟩))),(1,1,(.c (.str ⟨#[102,111,114]⟩))),(2,1,(.c (.str ⟨#[124]⟩))),(3,1,(.c (.str ⟨#[97,115]⟩))),(4,1,(.c (.str ⟨#[40]⟩))),(5,1,(.c (.str ⟨#[41]⟩)))]),
 Zo 92 (.fld 0 (.t 1)),
 Zo 93 (.load none (.t 92)),
 Zo 94 (.bin .sub (.t 93) (.c (.int .i64 2))),
 Zo 95 (.idxa 1 (.t 91) (.t 94)),
 Zo 96 (.load none (.t 95)),
 Zm 2 96])
 (.ret)))))))))⟩
theorem J_ref04_Word_ok : chkFn Tryz.prog 41 J_ref04_Word = true := by kernel_rfl
def J_token_All_j1 : ACode :=
 .keep [5] (.seq (.ops [Zm 62 5,
 Zm 2 62,
 Zo 3 (.mv (.c (.int .i64 0))),
 Zo 4 (.mv (.c (.int .i64 0)))])
 (.ret))
def J_token_All_j2 : ACode :=
 .seq (.ops [Zo 16 (.nxt 15),
 Zo 17 (.ext 0 (.t 16))])
 (.keep [0,5,6,15,16,17] (.seq (.cond (.t 17)
 (.skip)
 (.exit 0))
 (.keep [0,5,6,15,16] (.block 1 (.seq (.ops [Zo 18 (.ext 1 (.t 16)),
 Zo 19 (.ext 2 (.t 16)),
 Zm 7 18,
 Zm 8 19])
 (.keep [0,5,6,7,8,15] (.seq (.seq (.ops [Zm 20 7,
 Zm 21 6,
 Zo 22 (.bin .lss (.t 20) (.t 21)),
 Zm 23 22,
 ⟨some 24,(some (23,false)),.mv (.t 8),none⟩,
 ⟨some 25,(some (23,false)),.bin .eql (.t 24) (.c (.int .i32 32)),none⟩,
 Zo 26 (.pick (.t 23) (.c (.bool true)) (.t 25)),
 Zm 27 26,
 ⟨some 28,(some (27,false)),.mv (.t 8),none⟩,
 ⟨some 29,(some (27,false)),.bin .eql (.t 28) (.c (.int .i32 9)),none⟩,
 Zo 30 (.pick (.t 27) (.c (.bool true)) (.t 29)),
 Zm 31 30,
 ⟨some 32,(some (31,false)),.mv (.t 8),none⟩,
 ⟨some 33,(some (31,false)),.bin .eql (.t 32) (.c (.int .i32 10)),none⟩,
 Zo 34 (.pick (.t 31) (.c (.bool true)) (.t 33))])
 (.keep [0,5,6,7,8,15,34] (.cond (.t 34)
 (.exit 1)
 (.skip))))
 (.keep [0,5,7,8,15] (.seq (.seq (.ops [Zm 35 8,
 Zo 36 (.bin .eql (.t 35) (.c (.int .i32 35)))])
 (.keep [0,5,7,8,15,36] (.cond (.t 36)
 (.seq (.ops [Zm 37 0,
 Zm 38 7,
 Zo 39 (.call (.f 96) [(.t 37),(.t 38),(.f 97)]),
 Zm 6 39])
 (.exit 1))
 (.skip))))
 (.keep [0,5,7,8,15] (.seq (.ops [Zm 41 0,
 Zm 42 7,
 Zm 43 8,
 Zo 44 (.call (.f 98) [(.t 41),(.t 42),(.t 43)]),
 Zm 40 44,
 Zo 45 (.ext 0 (.t 40)),
 Zo 46 (.ext 1 (.t 40)),
 Zo 9 (.new [(.int .i64 0),(.str ⟨#[]⟩),(.int .i64 0),(.int .i64 0)] []),
 ⟨none,none,.store 4 (.t 9) (.t 45),none⟩,
 Zm 10 46])
 (.keep [0,5,7,9,10,15] (.seq (.seq (.ops [Zo 47 (.fld 0 (.t 9)),
 Zo 48 (.load none (.t 47)),
 Zo 49 (.bin .eql (.t 48) (.c (.int .i64 0)))])
 (.keep [0,5,7,9,10,15,49] (.cond (.t 49)
 (.seq (.ops [Zm 50 7,
 Zo 2 (.mv (.c (.lst .clip 0 []))),
 Zm 3 50,
 Zo 4 (.mv (.c (.int .i64 2)))])
 (.ret))
 (.skip))))
 (.keep [0,5,7,9,10,15] (.seq (.seq (.ops [Zm 51 5,
 Zo 52 (.lenl (.t 51)),
 Zo 53 (.bin .geq (.t 52) (.c (.int .i64 1000)))])
 (.keep [0,5,7,9,10,15,53] (.cond (.t 53)
 (.seq (.ops [Zm 54 7,
 Zo 2 (.mv (.c (.lst .clip 0 []))),
 Zm 3 54,
 Zo 4 (.mv (.c (.int .i64 3)))])
 (.ret))
 (.skip))))
 (.keep [0,5,7,9,10,15] (.seq (.ops [Zm 55 7,
 Zo 56 (.fld 3 (.t 9)),
 ⟨none,none,.store 1 (.t 56) (.t 55),none⟩])
 (.keep [0,5,9,10,15] (.seq (.ops [Zo 57 (.mvo 5),
 Zo 58 (.load (some 4) (.t 9)),
 Zo 59 (.bsl 85 4 1 [(.int .i64 0),(.str ⟨#[]⟩),(.int .i64 0),(.int .i64 0)] [(0,4,(.t 58))]),
 Zo 60 (.appo 85 4 40 57 (.t 59)),
 Zo 5 (.mvo 60)])
 (.keep [0,5,10,15] (.ops [Zm 61 10,
 Zm 6 61])))))))))))))))))))))
def J_token_All : AFn :=
 ⟨63,[.t 2,.t 3,.t 4],.seq (.ops [Zo 2 (.mv (.c (.lst .clip 0 []))),
 Zo 3 (.mv (.c (.int .i64 0))),
 Zo 4 (.mv (.c (.int .i64 0)))])
 (.keep [0] (.seq (.seq (.ops [Zm 11 0,
 Zo 12 (.lens (.t 11)),
 Zo 13 (.bin .gtr (.t 12) (.c (.int .i64 4000)))])
 (.keep [0,13] (.cond (.t 13)
 (.seq (.ops [Zo 2 (.mv (.c (.lst .clip 0 []))),
 Zo 3 (.mv (.c (.int .i64 0))),
 Zo 4 (.mv (.c (.int .i64 3)))])
 (.ret))
 (.skip))))
 (.keep [0] (.seq (.ops [Zo 5 (.mvu 85 4 (.c (.lst .clip 0 [])))])
 (.keep [0,5] (.seq (.ops [Zo 6 (.mv (.c (.int .i64 0)))])
 (.keep [0,5,6] (.seq (.seq (.ops [Zm 14 0,
 Zo 15 (.rngs (.t 14))])
 (.keep [0,5,6,15] (.block 0 (.loop [0,5,6,15] (J_token_All_j2)))))
 (J_token_All_j1)))))))))⟩
theorem J_token_All_ok : chkFn Tryz.prog 61 J_token_All = true := by kernel_rfl
def J_token_Word : AFn :=
 ⟨53,[.t 2],.seq (.ops [Zo 1 (.box (.t 0) []),
 Zo 2 (.mv (.c (.str ⟨#[]⟩)))])
 (.keep [1] (.seq (.seq (.ops [Zo 3 (.fld 0 (.t 1)),
 Zo 4 (.load none (.t 3)),
 Zo 5 (.bin .eql (.t 4) (.c (.int .i64 1)))])
 (.keep [1,5] (.cond (.t 5)
 (.seq (.ops [Zo 6 (.fld 2 (.t 1)),
 Zo 7 (.load none (.t 6)),
 Zo 8 (.fld 1 (.t 1)),
 Zo 9 (.load none (.t 8)),
 Zo 10 (.call (.f 106) [(.t 7),(.t 9)]),
 Zm 2 10])
 (.ret))
 (.skip))))
 (.keep [1] (.seq (.seq (.ops [Zo 11 (.fld 2 (.t 1)),
 Zo 12 (.load none (.t 11)),
 Zo 13 (.bin .neq (.t 12) (.c (.int .i64 0)))])
 (.keep [1,13] (.cond (.t 13)
 (.seq (.ops [Zo 2 (.mv (.c (.str ⟨#[]⟩)))])
 (.ret))
 (.skip))))
 (.keep [1] (.seq (.seq (.ops [Zo 14 (.fld 0 (.t 1)),
 Zo 15 (.load none (.t 14))])
 (.keep [1,15] (.block 0 (.seq (.ops [Zo 17 (.bin .eql (.t 15) (.c (.int .i64 8))),
 Zm 16 17])
 (.keep [1,15,16] (.cond (.t 16)
 (.seq (.seq (.ops [Zo 18 (.fld 1 (.t 1)),
 Zo 19 (.load none (.t 18)),
 Zo 20 (.call (.f 107) [(.t 19)])])
 (.keep [1,20] (.cond (.t 20)
 (.seq (.ops [Zo 21 (.fld 1 (.t 1)),
 Zo 22 (.load none (.t 21)),
 Zm 2 22])
 (.ret))
 (.skip))))
 (.keep [] (.seq (.ops [Zo 2 (.mv (.c (.str ⟨#[]⟩)))])
 (.ret))))
 (.seq (.ops [Zo 24 (.bin .eql (.t 15) (.c (.int .i64 9))),
 Zm 23 24])
 (.keep [1,23] (.cond (.t 23)
 (.seq (.seq (.ops [Zo 25 (.fld 1 (.t 1)),
 Zo 26 (.load none (.t 25)),
 Zo 27 (.lens (.t 26)),
 Zo 28 (.bin .eql (.t 27) (.c (.int .i64 1))),
 Zm 29 28,
 ⟨some 30,(some (29,true)),.fld 1 (.t 1),none⟩,
 ⟨some 31,(some (29,true)),.load none (.t 30),none⟩,
 ⟨some 32,(some (29,true)),.call (.f 108) [(.c (.str ⟨#[61,44,59,60,62,33,63,42]⟩)),(.t 31)],none⟩,
 Zo 33 (.pick (.t 29) (.t 32) (.c (.bool false)))])
 (.keep [1,33] (.cond (.t 33)
 (.seq (.ops [Zo 34 (.fld 1 (.t 1)),
 Zo 35 (.load none (.t 34)),
 Zm 2 35])
 (.ret))
 (.skip))))
 (.keep [] (.seq (.ops [Zo 2 (.mv (.c (.str ⟨#[]⟩)))])
 (.ret))))
 (.skip))))))))))
 (.keep [1] (.seq (.seq (.ops [Zo 36 (.fld 1 (.t 1)),
 Zo 37 (.load none (.t 36)),
 Zo 38 (.bin .neq (.t 37) (.c (.str ⟨#[]⟩)))])
 (.keep [1,38] (.cond (.t 38)
 (.seq (.ops [Zo 2 (.mv (.c (.str ⟨#[]⟩)))])
 (.ret))
 (.skip))))
 (.keep [1] (.seq (.seq (.ops [Zo 39 (.fld 0 (.t 1)),
 Zo 40 (.load none (.t 39))])
 (.keep [40] (.block 1 (.seq (.ops [Zo 42 (.bin .eql (.t 40) (.c (.int .i64 2))),
 Zm 41 42])
 (.keep [40,41] (.cond (.t 41)
 (.seq (.ops [Zo 2 (.mv (.c (.str ⟨#[97,110,100]⟩)))])
 (.ret))
 (.seq (.ops [Zo 44 (.bin .eql (.t 40) (.c (.int .i64 3))),
 Zm 43 44])
 (.keep [40,43] (.cond (.t 43)
 (.seq (.ops [Zo 2 (.mv (.c (.str ⟨#[102,111,114]⟩)))])
 (.ret))
 (.seq (.ops [Zo 46 (.bin .eql (.t 40) (.c (.int .i64 5))),
 Zm 45 46])
 (.keep [40,45] (.cond (.t 45)
 (.seq (.ops [Zo 2 (.mv (.c (.str ⟨#[97,115]⟩)))])
 (.ret))
 (.seq (.ops [Zo 48 (.bin .eql (.t 40) (.c (.int .i64 4))),
 Zm 47 48])
 (.keep [40,47] (.cond (.t 47)
 (.seq (.ops [Zo 2 (.mv (.c (.str ⟨#[124]⟩)))])
 (.ret))
 (.seq (.ops [Zo 50 (.bin .eql (.t 40) (.c (.int .i64 6))),
 Zm 49 50])
 (.keep [40,49] (.cond (.t 49)
 (.seq (.ops [Zo 2 (.mv (.c (.str ⟨#[40]⟩)))])
 (.ret))
 (.seq (.ops [Zo 52 (.bin .eql (.t 40) (.c (.int .i64 7))),
 Zm 51 52])
 (.keep [51] (.cond (.t 51)
 (.seq (.ops [Zo 2 (.mv (.c (.str ⟨#[41]⟩)))])
 (.ret))
 (.skip))))))))))))))))))))))
 (.keep [] (.seq (.ops [Zo 2 (.mv (.c (.str ⟨#[]⟩)))])
 (.ret)))))))))))))⟩
theorem J_token_Word_ok : chkFn Tryz.prog 69 J_token_Word = true := by kernel_rfl
def J_ref01_May_j1 : ACode :=
 .keep [] (.seq (.ops [Zo 2 (.mv (.c (.bool true)))])
 (.ret))
def J_ref01_May_j2 : ACode :=
 .seq (.seq (.ops [Zm 14 3,
 Zm 15 0,
 Zo 16 (.lens (.t 15)),
 Zo 17 (.bin .lss (.t 14) (.t 16))])
 (.keep [0,3,17] (.cond (.t 17)
 (.skip)
 (.exit 0))))
 (.keep [0,3] (.seq (.block 1 (.seq (.ops [Zm 20 0,
 Zm 21 3,
 Zo 22 (.idxs (.t 20) (.t 21)),
 Zm 4 22])
 (.keep [0,3,4] (.seq (.ops [Zm 23 4,
 Zo 24 (.bin .geq (.t 23) (.c (.int .u8 97))),
 Zm 25 24,
 ⟨some 26,(some (25,true)),.mv (.t 4),none⟩,
 ⟨some 27,(some (25,true)),.bin .leq (.t 26) (.c (.int .u8 122)),none⟩,
 Zo 28 (.pick (.t 25) (.t 27) (.c (.bool false))),
 Zm 5 28])
 (.keep [0,3,4,5] (.seq (.ops [Zm 29 5,
 Zo 30 (.not (.t 29)),
 Zm 31 30,
 ⟨some 32,(some (31,true)),.mv (.t 3),none⟩,
 ⟨some 33,(some (31,true)),.bin .eql (.t 32) (.c (.int .i64 0)),none⟩,
 ⟨some 34,(some (31,true)),.mv (.t 33),none⟩,
 ⟨some 35,(some (34,false)),.mv (.t 4),none⟩,
 ⟨some 36,(some (34,false)),.bin .geq (.t 35) (.c (.int .u8 48)),none⟩,
 ⟨some 37,(some (34,false)),.mv (.t 36),none⟩,
 ⟨some 38,(some (37,true)),.mv (.t 4),none⟩,
 ⟨some 39,(some (37,true)),.bin .leq (.t 38) (.c (.int .u8 57)),none⟩,
 ⟨some 40,(some (34,false)),.pick (.t 37) (.t 39) (.c (.bool false)),none⟩,
 ⟨some 41,(some (34,false)),.not (.t 40),none⟩,
 ⟨some 42,(some (34,false)),.mv (.t 41),none⟩,
 ⟨some 43,(some (42,true)),.mv (.t 4),none⟩,
 ⟨some 44,(some (42,true)),.bin .neq (.t 43) (.c (.int .u8 45)),none⟩,
 ⟨some 45,(some (34,false)),.pick (.t 42) (.t 44) (.c (.bool false)),none⟩,
 ⟨some 46,(some (34,false)),.mv (.t 45),none⟩,
 ⟨some 47,(some (46,true)),.mv (.t 4),none⟩,
 ⟨some 48,(some (46,true)),.bin .neq (.t 47) (.c (.int .u8 46)),none⟩,
 ⟨some 49,(some (34,false)),.pick (.t 46) (.t 48) (.c (.bool false)),none⟩,
 ⟨some 50,(some (31,true)),.pick (.t 34) (.c (.bool true)) (.t 49),none⟩,
 Zo 51 (.pick (.t 31) (.t 50) (.c (.bool false)))])
 (.keep [0,3,51] (.cond (.t 51)
 (.seq (.ops [Zo 2 (.mv (.c (.bool false)))])
 (.ret))
 (.skip)))))))))
 (.keep [0,3] (.ops [Zm 18 3,
 Zo 19 (.bin .add (.t 18) (.c (.int .i64 1))),
 Zm 3 19]))))
def J_ref01_May : AFn :=
 ⟨52,[.t 2],.seq (.ops [Zo 2 (.mv (.c (.bool false)))])
 (.keep [0] (.seq (.seq (.ops [Zm 6 0,
 Zo 7 (.lens (.t 6)),
 Zo 8 (.bin .lss (.t 7) (.c (.int .i64 1))),
 Zm 9 8,
 ⟨some 10,(some (9,false)),.mv (.t 0),none⟩,
 ⟨some 11,(some (9,false)),.lens (.t 10),none⟩,
 ⟨some 12,(some (9,false)),.bin .gtr (.t 11) (.c (.int .i64 24)),none⟩,
 Zo 13 (.pick (.t 9) (.c (.bool true)) (.t 12))])
 (.keep [0,13] (.cond (.t 13)
 (.seq (.ops [Zo 2 (.mv (.c (.bool false)))])
 (.ret))
 (.skip))))
 (.keep [0] (.seq (.seq (.ops [Zo 3 (.mv (.c (.int .i64 0)))])
 (.keep [0,3] (.block 0 (.loop [0,3] (J_ref01_May_j2)))))
 (J_ref01_May_j1)))))⟩
theorem J_ref01_May_ok : chkFn Tryz.prog 77 J_ref01_May = true := by kernel_rfl
def J_ref04_Keyword : AFn :=
 ⟨10,[.t 2],.seq (.ops [Zo 2 (.mv (.c (.int .i64 0)))])
 (.keep [0] (.seq (.seq (.ops [Zm 3 0])
 (.keep [3] (.block 0 (.seq (.ops [Zo 5 (.bin .eql (.t 3) (.c (.str ⟨#[97,110,100]⟩))),
 Zm 4 5])
 (.keep [3,4] (.cond (.t 4)
 (.seq (.ops [Zo 2 (.mv (.c (.int .i64 2)))])
 (.ret))
 (.seq (.ops [Zo 7 (.bin .eql (.t 3) (.c (.str ⟨#[102,111,114]⟩))),
 Zm 6 7])
 (.keep [3,6] (.cond (.t 6)
 (.seq (.ops [Zo 2 (.mv (.c (.int .i64 3)))])
 (.ret))
 (.seq (.ops [Zo 9 (.bin .eql (.t 3) (.c (.str ⟨#[97,115]⟩))),
 Zm 8 9])
 (.keep [8] (.cond (.t 8)
 (.seq (.ops [Zo 2 (.mv (.c (.int .i64 5)))])
 (.ret))
 (.skip)))))))))))))
 (.keep [] (.seq (.ops [Zo 2 (.mv (.c (.int .i64 0)))])
 (.ret)))))⟩
theorem J_ref04_Keyword_ok : chkFn Tryz.prog 78 J_ref04_Keyword = true := by kernel_rfl
def J_ref04_Prefix : AFn :=
 ⟨12,[.t 2],.seq (.ops [Zo 2 (.mv (.c (.str ⟨#[]⟩)))])
 (.keep [0] (.seq (.seq (.ops [Zm 3 0])
 (.keep [3] (.block 0 (.seq (.ops [Zo 5 (.bin .eql (.t 3) (.c (.int .i64 1))),
 Zm 4 5])
 (.keep [3,4] (.cond (.t 4)
 (.seq (.ops [Zo 2 (.mv (.c (.str ⟨#[107,101,121,58]⟩)))])
 (.ret))
 (.seq (.ops [Zo 7 (.bin .eql (.t 3) (.c (.int .i64 2))),
 Zm 6 7])
 (.keep [3,6] (.cond (.t 6)
 (.seq (.ops [Zo 2 (.mv (.c (.str ⟨#[99,104,97,110,58]⟩)))])
 (.ret))
 (.seq (.ops [Zo 9 (.bin .eql (.t 3) (.c (.int .i64 4))),
 Zm 8 9])
 (.keep [3,8] (.cond (.t 8)
 (.seq (.ops [Zo 2 (.mv (.c (.str ⟨#[103,114,111,117,112,58]⟩)))])
 (.ret))
 (.seq (.ops [Zo 11 (.bin .eql (.t 3) (.c (.int .i64 5))),
 Zm 10 11])
 (.keep [10] (.cond (.t 10)
 (.seq (.ops [Zo 2 (.mv (.c (.str ⟨#[114,111,108,101,58]⟩)))])
 (.ret))
 (.skip))))))))))))))))
 (.keep [] (.seq (.ops [Zo 2 (.mv (.c (.str ⟨#[]⟩)))])
 (.ret)))))⟩
theorem J_ref04_Prefix_ok : chkFn Tryz.prog 79 J_ref04_Prefix = true := by kernel_rfl
def J_ref04_number_j1 : ACode :=
 .keep [0] (.seq (.ops [Zm 16 0,
 Zo 17 (.lens (.t 16)),
 Zo 18 (.bin .geq (.t 17) (.c (.int .i64 1))),
 Zm 19 18,
 ⟨some 20,(some (19,true)),.mv (.t 0),none⟩,
 ⟨some 21,(some (19,true)),.lens (.t 20),none⟩,
 ⟨some 22,(some (19,true)),.bin .leq (.t 21) (.c (.int .i64 9)),none⟩,
 Zo 23 (.pick (.t 19) (.t 22) (.c (.bool false))),
 Zm 24 23,
 ⟨some 25,(some (24,true)),.mv (.t 0),none⟩,
 ⟨some 26,(some (24,true)),.idxs (.t 25) (.c (.int .i64 0)),none⟩,
 ⟨some 27,(some (24,true)),.bin .neq (.t 26) (.c (.int .u8 48)),none⟩,
 ⟨some 28,(some (24,true)),.mv (.t 27),none⟩,
 ⟨some 29,(some (28,false)),.mv (.t 0),none⟩,
 ⟨some 30,(some (28,false)),.lens (.t 29),none⟩,
 ⟨some 31,(some (28,false)),.bin .eql (.t 30) (.c (.int .i64 1)),none⟩,
 ⟨some 32,(some (24,true)),.pick (.t 28) (.c (.bool true)) (.t 31),none⟩,
 Zo 33 (.pick (.t 24) (.t 32) (.c (.bool false))),
 Zm 2 33])
 (.ret))
def J_ref04_number_j2 : ACode :=
 .seq (.seq (.ops [Zm 4 3,
 Zm 5 0,
 Zo 6 (.lens (.t 5)),
 Zo 7 (.bin .lss (.t 4) (.t 6))])
 (.keep [0,3,7] (.cond (.t 7)
 (.skip)
 (.exit 0))))
 (.keep [0,3] (.seq (.block 1 (.seq (.ops [Zm 10 0,
 Zm 11 3,
 Zo 12 (.idxs (.t 10) (.t 11)),
 Zo 13 (.conv .i32 (.t 12)),
 Zo 14 (.call (.f 111) [(.t 13)]),
 Zo 15 (.not (.t 14))])
 (.keep [0,3,15] (.cond (.t 15)
 (.seq (.ops [Zo 2 (.mv (.c (.bool false)))])
 (.ret))
 (.skip)))))
 (.keep [0,3] (.ops [Zm 8 3,
 Zo 9 (.bin .add (.t 8) (.c (.int .i64 1))),
 Zm 3 9]))))
def J_ref04_number : AFn :=
 ⟨34,[.t 2],.seq (.ops [Zo 2 (.mv (.c (.bool false)))])
 (.keep [0] (.seq (.seq (.ops [Zo 3 (.mv (.c (.int .i64 0)))])
 (.keep [0,3] (.block 0 (.loop [0,3] (J_ref04_number_j2)))))
 (J_ref04_number_j1)))⟩
theorem J_ref04_number_ok : chkFn Tryz.prog 80 J_ref04_number = true := by kernel_rfl
def J_ref04_isSign : AFn :=
 ⟨33,[.t 2],.seq (.ops [Zo 2 (.mv (.c (.bool false)))])
 (.keep [0] (.seq (.ops [Zm 3 0,
 Zo 4 (.bin .eql (.t 3) (.c (.str ⟨#[61]⟩))),
 Zm 5 4,
 ⟨some 6,(some (5,false)),.mv (.t 0),none⟩,
 ⟨some 7,(some (5,false)),.bin .eql (.t 6) (.c (.str ⟨#[44]⟩)),none⟩,
 Zo 8 (.pick (.t 5) (.c (.bool true)) (.t 7)),
 Zm 9 8,
 ⟨some 10,(some (9,false)),.mv (.t 0),none⟩,
 ⟨some 11,(some (9,false)),.bin .eql (.t 10) (.c (.str ⟨#[59]⟩)),none⟩,
 Zo 12 (.pick (.t 9) (.c (.bool true)) (.t 11)),
 Zm 13 12,
 ⟨some 14,(some (13,false)),.mv (.t 0),none⟩,
 ⟨some 15,(some (13,false)),.bin .eql (.t 14) (.c (.str ⟨#[60]⟩)),none⟩,
 Zo 16 (.pick (.t 13) (.c (.bool true)) (.t 15)),
 Zm 17 16,
 ⟨some 18,(some (17,false)),.mv (.t 0),none⟩,
 ⟨some 19,(some (17,false)),.bin .eql (.t 18) (.c (.str ⟨#[62]⟩)),none⟩,
 Zo 20 (.pick (.t 17) (.c (.bool true)) (.t 19)),
 Zm 21 20,
 ⟨some 22,(some (21,false)),.mv (.t 0),none⟩,
 ⟨some 23,(some (21,false)),.bin .eql (.t 22) (.c (.str ⟨#[33]⟩)),none⟩,
 Zo 24 (.pick (.t 21) (.c (.bool true)) (.t 23)),
 Zm 25 24,
 ⟨some 26,(some (25,false)),.mv (.t 0),none⟩,
 ⟨some 27,(some (25,false)),.bin .eql (.t 26) (.c (.str ⟨#[63]⟩)),none⟩,
 Zo 28 (.pick (.t 25) (.c (.bool true)) (.t 27)),
 Zm 29 28,
 ⟨some 30,(some (29,false)),.mv (.t 0),none⟩,
 ⟨some 31,(some (29,false)),.bin .eql (.t 30) (.c (.str ⟨#[42]⟩)),none⟩,
 Zo 32 (.pick (.t 29) (.c (.bool true)) (.t 31)),
 Zm 2 32])
 (.ret)))⟩
theorem J_ref04_isSign_ok : chkFn Tryz.prog 81 J_ref04_isSign = true := by kernel_rfl
def J_atom_May_j1 : ACode :=
 .keep [] (.seq (.ops [Zo 2 (.mv (.c (.bool true)))])
 (.ret))
def J_atom_May_j2 : ACode :=
 .keep [0,3] (.ops [Zm 17 3,
 Zo 18 (.bin .add (.t 17) (.c (.int .i64 1))),
 Zm 3 18])
def J_atom_May_j3 : ACode :=
 .seq (.seq (.ops [Zm 13 3,
 Zm 14 0,
 Zo 15 (.lens (.t 14)),
 Zo 16 (.bin .lss (.t 13) (.t 15))])
 (.keep [0,3,16] (.cond (.t 16)
 (.skip)
 (.exit 0))))
 (.keep [0,3] (.seq (.block 1 (.seq (.ops [Zm 19 0,
 Zm 20 3,
 Zo 21 (.idxs (.t 19) (.t 20)),
 Zm 4 21])
 (.keep [0,3,4] (.seq (.seq (.ops [Zm 22 4,
 Zo 23 (.bin .geq (.t 22) (.c (.int .u8 97))),
 Zm 24 23,
 ⟨some 25,(some (24,true)),.mv (.t 4),none⟩,
 ⟨some 26,(some (24,true)),.bin .leq (.t 25) (.c (.int .u8 122)),none⟩,
 Zo 27 (.pick (.t 24) (.t 26) (.c (.bool false)))])
 (.keep [0,3,4,27] (.cond (.t 27)
 (.exit 1)
 (.skip))))
 (.keep [0,3,4] (.seq (.seq (.ops [Zm 28 3,
 Zo 29 (.bin .eql (.t 28) (.c (.int .i64 0)))])
 (.keep [0,3,4,29] (.cond (.t 29)
 (.seq (.ops [Zo 2 (.mv (.c (.bool false)))])
 (.ret))
 (.skip))))
 (.keep [0,3,4] (.seq (.ops [Zm 30 4,
 Zo 31 (.bin .lss (.t 30) (.c (.int .u8 48))),
 Zm 32 31,
 ⟨some 33,(some (32,false)),.mv (.t 4),none⟩,
 ⟨some 34,(some (32,false)),.bin .gtr (.t 33) (.c (.int .u8 57)),none⟩,
 Zo 35 (.pick (.t 32) (.c (.bool true)) (.t 34)),
 Zm 36 35,
 ⟨some 37,(some (36,true)),.mv (.t 4),none⟩,
 ⟨some 38,(some (36,true)),.bin .neq (.t 37) (.c (.int .u8 45)),none⟩,
 Zo 39 (.pick (.t 36) (.t 38) (.c (.bool false))),
 Zm 40 39,
 ⟨some 41,(some (40,true)),.mv (.t 4),none⟩,
 ⟨some 42,(some (40,true)),.bin .neq (.t 41) (.c (.int .u8 46)),none⟩,
 Zo 43 (.pick (.t 40) (.t 42) (.c (.bool false)))])
 (.keep [0,3,43] (.cond (.t 43)
 (.seq (.ops [Zo 2 (.mv (.c (.bool false)))])
 (.ret))
 (.skip)))))))))))
 (J_atom_May_j2)))
def J_atom_May : AFn :=
 ⟨44,[.t 2],.seq (.ops [Zo 2 (.mv (.c (.bool false)))])
 (.keep [0] (.seq (.seq (.ops [Zm 5 0,
 Zo 6 (.lens (.t 5)),
 Zo 7 (.bin .lss (.t 6) (.c (.int .i64 1))),
 Zm 8 7,
 ⟨some 9,(some (8,false)),.mv (.t 0),none⟩,
 ⟨some 10,(some (8,false)),.lens (.t 9),none⟩,
 ⟨some 11,(some (8,false)),.bin .gtr (.t 10) (.c (.int .i64 24)),none⟩,
 Zo 12 (.pick (.t 8) (.c (.bool true)) (.t 11))])
 (.keep [0,12] (.cond (.t 12)
 (.seq (.ops [Zo 2 (.mv (.c (.bool false)))])
 (.ret))
 (.skip))))
 (.keep [0] (.seq (.seq (.ops [Zo 3 (.mv (.c (.int .i64 0)))])
 (.keep [0,3] (.block 0 (.loop [0,3] (J_atom_May_j3)))))
 (J_atom_May_j1)))))⟩
theorem J_atom_May_ok : chkFn Tryz.prog 84 J_atom_May = true := by kernel_rfl
def J_token_stop_j1 : ACode :=
 .keep [0] (.seq (.ops [Zm 24 0,
 Zo 25 (.lens (.t 24)),
 Zm 6 25])
 (.ret))
def J_token_stop_j2 : ACode :=
 .seq (.ops [Zo 13 (.nxt 12),
 Zo 14 (.ext 0 (.t 13))])
 (.keep [0,1,2,12,13,14] (.seq (.cond (.t 14)
 (.skip)
 (.exit 0))
 (.keep [0,1,2,12,13] (.block 1 (.seq (.ops [Zo 15 (.ext 1 (.t 13)),
 Zo 16 (.ext 2 (.t 13)),
 Zm 7 15,
 Zm 8 16])
 (.keep [0,1,2,7,8,12] (.seq (.ops [Zm 17 2,
 Zm 18 8,
 Zo 19 (.call (.t 17) [(.t 18)]),
 Zo 20 (.not (.t 19))])
 (.keep [0,1,2,7,12,20] (.cond (.t 20)
 (.seq (.ops [Zm 21 1,
 Zm 22 7,
 Zo 23 (.bin .add (.t 21) (.t 22)),
 Zm 6 23])
 (.ret))
 (.skip))))))))))
def J_token_stop : AFn :=
 ⟨26,[.t 6],.seq (.ops [Zo 6 (.mv (.c (.int .i64 0)))])
 (.keep [0,1,2] (.seq (.seq (.ops [Zm 9 0,
 Zm 10 1,
 Zo 11 (.slcs (.t 9) (some (.t 10)) none),
 Zo 12 (.rngs (.t 11))])
 (.keep [0,1,2,12] (.block 0 (.loop [0,1,2,12] (J_token_stop_j2)))))
 (J_token_stop_j1)))⟩
theorem J_token_stop_ok : chkFn Tryz.prog 96 J_token_stop = true := by kernel_rfl
def J_token_All_1 : AFn :=
 ⟨5,[.t 2],.seq (.ops [Zo 2 (.mv (.c (.bool false)))])
 (.keep [0] (.seq (.ops [Zm 3 0,
 Zo 4 (.bin .neq (.t 3) (.c (.int .i32 10))),
 Zm 2 4])
 (.ret)))⟩
theorem J_token_All_1_ok : chkFn Tryz.prog 97 J_token_All_1 = true := by kernel_rfl
def J_token_sign_j1 : ACode :=
 .keep [0,6,8,9] (.seq (.seq (.ops [Zo 58 (.load (some 4) (.t 9)),
 Zo 59 (.call (.f 69) [(.t 58)]),
 Zo 60 (.bin .eql (.t 59) (.c (.str ⟨#[]⟩))),
 Zm 61 60,
 ⟨some 62,(some (61,false)),.mv (.t 0),none⟩,
 ⟨some 63,(some (61,false)),.mv (.t 8),none⟩,
 ⟨some 64,(some (61,false)),.call (.f 96) [(.t 62),(.t 63),(.f 120)],none⟩,
 ⟨some 65,(some (61,false)),.mv (.t 8),none⟩,
 ⟨some 66,(some (61,false)),.bin .eql (.t 64) (.t 65),none⟩,
 ⟨some 67,(some (61,false)),.mv (.t 66),none⟩,
 ⟨some 68,(some (67,true)),.mv (.t 8),none⟩,
 ⟨some 69,(some (67,true)),.mv (.t 0),none⟩,
 ⟨some 70,(some (67,true)),.lens (.t 69),none⟩,
 ⟨some 71,(some (67,true)),.bin .lss (.t 68) (.t 70),none⟩,
 ⟨some 72,(some (61,false)),.pick (.t 67) (.t 71) (.c (.bool false)),none⟩,
 Zo 73 (.pick (.t 61) (.c (.bool true)) (.t 72))])
 (.keep [6,8,9,73] (.cond (.t 73)
 (.seq (.ops [Zo 74 (.build [(.int .i64 0),(.str ⟨#[]⟩),(.int .i64 0),(.int .i64 0)] []),
 ⟨none,none,.store 4 (.t 6) (.t 74),none⟩,
 Zo 7 (.mv (.c (.int .i64 0)))])
 (.ret))
 (.skip))))
 (.keep [6,8,9] (.seq (.ops [Zo 75 (.load (some 4) (.t 9)),
 Zm 76 8,
 ⟨none,none,.store 4 (.t 6) (.t 75),none⟩,
 Zm 7 76])
 (.ret))))
def J_token_sign : AFn :=
 ⟨77,[.c 6 (some 4),.t 7],.seq (.ops [Zo 6 (.new [(.int .i64 0),(.str ⟨#[]⟩),(.int .i64 0),(.int .i64 0)] []),
 Zo 7 (.mv (.c (.int .i64 0)))])
 (.keep [0,1,2,6] (.seq (.ops [Zm 10 1,
 Zo 11 (.bin .add (.t 10) (.c (.int .i64 1))),
 Zm 8 11])
 (.keep [0,1,2,6,8] (.seq (.ops [Zo 9 (.new [(.int .i64 0),(.str ⟨#[]⟩),(.int .i64 0),(.int .i64 0)] [])])
 (.keep [0,1,2,6,8,9] (.seq (.block 0 (.seq (.ops [Zm 13 2,
 Zo 14 (.bin .eql (.t 13) (.c (.int .i32 124))),
 Zm 12 14])
 (.keep [0,1,2,6,8,9,12] (.cond (.t 12)
 (.seq (.ops [Zo 15 (.build [(.int .i64 0),(.str ⟨#[]⟩),(.int .i64 0),(.int .i64 0)] [(0,1,(.c (.int .i64 4)))]),
 Zm 16 8,
 ⟨none,none,.store 4 (.t 6) (.t 15),none⟩,
 Zm 7 16])
 (.ret))
 (.seq (.ops [Zm 18 2,
 Zo 19 (.bin .eql (.t 18) (.c (.int .i32 40))),
 Zm 17 19])
 (.keep [0,1,2,6,8,9,17] (.cond (.t 17)
 (.seq (.ops [Zo 20 (.build [(.int .i64 0),(.str ⟨#[]⟩),(.int .i64 0),(.int .i64 0)] [(0,1,(.c (.int .i64 6)))]),
 Zm 21 8,
 ⟨none,none,.store 4 (.t 6) (.t 20),none⟩,
 Zm 7 21])
 (.ret))
 (.seq (.ops [Zm 23 2,
 Zo 24 (.bin .eql (.t 23) (.c (.int .i32 41))),
 Zm 22 24])
 (.keep [0,1,2,6,8,9,22] (.cond (.t 22)
 (.seq (.ops [Zo 25 (.build [(.int .i64 0),(.str ⟨#[]⟩),(.int .i64 0),(.int .i64 0)] [(0,1,(.c (.int .i64 7)))]),
 Zm 26 8,
 ⟨none,none,.store 4 (.t 6) (.t 25),none⟩,
 Zm 7 26])
 (.ret))
 (.seq (.ops [Zm 28 2,
 Zo 29 (.call (.f 116) [(.c (.str ⟨#[61,44,59,60,62,33,63,42]⟩)),(.t 28)]),
 Zm 27 29])
 (.keep [0,1,2,6,8,9,27] (.cond (.t 27)
 (.seq (.ops [Zm 30 2,
 Zo 31 (.ex .r2s [(.t 30)]),
 Zo 32 (.build [(.int .i64 0),(.str ⟨#[]⟩),(.int .i64 0),(.int .i64 0)] [(0,1,(.c (.int .i64 9))),(1,1,(.t 31))]),
 Zm 33 8,
 ⟨none,none,.store 4 (.t 6) (.t 32),none⟩,
 Zm 7 33])
 (.ret))
 (.seq (.ops [Zm 35 2,
 Zo 36 (.bin .eql (.t 35) (.c (.int .i32 68))),
 Zm 34 36])
 (.keep [0,1,2,6,8,9,34] (.cond (.t 34)
 (.ops [Zo 37 (.build [(.int .i64 0),(.str ⟨#[]⟩),(.int .i64 0),(.int .i64 0)] [(0,1,(.c (.int .i64 1))),(2,1,(.c (.int .i64 0))),(1,1,(.c (.str ⟨#[68]⟩)))]),
 ⟨none,none,.store 4 (.t 9) (.t 37),none⟩])
 (.seq (.ops [Zm 39 2,
 Zo 40 (.call (.f 117) [(.t 39)]),
 Zm 38 40])
 (.keep [0,1,2,6,8,9,38] (.cond (.t 38)
 (.seq (.ops [Zm 41 0,
 Zm 42 1,
 Zo 43 (.call (.f 96) [(.t 41),(.t 42),(.f 117)]),
 Zm 8 43])
 (.keep [0,1,6,8,9] (.ops [Zm 44 0,
 Zm 45 1,
 Zm 46 8,
 Zo 47 (.slcs (.t 44) (some (.t 45)) (some (.t 46))),
 Zo 48 (.build [(.int .i64 0),(.str ⟨#[]⟩),(.int .i64 0),(.int .i64 0)] [(0,1,(.c (.int .i64 8))),(1,1,(.t 47))]),
 ⟨none,none,.store 4 (.t 9) (.t 48),none⟩])))
 (.seq (.ops [Zm 50 2,
 Zo 51 (.call (.f 118) [(.t 50)]),
 Zm 49 51])
 (.keep [0,1,6,8,9,49] (.cond (.t 49)
 (.ops [Zm 53 0,
 Zm 54 1,
 Zo 55 (.call (.f 119) [(.t 53),(.t 54)]),
 Zm 52 55,
 Zo 56 (.ext 0 (.t 52)),
 Zo 57 (.ext 1 (.t 52)),
 ⟨none,none,.store 4 (.t 9) (.t 56),none⟩,
 Zm 8 57])
 (.skip)))))))))))))))))))))))
 (J_token_sign_j1)))))))⟩
theorem J_token_sign_ok : chkFn Tryz.prog 98 J_token_sign = true := by kernel_rfl
def J_token_atomWord_j1 : ACode :=
 .keep [] (.seq (.ops [Zo 4 (.mv (.c (.str ⟨#[]⟩)))])
 (.ret))
def J_token_atomWord : AFn :=
 ⟨36,[.t 4],.seq (.ops [Zo 4 (.mv (.c (.str ⟨#[]⟩)))])
 (.keep [0,1] (.seq (.seq (.ops [Zm 5 0,
 Zo 6 (.bin .eql (.t 5) (.c (.int .i64 0)))])
 (.keep [0,1,6] (.cond (.t 6)
 (.seq (.seq (.ops [Zm 7 1,
 Zo 8 (.bin .eql (.t 7) (.c (.str ⟨#[68]⟩)))])
 (.keep [1,8] (.cond (.t 8)
 (.seq (.ops [Zm 9 1,
 Zm 4 9])
 (.ret))
 (.skip))))
 (.keep [] (.seq (.ops [Zo 4 (.mv (.c (.str ⟨#[]⟩)))])
 (.ret))))
 (.skip))))
 (.keep [0,1] (.seq (.seq (.ops [Zm 10 1,
 Zo 11 (.call (.f 84) [(.t 10)]),
 Zo 12 (.not (.t 11))])
 (.keep [0,1,12] (.cond (.t 12)
 (.seq (.ops [Zo 4 (.mv (.c (.str ⟨#[]⟩)))])
 (.ret))
 (.skip))))
 (.keep [0,1] (.seq (.seq (.ops [Zm 13 0])
 (.keep [1,13] (.block 0 (.seq (.ops [Zo 15 (.bin .eql (.t 13) (.c (.int .i64 1))),
 Zm 14 15])
 (.keep [1,13,14] (.cond (.t 14)
 (.seq (.ops [Zm 16 1,
 Zo 17 (.bin .add (.c (.str ⟨#[107,101,121,58]⟩)) (.t 16)),
 Zm 4 17])
 (.ret))
 (.seq (.ops [Zo 19 (.bin .eql (.t 13) (.c (.int .i64 2))),
 Zm 18 19])
 (.keep [1,13,18] (.cond (.t 18)
 (.seq (.ops [Zm 20 1,
 Zo 21 (.bin .add (.c (.str ⟨#[99,104,97,110,58]⟩)) (.t 20)),
 Zm 4 21])
 (.ret))
 (.seq (.ops [Zo 23 (.bin .eql (.t 13) (.c (.int .i64 4))),
 Zm 22 23])
 (.keep [1,13,22] (.cond (.t 22)
 (.seq (.ops [Zm 24 1,
 Zo 25 (.bin .add (.c (.str ⟨#[103,114,111,117,112,58]⟩)) (.t 24)),
 Zm 4 25])
 (.ret))
 (.seq (.ops [Zo 27 (.bin .eql (.t 13) (.c (.int .i64 5))),
 Zm 26 27])
 (.keep [1,13,26] (.cond (.t 26)
 (.seq (.ops [Zm 28 1,
 Zo 29 (.bin .add (.c (.str ⟨#[114,111,108,101,58]⟩)) (.t 28)),
 Zm 4 29])
 (.ret))
 (.seq (.ops [Zo 31 (.bin .eql (.t 13) (.c (.int .i64 3))),
 Zm 30 31])
 (.keep [1,30] (.cond (.t 30)
 (.seq (.ops [Zm 32 1,
 Zo 33 (.call (.f 128) [(.t 32)]),
 Zo 34 (.bin .eql (.t 33) (.c (.int .i64 0)))])
 (.keep [1,34] (.cond (.t 34)
 (.seq (.ops [Zm 35 1,
 Zm 4 35])
 (.ret))
 (.skip))))
 (.skip)))))))))))))))))))
 (J_token_atomWord_j1)))))))⟩
theorem J_token_atomWord_ok : chkFn Tryz.prog 106 J_token_atomWord = true := by kernel_rfl
def J_token_number : AFn :=
 ⟨26,[.t 2],.seq (.ops [Zo 2 (.mv (.c (.bool false)))])
 (.keep [0] (.seq (.seq (.ops [Zm 3 0,
 Zo 4 (.lens (.t 3)),
 Zo 5 (.bin .lss (.t 4) (.c (.int .i64 1))),
 Zm 6 5,
 ⟨some 7,(some (6,false)),.mv (.t 0),none⟩,
 ⟨some 8,(some (6,false)),.lens (.t 7),none⟩,
 ⟨some 9,(some (6,false)),.bin .gtr (.t 8) (.c (.int .i64 9)),none⟩,
 Zo 10 (.pick (.t 6) (.c (.bool true)) (.t 9)),
 Zm 11 10,
 ⟨some 12,(some (11,false)),.mv (.t 0),none⟩,
 ⟨some 13,(some (11,false)),.lens (.t 12),none⟩,
 ⟨some 14,(some (11,false)),.bin .gtr (.t 13) (.c (.int .i64 1)),none⟩,
 ⟨some 15,(some (11,false)),.mv (.t 14),none⟩,
 ⟨some 16,(some (15,true)),.mv (.t 0),none⟩,
 ⟨some 17,(some (15,true)),.idxs (.t 16) (.c (.int .i64 0)),none⟩,
 ⟨some 18,(some (15,true)),.bin .eql (.t 17) (.c (.int .u8 48)),none⟩,
 ⟨some 19,(some (11,false)),.pick (.t 15) (.t 18) (.c (.bool false)),none⟩,
 Zo 20 (.pick (.t 11) (.c (.bool true)) (.t 19))])
 (.keep [0,20] (.cond (.t 20)
 (.seq (.ops [Zo 2 (.mv (.c (.bool false)))])
 (.ret))
 (.skip))))
 (.keep [0] (.seq (.ops [Zm 21 0,
 Zo 22 (.call (.f 96) [(.t 21),(.c (.int .i64 0)),(.f 117)]),
 Zm 23 0,
 Zo 24 (.lens (.t 23)),
 Zo 25 (.bin .eql (.t 22) (.t 24)),
 Zm 2 25])
 (.ret)))))⟩
theorem J_token_number_ok : chkFn Tryz.prog 107 J_token_number = true := by kernel_rfl
def J_strings_Contains : AFn :=
 ⟨9,[.t 4],.seq (.ops [Zo 4 (.mv (.c (.bool false)))])
 (.keep [0,1] (.seq (.ops [Zm 5 0,
 Zm 6 1,
 Zo 7 (.call (.f 129) [(.t 5),(.t 6)]),
 Zo 8 (.bin .geq (.t 7) (.c (.int .i64 0))),
 Zm 4 8])
 (.ret)))⟩
theorem J_strings_Contains_ok : chkFn Tryz.prog 108 J_strings_Contains = true := by kernel_rfl
def J_ref04_digit : AFn :=
 ⟨9,[.t 2],.seq (.ops [Zo 2 (.mv (.c (.bool false)))])
 (.keep [0] (.seq (.ops [Zm 3 0,
 Zo 4 (.bin .geq (.t 3) (.c (.int .i32 48))),
 Zm 5 4,
 ⟨some 6,(some (5,true)),.mv (.t 0),none⟩,
 ⟨some 7,(some (5,true)),.bin .leq (.t 6) (.c (.int .i32 57)),none⟩,
 Zo 8 (.pick (.t 5) (.t 7) (.c (.bool false))),
 Zm 2 8])
 (.ret)))⟩
theorem J_ref04_digit_ok : chkFn Tryz.prog 111 J_ref04_digit = true := by kernel_rfl
def J_strings_ContainsRune : AFn :=
 ⟨9,[.t 4],.seq (.ops [Zo 4 (.mv (.c (.bool false)))])
 (.keep [0,1] (.seq (.ops [Zm 5 0,
 Zm 6 1,
 Zo 7 (.call (.f 142) [(.t 5),(.t 6)]),
 Zo 8 (.bin .geq (.t 7) (.c (.int .i64 0))),
 Zm 4 8])
 (.ret)))⟩
theorem J_strings_ContainsRune_ok : chkFn Tryz.prog 116 J_strings_ContainsRune = true := by kernel_rfl
def J_token_digit : AFn :=
 ⟨9,[.t 2],.seq (.ops [Zo 2 (.mv (.c (.bool false)))])
 (.keep [0] (.seq (.ops [Zm 3 0,
 Zo 4 (.bin .geq (.t 3) (.c (.int .i32 48))),
 Zm 5 4,
 ⟨some 6,(some (5,true)),.mv (.t 0),none⟩,
 ⟨some 7,(some (5,true)),.bin .leq (.t 6) (.c (.int .i32 57)),none⟩,
 Zo 8 (.pick (.t 5) (.t 7) (.c (.bool false))),
 Zm 2 8])
 (.ret)))⟩
theorem J_token_digit_ok : chkFn Tryz.prog 117 J_token_digit = true := by kernel_rfl
def J_token_letter : AFn :=
 ⟨9,[.t 2],.seq (.ops [Zo 2 (.mv (.c (.bool false)))])
 (.keep [0] (.seq (.ops [Zm 3 0,
 Zo 4 (.bin .geq (.t 3) (.c (.int .i32 97))),
 Zm 5 4,
 ⟨some 6,(some (5,true)),.mv (.t 0),none⟩,
 ⟨some 7,(some (5,true)),.bin .leq (.t 6) (.c (.int .i32 122)),none⟩,
 Zo 8 (.pick (.t 5) (.t 7) (.c (.bool false))),
 Zm 2 8])
 (.ret)))⟩
theorem J_token_letter_ok : chkFn Tryz.prog 118 J_token_letter = true := by kernel_rfl
def J_token_name : AFn :=
 ⟨56,[.c 4 (some 4),.t 5],.seq (.ops [Zo 4 (.new [(.int .i64 0),(.str ⟨#[]⟩),(.int .i64 0),(.int .i64 0)] []),
 Zo 5 (.mv (.c (.int .i64 0)))])
 (.keep [0,1,4] (.seq (.ops [Zm 11 0,
 Zm 12 1,
 Zo 13 (.call (.f 96) [(.t 11),(.t 12),(.f 143)]),
 Zm 6 13])
 (.keep [0,1,4,6] (.seq (.ops [Zm 14 0,
 Zm 15 1,
 Zm 16 6,
 Zo 17 (.slcs (.t 14) (some (.t 15)) (some (.t 16))),
 Zm 7 17])
 (.keep [0,4,6,7] (.seq (.seq (.ops [Zm 18 7,
 Zo 19 (.call (.f 144) [(.t 18)]),
 Zm 8 19])
 (.keep [0,4,6,7,8] (.seq (.ops [Zm 20 8,
 Zo 21 (.bin .neq (.t 20) (.c (.int .i64 0))),
 Zm 22 21,
 ⟨some 23,(some (22,true)),.mv (.t 6),none⟩,
 ⟨some 24,(some (22,true)),.mv (.t 0),none⟩,
 ⟨some 25,(some (22,true)),.lens (.t 24),none⟩,
 ⟨some 26,(some (22,true)),.bin .lss (.t 23) (.t 25),none⟩,
 Zo 27 (.pick (.t 22) (.t 26) (.c (.bool false))),
 Zm 28 27,
 ⟨some 29,(some (28,true)),.mv (.t 0),none⟩,
 ⟨some 30,(some (28,true)),.mv (.t 6),none⟩,
 ⟨some 31,(some (28,true)),.idxs (.t 29) (.t 30),none⟩,
 ⟨some 32,(some (28,true)),.bin .eql (.t 31) (.c (.int .u8 58)),none⟩,
 Zo 33 (.pick (.t 28) (.t 32) (.c (.bool false)))])
 (.keep [0,4,6,7,8,33] (.cond (.t 33)
 (.seq (.ops [Zm 34 6,
 Zo 35 (.bin .add (.t 34) (.c (.int .i64 1))),
 Zm 9 35])
 (.keep [0,4,8,9] (.seq (.ops [Zm 36 0,
 Zm 37 9,
 Zo 38 (.call (.f 96) [(.t 36),(.t 37),(.f 143)]),
 Zm 6 38])
 (.keep [0,4,6,8,9] (.seq (.ops [Zm 39 8,
 Zm 40 0,
 Zm 41 9,
 Zm 42 6,
 Zo 43 (.slcs (.t 40) (some (.t 41)) (some (.t 42))),
 Zo 44 (.build [(.int .i64 0),(.str ⟨#[]⟩),(.int .i64 0),(.int .i64 0)] [(0,1,(.c (.int .i64 1))),(2,1,(.t 39)),(1,1,(.t 43))]),
 Zm 45 6,
 ⟨none,none,.store 4 (.t 4) (.t 44),none⟩,
 Zm 5 45])
 (.ret))))))
 (.skip))))))
 (.keep [4,6,7] (.seq (.seq (.ops [Zm 46 7,
 Zo 47 (.call (.f 128) [(.t 46)]),
 Zm 10 47])
 (.keep [4,6,7,10] (.seq (.ops [Zm 48 10,
 Zo 49 (.bin .neq (.t 48) (.c (.int .i64 0)))])
 (.keep [4,6,7,10,49] (.cond (.t 49)
 (.seq (.ops [Zm 50 10,
 Zo 51 (.build [(.int .i64 0),(.str ⟨#[]⟩),(.int .i64 0),(.int .i64 0)] [(0,1,(.t 50))]),
 Zm 52 6,
 ⟨none,none,.store 4 (.t 4) (.t 51),none⟩,
 Zm 5 52])
 (.ret))
 (.skip))))))
 (.keep [4,6,7] (.seq (.ops [Zm 53 7,
 Zo 54 (.build [(.int .i64 0),(.str ⟨#[]⟩),(.int .i64 0),(.int .i64 0)] [(0,1,(.c (.int .i64 1))),(2,1,(.c (.int .i64 3))),(1,1,(.t 53))]),
 Zm 55 6,
 ⟨none,none,.store 4 (.t 4) (.t 54),none⟩,
 Zm 5 55])
 (.ret)))))))))))⟩
theorem J_token_name_ok : chkFn Tryz.prog 119 J_token_name = true := by kernel_rfl
def J_token_free : AFn :=
 ⟨18,[.t 2],.seq (.ops [Zo 2 (.mv (.c (.bool false)))])
 (.keep [0] (.seq (.ops [Zm 3 0,
 Zo 4 (.call (.f 143) [(.t 3)]),
 Zo 5 (.not (.t 4)),
 Zm 6 5,
 ⟨some 7,(some (6,true)),.mv (.t 0),none⟩,
 ⟨some 8,(some (6,true)),.bin .neq (.t 7) (.c (.int .i32 58)),none⟩,
 Zo 9 (.pick (.t 6) (.t 8) (.c (.bool false))),
 Zm 10 9,
 ⟨some 11,(some (10,true)),.mv (.t 0),none⟩,
 ⟨some 12,(some (10,true)),.bin .lss (.t 11) (.c (.int .i32 65)),none⟩,
 ⟨some 13,(some (10,true)),.mv (.t 12),none⟩,
 ⟨some 14,(some (13,false)),.mv (.t 0),none⟩,
 ⟨some 15,(some (13,false)),.bin .gtr (.t 14) (.c (.int .i32 90)),none⟩,
 ⟨some 16,(some (10,true)),.pick (.t 13) (.c (.bool true)) (.t 15),none⟩,
 Zo 17 (.pick (.t 10) (.t 16) (.c (.bool false))),
 Zm 2 17])
 (.ret)))⟩
theorem J_token_free_ok : chkFn Tryz.prog 120 J_token_free = true := by kernel_rfl
def J_token_keyword : AFn :=
 ⟨10,[.t 2],.seq (.ops [Zo 2 (.mv (.c (.int .i64 0)))])
 (.keep [0] (.seq (.seq (.ops [Zm 3 0])
 (.keep [3] (.block 0 (.seq (.ops [Zo 5 (.bin .eql (.t 3) (.c (.str ⟨#[97,110,100]⟩))),
 Zm 4 5])
 (.keep [3,4] (.cond (.t 4)
 (.seq (.ops [Zo 2 (.mv (.c (.int .i64 2)))])
 (.ret))
 (.seq (.ops [Zo 7 (.bin .eql (.t 3) (.c (.str ⟨#[102,111,114]⟩))),
 Zm 6 7])
 (.keep [3,6] (.cond (.t 6)
 (.seq (.ops [Zo 2 (.mv (.c (.int .i64 3)))])
 (.ret))
 (.seq (.ops [Zo 9 (.bin .eql (.t 3) (.c (.str ⟨#[97,115]⟩))),
 Zm 8 9])
 (.keep [8] (.cond (.t 8)
 (.seq (.ops [Zo 2 (.mv (.c (.int .i64 5)))])
 (.ret))
 (.skip)))))))))))))
 (.keep [] (.seq (.ops [Zo 2 (.mv (.c (.int .i64 0)))])
 (.ret)))))⟩
theorem J_token_keyword_ok : chkFn Tryz.prog 128 J_token_keyword = true := by kernel_rfl
def J_strings_Index : AFn :=
 ⟨8,[.t 4],.seq (.ops [Zo 4 (.mv (.c (.int .i64 0)))])
 (.keep [0,1] (.seq (.ops [Zm 5 0,
 Zm 6 1,
 Zo 7 (.call (.f 146) [(.t 5),(.t 6)]),
 Zm 4 7])
 (.ret)))⟩
theorem J_strings_Index_ok : chkFn Tryz.prog 129 J_strings_Index = true := by kernel_rfl
def J_strings_IndexRune_j1 : ACode :=
 .keep [] (.seq (.ops [Zo 4 (.mv (.c (.int .i64 (-1))))])
 (.ret))
def J_strings_IndexRune_j2 : ACode :=
 .seq (.ops [Zo 176 (.nxt 175),
 Zo 177 (.ext 0 (.t 176))])
 (.keep [175,176,177] (.seq (.cond (.t 177)
 (.skip)
 (.exit 9))
 (.keep [175,176] (.block 10 (.seq (.ops [Zo 178 (.ext 1 (.t 176)),
 Zo 179 (.ext 2 (.t 176)),
 Zm 5 178,
 Zm 6 179])
 (.keep [5,6,175] (.seq (.ops [Zm 180 6,
 Zo 181 (.bin .eql (.t 180) (.c (.int .i32 65533)))])
 (.keep [5,175,181] (.cond (.t 181)
 (.seq (.ops [Zm 182 5,
 Zm 4 182])
 (.ret))
 (.skip))))))))))
def J_strings_IndexRune_j3 : ACode :=
 .keep [] (.seq (.ops [Zo 4 (.mv (.c (.int .i64 (-1))))])
 (.ret))
def J_strings_IndexRune_j4 : ACode :=
 .keep [0,7,8,9,14,15] (.ops [Zm 125 9,
 Zo 126 (.bin .add (.t 125) (.c (.int .i64 1))),
 Zm 9 126])
def J_strings_IndexRune_j5 : ACode :=
 .keep [8,9] (.seq (.ops [Zm 157 9,
 Zm 158 8,
 Zo 159 (.bin .sub (.t 157) (.t 158)),
 Zm 4 159])
 (.ret))
def J_strings_IndexRune_j6 : ACode :=
 .seq (.seq (.ops [Zm 140 16,
 Zm 141 7,
 Zo 142 (.lens (.t 141)),
 Zo 143 (.bin .lss (.t 140) (.t 142))])
 (.keep [0,7,8,9,14,15,16,143] (.cond (.t 143)
 (.skip)
 (.exit 7))))
 (.keep [0,7,8,9,14,15,16] (.seq (.block 8 (.seq (.draw [0,7,8,9,14,15,16,156] [Zm 146 0,
 Zm 147 9,
 Zm 148 16,
 Zo 149 (.bin .sub (.t 147) (.t 148)),
 Zo 150 (.idxs (.t 146) (.t 149)),
 Zm 151 7,
 Zm 152 8,
 Zm 153 16,
 Zo 154 (.bin .sub (.t 152) (.t 153)),
 Zo 155 (.idxs (.t 151) (.t 154)),
 Zo 156 (.bin .neq (.t 150) (.t 155))])
 (.keep [0,7,8,9,14,15,16,156] (.cond (.t 156)
 (.exit 6)
 (.skip)))))
 (.keep [0,7,8,9,14,15,16] (.ops [Zm 144 16,
 Zo 145 (.bin .add (.t 144) (.c (.int .i64 1))),
 Zm 16 145]))))
def J_strings_IndexRune_j7 : ACode :=
 .seq (.seq (.ops [Zm 121 9,
 Zm 122 0,
 Zo 123 (.lens (.t 122)),
 Zo 124 (.bin .lss (.t 121) (.t 123))])
 (.keep [0,7,8,9,14,15,124] (.cond (.t 124)
 (.skip)
 (.exit 5))))
 (.keep [0,7,8,9,14,15] (.seq (.block 6 (.seq (.ops [Zm 127 0,
 Zm 128 9,
 Zo 129 (.idxs (.t 127) (.t 128)),
 Zm 130 14,
 Zo 131 (.bin .eql (.t 129) (.t 130)),
 Zm 132 131,
 ⟨some 133,(some (132,true)),.mv (.t 0),none⟩,
 ⟨some 134,(some (132,true)),.mv (.t 9),none⟩,
 ⟨some 135,(some (132,true)),.bin .sub (.t 134) (.c (.int .i64 1)),none⟩,
 ⟨some 136,(some (132,true)),.idxs (.t 133) (.t 135),none⟩,
 ⟨some 137,(some (132,true)),.mv (.t 15),none⟩,
 ⟨some 138,(some (132,true)),.bin .eql (.t 136) (.t 137),none⟩,
 Zo 139 (.pick (.t 132) (.t 138) (.c (.bool false)))])
 (.keep [0,7,8,9,14,15,139] (.cond (.t 139)
 (.seq (.seq (.ops [Zo 16 (.mv (.c (.int .i64 2)))])
 (.keep [0,7,8,9,14,15,16] (.block 7 (.loop [0,7,8,9,14,15,16] (J_strings_IndexRune_j6)))))
 (J_strings_IndexRune_j5))
 (.skip)))))
 (J_strings_IndexRune_j4)))
def J_strings_IndexRune_j8 : ACode :=
 .keep [] (.seq (.seq (.ops [Zo 4 (.mv (.c (.int .i64 (-1))))])
 (.ret))
 (.keep [0,1,7,8,9] (.seq (.dead)
 (.keep [0,1,7,8,9] (.seq (.cond (.c (.bool true))
 (.seq (.ops [Zm 99 0,
 Zm 100 9,
 Zm 101 8,
 Zo 102 (.bin .sub (.t 100) (.t 101)),
 Zo 103 (.slcs (.t 99) (some (.t 102)) none),
 Zm 104 1,
 Zo 105 (.ex .r2s [(.t 104)]),
 Zo 106 (.call (.f 155) [(.t 103),(.t 105)]),
 Zm 13 106])
 (.keep [8,9,13] (.seq (.ops [Zm 107 13,
 Zo 108 (.bin .geq (.t 107) (.c (.int .i64 0)))])
 (.keep [8,9,13,108] (.cond (.t 108)
 (.seq (.ops [Zm 109 9,
 Zm 110 13,
 Zo 111 (.bin .add (.t 109) (.t 110)),
 Zm 112 8,
 Zo 113 (.bin .sub (.t 111) (.t 112)),
 Zm 4 113])
 (.ret))
 (.skip))))))
 (.scope (.seq (.ops [Zm 114 7,
 Zm 115 8,
 Zo 116 (.idxs (.t 114) (.t 115)),
 Zm 14 116])
 (.keep [0,7,8,9,14] (.seq (.ops [Zm 117 7,
 Zm 118 8,
 Zo 119 (.bin .sub (.t 118) (.c (.int .i64 1))),
 Zo 120 (.idxs (.t 117) (.t 119)),
 Zm 15 120])
 (.keep [0,7,8,9,14,15] (.seq (.dead)
 (.keep [0,7,8,9,14,15] (.block 5 (.loop [0,7,8,9,14,15] (J_strings_IndexRune_j7)))))))))))
 (J_strings_IndexRune_j3))))))
def J_strings_IndexRune_j9 : ACode :=
 .keep [8,9] (.seq (.seq (.ops [Zm 65 9,
 Zm 66 8,
 Zo 67 (.bin .sub (.t 65) (.t 66)),
 Zm 4 67])
 (.ret))
 (.keep [0,7,8,9,10] (.seq (.dead)
 (.keep [0,7,8,9,10] (.seq (.ops [Zm 68 10,
 Zo 69 (.bin .add (.t 68) (.c (.int .i64 1))),
 Zm 10 69])
 (.keep [0,7,8,9,10] (.seq (.ops [Zm 70 9,
 Zo 71 (.bin .add (.t 70) (.c (.int .i64 1))),
 Zm 9 71])
 (.keep [0,7,8,9,10] (.seq (.ops [Zo 72 (.mv (.c (.bool true))),
 ⟨some 73,(some (72,true)),.mv (.t 10),none⟩,
 ⟨some 74,(some (72,true)),.mv (.t 9),none⟩,
 ⟨some 75,(some (72,true)),.call (.f 154) [(.t 74)],none⟩,
 ⟨some 76,(some (72,true)),.bin .gtr (.t 73) (.t 75),none⟩,
 Zo 77 (.pick (.t 72) (.t 76) (.c (.bool false))),
 Zm 78 77,
 ⟨some 79,(some (78,true)),.mv (.t 9),none⟩,
 ⟨some 80,(some (78,true)),.mv (.t 0),none⟩,
 ⟨some 81,(some (78,true)),.lens (.t 80),none⟩,
 ⟨some 82,(some (78,true)),.bin .lss (.t 79) (.t 81),none⟩,
 Zo 83 (.pick (.t 78) (.t 82) (.c (.bool false))),
 Zm 84 83,
 ⟨some 85,(some (84,false)),.mv (.c (.bool false)),none⟩,
 ⟨some 86,(some (85,true)),.mv (.t 10),none⟩,
 ⟨some 87,(some (85,true)),.mv (.t 9),none⟩,
 ⟨some 88,(some (85,true)),.bin .shr (.t 87) (.c (.int .u64 4)),none⟩,
 ⟨some 89,(some (85,true)),.bin .add (.c (.int .i64 4)) (.t 88),none⟩,
 ⟨some 90,(some (85,true)),.bin .geq (.t 86) (.t 89),none⟩,
 ⟨some 91,(some (84,false)),.pick (.t 85) (.t 90) (.c (.bool false)),none⟩,
 ⟨some 92,(some (84,false)),.mv (.t 91),none⟩,
 ⟨some 93,(some (92,true)),.mv (.t 9),none⟩,
 ⟨some 94,(some (92,true)),.mv (.t 0),none⟩,
 ⟨some 95,(some (92,true)),.lens (.t 94),none⟩,
 ⟨some 96,(some (92,true)),.bin .lss (.t 93) (.t 95),none⟩,
 ⟨some 97,(some (84,false)),.pick (.t 92) (.t 96) (.c (.bool false)),none⟩,
 Zo 98 (.pick (.t 84) (.c (.bool true)) (.t 97))])
 (.keep [0,7,8,9,98] (.cond (.t 98)
 (.dead)
 (.skip))))))))))))
def J_strings_IndexRune_j10 : ACode :=
 .seq (.seq (.ops [Zm 48 12,
 Zm 49 7,
 Zo 50 (.lens (.t 49)),
 Zo 51 (.bin .lss (.t 48) (.t 50))])
 (.keep [0,7,8,9,12,51] (.cond (.t 51)
 (.skip)
 (.exit 3))))
 (.keep [0,7,8,9,12] (.seq (.block 4 (.seq (.draw [0,7,8,9,12,64] [Zm 54 0,
 Zm 55 9,
 Zm 56 12,
 Zo 57 (.bin .sub (.t 55) (.t 56)),
 Zo 58 (.idxs (.t 54) (.t 57)),
 Zm 59 7,
 Zm 60 8,
 Zm 61 12,
 Zo 62 (.bin .sub (.t 60) (.t 61)),
 Zo 63 (.idxs (.t 59) (.t 62)),
 Zo 64 (.bin .neq (.t 58) (.t 63))])
 (.keep [0,7,8,9,12,64] (.cond (.t 64)
 (.dead)
 (.skip)))))
 (.keep [0,7,8,9,12] (.ops [Zm 52 12,
 Zo 53 (.bin .add (.t 52) (.c (.int .i64 1))),
 Zm 12 53]))))
def J_strings_IndexRune_j11 : ACode :=
 .keep [0,7,8,9] (.seq (.seq (.ops [Zo 12 (.mv (.c (.int .i64 1)))])
 (.keep [0,7,8,9,12] (.block 3 (.loop [0,7,8,9,12] (J_strings_IndexRune_j10)))))
 (J_strings_IndexRune_j9))
def J_strings_IndexRune_j12 : ACode :=
 .seq (.seq (.ops [Zm 23 9,
 Zm 24 0,
 Zo 25 (.lens (.t 24)),
 Zo 26 (.bin .lss (.t 23) (.t 25))])
 (.keep [0,7,8,9,26] (.cond (.t 26)
 (.skip)
 (.exit 1))))
 (.keep [0,7,8,9] (.block 2 (.scope (.seq (.seq (.draw [0,7,8,9,33] [Zm 27 0,
 Zm 28 9,
 Zo 29 (.idxs (.t 27) (.t 28)),
 Zm 30 7,
 Zm 31 8,
 Zo 32 (.idxs (.t 30) (.t 31)),
 Zo 33 (.bin .neq (.t 29) (.t 32))])
 (.keep [0,7,8,9,33] (.cond (.t 33)
 (.seq (.draw [0,7,8,9,11] [Zm 34 0,
 Zm 35 9,
 Zo 36 (.bin .add (.t 35) (.c (.int .i64 1))),
 Zo 37 (.slcs (.t 34) (some (.t 36)) none),
 Zm 38 7,
 Zm 39 8,
 Zo 40 (.idxs (.t 38) (.t 39)),
 Zo 41 (.call (.f 152) [(.t 37),(.t 40)]),
 Zm 11 41])
 (.keep [0,7,8,9,11] (.seq (.seq (.ops [Zm 42 11,
 Zo 43 (.bin .lss (.t 42) (.c (.int .i64 0)))])
 (.keep [0,7,8,9,11,43] (.cond (.t 43)
 (.seq (.ops [Zo 4 (.mv (.c (.int .i64 (-1))))])
 (.ret))
 (.skip))))
 (.keep [0,7,8,9,11] (.ops [Zm 44 9,
 Zm 45 11,
 Zo 46 (.bin .add (.t 45) (.c (.int .i64 1))),
 Zo 47 (.bin .add (.t 44) (.t 46)),
 Zm 9 47])))))
 (.skip))))
 (J_strings_IndexRune_j11)))))
def J_strings_IndexRune : AFn :=
 ⟨187,[.t 4],.seq (.ops [Zo 4 (.mv (.c (.int .i64 0)))])
 (.keep [0,1] (.block 0 (.seq (.ops [Zm 161 1,
 Zo 162 (.bin .leq (.c (.int .i32 0)) (.t 161)),
 Zm 163 162,
 ⟨some 164,(some (163,true)),.mv (.t 1),none⟩,
 ⟨some 165,(some (163,true)),.bin .lss (.t 164) (.c (.int .i32 128)),none⟩,
 Zo 166 (.pick (.t 163) (.t 165) (.c (.bool false))),
 Zm 160 166])
 (.keep [0,1,160] (.cond (.t 160)
 (.seq (.ops [Zm 167 0,
 Zm 168 1,
 Zo 169 (.conv .u8 (.t 168)),
 Zo 170 (.call (.f 152) [(.t 167),(.t 169)]),
 Zm 4 170])
 (.ret))
 (.seq (.ops [Zm 172 1,
 Zo 173 (.bin .eql (.t 172) (.c (.int .i32 65533))),
 Zm 171 173])
 (.keep [0,1,171] (.cond (.t 171)
 (.seq (.seq (.ops [Zm 174 0,
 Zo 175 (.rngs (.t 174))])
 (.keep [175] (.block 9 (.loop [175] (J_strings_IndexRune_j2)))))
 (J_strings_IndexRune_j1))
 (.seq (.ops [Zm 184 1,
 Zo 185 (.call (.f 153) [(.t 184)]),
 Zo 186 (.not (.t 185)),
 Zm 183 186])
 (.keep [0,1,183] (.cond (.t 183)
 (.seq (.ops [Zo 4 (.mv (.c (.int .i64 (-1))))])
 (.ret))
 (.scope (.seq (.ops [Zm 17 1,
 Zo 18 (.ex .r2s [(.t 17)]),
 Zm 7 18])
 (.keep [0,7] (.seq (.ops [Zm 19 7,
 Zo 20 (.lens (.t 19)),
 Zo 21 (.bin .sub (.t 20) (.c (.int .i64 1))),
 Zm 8 21])
 (.keep [0,7,8] (.seq (.ops [Zm 22 8,
 Zm 9 22])
 (.keep [0,7,8,9] (.seq (.ops [Zo 10 (.mv (.c (.int .i64 0)))])
 (.keep [0,7,8,9] (.seq (.block 1 (.loop [0,7,8,9] (J_strings_IndexRune_j12)))
 (J_strings_IndexRune_j8))))))))))))))))))))))⟩
theorem J_strings_IndexRune_ok : chkFn Tryz.prog 142 J_strings_IndexRune = true := by kernel_rfl
def J_token_inName : AFn :=
 ⟨17,[.t 2],.seq (.ops [Zo 2 (.mv (.c (.bool false)))])
 (.keep [0] (.seq (.ops [Zm 3 0,
 Zo 4 (.call (.f 118) [(.t 3)]),
 Zm 5 4,
 ⟨some 6,(some (5,false)),.mv (.t 0),none⟩,
 ⟨some 7,(some (5,false)),.call (.f 117) [(.t 6)],none⟩,
 Zo 8 (.pick (.t 5) (.c (.bool true)) (.t 7)),
 Zm 9 8,
 ⟨some 10,(some (9,false)),.mv (.t 0),none⟩,
 ⟨some 11,(some (9,false)),.bin .eql (.t 10) (.c (.int .i32 45)),none⟩,
 Zo 12 (.pick (.t 9) (.c (.bool true)) (.t 11)),
 Zm 13 12,
 ⟨some 14,(some (13,false)),.mv (.t 0),none⟩,
 ⟨some 15,(some (13,false)),.bin .eql (.t 14) (.c (.int .i32 46)),none⟩,
 Zo 16 (.pick (.t 13) (.c (.bool true)) (.t 15)),
 Zm 2 16])
 (.ret)))⟩
theorem J_token_inName_ok : chkFn Tryz.prog 143 J_token_inName = true := by kernel_rfl
def J_token_ahead : AFn :=
 ⟨12,[.t 2],.seq (.ops [Zo 2 (.mv (.c (.int .i64 0)))])
 (.keep [0] (.seq (.seq (.ops [Zm 3 0])
 (.keep [3] (.block 0 (.seq (.ops [Zo 5 (.bin .eql (.t 3) (.c (.str ⟨#[107,101,121]⟩))),
 Zm 4 5])
 (.keep [3,4] (.cond (.t 4)
 (.seq (.ops [Zo 2 (.mv (.c (.int .i64 1)))])
 (.ret))
 (.seq (.ops [Zo 7 (.bin .eql (.t 3) (.c (.str ⟨#[99,104,97,110]⟩))),
 Zm 6 7])
 (.keep [3,6] (.cond (.t 6)
 (.seq (.ops [Zo 2 (.mv (.c (.int .i64 2)))])
 (.ret))
 (.seq (.ops [Zo 9 (.bin .eql (.t 3) (.c (.str ⟨#[103,114,111,117,112]⟩))),
 Zm 8 9])
 (.keep [3,8] (.cond (.t 8)
 (.seq (.ops [Zo 2 (.mv (.c (.int .i64 4)))])
 (.ret))
 (.seq (.ops [Zo 11 (.bin .eql (.t 3) (.c (.str ⟨#[114,111,108,101]⟩))),
 Zm 10 11])
 (.keep [10] (.cond (.t 10)
 (.seq (.ops [Zo 2 (.mv (.c (.int .i64 5)))])
 (.ret))
 (.skip))))))))))))))))
 (.keep [] (.seq (.ops [Zo 2 (.mv (.c (.int .i64 0)))])
 (.ret)))))⟩
theorem J_token_ahead_ok : chkFn Tryz.prog 144 J_token_ahead = true := by kernel_rfl
def J_internal_stringslite_Index_j1 : ACode :=
 .keep [] (.seq (.ops [Zo 4 (.mv (.c (.int .i64 (-1))))])
 (.ret))
def J_internal_stringslite_Index_j2 : ACode :=
 .keep [0,1,5,6,7,8,9,10] (.seq (.seq (.ops [Zm 78 0,
 Zm 79 8,
 Zo 80 (.bin .add (.t 79) (.c (.int .i64 1))),
 Zo 81 (.idxs (.t 78) (.t 80)),
 Zm 82 7,
 Zo 83 (.bin .eql (.t 81) (.t 82)),
 Zm 84 83,
 ⟨some 85,(some (84,true)),.mv (.t 0),none⟩,
 ⟨some 86,(some (84,true)),.mv (.t 8),none⟩,
 ⟨some 87,(some (84,true)),.mv (.t 8),none⟩,
 ⟨some 88,(some (84,true)),.mv (.t 5),none⟩,
 ⟨some 89,(some (84,true)),.bin .add (.t 87) (.t 88),none⟩,
 ⟨some 90,(some (84,true)),.slcs (.t 85) (some (.t 86)) (some (.t 89)),none⟩,
 ⟨some 91,(some (84,true)),.mv (.t 1),none⟩,
 ⟨some 92,(some (84,true)),.bin .eql (.t 90) (.t 91),none⟩,
 Zo 93 (.pick (.t 84) (.t 92) (.c (.bool false)))])
 (.keep [0,1,5,6,7,8,9,10,93] (.cond (.t 93)
 (.seq (.ops [Zm 94 8,
 Zm 4 94])
 (.ret))
 (.skip))))
 (.keep [0,1,5,6,7,8,9,10] (.seq (.ops [Zm 95 8,
 Zo 96 (.bin .add (.t 95) (.c (.int .i64 1))),
 Zm 8 96])
 (.keep [0,1,5,6,7,8,9,10] (.seq (.ops [Zm 97 10,
 Zo 98 (.bin .add (.t 97) (.c (.int .i64 1))),
 Zm 10 98])
 (.dead))))))
def J_internal_stringslite_Index_j3 : ACode :=
 .seq (.seq (.ops [Zm 57 8,
 Zm 58 9,
 Zo 59 (.bin .lss (.t 57) (.t 58))])
 (.keep [0,1,5,6,7,8,9,10,59] (.cond (.t 59)
 (.skip)
 (.exit 1))))
 (.keep [0,1,5,6,7,8,9,10] (.block 2 (.seq (.seq (.ops [Zm 60 0,
 Zm 61 8,
 Zo 62 (.idxs (.t 60) (.t 61)),
 Zm 63 6,
 Zo 64 (.bin .neq (.t 62) (.t 63))])
 (.keep [0,1,5,6,7,8,9,10,64] (.cond (.t 64)
 (.seq (.ops [Zm 65 0,
 Zm 66 8,
 Zo 67 (.bin .add (.t 66) (.c (.int .i64 1))),
 Zm 68 9,
 Zo 69 (.slcs (.t 65) (some (.t 67)) (some (.t 68))),
 Zm 70 6,
 Zo 71 (.call (.f 156) [(.t 69),(.t 70)]),
 Zm 11 71])
 (.keep [0,1,5,6,7,8,9,10,11] (.seq (.seq (.ops [Zm 72 11,
 Zo 73 (.bin .lss (.t 72) (.c (.int .i64 0)))])
 (.keep [0,1,5,6,7,8,9,10,11,73] (.cond (.t 73)
 (.seq (.ops [Zo 4 (.mv (.c (.int .i64 (-1))))])
 (.ret))
 (.skip))))
 (.keep [0,1,5,6,7,8,9,10,11] (.ops [Zm 74 8,
 Zm 75 11,
 Zo 76 (.bin .add (.t 75) (.c (.int .i64 1))),
 Zo 77 (.bin .add (.t 74) (.t 76)),
 Zm 8 77])))))
 (.skip))))
 (J_internal_stringslite_Index_j2))))
def J_internal_stringslite_Index : AFn :=
 ⟨143,[.t 4],.seq (.ops [Zo 4 (.mv (.c (.int .i64 0)))])
 (.keep [0,1] (.seq (.ops [Zm 14 1,
 Zo 15 (.lens (.t 14)),
 Zm 5 15])
 (.keep [0,1,5] (.seq (.block 0 (.seq (.ops [Zm 17 5,
 Zo 18 (.bin .eql (.t 17) (.c (.int .i64 0))),
 Zm 19 18,
 ⟨some 20,(some (19,false)),.mv (.t 1),none⟩,
 ⟨some 21,(some (19,false)),.mv (.t 0),none⟩,
 ⟨some 22,(some (19,false)),.bin .eql (.t 20) (.t 21),none⟩,
 Zo 23 (.pick (.t 19) (.c (.bool true)) (.t 22)),
 Zm 16 23])
 (.keep [0,1,5,16] (.cond (.t 16)
 (.seq (.ops [Zo 4 (.mv (.c (.int .i64 0)))])
 (.ret))
 (.seq (.ops [Zm 25 5,
 Zo 26 (.bin .eql (.t 25) (.c (.int .i64 1))),
 Zm 24 26])
 (.keep [0,1,5,24] (.cond (.t 24)
 (.seq (.ops [Zm 27 0,
 Zm 28 1,
 Zo 29 (.idxs (.t 28) (.c (.int .i64 0))),
 Zo 30 (.call (.f 156) [(.t 27),(.t 29)]),
 Zm 4 30])
 (.ret))
 (.seq (.ops [Zm 32 5,
 Zm 33 0,
 Zo 34 (.lens (.t 33)),
 Zo 35 (.bin .geq (.t 32) (.t 34)),
 Zm 31 35])
 (.keep [0,1,5,31] (.cond (.t 31)
 (.seq (.ops [Zo 4 (.mv (.c (.int .i64 (-1))))])
 (.ret))
 (.dead)))))))))))
 (.keep [0,1,5] (.seq (.ops [Zm 48 1,
 Zo 49 (.idxs (.t 48) (.c (.int .i64 0))),
 Zm 6 49])
 (.keep [0,1,5,6] (.seq (.ops [Zm 50 1,
 Zo 51 (.idxs (.t 50) (.c (.int .i64 1))),
 Zm 7 51])
 (.keep [0,1,5,6,7] (.seq (.ops [Zo 8 (.mv (.c (.int .i64 0)))])
 (.keep [0,1,5,6,7,8] (.seq (.ops [Zm 52 0,
 Zo 53 (.lens (.t 52)),
 Zm 54 5,
 Zo 55 (.bin .sub (.t 53) (.t 54)),
 Zo 56 (.bin .add (.t 55) (.c (.int .i64 1))),
 Zm 9 56])
 (.keep [0,1,5,6,7,8,9] (.seq (.ops [Zo 10 (.mv (.c (.int .i64 0)))])
 (.keep [0,1,5,6,7,8,9,10] (.seq (.block 1 (.loop [0,1,5,6,7,8,9,10] (J_internal_stringslite_Index_j3)))
 (J_internal_stringslite_Index_j1)))))))))))))))))⟩
theorem J_internal_stringslite_Index_ok : chkFn Tryz.prog 146 J_internal_stringslite_Index = true := by kernel_rfl
def J_strings_IndexByte : AFn :=
 ⟨8,[.t 4],.seq (.ops [Zo 4 (.mv (.c (.int .i64 0)))])
 (.keep [0,1] (.seq (.ops [Zm 5 0,
 Zm 6 1,
 Zo 7 (.call (.f 156) [(.t 5),(.t 6)]),
 Zm 4 7])
 (.ret)))⟩
theorem J_strings_IndexByte_ok : chkFn Tryz.prog 152 J_strings_IndexByte = true := by kernel_rfl
def J_unicode_utf8_ValidRune : AFn :=
 ⟨17,[.t 2],.seq (.ops [Zo 2 (.mv (.c (.bool false)))])
 (.keep [0] (.seq (.block 0 (.seq (.ops [Zm 4 0,
 Zo 5 (.bin .leq (.c (.int .i32 0)) (.t 4)),
 Zm 6 5,
 ⟨some 7,(some (6,true)),.mv (.t 0),none⟩,
 ⟨some 8,(some (6,true)),.bin .lss (.t 7) (.c (.int .i32 55296)),none⟩,
 Zo 9 (.pick (.t 6) (.t 8) (.c (.bool false))),
 Zm 3 9])
 (.keep [0,3] (.cond (.t 3)
 (.seq (.ops [Zo 2 (.mv (.c (.bool true)))])
 (.ret))
 (.seq (.ops [Zm 11 0,
 Zo 12 (.bin .lss (.c (.int .i32 57343)) (.t 11)),
 Zm 13 12,
 ⟨some 14,(some (13,true)),.mv (.t 0),none⟩,
 ⟨some 15,(some (13,true)),.bin .leq (.t 14) (.c (.int .i32 1114111)),none⟩,
 Zo 16 (.pick (.t 13) (.t 15) (.c (.bool false))),
 Zm 10 16])
 (.keep [10] (.cond (.t 10)
 (.seq (.ops [Zo 2 (.mv (.c (.bool true)))])
 (.ret))
 (.skip))))))))
 (.keep [] (.seq (.ops [Zo 2 (.mv (.c (.bool false)))])
 (.ret)))))⟩
theorem J_unicode_utf8_ValidRune_ok : chkFn Tryz.prog 153 J_unicode_utf8_ValidRune = true := by kernel_rfl
def J_internal_stringslite_IndexByte : AFn :=
 ⟨8,[.t 4],.seq (.ops [Zo 4 (.mv (.c (.int .i64 0)))])
 (.keep [0,1] (.seq (.ops [Zm 5 0,
 Zm 6 1,
 Zo 7 (.ex .ibs [(.t 5),(.t 6)]),
 Zm 4 7])
 (.ret)))⟩
theorem J_internal_stringslite_IndexByte_ok : chkFn Tryz.prog 156 J_internal_stringslite_IndexByte = true := by kernel_rfl
end Go.Proofs.YtedaffmkpljlnaaGreat
/- The abstract layer, sixteenth part: one law an operation, for the walk (written by genlem.py). -/
namespace Go.Proofs.YtedaffmkpljlnaaGreat
open Go.RowKit Go.Lib

section
variable (P : Program)
theorem wop_mv (d : Option Nat) (x : Opd) (fr : Fr) (h : Hp) (K : Fr → Hp → Prop) : wop P d (.mv x) fr h K = (match ev fr x with
  | some a => K (put d a fr) h
  | none => False) := id rfl
theorem eff_mv (x : Opd) (fr : Fr) (h : Hp) (R : AV → Hp → Prop) : eff P (.mv x) fr h R = (match ev fr x with
  | some a => R a h
  | none => False) := id rfl
theorem wop_pick (d : Option Nat) (c x y : Opd) (fr : Fr) (h : Hp) (K : Fr → Hp → Prop) : wop P d (.pick c x y) fr h K = (match ev fr c with
  | some (.bool p) => (p = true → match ev fr x with
   | some a => K (put d a fr) h
   | none => False) ∧ (p = false → match ev fr y with
   | some a => K (put d a fr) h
   | none => False)
  | _ => False) := id rfl
theorem eff_pick (c x y : Opd) (fr : Fr) (h : Hp) (R : AV → Hp → Prop) : eff P (.pick c x y) fr h R = (match ev fr c with
  | some (.bool p) => (p = true → match ev fr x with
   | some a => R a h
   | none => False) ∧ (p = false → match ev fr y with
   | some a => R a h
   | none => False)
  | _ => False) := id rfl
theorem wop_build (d : Option Nat) (t : List AV) (ps : List (Nat × Nat × Opd)) (fr : Fr) (h : Hp) (K : Fr → Hp → Prop) : wop P d (.build t ps) fr h K = (buildK fr t ps (fun l => K (put d (.agg l) fr) h)) := id rfl
theorem eff_build (t : List AV) (ps : List (Nat × Nat × Opd)) (fr : Fr) (h : Hp) (R : AV → Hp → Prop) : eff P (.build t ps) fr h R = (buildK fr t ps (fun l => R (.agg l) h)) := id rfl
theorem wop_load (d : Option Nat) (s : Option Nat) (x : Opd) (fr : Fr) (h : Hp) (K : Fr → Hp → Prop) : wop P d (.load s x) fr h K = (match ev fr x with
  | some (.ptr id off) => (match h[id]? with
   | some (some (_, l)) => loadK s (l.drop off) (kval d fr h K)
   | _ => False)
  | some (.fp l) => loadK s l (kval d fr h K)
  | _ => False) := id rfl
theorem eff_load (s : Option Nat) (x : Opd) (fr : Fr) (h : Hp) (R : AV → Hp → Prop) : eff P (.load s x) fr h R = (match ev fr x with
  | some (.ptr id off) => (match h[id]? with
   | some (some (_, l)) => loadK s (l.drop off) (kv h R)
   | _ => False)
  | some (.fp l) => loadK s l (kv h R)
  | _ => False) := id rfl
theorem wop_lds (d : Option Nat) (s : Option Nat) (x : Opd) (fr : Fr) (h : Hp) (K : Fr → Hp → Prop) : wop P d (.lds s x) fr h K = (match ev fr x with
  | some (.ptr id off) => (match h[id]? with
   | some (some (true, l)) => loadK s (l.drop off) (kval d fr h K)
   | _ => False)
  | some (.fp l) => loadK s l (kval d fr h K)
  | _ => False) := id rfl
theorem eff_lds (s : Option Nat) (x : Opd) (fr : Fr) (h : Hp) (R : AV → Hp → Prop) : eff P (.lds s x) fr h R = (match ev fr x with
  | some (.ptr id off) => (match h[id]? with
   | some (some (true, l)) => loadK s (l.drop off) (kv h R)
   | _ => False)
  | some (.fp l) => loadK s l (kv h R)
  | _ => False) := id rfl
theorem wop_nilck (d : Option Nat) (x : Opd) (fr : Fr) (h : Hp) (K : Fr → Hp → Prop) : wop P d (.nilck x) fr h K = (match ev fr x with
  | some (.ptr id off) => K (put d (.ptr id off) fr) h
  | some (.fp l) => K (put d (.fp l) fr) h
  | some (.fn f l) => K (put d (.fn f l) fr) h
  | some (.frn Q) => K (put d (.frn Q) fr) h
  | _ => False) := id rfl
theorem eff_nilck (x : Opd) (fr : Fr) (h : Hp) (R : AV → Hp → Prop) : eff P (.nilck x) fr h R = (match ev fr x with
  | some (.ptr id off) => R (.ptr id off) h
  | some (.fp l) => R (.fp l) h
  | some (.fn f l) => R (.fn f l) h
  | some (.frn Q) => R (.frn Q) h
  | _ => False) := id rfl
theorem wop_bin (d : Option Nat) (op : BinOp) (x y : Opd) (fr : Fr) (h : Hp) (K : Fr → Hp → Prop) : wop P d (.bin op x y) fr h K = (match ev fr x, ev fr y with
  | some a, some b => bin2 op a b (kval d fr h K)
  | _, _ => False) := id rfl
theorem eff_bin (op : BinOp) (x y : Opd) (fr : Fr) (h : Hp) (R : AV → Hp → Prop) : eff P (.bin op x y) fr h R = (match ev fr x, ev fr y with
  | some a, some b => bin2 op a b (kv h R)
  | _, _ => False) := id rfl
theorem wop_pnil (d : Option Nat) (n : Bool) (x : Opd) (fr : Fr) (h : Hp) (K : Fr → Hp → Prop) : wop P d (.pnil n x) fr h K = (match ev fr x with
  | some .nilp => K (put d (.bool (!n)) fr) h
  | some (.ptr _ _) => K (put d (.bool n) fr) h
  | some (.fp _) => K (put d (.bool n) fr) h
  | some (.frn _) => K (put d (.bool n) fr) h
  | _ => False) := id rfl
theorem eff_pnil (n : Bool) (x : Opd) (fr : Fr) (h : Hp) (R : AV → Hp → Prop) : eff P (.pnil n x) fr h R = (match ev fr x with
  | some .nilp => R (.bool (!n)) h
  | some (.ptr _ _) => R (.bool n) h
  | some (.fp _) => R (.bool n) h
  | some (.frn _) => R (.bool n) h
  | _ => False) := id rfl
theorem wop_bbin (d : Option Nat) (n : Bool) (x y : Opd) (fr : Fr) (h : Hp) (K : Fr → Hp → Prop) : wop P d (.bbin n x y) fr h K = (match ev fr x, ev fr y with
  | some (.bool a), some (.bool b) => K (put d (.bool (if n then decide (a ≠ b) else decide (a = b))) fr) h
  | _, _ => False) := id rfl
theorem eff_bbin (n : Bool) (x y : Opd) (fr : Fr) (h : Hp) (R : AV → Hp → Prop) : eff P (.bbin n x y) fr h R = (match ev fr x, ev fr y with
  | some (.bool a), some (.bool b) => R (.bool (if n then decide (a ≠ b) else decide (a = b))) h
  | _, _ => False) := id rfl
theorem wop_not (d : Option Nat) (x : Opd) (fr : Fr) (h : Hp) (K : Fr → Hp → Prop) : wop P d (.not x) fr h K = (match ev fr x with
  | some (.bool p) => K (put d (.bool (!p)) fr) h
  | _ => False) := id rfl
theorem eff_not (x : Opd) (fr : Fr) (h : Hp) (R : AV → Hp → Prop) : eff P (.not x) fr h R = (match ev fr x with
  | some (.bool p) => R (.bool (!p)) h
  | _ => False) := id rfl
theorem wop_conv (d : Option Nat) (i : IntKind) (x : Opd) (fr : Fr) (h : Hp) (K : Fr → Hp → Prop) : wop P d (.conv i x) fr h K = (match ev fr x with
  | some (.int _ n) => K (put d (.int i (i.wrap n)) fr) h
  | _ => False) := id rfl
theorem eff_conv (i : IntKind) (x : Opd) (fr : Fr) (h : Hp) (R : AV → Hp → Prop) : eff P (.conv i x) fr h R = (match ev fr x with
  | some (.int _ n) => R (.int i (i.wrap n)) h
  | _ => False) := id rfl
theorem wop_cstr (d : Option Nat) (x : Opd) (fr : Fr) (h : Hp) (K : Fr → Hp → Prop) : wop P d (.cstr x) fr h K = (match ev fr x with
  | some (.str s) => K (put d (.str s) fr) h
  | _ => False) := id rfl
theorem eff_cstr (x : Opd) (fr : Fr) (h : Hp) (R : AV → Hp → Prop) : eff P (.cstr x) fr h R = (match ev fr x with
  | some (.str s) => R (.str s) h
  | _ => False) := id rfl
theorem wop_b2s (d : Option Nat) (x : Opd) (fr : Fr) (h : Hp) (K : Fr → Hp → Prop) : wop P d (.b2s x) fr h K = (match ev fr x with
  | some (.lst _ n l) => ∃ bs : List UInt8, l = bs.map (fun b => AV.int .u8 b.toNat) ∧ n = bs.length ∧ K (put d (.str ⟨bs.toArray⟩) fr) h
  | _ => False) := id rfl
theorem eff_b2s (x : Opd) (fr : Fr) (h : Hp) (R : AV → Hp → Prop) : eff P (.b2s x) fr h R = (match ev fr x with
  | some (.lst _ n l) => ∃ bs : List UInt8, l = bs.map (fun b => AV.int .u8 b.toNat) ∧ n = bs.length ∧ R (.str ⟨bs.toArray⟩) h
  | _ => False) := id rfl
theorem wop_fld (d : Option Nat) (o : Nat) (x : Opd) (fr : Fr) (h : Hp) (K : Fr → Hp → Prop) : wop P d (.fld o x) fr h K = (match ev fr x with
  | some (.ptr id q) => K (put d (.ptr id (q + o)) fr) h
  | some (.fp l) => K (put d (.fp (l.drop o)) fr) h
  | some (.frn Q) => o = 0 ∧ K (put d (.frn Q) fr) h
  | _ => False) := id rfl
theorem eff_fld (o : Nat) (x : Opd) (fr : Fr) (h : Hp) (R : AV → Hp → Prop) : eff P (.fld o x) fr h R = (match ev fr x with
  | some (.ptr id q) => R (.ptr id (q + o)) h
  | some (.fp l) => R (.fp (l.drop o)) h
  | some (.frn Q) => o = 0 ∧ R (.frn Q) h
  | _ => False) := id rfl
theorem wop_idxa (d : Option Nat) (s : Nat) (x y : Opd) (fr : Fr) (h : Hp) (K : Fr → Hp → Prop) : wop P d (.idxa s x y) fr h K = (match ev fr x, ev fr y with
  | some (.lst _ n l), some (.int _ i) => (0 ≤ i ∧ i < n) ∧ K (put d (.fp (l.drop (i.toNat * s))) fr) h
  | some (.hs id n), some (.int _ i) => (0 ≤ i ∧ i < n) ∧ K (put d (.ptr id (i.toNat * s)) fr) h
  | some (.hsc id n c), some (.int _ i) => (0 ≤ i ∧ i < n) ∧ K (put d (.ptr id (i.toNat * s)) fr) h
  | _, _ => False) := id rfl
theorem eff_idxa (s : Nat) (x y : Opd) (fr : Fr) (h : Hp) (R : AV → Hp → Prop) : eff P (.idxa s x y) fr h R = (match ev fr x, ev fr y with
  | some (.lst _ n l), some (.int _ i) => (0 ≤ i ∧ i < n) ∧ R (.fp (l.drop (i.toNat * s))) h
  | some (.hs id n), some (.int _ i) => (0 ≤ i ∧ i < n) ∧ R (.ptr id (i.toNat * s)) h
  | some (.hsc id n c), some (.int _ i) => (0 ≤ i ∧ i < n) ∧ R (.ptr id (i.toNat * s)) h
  | _, _ => False) := id rfl
theorem wop_idxs (d : Option Nat) (x y : Opd) (fr : Fr) (h : Hp) (K : Fr → Hp → Prop) : wop P d (.idxs x y) fr h K = (match ev fr x, ev fr y with
  | some (.str s), some (.int _ i) => (0 ≤ i ∧ i < s.size) ∧ K (put d (.int .u8 (byteAt s i.toNat)) fr) h
  | _, _ => False) := id rfl
theorem eff_idxs (x y : Opd) (fr : Fr) (h : Hp) (R : AV → Hp → Prop) : eff P (.idxs x y) fr h R = (match ev fr x, ev fr y with
  | some (.str s), some (.int _ i) => (0 ≤ i ∧ i < s.size) ∧ R (.int .u8 (byteAt s i.toNat)) h
  | _, _ => False) := id rfl
theorem wop_slcs (d : Option Nat) (x : Opd) (lo hi : Option Opd) (fr : Fr) (h : Hp) (K : Fr → Hp → Prop) : wop P d (.slcs x lo hi) fr h K = (match ev fr x with
  | some (.str s) => (match evD fr (.int .i64 0) lo, evD fr (.int .i64 s.size) hi with
   | some (.int _ l), some (.int _ u) => (0 ≤ l ∧ l ≤ u ∧ u ≤ s.size) ∧ K (put d (.str (s.extract l.toNat u.toNat)) fr) h
   | _, _ => False)
  | _ => False) := id rfl
theorem eff_slcs (x : Opd) (lo hi : Option Opd) (fr : Fr) (h : Hp) (R : AV → Hp → Prop) : eff P (.slcs x lo hi) fr h R = (match ev fr x with
  | some (.str s) => (match evD fr (.int .i64 0) lo, evD fr (.int .i64 s.size) hi with
   | some (.int _ l), some (.int _ u) => (0 ≤ l ∧ l ≤ u ∧ u ≤ s.size) ∧ R (.str (s.extract l.toNat u.toNat)) h
   | _, _ => False)
  | _ => False) := id rfl
theorem wop_slcl (d : Option Nat) (s : Nat) (x : Opd) (lo hi mx : Option Opd) (fr : Fr) (h : Hp) (K : Fr → Hp → Prop) : wop P d (.slcl s x lo hi mx) fr h K = (match ev fr x with
  | some (.lst _ n l) => (match evD fr (.int .i64 0) lo, evD fr (.int .i64 n) hi with
   | some (.int _ i), some (.int _ j) => (0 ≤ i ∧ i ≤ j ∧ j ≤ n ∧ l.length = n * s) ∧ (match mx with
    | none => K (put d (.lst .ro (j.toNat - i.toNat) ((l.drop (i.toNat * s)).take ((j.toNat - i.toNat) * s))) fr) h
    | some m => match ev fr m with
     | some (.int _ m) => m = j ∧ K (put d (.lst .clip (j.toNat - i.toNat) ((l.drop (i.toNat * s)).take ((j.toNat - i.toNat) * s))) fr) h
     | _ => False)
   | _, _ => False)
  | _ => False) := id rfl
theorem eff_slcl (s : Nat) (x : Opd) (lo hi mx : Option Opd) (fr : Fr) (h : Hp) (R : AV → Hp → Prop) : eff P (.slcl s x lo hi mx) fr h R = (match ev fr x with
  | some (.lst _ n l) => (match evD fr (.int .i64 0) lo, evD fr (.int .i64 n) hi with
   | some (.int _ i), some (.int _ j) => (0 ≤ i ∧ i ≤ j ∧ j ≤ n ∧ l.length = n * s) ∧ (match mx with
    | none => R (.lst .ro (j.toNat - i.toNat) ((l.drop (i.toNat * s)).take ((j.toNat - i.toNat) * s))) h
    | some m => match ev fr m with
     | some (.int _ m) => m = j ∧ R (.lst .clip (j.toNat - i.toNat) ((l.drop (i.toNat * s)).take ((j.toNat - i.toNat) * s))) h
     | _ => False)
   | _, _ => False)
  | _ => False) := id rfl
theorem wop_ext (d : Option Nat) (i : Nat) (x : Opd) (fr : Fr) (h : Hp) (K : Fr → Hp → Prop) : wop P d (.ext i x) fr h K = (match ev fr x with
  | some (.tup l) => (match l[i]? with
   | some a => K (put d a fr) h
   | none => False)
  | _ => False) := id rfl
theorem eff_ext (i : Nat) (x : Opd) (fr : Fr) (h : Hp) (R : AV → Hp → Prop) : eff P (.ext i x) fr h R = (match ev fr x with
  | some (.tup l) => (match l[i]? with
   | some a => R a h
   | none => False)
  | _ => False) := id rfl
theorem wop_lens (d : Option Nat) (x : Opd) (fr : Fr) (h : Hp) (K : Fr → Hp → Prop) : wop P d (.lens x) fr h K = (match ev fr x with
  | some (.str s) => K (put d (.int .i64 s.size) fr) h
  | _ => False) := id rfl
theorem eff_lens (x : Opd) (fr : Fr) (h : Hp) (R : AV → Hp → Prop) : eff P (.lens x) fr h R = (match ev fr x with
  | some (.str s) => R (.int .i64 s.size) h
  | _ => False) := id rfl
theorem wop_lenl (d : Option Nat) (x : Opd) (fr : Fr) (h : Hp) (K : Fr → Hp → Prop) : wop P d (.lenl x) fr h K = (match ev fr x with
  | some (.lst _ n _) => K (put d (.int .i64 n) fr) h
  | some (.hs _ n) => K (put d (.int .i64 n) fr) h
  | some (.hsc _ n _) => K (put d (.int .i64 n) fr) h
  | _ => False) := id rfl
theorem eff_lenl (x : Opd) (fr : Fr) (h : Hp) (R : AV → Hp → Prop) : eff P (.lenl x) fr h R = (match ev fr x with
  | some (.lst _ n _) => R (.int .i64 n) h
  | some (.hs _ n) => R (.int .i64 n) h
  | some (.hsc _ n _) => R (.int .i64 n) h
  | _ => False) := id rfl
theorem wop_mn (d : Option Nat) (x y : Opd) (fr : Fr) (h : Hp) (K : Fr → Hp → Prop) : wop P d (.mn x y) fr h K = (match ev fr x, ev fr y with
  | some (.int i a), some (.int _ b) => K (put d (.int i (if b < a then b else a)) fr) h
  | _, _ => False) := id rfl
theorem eff_mn (x y : Opd) (fr : Fr) (h : Hp) (R : AV → Hp → Prop) : eff P (.mn x y) fr h R = (match ev fr x, ev fr y with
  | some (.int i a), some (.int _ b) => R (.int i (if b < a then b else a)) h
  | _, _ => False) := id rfl
theorem wop_mx (d : Option Nat) (x y : Opd) (fr : Fr) (h : Hp) (K : Fr → Hp → Prop) : wop P d (.mx x y) fr h K = (match ev fr x, ev fr y with
  | some (.int i a), some (.int _ b) => K (put d (.int i (if a < b then b else a)) fr) h
  | _, _ => False) := id rfl
theorem eff_mx (x y : Opd) (fr : Fr) (h : Hp) (R : AV → Hp → Prop) : eff P (.mx x y) fr h R = (match ev fr x, ev fr y with
  | some (.int i a), some (.int _ b) => R (.int i (if a < b then b else a)) h
  | _, _ => False) := id rfl
theorem wop_ex (d : Option Nat) (e : Ex) (xs : List Opd) (fr : Fr) (h : Hp) (K : Fr → Hp → Prop) : wop P d (.ex e xs) fr h K = (match evs fr xs with
  | some l => (match exF e l with
   | some a => K (put d a fr) h
   | none => False)
  | none => False) := id rfl
theorem eff_ex (e : Ex) (xs : List Opd) (fr : Fr) (h : Hp) (R : AV → Hp → Prop) : eff P (.ex e xs) fr h R = (match evs fr xs with
  | some l => (match exF e l with
   | some a => R a h
   | none => False)
  | none => False) := id rfl
theorem wop_mkfn (d : Option Nat) (f : FuncId) (c : List Opd) (fr : Fr) (h : Hp) (K : Fr → Hp → Prop) : wop P d (.mkfn f c) fr h K = (match evs fr c with
  | some l => K (put d (.fn f l) fr) h
  | none => False) := id rfl
theorem eff_mkfn (f : FuncId) (c : List Opd) (fr : Fr) (h : Hp) (R : AV → Hp → Prop) : eff P (.mkfn f c) fr h R = (match evs fr c with
  | some l => R (.fn f l) h
  | none => False) := id rfl
theorem wop_mvu (d : Option Nat) (e s : Nat) (x : Opd) (fr : Fr) (h : Hp) (K : Fr → Hp → Prop) : wop P d (.mvu e s x) fr h K = (match ev fr x with
  | some (.lst .clip n l) => l.length = n * s ∧ K (put d (.lst (.own e) n l) fr) h
  | _ => False) := id rfl
theorem eff_mvu (e s : Nat) (x : Opd) (fr : Fr) (h : Hp) (R : AV → Hp → Prop) : eff P (.mvu e s x) fr h R = (match ev fr x with
  | some (.lst .clip n l) => l.length = n * s ∧ R (.lst (.own e) n l) h
  | _ => False) := id rfl
theorem wop_mvo (d : Option Nat) (q : Nat) (fr : Fr) (h : Hp) (K : Fr → Hp → Prop) : wop P d (.mvo q) fr h K = (match lk fr q with
  | some (.lst (.own e) n l) => K (put d (.lst (.own e) n l) (degr q fr)) h
  | _ => False) := id rfl
theorem eff_mvo (q : Nat) (fr : Fr) (h : Hp) (R : AV → Hp → Prop) : eff P (.mvo q) fr h R = (match lk fr q with
  | some (.lst (.own e) n l) => R (.lst (.own e) n l) h
  | _ => False) := id rfl
theorem wop_new (d : Option Nat) (l : List AV) (u : List (Nat × Nat × Nat)) (fr : Fr) (h : Hp) (K : Fr → Hp → Prop) : wop P d (.new l u) fr h K = (upgK u l (fun l' => K (put d (.ptr h.length 0) fr) (h ++ [some (false, l')]))) := id rfl
theorem eff_new (l : List AV) (u : List (Nat × Nat × Nat)) (fr : Fr) (h : Hp) (R : AV → Hp → Prop) : eff P (.new l u) fr h R = (upgK u l (fun l' => R (.ptr h.length 0) (h ++ [some (false, l')]))) := id rfl
theorem wop_box (d : Option Nat) (x : Opd) (u : List (Nat × Nat × Nat)) (fr : Fr) (h : Hp) (K : Fr → Hp → Prop) : wop P d (.box x u) fr h K = (match ev fr x with
  | some a => isTup a = false ∧ upgK u (cellsOf a) (fun l' => K (put d (.ptr h.length 0) fr) (h ++ [some (false, l')]))
  | none => False) := id rfl
theorem eff_box (x : Opd) (u : List (Nat × Nat × Nat)) (fr : Fr) (h : Hp) (R : AV → Hp → Prop) : eff P (.box x u) fr h R = (match ev fr x with
  | some a => isTup a = false ∧ upgK u (cellsOf a) (fun l' => R (.ptr h.length 0) (h ++ [some (false, l')]))
  | none => False) := id rfl
theorem wop_bsl (d : Option Nat) (e s n : Nat) (t : List AV) (ps : List (Nat × Nat × Opd)) (fr : Fr) (h : Hp) (K : Fr → Hp → Prop) : wop P d (.bsl e s n t ps) fr h K = (buildK fr t ps (fun l => K (put d (.lst (.own e) n l) fr) h)) := id rfl
theorem eff_bsl (e s n : Nat) (t : List AV) (ps : List (Nat × Nat × Opd)) (fr : Fr) (h : Hp) (R : AV → Hp → Prop) : eff P (.bsl e s n t ps) fr h R = (buildK fr t ps (fun l => R (.lst (.own e) n l) h)) := id rfl
theorem wop_mk0 (d : Option Nat) (e s b : Nat) (c : Opd) (fr : Fr) (h : Hp) (K : Fr → Hp → Prop) : wop P d (.mk0 e s b c) fr h K = (match ev fr c with
  | some (.int _ n) => (0 ≤ n ∧ b * n ≤ 140737488355328 ∧ n ≤ 9223372036854775807) ∧ K (put d (.lst (.own e) 0 []) fr) h
  | _ => False) := id rfl
theorem eff_mk0 (e s b : Nat) (c : Opd) (fr : Fr) (h : Hp) (R : AV → Hp → Prop) : eff P (.mk0 e s b c) fr h R = (match ev fr c with
  | some (.int _ n) => (0 ≤ n ∧ b * n ≤ 140737488355328 ∧ n ≤ 9223372036854775807) ∧ R (.lst (.own e) 0 []) h
  | _ => False) := id rfl
theorem wop_mkn (d : Option Nat) (e s b : Nat) (z : List AV) (c : Opd) (fr : Fr) (h : Hp) (K : Fr → Hp → Prop) : wop P d (.mkn e s b z c) fr h K = (match ev fr c with
  | some (.int _ n) => (0 ≤ n ∧ b * n ≤ 140737488355328 ∧ n ≤ 9223372036854775807) ∧ K (put d (.hs h.length n.toNat) fr) (h ++ [some (false, (List.range (n.toNat * s)).map fun i => z.getD (i % s) .nilp)])
  | _ => False) := id rfl
theorem eff_mkn (e s b : Nat) (z : List AV) (c : Opd) (fr : Fr) (h : Hp) (R : AV → Hp → Prop) : eff P (.mkn e s b z c) fr h R = (match ev fr c with
  | some (.int _ n) => (0 ≤ n ∧ b * n ≤ 140737488355328 ∧ n ≤ 9223372036854775807) ∧ R (.hs h.length n.toNat) (h ++ [some (false, (List.range (n.toNat * s)).map fun i => z.getD (i % s) .nilp)])
  | _ => False) := id rfl
theorem wop_loado (d : Option Nat) (x : Opd) (fr : Fr) (h : Hp) (K : Fr → Hp → Prop) : wop P d (.loado x) fr h K = (match ev fr x with
  | some (.ptr id off) => (match h[id]? with
   | some (some (false, l)) => (match l[off]? with
    | some (.lst (.own e) n c) => K (put d (.lst (.own e) n c) fr) (h.set id (some (false, l.set off (.lst .ro n c))))
    | _ => False)
   | _ => False)
  | _ => False) := id rfl
theorem eff_loado (x : Opd) (fr : Fr) (h : Hp) (R : AV → Hp → Prop) : eff P (.loado x) fr h R = (match ev fr x with
  | some (.ptr id off) => (match h[id]? with
   | some (some (false, l)) => (match l[off]? with
    | some (.lst (.own e) n c) => R (.lst (.own e) n c) (h.set id (some (false, l.set off (.lst .ro n c))))
    | _ => False)
   | _ => False)
  | _ => False) := id rfl
theorem wop_app (d : Option Nat) (e s b : Nat) (x y : Opd) (fr : Fr) (h : Hp) (K : Fr → Hp → Prop) : wop P d (.app e s b x y) fr h K = (match ev fr x, ev fr y with
  | some (.lst .clip n l), some (.lst _ m l') => (l.length = n * s ∧ l'.length = m * s ∧ n + m ≤ 9223372036854775807 ∧ (n + m) * b ≤ 140737488355328) ∧ K (put d (.lst (.own e) (n + m) (l ++ l')) fr) h
  | _, _ => False) := id rfl
theorem eff_app (e s b : Nat) (x y : Opd) (fr : Fr) (h : Hp) (R : AV → Hp → Prop) : eff P (.app e s b x y) fr h R = (match ev fr x, ev fr y with
  | some (.lst .clip n l), some (.lst _ m l') => (l.length = n * s ∧ l'.length = m * s ∧ n + m ≤ 9223372036854775807 ∧ (n + m) * b ≤ 140737488355328) ∧ R (.lst (.own e) (n + m) (l ++ l')) h
  | _, _ => False) := id rfl
theorem wop_appo (d : Option Nat) (e s b q : Nat) (y : Opd) (fr : Fr) (h : Hp) (K : Fr → Hp → Prop) : wop P d (.appo e s b q y) fr h K = (match lk fr q, ev fr y with
  | some (.lst (.own e') n l), some (.lst _ m l') => (e' = e ∧ l'.length = m * s ∧ n + m ≤ 9223372036854775807 ∧ (n + m) * b ≤ 140737488355328) ∧ K (put d (.lst (.own e) (n + m) (l ++ l')) (degr q fr)) h
  | _, _ => False) := id rfl
theorem eff_appo (e s b q : Nat) (y : Opd) (fr : Fr) (h : Hp) (R : AV → Hp → Prop) : eff P (.appo e s b q y) fr h R = (match lk fr q, ev fr y with
  | some (.lst (.own e') n l), some (.lst _ m l') => (e' = e ∧ l'.length = m * s ∧ n + m ≤ 9223372036854775807 ∧ (n + m) * b ≤ 140737488355328) ∧ R (.lst (.own e) (n + m) (l ++ l')) h
  | _, _ => False) := id rfl
theorem wop_appso (d : Option Nat) (e q : Nat) (y : Opd) (fr : Fr) (h : Hp) (K : Fr → Hp → Prop) : wop P d (.appso e q y) fr h K = (match lk fr q, ev fr y with
  | some (.lst (.own e') n l), some (.str s) => (e' = e ∧ n + s.size ≤ 140737488355328) ∧ K (put d (.lst (.own e) (n + s.size) (l ++ s.data.toList.map fun b => AV.int .u8 b.toNat)) (degr q fr)) h
  | _, _ => False) := id rfl
theorem eff_appso (e q : Nat) (y : Opd) (fr : Fr) (h : Hp) (R : AV → Hp → Prop) : eff P (.appso e q y) fr h R = (match lk fr q, ev fr y with
  | some (.lst (.own e') n l), some (.str s) => (e' = e ∧ n + s.size ≤ 140737488355328) ∧ R (.lst (.own e) (n + s.size) (l ++ s.data.toList.map fun b => AV.int .u8 b.toNat)) h
  | _, _ => False) := id rfl
theorem wop_bar (d : Option Nat) (s : Nat) (t : List AV) (ps : List (Nat × Nat × Opd)) (fr : Fr) (h : Hp) (K : Fr → Hp → Prop) : wop P d (.bar s t ps) fr h K = (buildK fr t ps (fun l => K (put d (.agg l) fr) h)) := id rfl
theorem wop_bsh (d : Option Nat) (e s n : Nat) (t : List AV) (ps : List (Nat × Nat × Opd)) (fr : Fr) (h : Hp) (K : Fr → Hp → Prop) : wop P d (.bsh e s n t ps) fr h K = (buildK fr t ps (fun l => K (put d (.hs h.length n) fr) (h ++ [some (false, l)]))) := id rfl
theorem wop_store (d : Option Nat) (n : Nat) (a x : Opd) (fr : Fr) (h : Hp) (K : Fr → Hp → Prop) : wop P d (.store n a x) fr h K = (match ev fr a, ev fr x with
  | some (.ptr id off), some v => (match h[id]? with
   | some (some (false, l)) => (isTup v = false ∧ (cellsOf v).length = n ∧ off + n ≤ l.length) ∧ K fr (h.set id (some (false, splice l off (cellsOf v))))
   | _ => False)
  | _, _ => False) := id rfl
theorem wop_storeo (d : Option Nat) (a : Opd) (q : Nat) (fr : Fr) (h : Hp) (K : Fr → Hp → Prop) : wop P d (.storeo a q) fr h K = (match ev fr a, lk fr q with
  | some (.ptr id off), some (.lst (.own e) n c) => (match h[id]? with
   | some (some (false, l)) => off < l.length ∧ K (degr q fr) (h.set id (some (false, l.set off (.lst (.own e) n c))))
   | _ => False)
  | _, _ => False) := id rfl
theorem wop_stores (d : Option Nat) (n : Nat) (a x : Opd) (fr : Fr) (h : Hp) (K : Fr → Hp → Prop) : wop P d (.stores n a x) fr h K = (match ev fr a, ev fr x with
  | some (.ptr id off), some v => (match h[id]? with
   | some (some (false, l)) => (isTup v = false ∧ (cellsOf v).length = n ∧ off + n ≤ l.length) ∧ K fr (h.set id (some (true, splice l off (cellsOf v))))
   | _ => False)
  | _, _ => False) := id rfl
theorem eff_store (n : Nat) (a x : Opd) (fr : Fr) (h : Hp) (R : AV → Hp → Prop) : eff P (.store n a x) fr h R = (match ev fr a, ev fr x with
  | some (.ptr id off), some v => (match h[id]? with
   | some (some (false, l)) => (isTup v = false ∧ (cellsOf v).length = n ∧ off + n ≤ l.length) ∧ R .nilp (h.set id (some (false, splice l off (cellsOf v))))
   | _ => False)
  | _, _ => False) := id rfl
theorem eff_storeo (a : Opd) (q : Nat) (fr : Fr) (h : Hp) (R : AV → Hp → Prop) : eff P (.storeo a q) fr h R = (match ev fr a, lk fr q with
  | some (.ptr id off), some (.lst (.own e) n c) => (match h[id]? with
   | some (some (false, l)) => off < l.length ∧ R .nilp (h.set id (some (false, l.set off (.lst (.own e) n c))))
   | _ => False)
  | _, _ => False) := id rfl
theorem eff_stores (n : Nat) (a x : Opd) (fr : Fr) (h : Hp) (R : AV → Hp → Prop) : eff P (.stores n a x) fr h R = (match ev fr a, ev fr x with
  | some (.ptr id off), some v => (match h[id]? with
   | some (some (false, l)) => (isTup v = false ∧ (cellsOf v).length = n ∧ off + n ≤ l.length) ∧ R .nilp (h.set id (some (true, splice l off (cellsOf v))))
   | _ => False)
  | _, _ => False) := id rfl
theorem wop_call (d : Option Nat) (f : Opd) (l : List Opd) (fr : Fr) (h : Hp) (K : Fr → Hp → Prop) : wop P d (.call f l) fr h K = (match ev fr f, evs fr l with
  | some (.fn f' caps), some l => ACalls P f' (l ++ caps) h (kcall d fr K)
  | some (.fnb f' bnd), some l => ACalls P f' (bnd ++ l) h (kcall d fr K)
  | _, _ => False) := id rfl
theorem eff_call (f : Opd) (l : List Opd) (fr : Fr) (h : Hp) (R : AV → Hp → Prop) : eff P (.call f l) fr h R = (match ev fr f, evs fr l with
  | some (.fn f' caps), some l => ∃ v, PCalls P f' (l ++ caps) v ∧ R v h
  | _, _ => False) := id rfl
theorem wop_calli (d : Option Nat) (f : Opd) (l : List Opd) (fr : Fr) (h : Hp) (K : Fr → Hp → Prop) : wop P d (.calli f l) fr h K = (match ev fr f, evs fr l with
  | some (.fn f' caps), some l => ACalls P f' (l ++ caps) h (kcall d fr K)
  | _, _ => False) := id rfl
theorem eff_calli (f : Opd) (l : List Opd) (fr : Fr) (h : Hp) (R : AV → Hp → Prop) : eff P (.calli f l) fr h R = (match ev fr f, evs fr l with
  | some (.fn f' caps), some l => ∃ v hv, ACalls P f' (l ++ caps) h (fun a h' => a = v ∧ h' = hv) ∧ SealEq h hv ∧ R v hv
  | _, _ => False) := id rfl
theorem wop_snil (d : Option Nat) (n : Bool) (x : Opd) (fr : Fr) (h : Hp) (K : Fr → Hp → Prop) : wop P d (.snil n x) fr h K = (match ev fr x with
  | some (.lst _ m _) => K (put d (.bool n) fr) h ∧ (m = 0 → K (put d (.bool (!n)) fr) h)
  | some (.hs _ _) => K (put d (.bool n) fr) h
  | some (.hsc _ _ _) => K (put d (.bool n) fr) h
  | _ => False) := id rfl
theorem eff_snil (n : Bool) (x : Opd) (fr : Fr) (h : Hp) (R : AV → Hp → Prop) : eff P (.snil n x) fr h R = (match ev fr x with
  | some (.lst _ m _) => m ≠ 0 ∧ R (.bool n) h
  | some (.hs _ _) => R (.bool n) h
  | some (.hsc _ _ _) => R (.bool n) h
  | _ => False) := id rfl
theorem wop_storeu (d : Option Nat) (n : Nat) (u : List (Nat × Nat × Nat)) (a x : Opd) (fr : Fr) (h : Hp) (K : Fr → Hp → Prop) : wop P d (.storeu n u a x) fr h K = (match ev fr a, ev fr x with
  | some (.ptr id 0), some v => (match h[id]? with
   | some (some (false, l)) => (isTup v = false ∧ (cellsOf v).length = n ∧ n ≤ l.length) ∧ upgK u (cellsOf v) (fun l' => K fr (h.set id (some (false, splice l 0 l'))))
   | _ => False)
  | _, _ => False) := id rfl
theorem wop_rngs (d : Option Nat) (x : Opd) (fr : Fr) (h : Hp) (K : Fr → Hp → Prop) : wop P d (.rngs x) fr h K = (match ev fr x with
  | some (.str s) => K (put d (.itr s 0) fr) h
  | _ => False) := id rfl
theorem wop_nxt (d : Option Nat) (k : Nat) (fr : Fr) (h : Hp) (K : Fr → Hp → Prop) : wop P d (.nxt k) fr h K = (match lk fr k with
  | some (.itr s pos) => if pos < s.size then K (put d (.tup [.bool true, .int .i64 pos, .int .i32 (Utf8.decode s pos).1]) ((k, .itr s (pos + (Utf8.decode s pos).2)) :: fr)) h else K (put d (.tup [.bool false]) fr) h
  | _ => False) := id rfl
theorem tk_mv (x : Opd) (fr : Fr) : tk (.mv x) fr = fr := id rfl
theorem tk_pick (c x y : Opd) (fr : Fr) : tk (.pick c x y) fr = fr := id rfl
theorem tk_build (t : List AV) (ps : List (Nat × Nat × Opd)) (fr : Fr) : tk (.build t ps) fr = fr := id rfl
theorem tk_load (s : Option Nat) (x : Opd) (fr : Fr) : tk (.load s x) fr = fr := id rfl
theorem tk_lds (s : Option Nat) (x : Opd) (fr : Fr) : tk (.lds s x) fr = fr := id rfl
theorem tk_nilck (x : Opd) (fr : Fr) : tk (.nilck x) fr = fr := id rfl
theorem tk_bin (op : BinOp) (x y : Opd) (fr : Fr) : tk (.bin op x y) fr = fr := id rfl
theorem tk_pnil (n : Bool) (x : Opd) (fr : Fr) : tk (.pnil n x) fr = fr := id rfl
theorem tk_bbin (n : Bool) (x y : Opd) (fr : Fr) : tk (.bbin n x y) fr = fr := id rfl
theorem tk_not (x : Opd) (fr : Fr) : tk (.not x) fr = fr := id rfl
theorem tk_conv (i : IntKind) (x : Opd) (fr : Fr) : tk (.conv i x) fr = fr := id rfl
theorem tk_cstr (x : Opd) (fr : Fr) : tk (.cstr x) fr = fr := id rfl
theorem tk_b2s (x : Opd) (fr : Fr) : tk (.b2s x) fr = fr := id rfl
theorem tk_fld (o : Nat) (x : Opd) (fr : Fr) : tk (.fld o x) fr = fr := id rfl
theorem tk_idxa (s : Nat) (x y : Opd) (fr : Fr) : tk (.idxa s x y) fr = fr := id rfl
theorem tk_idxs (x y : Opd) (fr : Fr) : tk (.idxs x y) fr = fr := id rfl
theorem tk_slcs (x : Opd) (lo hi : Option Opd) (fr : Fr) : tk (.slcs x lo hi) fr = fr := id rfl
theorem tk_slcl (s : Nat) (x : Opd) (lo hi mx : Option Opd) (fr : Fr) : tk (.slcl s x lo hi mx) fr = fr := id rfl
theorem tk_ext (i : Nat) (x : Opd) (fr : Fr) : tk (.ext i x) fr = fr := id rfl
theorem tk_lens (x : Opd) (fr : Fr) : tk (.lens x) fr = fr := id rfl
theorem tk_lenl (x : Opd) (fr : Fr) : tk (.lenl x) fr = fr := id rfl
theorem tk_mn (x y : Opd) (fr : Fr) : tk (.mn x y) fr = fr := id rfl
theorem tk_mx (x y : Opd) (fr : Fr) : tk (.mx x y) fr = fr := id rfl
theorem tk_ex (e : Ex) (xs : List Opd) (fr : Fr) : tk (.ex e xs) fr = fr := id rfl
theorem tk_mkfn (f : FuncId) (c : List Opd) (fr : Fr) : tk (.mkfn f c) fr = fr := id rfl
theorem tk_mvu (e s : Nat) (x : Opd) (fr : Fr) : tk (.mvu e s x) fr = fr := id rfl
theorem tk_mvo (q : Nat) (fr : Fr) : tk (.mvo q) fr = degr q fr := id rfl
theorem tk_new (l : List AV) (u : List (Nat × Nat × Nat)) (fr : Fr) : tk (.new l u) fr = fr := id rfl
theorem tk_box (x : Opd) (u : List (Nat × Nat × Nat)) (fr : Fr) : tk (.box x u) fr = fr := id rfl
theorem tk_bsl (e s n : Nat) (t : List AV) (ps : List (Nat × Nat × Opd)) (fr : Fr) : tk (.bsl e s n t ps) fr = fr := id rfl
theorem tk_mk0 (e s b : Nat) (c : Opd) (fr : Fr) : tk (.mk0 e s b c) fr = fr := id rfl
theorem tk_mkn (e s b : Nat) (z : List AV) (c : Opd) (fr : Fr) : tk (.mkn e s b z c) fr = fr := id rfl
theorem tk_loado (x : Opd) (fr : Fr) : tk (.loado x) fr = fr := id rfl
theorem tk_app (e s b : Nat) (x y : Opd) (fr : Fr) : tk (.app e s b x y) fr = fr := id rfl
theorem tk_appo (e s b q : Nat) (y : Opd) (fr : Fr) : tk (.appo e s b q y) fr = degr q fr := id rfl
theorem tk_appso (e q : Nat) (y : Opd) (fr : Fr) : tk (.appso e q y) fr = degr q fr := id rfl
theorem tk_store (n : Nat) (a x : Opd) (fr : Fr) : tk (.store n a x) fr = fr := id rfl
theorem tk_storeo (a : Opd) (q : Nat) (fr : Fr) : tk (.storeo a q) fr = degr q fr := id rfl
theorem tk_call (f : Opd) (l : List Opd) (fr : Fr) : tk (.call f l) fr = fr := id rfl
theorem tk_stores (n : Nat) (a x : Opd) (fr : Fr) : tk (.stores n a x) fr = fr := id rfl
theorem tk_calli (f : Opd) (l : List Opd) (fr : Fr) : tk (.calli f l) fr = fr := id rfl
theorem tk_snil (n : Bool) (x : Opd) (fr : Fr) : tk (.snil n x) fr = fr := id rfl
theorem ex_wadd (k : IntKind) (x y : Int) : exF (.binw .add) [.int k x, .int k y] = some (.int k (k.wrap (x + y))) := by simp [exF, exF0]
theorem ex_wsub (k : IntKind) (x y : Int) : exF (.binw .sub) [.int k x, .int k y] = some (.int k (k.wrap (x - y))) := by simp [exF, exF0]
theorem ex_wmul (k : IntKind) (x y : Int) : exF (.binw .mul) [.int k x, .int k y] = some (.int k (k.wrap (x * y))) := by simp [exF, exF0]
theorem ex_aeq (n : Bool) (ks : List Nat) (l m : List AV) : exF (.aeq n ks) [.agg l, .agg m] = (eqCells ks l m).map (fun r => .bool (if n then !r else r)) := id rfl
theorem ex_r2s (k : IntKind) (n : Int) : exF .r2s [.int k n] = some (.str (Utf8.encode n)) := id rfl
theorem ex_ibs (s : ByteArray) (c : Int) : exF .ibs [.str s, .int .u8 c] = some (.int .i64 (indexByte s.data.toList c.toNat.toUInt8)) := id rfl
theorem ex_mkb (f : FuncId) (l : List AV) : exF (.mkb f) l = some (.fnb f l) := id rfl
theorem deg_itr (s : ByteArray) (p : Nat) : deg (.itr s p) = .opq := id rfl
theorem wop_mmk (d : Option Nat) (fr : Fr) (h : Hp) (K : Fr → Hp → Prop) : wop P d .mmk fr h K = (∀ b, K (put d (.omp b [] []) fr) h) := id rfl
theorem wop_mup (d : Option Nat) (st : Bool) (k : Nat) (m x y : Opd) (fr : Fr) (h : Hp) (K : Fr → Hp → Prop) : wop P d (.mup st k m x y) fr h K = (match lk fr k, ev fr m, ev fr x, ev fr y with
  | some (.omp q ks vs), some (.mp q'), some a, some b => (q' = q ∧ (isKey st a && ks.all (kSame a) && (pv b).isSome) = true) ∧ K ((k, .omp q (mKeys a ks) (mVals a b ks vs)) :: fr) h
  | _, _, _, _ => False) := id rfl
theorem wop_mfz (d : Option Nat) (q : Nat) (fr : Fr) (h : Hp) (K : Fr → Hp → Prop) : wop P d (.mfz q) fr h K = (match lk fr q with
  | some (.omp _ ks vs) => K (put d (.fmp ks vs) (degr q fr)) h
  | _ => False) := id rfl
theorem wop_mmv (d : Option Nat) (q : Nat) (fr : Fr) (h : Hp) (K : Fr → Hp → Prop) : wop P d (.mmv q) fr h K = (match lk fr q with
  | some (.omp b ks vs) => K (put d (.omp b ks vs) (degr q fr)) h
  | _ => False) := id rfl
theorem wop_mra (d : Option Nat) (q : Nat) (fr : Fr) (h : Hp) (K : Fr → Hp → Prop) : wop P d (.mra q) fr h K = (match lk fr q with
  | some (.omp b _ _) => K (put d (.mp b) fr) h
  | _ => False) := id rfl
theorem wop_cpy (d : Option Nat) (sz : Nat) (x y : Opd) (fr : Fr) (h : Hp) (K : Fr → Hp → Prop) : wop P d (.cpy sz x y) fr h K = (match ev fr x, ev fr y with
  | some (.hs id n), some (.lst _ m l') => (match h[id]? with
   | some (some (false, l)) => (l'.length = m * sz ∧ n * sz ≤ l.length) ∧ K (put d (.int .i64 (min m n : Nat)) fr) (h.set id (some (false, splice l 0 (l'.take (min m n * sz)))))
   | _ => False)
  | _, _ => False) := id rfl
theorem eff_cpy (sz : Nat) (x y : Opd) (fr : Fr) (h : Hp) (R : AV → Hp → Prop) : eff P (.cpy sz x y) fr h R = (match ev fr x, ev fr y with
  | some (.hs id n), some (.lst _ m l') => (match h[id]? with
   | some (some (false, l)) => (l'.length = m * sz ∧ n * sz ≤ l.length) ∧ R (.int .i64 (min m n : Nat)) (h.set id (some (false, splice l 0 (l'.take (min m n * sz)))))
   | _ => False)
  | _, _ => False) := id rfl
theorem tk_cpy (sz : Nat) (x y : Opd) (fr : Fr) : tk (.cpy sz x y) fr = fr := id rfl
theorem ex_zag (z : List AV) : exF (.zag z) [] = some (.agg z) := id rfl
theorem wop_apc (d : Option Nat) (e sz bytes : Nat) (zero : List AV) (x y : Opd) (fr : Fr) (h : Hp) (K : Fr → Hp → Prop) : wop P d (.apc e sz bytes zero x y) fr h K = (match ev fr x, (ev fr y).bind (rowA h sz) with
  | some (.lst .clip n l), some (m, l') => (l.length = n * sz ∧ l'.length = m * sz ∧ 0 < m ∧ n + m ≤ 9223372036854775807 ∧ (n + m) * bytes ≤ 140737488355328) ∧ ∀ k : Nat, K (put d (.hsc h.length (n + m) (n + m + k)) fr) (h ++ [some (false, (l ++ l') ++ zrow zero sz (k * sz))])
  | some (.hsc id n c), some (m, l') => (match h[id]?, isLst (ev fr y) with
   | some (some (false, l)), true => (l.length = c * sz ∧ l'.length = m * sz ∧ 0 < m ∧ n ≤ c ∧ n + m ≤ 9223372036854775807 ∧ (n + m) * bytes ≤ 140737488355328) ∧ (n + m ≤ c → K (put d (.hsc id (n + m) c) fr) (h.set id (some (false, splice l (n * sz) l')))) ∧ (c < n + m → ∀ k : Nat, K (put d (.hsc h.length (n + m) (n + m + k)) fr) (h ++ [some (false, ((l.take (n * sz)).map deg ++ l') ++ zrow zero sz (k * sz))]))
   | _, _ => False)
  | _, _ => False) := id rfl
theorem obind (a : AV) (f : AV → Option (Nat × List AV)) : (some a).bind f = f a := id rfl
theorem rowA_lst (h : Hp) (sz : Nat) (f : Fl) (m : Nat) (l : List AV) : rowA h sz (.lst f m l) = some (m, l) := id rfl
theorem isLst_lst (f : Fl) (m : Nat) (l : List AV) : isLst (some (.lst f m l)) = true := id rfl
theorem rowA_hs (h : Hp) (sz i' m : Nat) : rowA h sz (.hs i' m) = (match h[i']? with
  | some (some (_, l)) => if m * sz ≤ l.length then some (m, (l.take (m * sz)).map deg) else none
  | _ => none) := id rfl
theorem wop_slch (d : Option Nat) (sz : Nat) (x j : Opd) (fr : Fr) (h : Hp) (K : Fr → Hp → Prop) : wop P d (.slch sz x j) fr h K = (match ev fr x, ev fr j with
  | some (.hsc id n c), some (.int _ j) => (0 ≤ j ∧ j ≤ n) ∧ K (put d (.hsc id j.toNat c) fr) h
  | _, _ => False) := id rfl
theorem wop_aph (d : Option Nat) (e sz bytes : Nat) (x y : Opd) (fr : Fr) (h : Hp) (K : Fr → Hp → Prop) : wop P d (.aph e sz bytes x y) fr h K = (match ev fr x, ev fr y with
  | some (.lst .clip n l), some (.hs id m) => (match h[id]? with
   | some (some (_, l')) => (l.length = n * sz ∧ m * sz ≤ l'.length ∧ n + m ≤ 9223372036854775807 ∧ (n + m) * bytes ≤ 140737488355328) ∧ K (put d (.lst (.own e) (n + m) (l ++ (l'.take (m * sz)).map deg)) fr) h
   | _ => False)
  | _, _ => False) := id rfl
theorem ex_mlk (st ag : Bool) (z : List AV) (ok : Bool) (l : List AV) : exF (.mlk st ag z ok) l = mlkF st ag z ok l := id rfl
theorem ex_idp (sz n : Nat) (l : List AV) : exF (.idp sz n) l = idpF sz n l := id rfl
theorem ex_sla (n : Nat) (l : List AV) : exF (.sla n) l = slaF n l := id rfl
theorem deg_omp (b : Nat) (ks vs : List AV) : deg (.omp b ks vs) = .mp b := id rfl
theorem deg_mp (b : Nat) : deg (.mp b) = .mp b := id rfl
theorem isTup_mp (b : Nat) : isTup (.mp b) = false := id rfl
theorem cellsOf_mp (b : Nat) : cellsOf (.mp b) = [.mp b] := id rfl
theorem deg_fmp (ks vs : List AV) : deg (.fmp ks vs) = .fmp ks vs := id rfl
theorem isTup_fmp (ks vs : List AV) : isTup (.fmp ks vs) = false := id rfl
theorem cellsOf_fmp (ks vs : List AV) : cellsOf (.fmp ks vs) = [.fmp ks vs] := id rfl
theorem int_add (i j : IntKind) (x y : Int) (K : AV → Prop) : bin2 .add (.int i x) (.int j y) K = (i = j ∧ arith i (x + y) K) := id rfl
theorem int_sub (i j : IntKind) (x y : Int) (K : AV → Prop) : bin2 .sub (.int i x) (.int j y) K = (i = j ∧ arith i (x - y) K) := id rfl
theorem int_mul (i j : IntKind) (x y : Int) (K : AV → Prop) : bin2 .mul (.int i x) (.int j y) K = (i = j ∧ arith i (x * y) K) := id rfl
theorem int_quo (i j : IntKind) (x y : Int) (K : AV → Prop) : bin2 .quo (.int i x) (.int j y) K = (i = j ∧ y ≠ 0 ∧ arith i (x.tdiv y) K) := id rfl
theorem int_rem (i j : IntKind) (x y : Int) (K : AV → Prop) : bin2 .rem (.int i x) (.int j y) K = (i = j ∧ y ≠ 0 ∧ K (.int i (x.tmod y))) := id rfl
theorem int_and (i j : IntKind) (x y : Int) (K : AV → Prop) : bin2 .and (.int i x) (.int j y) K = (i = j ∧ K (.int i (bitV .and i x y))) := id rfl
theorem int_andNot (i j : IntKind) (x y : Int) (K : AV → Prop) : bin2 .andNot (.int i x) (.int j y) K = (i = j ∧ K (.int i (bitV .andNot i x y))) := id rfl
theorem int_or (i j : IntKind) (x y : Int) (K : AV → Prop) : bin2 .or (.int i x) (.int j y) K = (i = j ∧ K (.int i (bitV .or i x y))) := id rfl
theorem int_xor (i j : IntKind) (x y : Int) (K : AV → Prop) : bin2 .xor (.int i x) (.int j y) K = (i = j ∧ K (.int i (bitV .xor i x y))) := id rfl
theorem int_eql (i j : IntKind) (x y : Int) (K : AV → Prop) : bin2 .eql (.int i x) (.int j y) K = (i = j ∧ K (.bool (decide (x = y)))) := id rfl
theorem int_neq (i j : IntKind) (x y : Int) (K : AV → Prop) : bin2 .neq (.int i x) (.int j y) K = (i = j ∧ K (.bool (decide (x ≠ y)))) := id rfl
theorem int_lss (i j : IntKind) (x y : Int) (K : AV → Prop) : bin2 .lss (.int i x) (.int j y) K = (i = j ∧ K (.bool (decide (x < y)))) := id rfl
theorem int_leq (i j : IntKind) (x y : Int) (K : AV → Prop) : bin2 .leq (.int i x) (.int j y) K = (i = j ∧ K (.bool (decide (x ≤ y)))) := id rfl
theorem int_gtr (i j : IntKind) (x y : Int) (K : AV → Prop) : bin2 .gtr (.int i x) (.int j y) K = (i = j ∧ K (.bool (decide (y < x)))) := id rfl
theorem int_geq (i j : IntKind) (x y : Int) (K : AV → Prop) : bin2 .geq (.int i x) (.int j y) K = (i = j ∧ K (.bool (decide (y ≤ x)))) := id rfl
theorem int_shl (i j : IntKind) (x y : Int) (K : AV → Prop) : bin2 .shl (.int i x) (.int j y) K = (0 ≤ y ∧ K (.int i (i.wrap (x * 2 ^ (min y.toNat i.bits))))) := id rfl
theorem int_shr (i j : IntKind) (x y : Int) (K : AV → Prop) : bin2 .shr (.int i x) (.int j y) K = (0 ≤ y ∧ K (.int i (x.fdiv (2 ^ (min y.toNat i.bits))))) := id rfl
theorem str_add (x y : ByteArray) (K : AV → Prop) : bin2 .add (.str x) (.str y) K = (x.size + y.size ≤ 9223372036854775807 ∧ K (.str (x ++ y))) := id rfl
theorem str_eql (x y : ByteArray) (K : AV → Prop) : bin2 .eql (.str x) (.str y) K = (K (.bool (decide (x = y)))) := id rfl
theorem str_neq (x y : ByteArray) (K : AV → Prop) : bin2 .neq (.str x) (.str y) K = (K (.bool (decide (x ≠ y)))) := id rfl
theorem str_lss (x y : ByteArray) (K : AV → Prop) : bin2 .lss (.str x) (.str y) K = (K (.bool (Op.bytesLess x.toList y.toList))) := id rfl
theorem arith_i8 (z : Int) (K : AV → Prop) : arith .i8 z K = K (.int .i8 (IntKind.i8.wrap z)) := id rfl
theorem arith_i16 (z : Int) (K : AV → Prop) : arith .i16 z K = K (.int .i16 (IntKind.i16.wrap z)) := id rfl
theorem arith_i32 (z : Int) (K : AV → Prop) : arith .i32 z K = K (.int .i32 (IntKind.i32.wrap z)) := id rfl
theorem arith_u8 (z : Int) (K : AV → Prop) : arith .u8 z K = K (.int .u8 (IntKind.u8.wrap z)) := id rfl
theorem arith_u16 (z : Int) (K : AV → Prop) : arith .u16 z K = K (.int .u16 (IntKind.u16.wrap z)) := id rfl
theorem arith_u32 (z : Int) (K : AV → Prop) : arith .u32 z K = K (.int .u32 (IntKind.u32.wrap z)) := id rfl
theorem arith_u64 (z : Int) (K : AV → Prop) : arith .u64 z K = K (.int .u64 (IntKind.u64.wrap z)) := id rfl
theorem arith_i64 (z : Int) (K : AV → Prop) : arith .i64 z K = (inR z ∧ K (.int .i64 z)) := id rfl
theorem loadK_none (a : AV) (l : List AV) (K : AV → Prop) : loadK none (a :: l) K = K (deg a) := id rfl
theorem loadK_some (n : Nat) (l : List AV) (K : AV → Prop) : loadK (some n) l K = (n ≤ l.length ∧ K (.agg ((l.take n).map deg))) := id rfl
theorem deg_bool (b : Bool) : deg (.bool b) = (.bool b) := id rfl
theorem isTup_bool (b : Bool) : isTup (.bool b) = false := id rfl
theorem cellsOf_bool (b : Bool) : cellsOf (.bool b) = [.bool b] := id rfl
theorem deg_int (i : IntKind) (n : Int) : deg (.int i n) = (.int i n) := id rfl
theorem isTup_int (i : IntKind) (n : Int) : isTup (.int i n) = false := id rfl
theorem cellsOf_int (i : IntKind) (n : Int) : cellsOf (.int i n) = [.int i n] := id rfl
theorem deg_str (s : ByteArray) : deg (.str s) = (.str s) := id rfl
theorem isTup_str (s : ByteArray) : isTup (.str s) = false := id rfl
theorem cellsOf_str (s : ByteArray) : cellsOf (.str s) = [.str s] := id rfl
theorem deg_nilp  : deg .nilp = .nilp := id rfl
theorem isTup_nilp  : isTup .nilp = false := id rfl
theorem cellsOf_nilp  : cellsOf .nilp = [.nilp] := id rfl
theorem deg_ptr (i o : Nat) : deg (.ptr i o) = (.ptr i o) := id rfl
theorem isTup_ptr (i o : Nat) : isTup (.ptr i o) = false := id rfl
theorem cellsOf_ptr (i o : Nat) : cellsOf (.ptr i o) = [.ptr i o] := id rfl
theorem deg_fp (l : List AV) : deg (.fp l) = (.fp l) := id rfl
theorem isTup_fp (l : List AV) : isTup (.fp l) = false := id rfl
theorem cellsOf_fp (l : List AV) : cellsOf (.fp l) = [.fp l] := id rfl
theorem deg_hs (i n : Nat) : deg (.hs i n) = (.hs i n) := id rfl
theorem isTup_hs (i n : Nat) : isTup (.hs i n) = false := id rfl
theorem cellsOf_hs (i n : Nat) : cellsOf (.hs i n) = [.hs i n] := id rfl
theorem deg_hsc (i n c : Nat) : deg (.hsc i n c) = (.hsc i n c) := id rfl
theorem isTup_hsc (i n c : Nat) : isTup (.hsc i n c) = false := id rfl
theorem cellsOf_hsc (i n c : Nat) : cellsOf (.hsc i n c) = [.hsc i n c] := id rfl
theorem deg_agg (l : List AV) : deg (.agg l) = (.agg l) := id rfl
theorem isTup_agg (l : List AV) : isTup (.agg l) = false := id rfl
theorem cellsOf_agg (l : List AV) : cellsOf (.agg l) = l := id rfl
theorem deg_tup (l : List AV) : deg (.tup l) = (.tup l) := id rfl
theorem isTup_tup (l : List AV) : isTup (.tup l) = true := id rfl
theorem cellsOf_tup (l : List AV) : cellsOf (.tup l) = [.tup l] := id rfl
theorem deg_fn (f : FuncId) (l : List AV) : deg (.fn f l) = (.fn f l) := id rfl
theorem isTup_fn (f : FuncId) (l : List AV) : isTup (.fn f l) = false := id rfl
theorem cellsOf_fn (f : FuncId) (l : List AV) : cellsOf (.fn f l) = [.fn f l] := id rfl
theorem deg_fnb (f : FuncId) (l : List AV) : deg (.fnb f l) = (.fnb f l) := id rfl
theorem isTup_fnb (f : FuncId) (l : List AV) : isTup (.fnb f l) = false := id rfl
theorem cellsOf_fnb (f : FuncId) (l : List AV) : cellsOf (.fnb f l) = [.fnb f l] := id rfl
theorem deg_nilf  : deg .nilf = .nilf := id rfl
theorem isTup_nilf  : isTup .nilf = false := id rfl
theorem cellsOf_nilf  : cellsOf .nilf = [.nilf] := id rfl
theorem deg_opq  : deg .opq = .opq := id rfl
theorem isTup_opq  : isTup .opq = false := id rfl
theorem cellsOf_opq  : cellsOf .opq = [.opq] := id rfl
theorem deg_frn (Q : World → Value → Prop) : deg (.frn Q) = (.frn Q) := id rfl
theorem isTup_frn (Q : World → Value → Prop) : isTup (.frn Q) = false := id rfl
theorem cellsOf_frn (Q : World → Value → Prop) : cellsOf (.frn Q) = [.frn Q] := id rfl
theorem deg_ro (n : Nat) (l : List AV) : deg (.lst .ro n l) = .lst .ro n l := id rfl
theorem deg_clip (n : Nat) (l : List AV) : deg (.lst .clip n l) = .lst .clip n l := id rfl
theorem deg_own (e : TypeId) (n : Nat) (l : List AV) : deg (.lst (.own e) n l) = .lst .ro n l := id rfl
theorem isTup_lst (f : Fl) (n : Nat) (l : List AV) : isTup (.lst f n l) = false := id rfl
theorem cellsOf_lst (f : Fl) (n : Nat) (l : List AV) : cellsOf (.lst f n l) = [.lst f n l] := id rfl
end
theorem sel (p : Bool) (A B : Prop) : ((p = true → A) ∧ (p = false → B)) = (if p = true then A else B) := by cases p <;> simp
theorem selg (p want : Bool) (A B : Prop) : ((p = want → A) ∧ (p = !want → B)) = (if p = want then A else B) := by cases p <;> cases want <;> simp
theorem ite_and (c : Prop) [Decidable c] (A B : Prop) : (if c then A else B) = ((c → A) ∧ (¬ c → B)) := by
 by_cases h : c <;> simp [h]
theorem end_get (h : Hp) (x : Option (Bool × List AV)) : (h ++ [x])[h.length]? = some x := by simp
theorem end_set (h : Hp) (x y : Option (Bool × List AV)) : (h ++ [x]).set h.length y = h ++ [y] := by simp
section
variable (P : Program)
theorem W_cond2 (c : Opd) (a b : ACode) (fr : Fr) (h : Hp) (Q : Exit → Fr → Hp → Prop) : W P (.cond c a b) fr h Q = match ev fr c with
  | some (.bool p) => (if p = true then W P a fr h Q else W P b fr h Q)
  | _ => False := by
 rw [W_cond]
 simp only [sel] <;> rfl
theorem WOps_gd2 (d : Option Nat) (q : Nat) (want : Bool) (o : AOp) (f : Option (FB × List Nat)) (r : List AStm) (fr : Fr) (h : Hp) (K : Fr → Hp → Prop) : WOps P (⟨d, some (q, want), o, f⟩ :: r) fr h K = match lk fr q with
      | some (.bool p) => (if p = want then wop P d o ((q, .bool want) :: fr) h (kops P r K) else WOps P r (put d (.tup []) ((q, .bool (!want)) :: fr)) h K)
      | some (.tup []) => WOps P r (put d (.tup []) fr) h K
      | _ => False := by
  rw [WOps_gd']
  simp only [selg] <;> rfl
theorem VOps_gd2 (d : Option Nat) (q : Nat) (want : Bool) (o : AOp) (r : List AStm) (fr : Fr) (h : Hp) (K : Fr → Hp → Prop) : VOps P (⟨d, some (q, want), o, none⟩ :: r) fr h K = match lk fr q with
      | some (.bool p) => (if p = want then eff P o ((q, .bool want) :: fr) h (kput d o ((q, .bool want) :: fr) (kvops P r K)) else VOps P r (put d (.tup []) ((q, .bool (!want)) :: fr)) h K)
      | some (.tup []) => VOps P r (put d (.tup []) fr) h K
      | _ => False := by
  rw [VOps_gd']
  simp only [selg] <;> rfl
theorem VOps_gdft2 (d : Option Nat) (q : Nat) (want : Bool) (o : AOp) (b : FB) (ps : List Nat) (r : List AStm) (fr : Fr) (h : Hp) (K : Fr → Hp → Prop) : VOps P (⟨d, some (q, want), o, some (b, ps)⟩ :: r) fr h K = match lk fr q with
      | some (.bool p) => (if p = want then (apart ((q, .bool want) :: fr) (fbId b ((q, .bool want) :: fr) h) ps ∧ effF P b o ((q, .bool want) :: fr) h (kput d o ((q, .bool want) :: fr) (kvops P r K))) else VOps P r (put d (.tup []) ((q, .bool (!want)) :: fr)) h K)
      | some (.tup []) => VOps P r (put d (.tup []) fr) h K
      | _ => False := by
  rw [VOps_gdft']
  simp only [selg] <;> rfl
theorem wop_pick2 (d : Option Nat) (c x y : Opd) (fr : Fr) (h : Hp) (K : Fr → Hp → Prop) : wop P d (.pick c x y) fr h K = (match ev fr c with
  | some (.bool p) => (if p = true then (match ev fr x with
   | some a => K (put d a fr) h
   | none => False) else (match ev fr y with
   | some a => K (put d a fr) h
   | none => False))
  | _ => False) := by
 rw [wop_pick]
 simp only [sel] <;> rfl
theorem eff_pick2 (c x y : Opd) (fr : Fr) (h : Hp) (R : AV → Hp → Prop) : eff P (.pick c x y) fr h R = (match ev fr c with
  | some (.bool p) => (if p = true then (match ev fr x with
   | some a => R a h
   | none => False) else (match ev fr y with
   | some a => R a h
   | none => False))
  | _ => False) := by
 rw [eff_pick]
 simp only [sel] <;> rfl
end
theorem wk : type_of% (z (z (z (z (z (z (z (z (z (@W_skip) (z (@W_scope) (@W_dead))) (z (@kscope_normal) (z (@kscope_exit) (@kscope_ret)))) (z (z (@W_ops) (z (@W_draw) (@W_seq))) (z (@W_cond2) (z (@W_block) (@W_exit))))) (z (z (z (@W_ret) (z (@W_keep) (@kseq_normal))) (z (@kseq_exit) (z (@kseq_ret) (@kblock_normal)))) (z (z (@kblock_exit) (z (@kblock_ret) (@kloop_normal))) (z (@kloop_exit) (z (@kloop_ret) (@kret_normal)))))) (z (z (z (z (@kret_ret) (z (@kdraw_eq) (@kval_eq))) (z (@kv_eq) (z (@kput_eq) (@kbox_eq)))) (z (z (@kobj_eq) (z (@klst_eq) (@krow_eq))) (z (@kcall_eq) (z (@put_some) (@put_none))))) (z (z (z (@lk_cons') (z (@lk_nil) (@restr_nil))) (z (@restr_cons) (z (@ev_t) (@ev_c)))) (z (z (@ev_f) (z (@evs_nil) (@evs_cons))) (z (@evD_none) (z (@evD_some) (@degr_nil))))))) (z (z (z (z (z (@degr_cons) (z (@args0_nil) (@args0_cons))) (z (@buildK_nil) (z (@buildK_cons) (@upgK_nil)))) (z (z (@upgK_cons) (z (@resL_nil) (@resL_t))) (z (@resL_c) (z (@res1_one) (@res1_nil))))) (z (z (z (@res1_two) (z (@WOps_nil') (@WOps_cons'))) (z (@WOps_gd2) (z (@kops_eq') (@VOps_nil')))) (z (z (@VOps_cons') (z (@VOps_gd2) (@VOps_ft'))) (z (@VOps_gdft2) (z (@apart_nil) (@apart_cons)))))) (z (z (z (z (@ptrId_ptr) (z (@ptrId_hs) (@sameId_eq))) (z (@fbId_s) (z (@fbId_h) (@effF_load)))) (z (z (@effF_loado) (z (@effF_store) (@effF_stores))) (z (@effF_storeo) (z (@effF_calli) (@effF_new))))) (z (z (z (@effF_box) (z (@effF_mkn) (@W_holes))) (z (@rep2) (z (@rep3) (@kvops_eq')))) (z (z (@splice_cons') (z (@splice_nil') (@wop_mv))) (z (z (@eff_mv) (@wop_pick2)) (z (@eff_pick2) (@wop_build)))))))) (z (z (z (z (z (z (@eff_build) (z (@wop_load) (@eff_load))) (z (@wop_lds) (z (@eff_lds) (@wop_nilck)))) (z (z (@eff_nilck) (z (@wop_bin) (@eff_bin))) (z (@wop_pnil) (z (@eff_pnil) (@wop_bbin))))) (z (z (z (@eff_bbin) (z (@wop_not) (@eff_not))) (z (@wop_conv) (z (@eff_conv) (@wop_cstr)))) (z (z (@eff_cstr) (z (@wop_b2s) (@eff_b2s))) (z (@wop_fld) (z (@eff_fld) (@wop_idxa)))))) (z (z (z (z (@eff_idxa) (z (@wop_idxs) (@eff_idxs))) (z (@wop_slcs) (z (@eff_slcs) (@wop_slcl)))) (z (z (@eff_slcl) (z (@wop_ext) (@eff_ext))) (z (@wop_lens) (z (@eff_lens) (@wop_lenl))))) (z (z (z (@eff_lenl) (z (@wop_mn) (@eff_mn))) (z (@wop_mx) (z (@eff_mx) (@wop_ex)))) (z (z (@eff_ex) (z (@wop_mkfn) (@eff_mkfn))) (z (@wop_mvu) (z (@eff_mvu) (@wop_mvo))))))) (z (z (z (z (z (@eff_mvo) (z (@wop_new) (@eff_new))) (z (@wop_box) (z (@eff_box) (@wop_bsl)))) (z (z (@eff_bsl) (z (@wop_mk0) (@eff_mk0))) (z (@wop_mkn) (z (@eff_mkn) (@wop_loado))))) (z (z (z (@eff_loado) (z (@wop_app) (@eff_app))) (z (@wop_appo) (z (@eff_appo) (@wop_appso)))) (z (z (@eff_appso) (z (@wop_bar) (@wop_bsh))) (z (@wop_store) (z (@wop_storeo) (@wop_stores)))))) (z (z (z (z (@eff_store) (z (@eff_storeo) (@eff_stores))) (z (@wop_rngs) (z (@wop_nxt) (@wop_call)))) (z (z (@eff_call) (z (@wop_calli) (@eff_calli))) (z (@wop_snil) (z (@eff_snil) (@wop_storeu))))) (z (z (z (@tk_mv) (z (@tk_pick) (@tk_build))) (z (@tk_load) (z (@tk_lds) (@tk_nilck)))) (z (z (@tk_bin) (z (@tk_pnil) (@tk_bbin))) (z (z (@tk_not) (@tk_conv)) (z (@tk_cstr) (@tk_b2s))))))))) (z (z (z (z (z (z (z (@tk_fld) (z (@tk_idxa) (@tk_idxs))) (z (@tk_slcs) (z (@tk_slcl) (@tk_ext)))) (z (z (@tk_lens) (z (@tk_lenl) (@tk_mn))) (z (@tk_mx) (z (@tk_ex) (@tk_mkfn))))) (z (z (z (@tk_mvu) (z (@tk_mvo) (@tk_new))) (z (@tk_box) (z (@tk_bsl) (@tk_mk0)))) (z (z (@tk_mkn) (z (@tk_loado) (@tk_app))) (z (@tk_appo) (z (@tk_appso) (@tk_store)))))) (z (z (z (z (@tk_storeo) (z (@tk_call) (@tk_stores))) (z (@tk_calli) (z (@tk_snil) (@ex_wadd)))) (z (z (@ex_wsub) (z (@ex_wmul) (@ex_aeq))) (z (@ex_r2s) (z (@ex_ibs) (@ex_mkb))))) (z (z (z (@deg_itr) (z (@ex_zag) (@wop_apc))) (z (@obind) (z (@rowA_lst) (@isLst_lst)))) (z (z (@rowA_hs) (z (@wop_slch) (@wop_aph))) (z (@wop_mmv) (z (@wop_mra) (@wop_cpy))))))) (z (z (z (z (z (@eff_cpy) (z (@tk_cpy) (@deg_omp))) (z (@deg_mp) (z (@isTup_mp) (@cellsOf_mp)))) (z (z (@deg_fmp) (z (@isTup_fmp) (@cellsOf_fmp))) (z (@wop_mmk) (z (@wop_mup) (@wop_mfz))))) (z (z (z (@ex_mlk) (z (@ex_idp) (@ex_sla))) (z (@int_add) (z (@int_sub) (@int_mul)))) (z (z (@int_quo) (z (@int_rem) (@int_and))) (z (@int_andNot) (z (@int_or) (@int_xor)))))) (z (z (z (z (@int_eql) (z (@int_neq) (@int_lss))) (z (@int_leq) (z (@int_gtr) (@int_geq)))) (z (z (@int_shl) (z (@int_shr) (@str_add))) (z (@str_eql) (z (@str_neq) (@str_lss))))) (z (z (z (@arith_i8) (z (@arith_i16) (@arith_i32))) (z (@arith_u8) (z (@arith_u16) (@arith_u32)))) (z (z (@arith_u64) (z (@arith_i64) (@loadK_none))) (z (z (@loadK_some) (@deg_bool)) (z (@isTup_bool) (@cellsOf_bool)))))))) (z (z (z (z (z (z (@deg_int) (z (@isTup_int) (@cellsOf_int))) (z (@deg_str) (z (@isTup_str) (@cellsOf_str)))) (z (z (@deg_nilp) (z (@isTup_nilp) (@cellsOf_nilp))) (z (@deg_ptr) (z (@isTup_ptr) (@cellsOf_ptr))))) (z (z (z (@deg_fp) (z (@isTup_fp) (@cellsOf_fp))) (z (@deg_hs) (z (@isTup_hs) (@cellsOf_hs)))) (z (z (@deg_hsc) (z (@isTup_hsc) (@cellsOf_hsc))) (z (@deg_agg) (z (@isTup_agg) (@cellsOf_agg)))))) (z (z (z (z (@deg_tup) (z (@isTup_tup) (@cellsOf_tup))) (z (@deg_fn) (z (@isTup_fn) (@cellsOf_fn)))) (z (z (@deg_fnb) (z (@isTup_fnb) (@cellsOf_fnb))) (z (@deg_nilf) (z (@isTup_nilf) (@cellsOf_nilf))))) (z (z (z (@deg_opq) (z (@isTup_opq) (@cellsOf_opq))) (z (@deg_frn) (z (@isTup_frn) (@cellsOf_frn)))) (z (z (@deg_ro) (z (@deg_clip) (@deg_own))) (z (z (@isTup_lst) (@cellsOf_lst)) (z (@Option.map_some.{0, 0}) (@Option.map_none.{0, 0}))))))) (z (z (z (z (z (@Nat.zero_mul) (z (@Nat.add_zero) (@Nat.zero_add))) (z (@Nat.mul_one) (z (@Nat.succ_ne_self) (@Nat.one_ne_zero)))) (z (z (@Nat.zero_ne_one) (z (@List.length_cons.{0}) (@List.length_nil.{0}))) (z (@List.set_cons_zero.{0}) (z (@List.set_cons_succ.{0}) (@List.getElem?_cons_zero.{0}))))) (z (z (z (@List.getElem?_cons_succ.{0}) (z (@List.getElem?_nil.{0}) (@List.drop_zero.{0}))) (z (@List.drop_succ_cons.{0}) (z (@List.take_succ_cons.{0}) (@List.take_zero.{0})))) (z (z (@List.map_cons.{0, 0}) (z (@List.map_nil.{0, 0}) (@List.nil_append.{0}))) (z (@List.append_nil.{0}) (z (@List.cons_append.{0}) (@Bool.not_true)))))) (z (z (z (z (@Bool.not_false) (z (@Bool.true_eq_false) (@Bool.false_eq_true))) (z (@true_and) (z (@and_true) (@and_self)))) (z (z (@true_implies) (z (@false_implies) (@Bool.not_eq_true'))) (z (@Bool.not_eq_false') (z (@Bool.not_eq_eq_eq_not) (@decide_eq_true_eq))))) (z (z (z (@decide_eq_false_iff_not) (z (@Int.toNat_zero) (@not_true_eq_false))) (z (@not_false_eq_true) (z (@List.set_set.{0}) (@end_get)))) (z (z (@end_set) (z (@ite_and) (@decide_true))) (z (z (@decide_false) (@Bool.not_eq_true)) (z (@Bool.not_eq_false) (@Decidable.not_not)))))))))) (z (@Zm_eq) (@Zo_eq))) :=
 z (z (z (z (z (z (z (z (z (@W_skip) (z (@W_scope) (@W_dead))) (z (@kscope_normal) (z (@kscope_exit) (@kscope_ret)))) (z (z (@W_ops) (z (@W_draw) (@W_seq))) (z (@W_cond2) (z (@W_block) (@W_exit))))) (z (z (z (@W_ret) (z (@W_keep) (@kseq_normal))) (z (@kseq_exit) (z (@kseq_ret) (@kblock_normal)))) (z (z (@kblock_exit) (z (@kblock_ret) (@kloop_normal))) (z (@kloop_exit) (z (@kloop_ret) (@kret_normal)))))) (z (z (z (z (@kret_ret) (z (@kdraw_eq) (@kval_eq))) (z (@kv_eq) (z (@kput_eq) (@kbox_eq)))) (z (z (@kobj_eq) (z (@klst_eq) (@krow_eq))) (z (@kcall_eq) (z (@put_some) (@put_none))))) (z (z (z (@lk_cons') (z (@lk_nil) (@restr_nil))) (z (@restr_cons) (z (@ev_t) (@ev_c)))) (z (z (@ev_f) (z (@evs_nil) (@evs_cons))) (z (@evD_none) (z (@evD_some) (@degr_nil))))))) (z (z (z (z (z (@degr_cons) (z (@args0_nil) (@args0_cons))) (z (@buildK_nil) (z (@buildK_cons) (@upgK_nil)))) (z (z (@upgK_cons) (z (@resL_nil) (@resL_t))) (z (@resL_c) (z (@res1_one) (@res1_nil))))) (z (z (z (@res1_two) (z (@WOps_nil') (@WOps_cons'))) (z (@WOps_gd2) (z (@kops_eq') (@VOps_nil')))) (z (z (@VOps_cons') (z (@VOps_gd2) (@VOps_ft'))) (z (@VOps_gdft2) (z (@apart_nil) (@apart_cons)))))) (z (z (z (z (@ptrId_ptr) (z (@ptrId_hs) (@sameId_eq))) (z (@fbId_s) (z (@fbId_h) (@effF_load)))) (z (z (@effF_loado) (z (@effF_store) (@effF_stores))) (z (@effF_storeo) (z (@effF_calli) (@effF_new))))) (z (z (z (@effF_box) (z (@effF_mkn) (@W_holes))) (z (@rep2) (z (@rep3) (@kvops_eq')))) (z (z (@splice_cons') (z (@splice_nil') (@wop_mv))) (z (z (@eff_mv) (@wop_pick2)) (z (@eff_pick2) (@wop_build)))))))) (z (z (z (z (z (z (@eff_build) (z (@wop_load) (@eff_load))) (z (@wop_lds) (z (@eff_lds) (@wop_nilck)))) (z (z (@eff_nilck) (z (@wop_bin) (@eff_bin))) (z (@wop_pnil) (z (@eff_pnil) (@wop_bbin))))) (z (z (z (@eff_bbin) (z (@wop_not) (@eff_not))) (z (@wop_conv) (z (@eff_conv) (@wop_cstr)))) (z (z (@eff_cstr) (z (@wop_b2s) (@eff_b2s))) (z (@wop_fld) (z (@eff_fld) (@wop_idxa)))))) (z (z (z (z (@eff_idxa) (z (@wop_idxs) (@eff_idxs))) (z (@wop_slcs) (z (@eff_slcs) (@wop_slcl)))) (z (z (@eff_slcl) (z (@wop_ext) (@eff_ext))) (z (@wop_lens) (z (@eff_lens) (@wop_lenl))))) (z (z (z (@eff_lenl) (z (@wop_mn) (@eff_mn))) (z (@wop_mx) (z (@eff_mx) (@wop_ex)))) (z (z (@eff_ex) (z (@wop_mkfn) (@eff_mkfn))) (z (@wop_mvu) (z (@eff_mvu) (@wop_mvo))))))) (z (z (z (z (z (@eff_mvo) (z (@wop_new) (@eff_new))) (z (@wop_box) (z (@eff_box) (@wop_bsl)))) (z (z (@eff_bsl) (z (@wop_mk0) (@eff_mk0))) (z (@wop_mkn) (z (@eff_mkn) (@wop_loado))))) (z (z (z (@eff_loado) (z (@wop_app) (@eff_app))) (z (@wop_appo) (z (@eff_appo) (@wop_appso)))) (z (z (@eff_appso) (z (@wop_bar) (@wop_bsh))) (z (@wop_store) (z (@wop_storeo) (@wop_stores)))))) (z (z (z (z (@eff_store) (z (@eff_storeo) (@eff_stores))) (z (@wop_rngs) (z (@wop_nxt) (@wop_call)))) (z (z (@eff_call) (z (@wop_calli) (@eff_calli))) (z (@wop_snil) (z (@eff_snil) (@wop_storeu))))) (z (z (z (@tk_mv) (z (@tk_pick) (@tk_build))) (z (@tk_load) (z (@tk_lds) (@tk_nilck)))) (z (z (@tk_bin) (z (@tk_pnil) (@tk_bbin))) (z (z (@tk_not) (@tk_conv)) (z (@tk_cstr) (@tk_b2s))))))))) (z (z (z (z (z (z (z (@tk_fld) (z (@tk_idxa) (@tk_idxs))) (z (@tk_slcs) (z (@tk_slcl) (@tk_ext)))) (z (z (@tk_lens) (z (@tk_lenl) (@tk_mn))) (z (@tk_mx) (z (@tk_ex) (@tk_mkfn))))) (z (z (z (@tk_mvu) (z (@tk_mvo) (@tk_new))) (z (@tk_box) (z (@tk_bsl) (@tk_mk0)))) (z (z (@tk_mkn) (z (@tk_loado) (@tk_app))) (z (@tk_appo) (z (@tk_appso) (@tk_store)))))) (z (z (z (z (@tk_storeo) (z (@tk_call) (@tk_stores))) (z (@tk_calli) (z (@tk_snil) (@ex_wadd)))) (z (z (@ex_wsub) (z (@ex_wmul) (@ex_aeq))) (z (@ex_r2s) (z (@ex_ibs) (@ex_mkb))))) (z (z (z (@deg_itr) (z (@ex_zag) (@wop_apc))) (z (@obind) (z (@rowA_lst) (@isLst_lst)))) (z (z (@rowA_hs) (z (@wop_slch) (@wop_aph))) (z (@wop_mmv) (z (@wop_mra) (@wop_cpy))))))) (z (z (z (z (z (@eff_cpy) (z (@tk_cpy) (@deg_omp))) (z (@deg_mp) (z (@isTup_mp) (@cellsOf_mp)))) (z (z (@deg_fmp) (z (@isTup_fmp) (@cellsOf_fmp))) (z (@wop_mmk) (z (@wop_mup) (@wop_mfz))))) (z (z (z (@ex_mlk) (z (@ex_idp) (@ex_sla))) (z (@int_add) (z (@int_sub) (@int_mul)))) (z (z (@int_quo) (z (@int_rem) (@int_and))) (z (@int_andNot) (z (@int_or) (@int_xor)))))) (z (z (z (z (@int_eql) (z (@int_neq) (@int_lss))) (z (@int_leq) (z (@int_gtr) (@int_geq)))) (z (z (@int_shl) (z (@int_shr) (@str_add))) (z (@str_eql) (z (@str_neq) (@str_lss))))) (z (z (z (@arith_i8) (z (@arith_i16) (@arith_i32))) (z (@arith_u8) (z (@arith_u16) (@arith_u32)))) (z (z (@arith_u64) (z (@arith_i64) (@loadK_none))) (z (z (@loadK_some) (@deg_bool)) (z (@isTup_bool) (@cellsOf_bool)))))))) (z (z (z (z (z (z (@deg_int) (z (@isTup_int) (@cellsOf_int))) (z (@deg_str) (z (@isTup_str) (@cellsOf_str)))) (z (z (@deg_nilp) (z (@isTup_nilp) (@cellsOf_nilp))) (z (@deg_ptr) (z (@isTup_ptr) (@cellsOf_ptr))))) (z (z (z (@deg_fp) (z (@isTup_fp) (@cellsOf_fp))) (z (@deg_hs) (z (@isTup_hs) (@cellsOf_hs)))) (z (z (@deg_hsc) (z (@isTup_hsc) (@cellsOf_hsc))) (z (@deg_agg) (z (@isTup_agg) (@cellsOf_agg)))))) (z (z (z (z (@deg_tup) (z (@isTup_tup) (@cellsOf_tup))) (z (@deg_fn) (z (@isTup_fn) (@cellsOf_fn)))) (z (z (@deg_fnb) (z (@isTup_fnb) (@cellsOf_fnb))) (z (@deg_nilf) (z (@isTup_nilf) (@cellsOf_nilf))))) (z (z (z (@deg_opq) (z (@isTup_opq) (@cellsOf_opq))) (z (@deg_frn) (z (@isTup_frn) (@cellsOf_frn)))) (z (z (@deg_ro) (z (@deg_clip) (@deg_own))) (z (z (@isTup_lst) (@cellsOf_lst)) (z (@Option.map_some.{0, 0}) (@Option.map_none.{0, 0}))))))) (z (z (z (z (z (@Nat.zero_mul) (z (@Nat.add_zero) (@Nat.zero_add))) (z (@Nat.mul_one) (z (@Nat.succ_ne_self) (@Nat.one_ne_zero)))) (z (z (@Nat.zero_ne_one) (z (@List.length_cons.{0}) (@List.length_nil.{0}))) (z (@List.set_cons_zero.{0}) (z (@List.set_cons_succ.{0}) (@List.getElem?_cons_zero.{0}))))) (z (z (z (@List.getElem?_cons_succ.{0}) (z (@List.getElem?_nil.{0}) (@List.drop_zero.{0}))) (z (@List.drop_succ_cons.{0}) (z (@List.take_succ_cons.{0}) (@List.take_zero.{0})))) (z (z (@List.map_cons.{0, 0}) (z (@List.map_nil.{0, 0}) (@List.nil_append.{0}))) (z (@List.append_nil.{0}) (z (@List.cons_append.{0}) (@Bool.not_true)))))) (z (z (z (z (@Bool.not_false) (z (@Bool.true_eq_false) (@Bool.false_eq_true))) (z (@true_and) (z (@and_true) (@and_self)))) (z (z (@true_implies) (z (@false_implies) (@Bool.not_eq_true'))) (z (@Bool.not_eq_false') (z (@Bool.not_eq_eq_eq_not) (@decide_eq_true_eq))))) (z (z (z (@decide_eq_false_iff_not) (z (@Int.toNat_zero) (@not_true_eq_false))) (z (@not_false_eq_true) (z (@List.set_set.{0}) (@end_get)))) (z (z (@end_set) (z (@ite_and) (@decide_true))) (z (z (@decide_false) (@Bool.not_eq_true)) (z (@Bool.not_eq_false) (@Decidable.not_not)))))))))) (z (@Zm_eq) (@Zo_eq))
end Go.Proofs.YtedaffmkpljlnaaGreat
namespace Go.Proofs.YtedaffmkpljlnaaGreat
open Go.RowKit
def F_ref03_Equal : AFn :=
 ⟨26,[.t 4],.seq (.ops [Zo 4 (.mv (.c (.bool false)))])
 (.keep [0,1] (.seq (.seq (.ops [Zm 6 0,
 Zo 7 (.lenl (.t 6)),
 Zm 8 1,
 Zo 9 (.lenl (.t 8)),
 Zo 10 (.bin .neq (.t 7) (.t 9))])
 (.keep [0,1,10] (.cond (.t 10)
 (.seq (.ops [Zo 4 (.mv (.c (.bool false)))])
 (.ret))
 (.skip))))
 (.keep [0,1] (.seq (.seq (.ops [Zo 5 (.mv (.c (.int .i64 0)))])
 (.keep [0,1,5] (.block 0 (.loop [0,1,5] (.seq (.seq (.ops [Zm 11 5,
 Zm 12 0,
 Zo 13 (.lenl (.t 12)),
 Zo 14 (.bin .lss (.t 11) (.t 13))])
 (.keep [0,1,5,14] (.cond (.t 14)
 (.skip)
 (.exit 0))))
 (.keep [0,1,5] (.seq (.block 1 (.seq (.draw [0,1,5,25] [Zm 17 0,
 Zm 18 5,
 Zo 19 (.idxa 1 (.t 17) (.t 18)),
 Zo 20 (.load none (.t 19)),
 Zm 21 1,
 Zm 22 5,
 Zo 23 (.idxa 1 (.t 21) (.t 22)),
 Zo 24 (.load none (.t 23)),
 Zo 25 (.bin .neq (.t 20) (.t 24))])
 (.keep [0,1,5,25] (.cond (.t 25)
 (.seq (.ops [Zo 4 (.mv (.c (.bool false)))])
 (.ret))
 (.skip)))))
 (.keep [0,1,5] (.ops [Zm 15 5,
 Zo 16 (.bin .add (.t 15) (.c (.int .i64 1))),
 Zm 5 16])))))))))
 (.keep [] (.seq (.ops [Zo 4 (.mv (.c (.bool true)))])
 (.ret)))))))⟩
theorem F_ref03_Equal_ok : chkFn Tryz.prog 14 F_ref03_Equal = true := by kernel_rfl
def F_ref02_Of : AFn :=
 ⟨29,[.t 2],.seq (.ops [Zo 2 (.mv (.c (.str ⟨#[]⟩)))])
 (.keep [0] (.seq (.ops [Zo 5 (.bsl 5 1 0 [] []),
 Zo 3 (.mvo 5)])
 (.keep [0,3] (.seq (.seq (.ops [Zo 4 (.mv (.c (.int .i64 0)))])
 (.keep [0,3,4] (.block 0 (.loop [0,3,4] (.seq (.seq (.ops [Zm 6 4,
 Zm 7 0,
 Zo 8 (.lenl (.t 7)),
 Zo 9 (.bin .lss (.t 6) (.t 8))])
 (.keep [0,3,4,9] (.cond (.t 9)
 (.skip)
 (.exit 0))))
 (.keep [0,3,4] (.seq (.block 1 (.draw [0,3,4] [Zo 12 (.mvo 3),
 Zm 13 0,
 Zm 14 4,
 Zo 15 (.idxa 1 (.t 13) (.t 14)),
 Zo 16 (.load none (.t 15)),
 Zo 17 (.bin .quo (.t 16) (.c (.int .u16 256))),
 Zo 18 (.conv .u8 (.t 17)),
 Zm 19 0,
 Zm 20 4,
 Zo 21 (.idxa 1 (.t 19) (.t 20)),
 Zo 22 (.load none (.t 21)),
 Zo 23 (.bin .rem (.t 22) (.c (.int .u16 256))),
 Zo 24 (.conv .u8 (.t 23)),
 Zo 25 (.bsl 5 1 2 [(.int .u8 0),(.int .u8 0)] [(0,1,(.t 18)),(1,1,(.t 24))]),
 Zo 26 (.appo 5 1 1 12 (.t 25)),
 Zo 3 (.mvo 26)]))
 (.keep [0,3,4] (.ops [Zm 10 4,
 Zo 11 (.bin .add (.t 10) (.c (.int .i64 1))),
 Zm 4 11])))))))))
 (.keep [3] (.seq (.ops [Zm 27 3,
 Zo 28 (.b2s (.t 27)),
 Zm 2 28])
 (.ret)))))))⟩
theorem F_ref02_Of_ok : chkFn Tryz.prog 32 F_ref02_Of = true := by kernel_rfl
def F_set_May : AFn :=
 ⟨36,[.t 2],.seq (.ops [Zo 2 (.mv (.c (.bool false)))])
 (.keep [0] (.seq (.seq (.ops [Zm 5 0,
 Zo 6 (.lenl (.t 5)),
 Zo 7 (.bin .lss (.t 6) (.c (.int .i64 1))),
 Zm 8 7,
 ⟨some 9,(some (8,false)),.mv (.t 0),none⟩,
 ⟨some 10,(some (8,false)),.lenl (.t 9),none⟩,
 ⟨some 11,(some (8,false)),.bin .gtr (.t 10) (.c (.int .i64 16)),none⟩,
 Zo 12 (.pick (.t 8) (.c (.bool true)) (.t 11))])
 (.keep [0,12] (.cond (.t 12)
 (.seq (.ops [Zo 2 (.mv (.c (.bool false)))])
 (.ret))
 (.skip))))
 (.keep [0] (.seq (.seq (.ops [Zm 13 0,
 Zo 14 (.lenl (.t 13)),
 Zo 15 (.mv (.c (.int .i64 0)))])
 (.keep [0,13,14,15] (.block 0 (.loop [0,13,14,15] (.seq (.ops [Zo 16 (.bin .lss (.t 15) (.t 14))])
 (.keep [0,13,14,15,16] (.seq (.cond (.t 16)
 (.skip)
 (.exit 0))
 (.keep [0,13,14,15] (.seq (.block 1 (.seq (.ops [Zm 17 15,
 Zo 18 (.idxa 1 (.t 13) (.t 15)),
 Zo 19 (.load none (.t 18)),
 Zm 3 17,
 Zm 4 19])
 (.keep [0,3,4,13,14,15] (.seq (.seq (.ops [Zm 20 4,
 Zo 21 (.call (.f 65) [(.t 20)]),
 Zo 22 (.not (.t 21))])
 (.keep [0,3,4,13,14,15,22] (.cond (.t 22)
 (.seq (.ops [Zo 2 (.mv (.c (.bool false)))])
 (.ret))
 (.skip))))
 (.keep [0,3,4,13,14,15] (.seq (.ops [Zm 23 3,
 Zo 24 (.bin .gtr (.t 23) (.c (.int .i64 0))),
 Zm 25 24,
 ⟨some 26,(some (25,true)),.mv (.t 0),none⟩,
 ⟨some 27,(some (25,true)),.mv (.t 3),none⟩,
 ⟨some 28,(some (25,true)),.bin .sub (.t 27) (.c (.int .i64 1)),none⟩,
 ⟨some 29,(some (25,true)),.idxa 1 (.t 26) (.t 28),none⟩,
 ⟨some 30,(some (25,true)),.load none (.t 29),none⟩,
 ⟨some 31,(some (25,true)),.mv (.t 4),none⟩,
 ⟨some 32,(some (25,true)),.call (.f 66) [(.t 30),(.t 31)],none⟩,
 ⟨some 33,(some (25,true)),.not (.t 32),none⟩,
 Zo 34 (.pick (.t 25) (.t 33) (.c (.bool false)))])
 (.keep [0,13,14,15,34] (.cond (.t 34)
 (.seq (.ops [Zo 2 (.mv (.c (.bool false)))])
 (.ret))
 (.skip)))))))))
 (.keep [0,13,14,15] (.ops [Zo 35 (.bin .add (.t 15) (.c (.int .i64 1))),
 Zm 15 35])))))))))))
 (.keep [] (.seq (.ops [Zo 2 (.mv (.c (.bool true)))])
 (.ret)))))))⟩
theorem F_set_May_ok : chkFn Tryz.prog 35 F_set_May = true := by kernel_rfl
def F_ref03_May : AFn :=
 ⟨41,[.t 2],.seq (.ops [Zo 2 (.mv (.c (.bool false)))])
 (.keep [0] (.seq (.seq (.ops [Zm 4 0,
 Zo 5 (.lenl (.t 4)),
 Zo 6 (.bin .lss (.t 5) (.c (.int .i64 1))),
 Zm 7 6,
 ⟨some 8,(some (7,false)),.mv (.t 0),none⟩,
 ⟨some 9,(some (7,false)),.lenl (.t 8),none⟩,
 ⟨some 10,(some (7,false)),.bin .gtr (.t 9) (.c (.int .i64 16)),none⟩,
 Zo 11 (.pick (.t 7) (.c (.bool true)) (.t 10))])
 (.keep [0,11] (.cond (.t 11)
 (.seq (.ops [Zo 2 (.mv (.c (.bool false)))])
 (.ret))
 (.skip))))
 (.keep [0] (.seq (.seq (.ops [Zo 3 (.mv (.c (.int .i64 0)))])
 (.keep [0,3] (.block 0 (.loop [0,3] (.seq (.seq (.ops [Zm 12 3,
 Zm 13 0,
 Zo 14 (.lenl (.t 13)),
 Zo 15 (.bin .lss (.t 12) (.t 14))])
 (.keep [0,3,15] (.cond (.t 15)
 (.skip)
 (.exit 0))))
 (.keep [0,3] (.seq (.block 1 (.seq (.draw [0,3,40] [Zm 18 0,
 Zm 19 3,
 Zo 20 (.idxa 1 (.t 18) (.t 19)),
 Zo 21 (.load none (.t 20)),
 Zo 22 (.call (.f 74) [(.t 21)]),
 Zo 23 (.not (.t 22)),
 Zm 24 23,
 ⟨some 25,(some (24,false)),.mv (.t 3),none⟩,
 ⟨some 26,(some (24,false)),.bin .gtr (.t 25) (.c (.int .i64 0)),none⟩,
 ⟨some 27,(some (24,false)),.mv (.t 26),none⟩,
 ⟨some 28,(some (27,true)),.mv (.t 0),none⟩,
 ⟨some 29,(some (27,true)),.mv (.t 3),none⟩,
 ⟨some 30,(some (27,true)),.bin .sub (.t 29) (.c (.int .i64 1)),none⟩,
 ⟨some 31,(some (27,true)),.idxa 1 (.t 28) (.t 30),none⟩,
 ⟨some 32,(some (27,true)),.load none (.t 31),none⟩,
 ⟨some 33,(some (27,true)),.mv (.t 0),none⟩,
 ⟨some 34,(some (27,true)),.mv (.t 3),none⟩,
 ⟨some 35,(some (27,true)),.idxa 1 (.t 33) (.t 34),none⟩,
 ⟨some 36,(some (27,true)),.load none (.t 35),none⟩,
 ⟨some 37,(some (27,true)),.call (.f 75) [(.t 32),(.t 36)],none⟩,
 ⟨some 38,(some (27,true)),.not (.t 37),none⟩,
 ⟨some 39,(some (24,false)),.pick (.t 27) (.t 38) (.c (.bool false)),none⟩,
 Zo 40 (.pick (.t 24) (.c (.bool true)) (.t 39))])
 (.keep [0,3,40] (.cond (.t 40)
 (.seq (.ops [Zo 2 (.mv (.c (.bool false)))])
 (.ret))
 (.skip)))))
 (.keep [0,3] (.ops [Zm 16 3,
 Zo 17 (.bin .add (.t 16) (.c (.int .i64 1))),
 Zm 3 17])))))))))
 (.keep [] (.seq (.ops [Zo 2 (.mv (.c (.bool true)))])
 (.ret)))))))⟩
theorem F_ref03_May_ok : chkFn Tryz.prog 38 F_ref03_May = true := by kernel_rfl
def F_ref02_Atoms : AFn :=
 ⟨28,[.t 2],.seq (.ops [Zo 2 (.mv (.c (.lst .clip 0 [])))])
 (.keep [0] (.seq (.ops [Zo 5 (.bsl 57 1 0 [] []),
 Zo 3 (.mvo 5)])
 (.keep [0,3] (.seq (.seq (.ops [Zo 4 (.mv (.c (.int .i64 0)))])
 (.keep [0,3,4] (.block 0 (.loop [0,3,4] (.seq (.seq (.ops [Zm 6 4,
 Zo 7 (.bin .add (.t 6) (.c (.int .i64 1))),
 Zm 8 0,
 Zo 9 (.lens (.t 8)),
 Zo 10 (.bin .lss (.t 7) (.t 9))])
 (.keep [0,3,4,10] (.cond (.t 10)
 (.skip)
 (.exit 0))))
 (.keep [0,3,4] (.seq (.block 1 (.draw [0,3,4] [Zo 13 (.mvo 3),
 Zm 14 0,
 Zm 15 4,
 Zo 16 (.idxs (.t 14) (.t 15)),
 Zo 17 (.conv .u16 (.t 16)),
 Zo 18 (.bin .mul (.t 17) (.c (.int .u16 256))),
 Zm 19 0,
 Zm 20 4,
 Zo 21 (.bin .add (.t 20) (.c (.int .i64 1))),
 Zo 22 (.idxs (.t 19) (.t 21)),
 Zo 23 (.conv .u16 (.t 22)),
 Zo 24 (.bin .add (.t 18) (.t 23)),
 Zo 25 (.bsl 57 1 1 [(.int .u16 0)] [(0,1,(.t 24))]),
 Zo 26 (.appo 57 1 2 13 (.t 25)),
 Zo 3 (.mvo 26)]))
 (.keep [0,3,4] (.ops [Zm 11 4,
 Zo 12 (.bin .add (.t 11) (.c (.int .i64 2))),
 Zm 4 12])))))))))
 (.keep [3] (.seq (.ops [Zm 27 3,
 Zm 2 27])
 (.ret)))))))⟩
theorem F_ref02_Atoms_ok : chkFn Tryz.prog 39 F_ref02_Atoms = true := by kernel_rfl
def F_word_At : AFn :=
 ⟨26,[.t 4],.seq (.ops [Zo 4 (.mv (.c (.int .u16 0)))])
 (.keep [0,1] (.seq (.seq (.ops [Zm 5 1,
 Zo 6 (.bin .lss (.t 5) (.c (.int .i64 0))),
 Zm 7 6,
 ⟨some 8,(some (7,false)),.mv (.t 1),none⟩,
 ⟨some 9,(some (7,false)),.mv (.t 0),none⟩,
 ⟨some 10,(some (7,false)),.call (.f 90) [(.t 9)],none⟩,
 ⟨some 11,(some (7,false)),.bin .geq (.t 8) (.t 10),none⟩,
 Zo 12 (.pick (.t 7) (.c (.bool true)) (.t 11))])
 (.keep [0,1,12] (.cond (.t 12)
 (.seq (.ops [Zo 4 (.mv (.c (.int .u16 0)))])
 (.ret))
 (.skip))))
 (.keep [0,1] (.seq (.draw [4] [Zm 13 0,
 Zm 14 1,
 Zo 15 (.bin .mul (.c (.int .i64 2)) (.t 14)),
 Zo 16 (.idxs (.t 13) (.t 15)),
 Zo 17 (.conv .u16 (.t 16)),
 Zo 18 (.bin .shl (.t 17) (.c (.int .u64 8))),
 Zm 19 0,
 Zm 20 1,
 Zo 21 (.bin .mul (.c (.int .i64 2)) (.t 20)),
 Zo 22 (.bin .add (.t 21) (.c (.int .i64 1))),
 Zo 23 (.idxs (.t 19) (.t 22)),
 Zo 24 (.conv .u16 (.t 23)),
 Zo 25 (.bin .or (.t 18) (.t 24)),
 Zm 4 25])
 (.ret)))))⟩
theorem F_word_At_ok : chkFn Tryz.prog 57 F_word_At = true := by kernel_rfl
def F_word_May : AFn :=
 ⟨26,[.t 2],.seq (.ops [Zo 2 (.mv (.c (.bool false)))])
 (.keep [0] (.seq (.seq (.ops [Zm 4 0,
 Zo 5 (.call (.f 104) [(.t 4)]),
 Zm 6 5,
 ⟨some 7,(some (6,false)),.mv (.t 0),none⟩,
 ⟨some 8,(some (6,false)),.call (.f 90) [(.t 7)],none⟩,
 ⟨some 9,(some (6,false)),.bin .lss (.t 8) (.c (.int .i64 1)),none⟩,
 Zo 10 (.pick (.t 6) (.c (.bool true)) (.t 9)),
 Zm 11 10,
 ⟨some 12,(some (11,false)),.mv (.t 0),none⟩,
 ⟨some 13,(some (11,false)),.call (.f 90) [(.t 12)],none⟩,
 ⟨some 14,(some (11,false)),.bin .gtr (.t 13) (.c (.int .i64 8)),none⟩,
 Zo 15 (.pick (.t 11) (.c (.bool true)) (.t 14))])
 (.keep [0,15] (.cond (.t 15)
 (.seq (.ops [Zo 2 (.mv (.c (.bool false)))])
 (.ret))
 (.skip))))
 (.keep [0] (.seq (.seq (.ops [Zm 16 0,
 Zo 17 (.call (.f 90) [(.t 16)]),
 Zo 18 (.mv (.c (.int .i64 0)))])
 (.keep [0,17,18] (.block 0 (.loop [0,17,18] (.seq (.ops [Zo 19 (.bin .lss (.t 18) (.t 17))])
 (.keep [0,17,18,19] (.seq (.cond (.t 19)
 (.skip)
 (.exit 0))
 (.keep [0,17,18] (.seq (.block 1 (.seq (.ops [Zm 20 18,
 Zm 3 20])
 (.keep [0,3,17,18] (.seq (.ops [Zm 21 0,
 Zm 22 3,
 Zo 23 (.call (.f 57) [(.t 21),(.t 22)]),
 Zo 24 (.bin .eql (.t 23) (.c (.int .u16 0)))])
 (.keep [0,17,18,24] (.cond (.t 24)
 (.seq (.ops [Zo 2 (.mv (.c (.bool false)))])
 (.ret))
 (.skip)))))))
 (.keep [0,17,18] (.ops [Zo 25 (.bin .add (.t 18) (.c (.int .i64 1))),
 Zm 18 25])))))))))))
 (.keep [] (.seq (.ops [Zo 2 (.mv (.c (.bool true)))])
 (.ret)))))))⟩
theorem F_word_May_ok : chkFn Tryz.prog 65 F_word_May = true := by kernel_rfl
def F_word_Less : AFn :=
 ⟨18,[.t 4],.seq (.ops [Zo 4 (.mv (.c (.bool false)))])
 (.keep [0,1] (.seq (.seq (.ops [Zm 5 0,
 Zo 6 (.lens (.t 5)),
 Zm 7 1,
 Zo 8 (.lens (.t 7)),
 Zo 9 (.bin .neq (.t 6) (.t 8))])
 (.keep [0,1,9] (.cond (.t 9)
 (.seq (.ops [Zm 10 0,
 Zo 11 (.lens (.t 10)),
 Zm 12 1,
 Zo 13 (.lens (.t 12)),
 Zo 14 (.bin .lss (.t 11) (.t 13)),
 Zm 4 14])
 (.ret))
 (.skip))))
 (.keep [0,1] (.seq (.ops [Zm 15 0,
 Zm 16 1,
 Zo 17 (.bin .lss (.t 15) (.t 16)),
 Zm 4 17])
 (.ret)))))⟩
theorem F_word_Less_ok : chkFn Tryz.prog 66 F_word_Less = true := by kernel_rfl
def F_ref02_May : AFn :=
 ⟨32,[.t 2],.seq (.ops [Zo 2 (.mv (.c (.bool false)))])
 (.keep [0] (.seq (.ops [Zm 5 0,
 Zo 6 (.call (.f 39) [(.t 5)]),
 Zm 3 6])
 (.keep [0,3] (.seq (.seq (.ops [Zo 4 (.mv (.c (.int .i64 0)))])
 (.keep [0,3,4] (.block 0 (.loop [0,3,4] (.seq (.seq (.ops [Zm 7 4,
 Zm 8 3,
 Zo 9 (.lenl (.t 8)),
 Zo 10 (.bin .lss (.t 7) (.t 9))])
 (.keep [0,3,4,10] (.cond (.t 10)
 (.skip)
 (.exit 0))))
 (.keep [0,3,4] (.seq (.block 1 (.seq (.ops [Zm 13 3,
 Zm 14 4,
 Zo 15 (.idxa 1 (.t 13) (.t 14)),
 Zo 16 (.load none (.t 15)),
 Zo 17 (.bin .eql (.t 16) (.c (.int .u16 0)))])
 (.keep [0,3,4,17] (.cond (.t 17)
 (.seq (.ops [Zo 2 (.mv (.c (.bool false)))])
 (.ret))
 (.skip)))))
 (.keep [0,3,4] (.ops [Zm 11 4,
 Zo 12 (.bin .add (.t 11) (.c (.int .i64 1))),
 Zm 4 12])))))))))
 (.keep [0,3] (.seq (.ops [Zm 18 0,
 Zo 19 (.lens (.t 18)),
 Zo 20 (.bin .rem (.t 19) (.c (.int .i64 2))),
 Zo 21 (.bin .eql (.t 20) (.c (.int .i64 0))),
 Zm 22 21,
 ⟨some 23,(some (22,true)),.mv (.t 3),none⟩,
 ⟨some 24,(some (22,true)),.lenl (.t 23),none⟩,
 ⟨some 25,(some (22,true)),.bin .geq (.t 24) (.c (.int .i64 1)),none⟩,
 Zo 26 (.pick (.t 22) (.t 25) (.c (.bool false))),
 Zm 27 26,
 ⟨some 28,(some (27,true)),.mv (.t 3),none⟩,
 ⟨some 29,(some (27,true)),.lenl (.t 28),none⟩,
 ⟨some 30,(some (27,true)),.bin .leq (.t 29) (.c (.int .i64 8)),none⟩,
 Zo 31 (.pick (.t 27) (.t 30) (.c (.bool false))),
 Zm 2 31])
 (.ret)))))))⟩
theorem F_ref02_May_ok : chkFn Tryz.prog 74 F_ref02_May = true := by kernel_rfl
def F_ref02_Less : AFn :=
 ⟨36,[.t 4],.seq (.ops [Zo 4 (.mv (.c (.bool false)))])
 (.keep [0,1] (.seq (.seq (.ops [Zm 6 0,
 Zo 7 (.lens (.t 6)),
 Zm 8 1,
 Zo 9 (.lens (.t 8)),
 Zo 10 (.bin .neq (.t 7) (.t 9))])
 (.keep [0,1,10] (.cond (.t 10)
 (.seq (.ops [Zm 11 0,
 Zo 12 (.lens (.t 11)),
 Zm 13 1,
 Zo 14 (.lens (.t 13)),
 Zo 15 (.bin .lss (.t 12) (.t 14)),
 Zm 4 15])
 (.ret))
 (.skip))))
 (.keep [0,1] (.seq (.seq (.ops [Zo 5 (.mv (.c (.int .i64 0)))])
 (.keep [0,1,5] (.block 0 (.loop [0,1,5] (.seq (.seq (.ops [Zm 16 5,
 Zm 17 0,
 Zo 18 (.lens (.t 17)),
 Zo 19 (.bin .lss (.t 16) (.t 18))])
 (.keep [0,1,5,19] (.cond (.t 19)
 (.skip)
 (.exit 0))))
 (.keep [0,1,5] (.seq (.block 1 (.seq (.draw [0,1,5,28] [Zm 22 0,
 Zm 23 5,
 Zo 24 (.idxs (.t 22) (.t 23)),
 Zm 25 1,
 Zm 26 5,
 Zo 27 (.idxs (.t 25) (.t 26)),
 Zo 28 (.bin .neq (.t 24) (.t 27))])
 (.keep [0,1,5,28] (.cond (.t 28)
 (.seq (.draw [4] [Zm 29 0,
 Zm 30 5,
 Zo 31 (.idxs (.t 29) (.t 30)),
 Zm 32 1,
 Zm 33 5,
 Zo 34 (.idxs (.t 32) (.t 33)),
 Zo 35 (.bin .lss (.t 31) (.t 34)),
 Zm 4 35])
 (.ret))
 (.skip)))))
 (.keep [0,1,5] (.ops [Zm 20 5,
 Zo 21 (.bin .add (.t 20) (.c (.int .i64 1))),
 Zm 5 21])))))))))
 (.keep [] (.seq (.ops [Zo 4 (.mv (.c (.bool false)))])
 (.ret)))))))⟩
theorem F_ref02_Less_ok : chkFn Tryz.prog 75 F_ref02_Less = true := by kernel_rfl
def F_word_Len : AFn :=
 ⟨6,[.t 2],.seq (.ops [Zo 2 (.mv (.c (.int .i64 0)))])
 (.keep [0] (.seq (.ops [Zm 3 0,
 Zo 4 (.lens (.t 3)),
 Zo 5 (.bin .quo (.t 4) (.c (.int .i64 2))),
 Zm 2 5])
 (.ret)))⟩
theorem F_word_Len_ok : chkFn Tryz.prog 90 F_word_Len = true := by kernel_rfl
def F_word_odd : AFn :=
 ⟨7,[.t 2],.seq (.ops [Zo 2 (.mv (.c (.bool false)))])
 (.keep [0] (.seq (.ops [Zm 3 0,
 Zo 4 (.lens (.t 3)),
 Zo 5 (.bin .rem (.t 4) (.c (.int .i64 2))),
 Zo 6 (.bin .neq (.t 5) (.c (.int .i64 0))),
 Zm 2 6])
 (.ret)))⟩
theorem F_word_odd_ok : chkFn Tryz.prog 104 F_word_odd = true := by kernel_rfl
end Go.Proofs.YtedaffmkpljlnaaGreat
/- What the functions of packages word and set tell, over the abstract code. -/
namespace Go.Proofs.YtedaffmkpljlnaaGreat
open Go.RowKit Go.Lib

theorem bool_eq {p q : Bool} (h : p = q) : AV.bool p = .bool q := by rw [h]
theorem int_eq {k : IntKind} {a b : Int} (h : a = b) : AV.int k a = .int k b := by rw [h]
theorem byteAt_eq {s : ByteArray} {i : Nat} (h : i < s.size) : byteAt s i = s[i].toNat := by
 have : i < s.data.toList.length := by simpa using h
 simp only [byteAt, List.getElem?_eq_getElem this]; rfl

theorem p_wlen (s : ByteArray) (hs : s.size ≤ 9223372036854775807) : PCalls Tryz.prog 90 [.str s] (.int .i64 ((s.size / 2 : Nat) : Int)) := by
 refine pcalls_of (by first | rfl | simp [free, free.frees, frees_str, frees_u8, frees_u16]) (by first | rfl | simp [free, free.frees, frees_str, frees_u8, frees_u16]) (acalls_of mixed F_word_Len_ok (Nat.le_of_ble_eq_true rfl) ?_); simp only [F_word_Len, wk,ne_eq,eq_self,Int.reduceEq,reduceCtorEq,↓reduceIte]
 rw [Int.tdiv_eq_ediv_of_nonneg (by omega)]
 exact ⟨inR_of (by omega) (by omega), rfl⟩
theorem p_wodd (s : ByteArray) : PCalls Tryz.prog 104 [.str s] (.bool (decide (s.size % 2 ≠ 0))) := by
 refine pcalls_of (by first | rfl | simp [free, free.frees, frees_str, frees_u8, frees_u16]) (by first | rfl | simp [free, free.frees, frees_str, frees_u8, frees_u16]) (acalls_of mixed F_word_odd_ok (Nat.le_of_ble_eq_true rfl) ?_); simp only [F_word_odd, wk,ne_eq,eq_self,Int.reduceEq,reduceCtorEq,↓reduceIte]
 rw [Int.tmod_eq_emod_of_nonneg (by omega)]
 refine bool_eq ?_
 rw [Bool.eq_iff_iff]; simp; omega
theorem or_word' (x y : Nat) (hx : x < 256) (hy : y < 256) : bitV .or .u16 (IntKind.u16.wrap (IntKind.u16.wrap (x : Int) * 2 ^ (min 8 IntKind.u16.bits))) (IntKind.u16.wrap (y : Int)) = ((x * 256 + y : Nat) : Int) := by
 have e1 : IntKind.u16.wrap (x : Int) = x := by rw [IntKind.wrap_u16]; omega
 have e2 : IntKind.u16.wrap (y : Int) = y := by rw [IntKind.wrap_u16]; omega
 have e3 : IntKind.u16.wrap ((x : Int) * 2 ^ (min 8 IntKind.u16.bits)) = ((x * 256 : Nat) : Int) := by
  rw [show (min 8 IntKind.u16.bits) = 8 by decide, IntKind.wrap_u16]; omega
 rw [e1, e2, e3]
 show bits .or .u16 _ _ = _
 rw [u16_or_nat _ _ (by omega) (by omega), nat_join 8 _ _ (by omega) (by omega)]
theorem p_wat (s : ByteArray) (i : Nat) (hs : s.size ≤ 9223372036854775807) (hi : 2 * i + 1 < s.size) : PCalls Tryz.prog 57 [.str s, .int .i64 i] (.int .u16 (atomAt s i)) := by
 refine pcalls_of (by first | rfl | simp [free, free.frees, frees_str, frees_u8, frees_u16]) (by first | rfl | simp [free, free.frees, frees_str, frees_u8, frees_u16]) (acalls_of mixed F_word_At_ok (Nat.le_of_ble_eq_true rfl) ?_); simp only [F_word_At, wk,eq_self,Nat.reduceEqDiff,Nat.reduceAdd,reduceCtorEq,↓reduceIte]
 refine ⟨fun _ => ?_, fun h => by omega⟩
 refine PCalls.use (p_wlen s hs) ?_; simp only [wk,eq_self,Nat.reduceEqDiff,Int.reduceLE,reduceCtorEq,Int.reduceToNat,↓reduceIte]
 refine ⟨fun h => by omega, fun _ => ?_⟩
 (repeat (refine And.intro (by first | omega | exact inR_of (by omega) (by omega) | exact ⟨by omega, by omega⟩ | exact ⟨by omega, by omega, by omega⟩ | rfl) ?_))
 refine int_eq ?_
 rw [show (2 * (i : Int)).toNat = 2 * i by omega, show (2 * (i : Int) + 1).toNat = 2 * i + 1 by omega, byteAt_eq (by omega), byteAt_eq hi, or_word' _ _ s[2 * i].toNat_lt s[2 * i + 1].toNat_lt]
 simp [atomAt, hi]
theorem p_wless (a b : ByteArray) : PCalls Tryz.prog 66 [.str a, .str b] (.bool (wless a b)) := by
 refine pcalls_of (by first | rfl | simp [free, free.frees, frees_str, frees_u8, frees_u16]) (by first | rfl | simp [free, free.frees, frees_str, frees_u8, frees_u16]) (acalls_of mixed F_word_Less_ok (Nat.le_of_ble_eq_true rfl) ?_); simp only [F_word_Less, wk,ne_eq,eq_self,Nat.reduceEqDiff,Nat.reduceAdd,reduceCtorEq,↓reduceIte]
 refine ⟨fun h => bool_eq ?_, fun h => bool_eq ?_⟩
 ·unfold wless; rw [if_neg (by omega)]; simp
 ·unfold wless; rw [if_pos (by omega)]
theorem p_wmay (s : ByteArray) (hs : s.size ≤ 9223372036854775807) : PCalls Tryz.prog 65 [.str s] (.bool (wordMay s)) := by
 refine pcalls_of (by first | rfl | simp [free, free.frees, frees_str, frees_u8, frees_u16]) (by first | rfl | simp [free, free.frees, frees_str, frees_u8, frees_u16]) (acalls_of mixed F_word_May_ok (Nat.le_of_ble_eq_true rfl) ?_); simp only [F_word_May, wk,eq_self,reduceCtorEq,↓reduceIte]
 refine PCalls.use (p_wodd s) ?_; simp only [wk,ne_eq,eq_self,Nat.reduceEqDiff,reduceCtorEq,↓reduceIte]
 refine ⟨fun ho => ?_, fun ho => bool_eq ?_⟩
 rotate_left
 ·simp only [wordMay]; symm; rw [decide_eq_false_iff_not]; omega
 refine PCalls.use (p_wlen s hs) ?_; simp only [wk,eq_self,Nat.reduceEqDiff,reduceCtorEq,↓reduceIte]
 refine ⟨fun h1 => ?_, fun h1 => bool_eq ?_⟩
 rotate_left
 ·simp only [wordMay]; symm; rw [decide_eq_false_iff_not]; omega
 refine PCalls.use (p_wlen s hs) ?_; simp only [wk,eq_self,Nat.reduceEqDiff,reduceCtorEq,↓reduceIte]
 refine ⟨fun h2 => bool_eq ?_, fun h2 => ?_⟩
 ·simp only [wordMay]; symm; rw [decide_eq_false_iff_not]; omega
 refine PCalls.use (p_wlen s hs) ?_; simp only [wk,eq_self,reduceCtorEq,↓reduceIte]
 refine W_loop (fun n fr h => ∃ i : Nat, i ≤ s.size / 2 ∧ n = s.size / 2 - i ∧ fr = [(0, .str s), (17, .int .i64 ((s.size / 2 : Nat) : Int)), (18, .int .i64 i)] ∧ (∀ j, j < i → atomAt s j ≠ 0)) (s.size / 2) ⟨0, by omega, by omega, rfl, fun j hj => by omega⟩ ?_
 rintro n fr h ⟨i, hi, rfl, rfl, hall⟩
 simp only [wk,ne_eq,eq_self,Nat.reduceEqDiff,reduceCtorEq,↓reduceIte]
 refine ⟨fun hlt => ?_, fun hge => bool_eq ?_⟩
 ·refine PCalls.use (p_wat s i hs (by omega)) ?_; simp only [wk,eq_self,Nat.reduceEqDiff,reduceCtorEq,↓reduceIte]
  refine ⟨fun h0 => bool_eq ?_, fun h0 => ⟨inR_of (by omega) (by omega), s.size / 2 - (i + 1), by omega, i + 1, by omega, rfl, rfl, fun j hj => ?_⟩⟩
  ·simp only [wordMay]; symm; rw [decide_eq_false_iff_not]; rintro ⟨_, _, _, h4⟩; exact h4 i (by omega) (by omega)
  ·by_cases e : j = i
   ·subst e; omega
   ·exact hall j (by omega)
 ·simp only [wordMay]; symm; rw [decide_eq_true_eq]; exact ⟨by omega, by omega, by omega, fun j hj => hall j (by omega)⟩

theorem drop_str {l : List ByteArray} {i : Nat} (h : i < l.length) : (l.map AV.str).drop i = AV.str l[i] :: (l.map AV.str).drop (i + 1) := by
 rw [List.drop_eq_getElem_cons (by simpa using h)]; simp
theorem p_smay (l : List ByteArray) (hl : l.length ≤ 9223372036854775807) (hs : ∀ x ∈ l, x.size ≤ 9223372036854775807) : PCalls Tryz.prog 35 [.lst .ro l.length (l.map .str)] (.bool (setMay l)) := by
 refine pcalls_of (by first | rfl | simp [free, free.frees, frees_str]) (by first | rfl | simp [free, free.frees, frees_str, frees_u8, frees_u16]) (acalls_of mixed F_set_May_ok (Nat.le_of_ble_eq_true rfl) ?_); simp only [F_set_May, wk,eq_self,Nat.reduceEqDiff,reduceCtorEq,↓reduceIte]
 refine ⟨fun h1 => ?_, fun h1 => bool_eq (setMay_len (by omega)).symm⟩
 refine ⟨fun h2 => bool_eq (setMay_len (by omega)).symm, fun h2 => ?_⟩
 refine W_loop (fun n fr h => ∃ i : Nat, i ≤ l.length ∧ n = l.length - i ∧ fr = [(0, .lst .ro l.length (l.map .str)), (13, .lst .ro l.length (l.map .str)), (14, .int .i64 l.length), (15, .int .i64 i)] ∧ risingTo l i = true) l.length ⟨0, by omega, by omega, rfl, risingTo_zero l⟩ ?_
 rintro n fr h ⟨i, hi, rfl, rfl, hris⟩
 simp only [wk,eq_self,Nat.reduceEqDiff,reduceCtorEq,↓reduceIte]
 refine ⟨fun hlt => ?_, fun hge => bool_eq ?_⟩
 ·have hil : i < l.length := by omega
  have hget : l[i]? = some l[i] := by simp [hil]
  refine ⟨⟨by omega, hlt⟩, ?_⟩
  rw [show (i : Int).toNat = i by omega, drop_str hil]
  simp only [wk,eq_self,Nat.reduceEqDiff,reduceCtorEq,↓reduceIte]
  refine PCalls.use (p_wmay l[i] (hs _ (List.getElem_mem hil))) ?_; simp only [wk,eq_self,Nat.reduceEqDiff,reduceCtorEq,↓reduceIte]
  refine ⟨fun hw => bool_eq ?_, fun hw => ⟨fun h0 => ?_, fun h0 => ?_⟩⟩
  ·symm
   refine setMay_no (k := i + 1) (by omega) ?_
   cases hi0 : i with
   | zero => subst hi0; rw [risingTo_one hget, hw]
   | succ m => subst hi0; rw [risingTo_succ (x := l[m]'(by omega)) (List.getElem?_eq_getElem (by omega)) hget, hw]; simp
  ·obtain ⟨m, rfl⟩ : ∃ m, i = m + 1 := ⟨i - 1, by omega⟩
   (repeat (refine And.intro (by first | omega | exact inR_of (by omega) (by omega) | exact ⟨by omega, by omega⟩ | exact ⟨by omega, by omega, by omega⟩ | rfl) ?_))
   rw [show (((m + 1 : Nat) : Int) - 1).toNat = m by omega, drop_str (show m < l.length by omega)]
   simp only [wk,eq_self,Nat.reduceEqDiff,reduceCtorEq,↓reduceIte]
   refine PCalls.use (p_wless l[m] l[m + 1]) ?_; simp only [wk,eq_self,Nat.reduceEqDiff,reduceCtorEq,↓reduceIte]
   refine ⟨fun hw2 => bool_eq ?_, fun hw2 => ⟨inR_of (by omega) (by omega), l.length - (m + 2), by omega, m + 2, by omega, rfl, rfl, ?_⟩⟩
   ·symm
    refine setMay_no (k := m + 2) (by omega) ?_
    rw [risingTo_succ (x := l[m]) (List.getElem?_eq_getElem (by omega)) hget, hw2]; simp
   ·rw [risingTo_succ (x := l[m]) (List.getElem?_eq_getElem (by omega)) hget, hw2, hw, hris]; rfl
  ·have hi0 : i = 0 := by omega
   subst hi0
   refine ⟨inR_of (by omega) (by omega), l.length - 1, by omega, 1, by omega, rfl, rfl, ?_⟩
   rw [risingTo_one hget, hw]
 ·rw [setMay_eq l (by omega) (by omega), show l.length = i by omega, hris]

def atomsL (s : ByteArray) (k : Nat) : List AV := (List.range k).map fun i => AV.int .u16 (atomAt s i)
theorem atomsL_succ (s : ByteArray) (k : Nat) : atomsL s (k + 1) = atomsL s k ++ [.int .u16 (atomAt s k)] := by simp [atomsL, List.range_succ]
theorem atomsL_len (s : ByteArray) (k : Nat) : (atomsL s k).length = k := by simp [atomsL]
theorem atomsL_drop {s : ByteArray} {k i : Nat} (h : i < k) : (atomsL s k).drop i = .int .u16 (atomAt s i) :: (atomsL s k).drop (i + 1) := by
 rw [List.drop_eq_getElem_cons (by rw [atomsL_len]; exact h)]; simp [atomsL]
theorem frees_atoms (s : ByteArray) (k : Nat) : free.frees (atomsL s k) = true := by
 have : atomsL s k = ((List.range k).map (atomAt s)).map fun (b : Nat) => AV.int .u16 (b : Int) := by simp [atomsL]
 rw [this, frees_u16]
theorem p_ratoms (s : ByteArray) (hs : s.size ≤ 140737488355328) : PCalls Tryz.prog 39 [.str s] (.lst .ro (s.size / 2) (atomsL s (s.size / 2))) := by
 refine pcalls_of rfl (by simp [free, frees_atoms]) (acalls_of mixed F_ref02_Atoms_ok (Nat.le_of_ble_eq_true rfl) ?_); simp only [F_ref02_Atoms, wk,eq_self,reduceCtorEq,↓reduceIte]
 refine W_loop (fun n fr h => ∃ k : Nat, k ≤ s.size / 2 ∧ n = s.size / 2 - k ∧ fr = [(0, .str s), (3, .lst (.own 57) k (atomsL s k)), (4, .int .i64 (2 * (k : Int)))]) (s.size / 2) ⟨0, by omega, by omega, rfl⟩ ?_
 rintro n fr h ⟨k, hk, rfl, rfl⟩
 simp only [wk,eq_self,Nat.reduceEqDiff,Nat.reduceLeDiff,reduceCtorEq,↓reduceIte]
 refine ⟨inR_of (by omega) (by omega), fun hlt => ?_, fun hge => ?_⟩
 ·(repeat (refine And.intro (by first | omega | exact inR_of (by omega) (by omega) | exact ⟨by omega, by omega⟩ | exact ⟨by omega, by omega, by omega⟩ | rfl) ?_))
  refine ⟨s.size / 2 - (k + 1), by omega, k + 1, by omega, rfl, ?_⟩
  have hin : 2 * k + 1 < s.size := by omega
  have hx : s[2 * k].toNat < 256 := s[2 * k].toNat_lt
  have hy : s[2 * k + 1].toNat < 256 := s[2 * k + 1].toNat_lt
  have e1 : (2 * (k : Int)).toNat = 2 * k := by omega
  have e2 : (2 * (k : Int) + 1).toNat = 2 * k + 1 := by omega
  rw [e1, e2, byteAt_eq (by omega), byteAt_eq hin, atomsL_succ]
  have e3 : IntKind.u16.wrap (IntKind.u16.wrap (IntKind.u16.wrap ((s[2 * k].toNat : Nat) : Int) * 256) + IntKind.u16.wrap ((s[2 * k + 1].toNat : Nat) : Int)) = ((atomAt s k : Nat) : Int) := by
   simp only [atomAt, hin, dif_pos, IntKind.wrap_u16]; omega
  rw [e3]
  have e4 : (2 * ((k + 1 : Nat) : Int)) = 2 * (k : Int) + 2 := by omega
  rw [e4]
 ·obtain rfl : k = s.size / 2 := by omega
  rfl
theorem p_rwless (a b : ByteArray) (ha : a.size ≤ 9223372036854775807) : PCalls Tryz.prog 75 [.str a, .str b] (.bool (wless a b)) := by
 refine pcalls_of (by first | rfl | simp [free, free.frees, frees_str, frees_u8, frees_u16]) (by first | rfl | simp [free, free.frees, frees_str, frees_u8, frees_u16]) (acalls_of mixed F_ref02_Less_ok (Nat.le_of_ble_eq_true rfl) ?_); simp only [F_ref02_Less, wk,ne_eq,eq_self,Nat.reduceEqDiff,Nat.reduceAdd,reduceCtorEq,↓reduceIte]
 refine ⟨fun h => bool_eq ?_, fun h => ?_⟩
 ·unfold wless; rw [if_neg (by omega)]; simp
 have hsz : a.size = b.size := by omega
 refine W_loop (fun n fr h => ∃ i : Nat, i ≤ a.size ∧ n = a.size - i ∧ fr = [(0, .str a), (1, .str b), (5, .int .i64 i)] ∧ ∀ j, (h1 : j < a.size) → j < i → a[j] = b[j]'(by omega)) a.size ⟨0, by omega, by omega, rfl, fun j _ hj => by omega⟩ ?_
 rintro n fr h ⟨i, hi, rfl, rfl, hall⟩
 simp only [wk,ne_eq,eq_self,Nat.reduceEqDiff,reduceCtorEq,↓reduceIte]
 refine ⟨fun hlt => ?_, fun hge => bool_eq ?_⟩
 ·have hia : i < a.size := by omega
  have hib : i < b.size := by omega
  (repeat (refine And.intro (by first | omega | exact inR_of (by omega) (by omega) | exact ⟨by omega, by omega⟩ | exact ⟨by omega, by omega, by omega⟩ | rfl) ?_))
  rw [show (i : Int).toNat = i by omega, byteAt_eq hia, byteAt_eq hib]
  refine ⟨fun hne => ?_, fun he => ?_⟩
  ·(repeat (refine And.intro (by first | omega | exact inR_of (by omega) (by omega) | exact ⟨by omega, by omega⟩ | exact ⟨by omega, by omega, by omega⟩ | rfl) ?_))
   refine bool_eq ?_
   have hne' : a[i] ≠ b[i] := fun e => hne (by rw [e])
   rw [wless_at hsz hia (fun j h1 h2 => hall j h1 h2) hne']
   simp
  ·refine ⟨inR_of (by omega) (by omega), a.size - (i + 1), by omega, i + 1, by omega, rfl, rfl, fun j h1 hj => ?_⟩
   by_cases e : j = i
   ·subst e; exact UInt8.toNat_inj.1 (by omega)
   ·exact hall j h1 (by omega)
 ·rw [wless_same hsz (fun j h1 => hall j h1 (by omega))]
theorem p_rwmay (s : ByteArray) (hs : s.size ≤ 140737488355328) : PCalls Tryz.prog 74 [.str s] (.bool (wordMay s)) := by
 refine pcalls_of (by first | rfl | simp [free, free.frees, frees_str, frees_u8, frees_u16]) (by first | rfl | simp [free, free.frees, frees_str, frees_u8, frees_u16]) (acalls_of mixed F_ref02_May_ok (Nat.le_of_ble_eq_true rfl) ?_); simp only [F_ref02_May, wk,eq_self,reduceCtorEq,↓reduceIte]
 refine PCalls.use (p_ratoms s hs) ?_; simp only [wk,eq_self,reduceCtorEq,↓reduceIte]
 refine W_loop (fun n fr h => ∃ i : Nat, i ≤ s.size / 2 ∧ n = s.size / 2 - i ∧ fr = [(0, .str s), (3, .lst .ro (s.size / 2) (atomsL s (s.size / 2))), (4, .int .i64 i)] ∧ (∀ j, j < i → atomAt s j ≠ 0)) (s.size / 2) ⟨0, by omega, by omega, rfl, fun j hj => by omega⟩ ?_
 rintro n fr h ⟨i, hi, rfl, rfl, hall⟩
 simp only [wk,ne_eq,eq_self,Nat.reduceEqDiff,Int.reduceEq,reduceCtorEq,↓reduceIte]
 refine ⟨fun hlt => ?_, fun hge => ?_⟩
 ·(repeat (refine And.intro (by first | omega | exact inR_of (by omega) (by omega) | exact ⟨by omega, by omega⟩ | exact ⟨by omega, by omega, by omega⟩ | rfl) ?_))
  rw [show (i : Int).toNat = i by omega, atomsL_drop (by omega)]
  simp only [wk,eq_self,Nat.reduceEqDiff,reduceCtorEq,↓reduceIte]
  refine ⟨fun h0 => bool_eq ?_, fun h0 => ⟨inR_of (by omega) (by omega), s.size / 2 - (i + 1), by omega, i + 1, by omega, rfl, rfl, fun j hj => ?_⟩⟩
  ·simp only [wordMay]; symm; rw [decide_eq_false_iff_not]; rintro ⟨_, _, _, h4⟩; exact h4 i (by omega) (by omega)
  ·by_cases e : j = i
   ·subst e; omega
   ·exact hall j (by omega)
 ·rw [Int.tmod_eq_emod_of_nonneg (by omega)]
  have hall' : ∀ j, j < s.size / 2 → atomAt s j ≠ 0 := fun j hj => hall j (by omega)
  refine ⟨fun h1 => ⟨fun h2 => bool_eq ?_, fun h2 => bool_eq ?_⟩, fun h1 => bool_eq ?_⟩
  ·simp only [wordMay]; rw [Bool.eq_iff_iff, decide_eq_true_eq, decide_eq_true_eq]
   exact ⟨fun h3 => ⟨by omega, by omega, by omega, hall'⟩, fun h3 => by omega⟩
  ·simp only [wordMay]; symm; rw [decide_eq_false_iff_not]; omega
  ·simp only [wordMay]; symm; rw [decide_eq_false_iff_not]; omega
theorem p_rsmay (l : List ByteArray) (hl : l.length ≤ 9223372036854775807) (hs : ∀ x ∈ l, x.size ≤ 140737488355328) : PCalls Tryz.prog 38 [.lst .ro l.length (l.map .str)] (.bool (setMay l)) := by
 refine pcalls_of (by first | rfl | simp [free, free.frees, frees_str]) (by first | rfl | simp [free, free.frees, frees_str, frees_u8, frees_u16]) (acalls_of mixed F_ref03_May_ok (Nat.le_of_ble_eq_true rfl) ?_); simp only [F_ref03_May, wk,eq_self,Nat.reduceEqDiff,reduceCtorEq,↓reduceIte]
 refine ⟨fun h1 => ?_, fun h1 => bool_eq (setMay_len (by omega)).symm⟩
 refine ⟨fun h2 => bool_eq (setMay_len (by omega)).symm, fun h2 => ?_⟩
 refine W_loop (fun n fr h => ∃ i : Nat, i ≤ l.length ∧ n = l.length - i ∧ fr = [(0, .lst .ro l.length (l.map .str)), (3, .int .i64 i)] ∧ risingTo l i = true) l.length ⟨0, by omega, by omega, rfl, risingTo_zero l⟩ ?_
 rintro n fr h ⟨i, hi, rfl, rfl, hris⟩
 simp only [wk,eq_self,Nat.reduceEqDiff,reduceCtorEq,↓reduceIte]
 refine ⟨fun hlt => ?_, fun hge => bool_eq ?_⟩
 ·have hil : i < l.length := by omega
  have hget : l[i]? = some l[i] := by simp [hil]
  (repeat (refine And.intro (by first | omega | exact inR_of (by omega) (by omega) | exact ⟨by omega, by omega⟩ | exact ⟨by omega, by omega, by omega⟩ | rfl) ?_))
  rw [show (i : Int).toNat = i by omega, drop_str hil]
  simp only [wk,eq_self,Nat.reduceEqDiff,reduceCtorEq,↓reduceIte]
  refine ⟨_, p_rwmay l[i] (hs _ (List.getElem_mem hil)), ?_⟩; simp only [wk]
  refine ⟨fun hw => ⟨fun h0 => ?_, fun h0 => ?_⟩, fun hw => bool_eq ?_⟩
  ·obtain ⟨m, rfl⟩ : ∃ m, i = m + 1 := ⟨i - 1, by omega⟩
   (repeat (refine And.intro (by first | omega | exact inR_of (by omega) (by omega) | exact ⟨by omega, by omega⟩ | exact ⟨by omega, by omega, by omega⟩ | rfl) ?_))
   rw [show (((m + 1 : Nat) : Int) - 1).toNat = m by omega, drop_str (show m < l.length by omega)]
   simp only [wk,eq_self,Nat.reduceEqDiff,reduceCtorEq,↓reduceIte]
   (repeat (refine And.intro (by first | omega | exact inR_of (by omega) (by omega) | exact ⟨by omega, by omega⟩ | exact ⟨by omega, by omega, by omega⟩ | rfl) ?_))
   rw [show ((m + 1 : Nat) : Int).toNat = m + 1 by omega, drop_str hil]
   simp only [wk,eq_self,Nat.reduceEqDiff,reduceCtorEq,↓reduceIte]
   refine ⟨_, p_rwless l[m] l[m + 1] (by have := hs l[m] (List.getElem_mem (by omega)); omega), ?_⟩; simp only [wk]
   refine ⟨fun hw2 => bool_eq ?_, fun hw2 => ⟨inR_of (by omega) (by omega), l.length - (m + 2), by omega, m + 2, by omega, rfl, rfl, ?_⟩⟩
   ·symm
    refine setMay_no (k := m + 2) (by omega) ?_
    rw [risingTo_succ (x := l[m]) (List.getElem?_eq_getElem (by omega)) hget, hw2]; simp
   ·rw [risingTo_succ (x := l[m]) (List.getElem?_eq_getElem (by omega)) hget, hw2, hw, hris]; rfl
  ·have hi0 : i = 0 := by omega
   subst hi0
   refine ⟨inR_of (by omega) (by omega), l.length - 1, by omega, 1, by omega, rfl, rfl, ?_⟩
   rw [risingTo_one hget, hw]
  ·symm
   refine setMay_no (k := i + 1) (by omega) ?_
   cases hi0 : i with
   | zero => subst hi0; rw [risingTo_one hget, hw]
   | succ m => subst hi0; rw [risingTo_succ (x := l[m]'(by omega)) (List.getElem?_eq_getElem (by omega)) hget, hw]; simp
 ·rw [setMay_eq l (by omega) (by omega), show l.length = i by omega, hris]
theorem p_requal (a b : List ByteArray) (ha : a.length ≤ 9223372036854775807) : PCalls Tryz.prog 14 [.lst .ro a.length (a.map .str), .lst .ro b.length (b.map .str)] (.bool (decide (a = b))) := by
 refine pcalls_of (by first | rfl | simp [free, free.frees, frees_str]) (by first | rfl | simp [free, free.frees, frees_str, frees_u8, frees_u16]) (acalls_of mixed F_ref03_Equal_ok (Nat.le_of_ble_eq_true rfl) ?_); simp only [F_ref03_Equal, wk,ne_eq,eq_self,Nat.reduceEqDiff,Nat.reduceAdd,reduceCtorEq,↓reduceIte]
 refine ⟨fun h => bool_eq ?_, fun h => ?_⟩
 ·symm; rw [decide_eq_false_iff_not]; intro e; rw [e] at h; exact h rfl
 have hab : a.length = b.length := by omega
 refine W_loop (fun n fr h => ∃ i : Nat, i ≤ a.length ∧ n = a.length - i ∧ fr = [(0, .lst .ro a.length (a.map .str)), (1, .lst .ro b.length (b.map .str)), (5, .int .i64 i)] ∧ a.take i = b.take i) a.length ⟨0, by omega, by omega, rfl, rfl⟩ ?_
 rintro n fr h ⟨i, hi, rfl, rfl, hall⟩
 simp only [wk,eq_self,Nat.reduceEqDiff,reduceCtorEq,↓reduceIte]
 refine ⟨fun hlt => ?_, fun hge => bool_eq ?_⟩
 ·have hia : i < a.length := by omega
  have hib : i < b.length := by omega
  (repeat (refine And.intro (by first | omega | exact inR_of (by omega) (by omega) | exact ⟨by omega, by omega⟩ | exact ⟨by omega, by omega, by omega⟩ | rfl) ?_))
  rw [show (i : Int).toNat = i by omega, drop_str hia]
  simp only [wk,eq_self,Nat.reduceEqDiff,reduceCtorEq,↓reduceIte]
  (repeat (refine And.intro (by first | omega | exact inR_of (by omega) (by omega) | exact ⟨by omega, by omega⟩ | exact ⟨by omega, by omega, by omega⟩ | rfl) ?_))
  rw [show (i : Int).toNat = i by omega, drop_str hib]
  simp only [wk,ne_eq,eq_self,Nat.reduceEqDiff,reduceCtorEq,↓reduceIte]
  refine ⟨fun hne => bool_eq ?_, fun he => ?_⟩
  ·symm; rw [decide_eq_false_iff_not]; intro e; subst e; exact hne rfl
  ·refine ⟨inR_of (by omega) (by omega), a.length - (i + 1), by omega, i + 1, by omega, rfl, rfl, ?_⟩
   rw [List.take_succ_eq_append_getElem hia, List.take_succ_eq_append_getElem hib, hall, he]
 ·symm; rw [decide_eq_true_eq]
  rw [List.take_of_length_le (by omega), List.take_of_length_le (by omega)] at hall
  exact hall

abbrev u8s (l : List UInt8) : List AV := l.map fun b => AV.int .u8 b.toNat
theorem u8s_app (l m : List UInt8) : u8s l ++ u8s m = u8s (l ++ m) := by simp [u8s]
def atomBytes (l : List Nat) : List UInt8 := l.flatMap fun a => [UInt8.ofNat (a / 256), UInt8.ofNat (a % 256)]
abbrev u16s (l : List Nat) : List AV := l.map fun (b : Nat) => AV.int .u16 (b : Int)
theorem u16s_drop {l : List Nat} {i : Nat} (h : i < l.length) : (u16s l).drop i = .int .u16 ((l[i] : Nat) : Int) :: (u16s l).drop (i + 1) := by
 rw [List.drop_eq_getElem_cons (by simpa using h)]; simp
theorem p_rof (l : List Nat) (hl : l.length ≤ 70368744177664) (ha : ∀ a ∈ l, a < 65536) : PCalls Tryz.prog 32 [.lst .ro l.length (u16s l)] (.str ⟨(atomBytes l).toArray⟩) := by
 refine pcalls_of (by first | rfl | simp [free, free.frees, frees_u16]) (by first | rfl | simp [free, free.frees, frees_str, frees_u8, frees_u16]) (acalls_of mixed F_ref02_Of_ok (Nat.le_of_ble_eq_true rfl) ?_); simp only [F_ref02_Of, wk,eq_self,reduceCtorEq,↓reduceIte]
 refine W_loop (fun n fr h => ∃ i : Nat, i ≤ l.length ∧ n = l.length - i ∧ fr = [(0, .lst .ro l.length (u16s l)), (3, .lst (.own 5) (2 * i) (u8s (atomBytes (l.take i)))), (4, .int .i64 i)]) l.length ⟨0, by omega, by omega, rfl⟩ ?_
 rintro n fr h ⟨i, hi, rfl, rfl⟩
 simp only [wk,eq_self,Nat.reduceEqDiff,reduceCtorEq,↓reduceIte]
 refine ⟨fun hlt => ?_, fun hge => ?_⟩
 ·have hil : i < l.length := by omega
  have h16 := ha l[i] (List.getElem_mem hil)
  (repeat (refine And.intro (by first | omega | exact inR_of (by omega) (by omega) | exact ⟨by omega, by omega⟩ | exact ⟨by omega, by omega, by omega⟩ | rfl) ?_))
  rw [show (i : Int).toNat = i by omega, u16s_drop hil]
  simp only [wk,ne_eq,eq_self,Nat.reduceEqDiff,Int.reduceEq,reduceCtorEq,↓reduceIte]
  refine ⟨⟨by omega, by omega⟩, ?_⟩
  rw [show (i : Int).toNat = i by omega, u16s_drop hil]
  simp only [wk,ne_eq,eq_self,Nat.reduceEqDiff,Nat.reduceAdd,Nat.reduceLeDiff,Int.reduceEq,reduceCtorEq,↓reduceIte]
  (repeat (refine And.intro (by first | omega | exact inR_of (by omega) (by omega) | exact ⟨by omega, by omega⟩ | exact ⟨by omega, by omega, by omega⟩ | rfl) ?_))
  refine ⟨l.length - (i + 1), by omega, i + 1, by omega, rfl, ?_⟩
  have e1 : IntKind.u8.wrap (IntKind.u16.wrap ((l[i] : Int).tdiv 256)) = ((UInt8.ofNat (l[i] / 256)).toNat : Int) := by
   rw [Int.tdiv_eq_ediv_of_nonneg (by omega), IntKind.wrap_u16, IntKind.wrap_u8]; simp only [UInt8.toNat_ofNat']; omega
  have e2 : IntKind.u8.wrap ((l[i] : Int).tmod 256) = ((UInt8.ofNat (l[i] % 256)).toNat : Int) := by
   rw [Int.tmod_eq_emod_of_nonneg (by omega), IntKind.wrap_u8]; simp only [UInt8.toNat_ofNat']; omega
  have e3 : atomBytes (l.take (i + 1)) = atomBytes (l.take i) ++ [UInt8.ofNat (l[i] / 256), UInt8.ofNat (l[i] % 256)] := by rw [List.take_succ_eq_append_getElem hil, atomBytes, List.flatMap_append]; rfl
  rw [e1, e2, e3, ← u8s_app]
  rfl
 ·have : i = l.length := by omega
  subst this
  refine ⟨atomBytes l, by rw [List.take_length], ?_, rfl⟩
  have : ∀ l : List Nat, (atomBytes l).length = 2 * l.length := by
   intro l; induction l with
   | nil => rfl
   | cons a l ih => simp only [atomBytes, List.flatMap_cons, List.length_append, List.length_cons, List.length_nil] at ih ⊢; omega
  rw [this]
def ro : AV → AV
 | .lst .clip n l => .lst .ro n l
 | a => a
theorem Rep.ro {g : Gh} {v : Value} {a : AV} (h : Rep g v a) : Rep g v (ro a) := by
 cases h with
 | lst b off n c f vs l h1 h2 h3 h4 h5 => cases f with
  | clip => exact .lst b off n c .ro vs l h1 h2 h3 (fun h => by cases h) h5
  | _ => exact .lst b off n c _ vs l h1 h2 h3 h4 h5
 | lst0 a c f h => cases f with
  | clip => exact .lst0 a c .ro (fun h => by cases h)
  | _ => exact .lst0 a c _ h
 | itr b s p => exact .itr _ _ _
 | omp b ks vs => exact .omp b ks vs
 | mp b => exact .mp b
 | fmp b obj ks vs h1 h2 => exact .fmp b obj ks vs h1 h2
 | stk a c e o l h1 h2 h3 => exact .stk a c e o l h1 h2 h3
 | raw a n c h1 h2 => exact .raw a n c h1 h2
 | rawp b i n c => exact .rawp b i n c
 | opq v h h' => exact .opq _ h h'
 | frn v Q S W0 h h' h3 h4 => exact .frn _ Q S W0 h h' h3 h4
 | _ => first | exact .bool _ | exact .int _ _ | exact .str _ | exact .nilp | (exact .ptr _ _ _ ‹_›) | (exact .fp _ _ _ _ ‹_› ‹_› ‹_›) | (exact .hs _ _ _ _ ‹_› ‹_›) | (exact .hsc _ _ _ _ ‹_› ‹_›) | (exact .agg _ _ ‹_› ‹_› ‹_›) | (exact .tup _ _ ‹_› ‹_›) | (exact .fn _ _ _ ‹_› ‹_›) | (exact .fnb _ _ _ ‹_› ‹_›) | exact .nilf
theorem RepL.ro {g : Gh} : ∀ {vs : List Value} {l : List AV}, RepL g vs l → RepL g vs (l.map ro)
 | _, _, .nil => .nil
 | _, _, .cons h hl => .cons h.ro (RepL.ro hl)
theorem plain_ro {a : AV} (h : plain a = true) : plain (ro a) = true := by
 cases a with
 | lst f n l => cases f <;> first | rfl | exact h
 | _ => exact h
theorem free_ro (a : AV) : free (ro a) = free a := by
 cases a with
 | lst f n l => cases f <;> simp [Go.Proofs.YtedaffmkpljlnaaGreat.ro, free]
 | _ => rfl
theorem frees_ro : ∀ l : List AV, free.frees (l.map ro) = free.frees l
 | [] => rfl
 | a :: l => by simp only [List.map_cons, free.frees, free_ro, frees_ro l]
theorem ACalls.ro {P : Program} {f : FuncId} {args : List AV} {h : Hp} {R : AV → Hp → Prop} (hc : ACalls P f (args.map ro) h R) : ACalls P f args h R :=
 ⟨hc.1, fun g w vargs h1 h2 h3 h4 => hc.2 g w vargs h1 h2 h3.ro (fun a ha => by
  obtain ⟨b, hb, rfl⟩ := List.mem_map.1 ha
  exact plain_ro (h4 b hb))⟩
theorem PCalls.ro {P : Program} {f : FuncId} {args : List AV} {v : AV} (hc : PCalls P f (args.map ro) v) : PCalls P f args v :=
 ⟨by rw [← frees_ro]; exact hc.1, hc.2.1, ACalls.ro hc.2.2⟩
def rod : AV → AV
 | .tup l => .tup (l.map ro)
 | a => ro a
theorem Rep.rod {g : Gh} {v : Value} {a : AV} (h : Rep g v a) : Rep g v (rod a) := by
 cases h with
 | tup vs l h1 h2 => exact .tup vs _ (fun a ha => by obtain ⟨b, hb, rfl⟩ := List.mem_map.1 ha; exact plain_ro (h1 b hb)) h2.ro
 | lst b off n c f vs l h1 h2 h3 h4 h5 => exact (Rep.lst b off n c f vs l h1 h2 h3 h4 h5).ro
 | lst0 a c f h => exact (Rep.lst0 a c f h).ro
 | itr b s p => exact .itr _ _ _
 | omp b ks vs => exact .omp b ks vs
 | mp b => exact .mp b
 | fmp b obj ks vs h1 h2 => exact .fmp b obj ks vs h1 h2
 | stk a c e o l h1 h2 h3 => exact .stk a c e o l h1 h2 h3
 | raw a n c h1 h2 => exact .raw a n c h1 h2
 | rawp b i n c => exact .rawp b i n c
 | opq v h h' => exact .opq _ h h'
 | frn v Q S W0 h h' h3 h4 => exact .frn _ Q S W0 h h' h3 h4
 | _ => first | exact .bool _ | exact .int _ _ | exact .str _ | exact .nilp | (exact .ptr _ _ _ ‹_›) | (exact .fp _ _ _ _ ‹_› ‹_› ‹_›) | (exact .hs _ _ _ _ ‹_› ‹_›) | (exact .hsc _ _ _ _ ‹_› ‹_›) | (exact .agg _ _ ‹_› ‹_› ‹_›) | (exact .fn _ _ _ ‹_› ‹_›) | (exact .fnb _ _ _ ‹_› ‹_›) | exact .nilf
theorem plain_rod {a : AV} (h : plain a = true) : plain (rod a) = true := by
 cases a with
 | lst f n l => exact plain_ro h
 | _ => first | rfl | exact h
theorem ACalls.weak {P : Program} {f : FuncId} {args : List AV} {h : Hp} {R : AV → Hp → Prop} (hc : ACalls P f args h (fun a h' => R (Go.Proofs.YtedaffmkpljlnaaGreat.rod a) h')) : ACalls P f args h R :=
 ⟨hc.1, fun g w vargs h1 h2 h3 h4 => (hc.2 g w vargs h1 h2 h3 h4).mono fun _ _ ⟨x, a, h', g', q1, q2, q3, q4, q5, q6, q7⟩ => ⟨x, _, h', g', q1, q2, q3, q4, q5.rod, plain_rod q6, q7⟩⟩
theorem rod_tup (l : List AV) : rod (.tup l) = .tup (l.map ro) := id rfl
theorem ro_ro (n : Nat) (l : List AV) : ro (.lst .ro n l) = .lst .ro n l := id rfl
theorem ro_int (k : IntKind) (n : Int) : ro (.int k n) = .int k n := id rfl
end Go.Proofs.YtedaffmkpljlnaaGreat
namespace Go.Proofs.YtedaffmkpljlnaaGreat
open Go.RowKit
def J_ref03_And : AFn :=
 ⟨23,[.t 4,.t 5],.seq (.ops [Zo 4 (.mv (.c (.lst .clip 0 []))),
 Zo 5 (.mv (.c (.int .i64 0)))])
 (.keep [0,1] (.seq (.seq (.ops [Zm 6 0,
 Zo 7 (.call (.f 38) [(.t 6)]),
 Zo 8 (.not (.t 7)),
 Zm 9 8,
 ⟨some 10,(some (9,false)),.mv (.t 1),none⟩,
 ⟨some 11,(some (9,false)),.call (.f 38) [(.t 10)],none⟩,
 ⟨some 12,(some (9,false)),.not (.t 11),none⟩,
 Zo 13 (.pick (.t 9) (.c (.bool true)) (.t 12))])
 (.keep [0,1,13] (.cond (.t 13)
 (.seq (.ops [Zo 4 (.mv (.c (.lst .clip 0 []))),
 Zo 5 (.mv (.c (.int .i64 2)))])
 (.ret))
 (.skip))))
 (.keep [0,1] (.seq (.ops [Zo 14 (.bsl 43 1 0 [] []),
 Zm 15 0,
 Zo 16 (.appo 43 1 16 14 (.t 15)),
 Zm 17 1,
 Zo 18 (.appo 43 1 16 16 (.t 17)),
 Zo 19 (.call (.f 44) [(.t 18)]),
 Zo 20 (.call (.f 43) [(.t 19)]),
 Zo 21 (.ext 0 (.t 20)),
 Zo 22 (.ext 1 (.t 20)),
 Zm 4 21,
 Zm 5 22])
 (.ret)))))⟩
theorem J_ref03_And_ok : chkFn Tryz.prog 20 J_ref03_And = true := by kernel_rfl
def J_ref03_For : AFn :=
 ⟨35,[.t 4,.t 5],.seq (.ops [Zo 4 (.mv (.c (.lst .clip 0 []))),
 Zo 5 (.mv (.c (.int .i64 0)))])
 (.keep [0,1] (.seq (.ops [Zm 11 0,
 Zm 12 1,
 Zo 13 (.call (.f 22) [(.t 11),(.t 12)]),
 Zm 10 13,
 Zo 14 (.ext 0 (.t 10)),
 Zo 15 (.ext 1 (.t 10)),
 Zm 6 14,
 Zm 7 15])
 (.keep [1,6,7] (.seq (.seq (.ops [Zm 16 7,
 Zo 17 (.bin .neq (.t 16) (.c (.int .i64 0)))])
 (.keep [1,6,7,17] (.cond (.t 17)
 (.seq (.ops [Zm 18 7,
 Zo 4 (.mv (.c (.lst .clip 0 []))),
 Zm 5 18])
 (.ret))
 (.skip))))
 (.keep [1,6] (.seq (.ops [Zo 20 (.bsl 57 1 1 [(.int .u16 0)] [(0,1,(.c (.int .u16 1)))]),
 Zo 21 (.call (.f 32) [(.t 20)]),
 Zo 22 (.bsl 43 1 1 [(.str ⟨#[]⟩)] [(0,1,(.t 21))]),
 Zm 23 1,
 Zo 24 (.call (.f 22) [(.t 22),(.t 23)]),
 Zm 19 24,
 Zo 25 (.ext 0 (.t 19)),
 Zo 26 (.ext 1 (.t 19)),
 Zm 8 25,
 Zm 9 26])
 (.keep [6,8,9] (.seq (.seq (.ops [Zm 27 9,
 Zo 28 (.bin .neq (.t 27) (.c (.int .i64 0)))])
 (.keep [6,8,9,28] (.cond (.t 28)
 (.seq (.ops [Zm 29 9,
 Zo 4 (.mv (.c (.lst .clip 0 []))),
 Zm 5 29])
 (.ret))
 (.skip))))
 (.keep [6,8] (.seq (.ops [Zm 30 6,
 Zm 31 8,
 Zo 32 (.call (.f 20) [(.t 30),(.t 31)]),
 Zo 33 (.ext 0 (.t 32)),
 Zo 34 (.ext 1 (.t 32)),
 Zm 4 33,
 Zm 5 34])
 (.ret)))))))))))⟩
theorem J_ref03_For_ok : chkFn Tryz.prog 21 J_ref03_For = true := by kernel_rfl
def J_ref03_Quote_j1 : ACode :=
 .keep [6] (.seq (.ops [Zm 52 6,
 Zo 53 (.call (.f 44) [(.t 52)]),
 Zo 54 (.call (.f 43) [(.t 53)]),
 Zo 55 (.ext 0 (.t 54)),
 Zo 56 (.ext 1 (.t 54)),
 Zm 4 55,
 Zm 5 56])
 (.ret))
def J_ref03_Quote_j2 : ACode :=
 .keep [0,1,6,7] (.ops [Zm 24 7,
 Zo 25 (.bin .add (.t 24) (.c (.int .i64 1))),
 Zm 7 25])
def J_ref03_Quote_j3 : ACode :=
 .seq (.seq (.ops [Zm 26 8,
 Zm 27 1,
 Zo 28 (.lenl (.t 27)),
 Zo 29 (.bin .lss (.t 26) (.t 28))])
 (.keep [0,1,6,7,8,29] (.cond (.t 29)
 (.skip)
 (.exit 2))))
 (.keep [0,1,6,7,8] (.seq (.block 3 (.seq (.draw [0,1,6,7,8,9,10] [Zm 33 0,
 Zm 34 7,
 Zo 35 (.idxa 1 (.t 33) (.t 34)),
 Zo 36 (.load none (.t 35)),
 Zm 37 1,
 Zm 38 8,
 Zo 39 (.idxa 1 (.t 37) (.t 38)),
 Zo 40 (.load none (.t 39)),
 Zo 41 (.bsl 43 1 2 [(.str ⟨#[]⟩),(.str ⟨#[]⟩)] [(0,1,(.t 36)),(1,1,(.t 40))]),
 Zo 42 (.call (.f 45) [(.t 41)]),
 Zm 32 42,
 Zo 43 (.ext 0 (.t 32)),
 Zo 44 (.ext 1 (.t 32)),
 Zm 9 43,
 Zm 10 44])
 (.keep [0,1,6,7,8,9,10] (.seq (.seq (.ops [Zm 45 10,
 Zo 46 (.bin .neq (.t 45) (.c (.int .i64 0)))])
 (.keep [0,1,6,7,8,9,10,46] (.cond (.t 46)
 (.seq (.ops [Zm 47 10,
 Zo 4 (.mv (.c (.lst .clip 0 []))),
 Zm 5 47])
 (.ret))
 (.skip))))
 (.keep [0,1,6,7,8,9] (.ops [Zo 48 (.mvo 6),
 Zm 49 9,
 Zo 50 (.bsl 43 1 1 [(.str ⟨#[]⟩)] [(0,1,(.t 49))]),
 Zo 51 (.appo 43 1 16 48 (.t 50)),
 Zo 6 (.mvo 51)]))))))
 (.keep [0,1,6,7,8] (.ops [Zm 30 8,
 Zo 31 (.bin .add (.t 30) (.c (.int .i64 1))),
 Zm 8 31]))))
def J_ref03_Quote_j4 : ACode :=
 .seq (.seq (.ops [Zm 20 7,
 Zm 21 0,
 Zo 22 (.lenl (.t 21)),
 Zo 23 (.bin .lss (.t 20) (.t 22))])
 (.keep [0,1,6,7,23] (.cond (.t 23)
 (.skip)
 (.exit 0))))
 (.keep [0,1,6,7] (.seq (.block 1 (.seq (.ops [Zo 8 (.mv (.c (.int .i64 0)))])
 (.keep [0,1,6,7,8] (.block 2 (.loop [0,1,6,7,8] (J_ref03_Quote_j3))))))
 (J_ref03_Quote_j2)))
def J_ref03_Quote : AFn :=
 ⟨57,[.t 4,.t 5],.seq (.ops [Zo 4 (.mv (.c (.lst .clip 0 []))),
 Zo 5 (.mv (.c (.int .i64 0)))])
 (.keep [0,1] (.seq (.seq (.ops [Zm 11 0,
 Zo 12 (.call (.f 38) [(.t 11)]),
 Zo 13 (.not (.t 12)),
 Zm 14 13,
 ⟨some 15,(some (14,false)),.mv (.t 1),none⟩,
 ⟨some 16,(some (14,false)),.call (.f 38) [(.t 15)],none⟩,
 ⟨some 17,(some (14,false)),.not (.t 16),none⟩,
 Zo 18 (.pick (.t 14) (.c (.bool true)) (.t 17))])
 (.keep [0,1,18] (.cond (.t 18)
 (.seq (.ops [Zo 4 (.mv (.c (.lst .clip 0 []))),
 Zo 5 (.mv (.c (.int .i64 2)))])
 (.ret))
 (.skip))))
 (.keep [0,1] (.seq (.ops [Zo 19 (.bsl 43 1 0 [] []),
 Zo 6 (.mvo 19)])
 (.keep [0,1,6] (.seq (.seq (.ops [Zo 7 (.mv (.c (.int .i64 0)))])
 (.keep [0,1,6,7] (.block 0 (.loop [0,1,6,7] (J_ref03_Quote_j4)))))
 (J_ref03_Quote_j1)))))))⟩
theorem J_ref03_Quote_ok : chkFn Tryz.prog 22 J_ref03_Quote = true := by kernel_rfl
def J_ref03_As : AFn :=
 ⟨23,[.t 4,.t 5],.seq (.ops [Zo 4 (.mv (.c (.lst .clip 0 []))),
 Zo 5 (.mv (.c (.int .i64 0)))])
 (.keep [0,1] (.seq (.seq (.ops [Zm 6 0,
 Zo 7 (.call (.f 38) [(.t 6)]),
 Zo 8 (.not (.t 7))])
 (.keep [0,1,8] (.cond (.t 8)
 (.seq (.ops [Zo 4 (.mv (.c (.lst .clip 0 []))),
 Zo 5 (.mv (.c (.int .i64 2)))])
 (.ret))
 (.skip))))
 (.keep [0,1] (.seq (.seq (.ops [Zm 9 1,
 Zo 10 (.bin .lss (.t 9) (.c (.int .u16 40960))),
 Zm 11 10,
 ⟨some 12,(some (11,false)),.mv (.t 1),none⟩,
 ⟨some 13,(some (11,false)),.bin .geq (.t 12) (.c (.int .u16 49152)),none⟩,
 Zo 14 (.pick (.t 11) (.c (.bool true)) (.t 13))])
 (.keep [0,1,14] (.cond (.t 14)
 (.seq (.ops [Zo 4 (.mv (.c (.lst .clip 0 []))),
 Zo 5 (.mv (.c (.int .i64 1)))])
 (.ret))
 (.skip))))
 (.keep [0,1] (.seq (.ops [Zm 15 0,
 Zm 16 1,
 Zo 17 (.bsl 57 1 1 [(.int .u16 0)] [(0,1,(.t 16))]),
 Zo 18 (.call (.f 32) [(.t 17)]),
 Zo 19 (.bsl 43 1 1 [(.str ⟨#[]⟩)] [(0,1,(.t 18))]),
 Zo 20 (.call (.f 22) [(.t 15),(.t 19)]),
 Zo 21 (.ext 0 (.t 20)),
 Zo 22 (.ext 1 (.t 20)),
 Zm 4 21,
 Zm 5 22])
 (.ret)))))))⟩
theorem J_ref03_As_ok : chkFn Tryz.prog 24 J_ref03_As = true := by kernel_rfl
def J_ref02_At : AFn :=
 ⟨20,[.t 4],.seq (.ops [Zo 4 (.mv (.c (.int .u16 0)))])
 (.keep [0,1] (.seq (.ops [Zm 6 0,
 Zo 7 (.call (.f 39) [(.t 6)]),
 Zm 5 7])
 (.keep [1,5] (.seq (.seq (.ops [Zm 8 1,
 Zo 9 (.bin .lss (.t 8) (.c (.int .i64 0))),
 Zm 10 9,
 ⟨some 11,(some (10,false)),.mv (.t 1),none⟩,
 ⟨some 12,(some (10,false)),.mv (.t 5),none⟩,
 ⟨some 13,(some (10,false)),.lenl (.t 12),none⟩,
 ⟨some 14,(some (10,false)),.bin .geq (.t 11) (.t 13),none⟩,
 Zo 15 (.pick (.t 10) (.c (.bool true)) (.t 14))])
 (.keep [1,5,15] (.cond (.t 15)
 (.seq (.ops [Zo 4 (.mv (.c (.int .u16 0)))])
 (.ret))
 (.skip))))
 (.keep [1,5] (.seq (.ops [Zm 16 5,
 Zm 17 1,
 Zo 18 (.idxa 1 (.t 16) (.t 17)),
 Zo 19 (.load none (.t 18)),
 Zm 4 19])
 (.ret)))))))⟩
theorem J_ref02_At_ok : chkFn Tryz.prog 25 J_ref02_At = true := by kernel_rfl
def J_ref03_bound : AFn :=
 ⟨13,[.t 2,.t 3],.seq (.ops [Zo 2 (.mv (.c (.lst .clip 0 []))),
 Zo 3 (.mv (.c (.int .i64 0)))])
 (.keep [0] (.seq (.seq (.ops [Zm 4 0,
 Zo 5 (.lenl (.t 4)),
 Zo 6 (.bin .lss (.t 5) (.c (.int .i64 1))),
 Zm 7 6,
 ⟨some 8,(some (7,false)),.mv (.t 0),none⟩,
 ⟨some 9,(some (7,false)),.lenl (.t 8),none⟩,
 ⟨some 10,(some (7,false)),.bin .gtr (.t 9) (.c (.int .i64 16)),none⟩,
 Zo 11 (.pick (.t 7) (.c (.bool true)) (.t 10))])
 (.keep [0,11] (.cond (.t 11)
 (.seq (.ops [Zo 2 (.mv (.c (.lst .clip 0 []))),
 Zo 3 (.mv (.c (.int .i64 3)))])
 (.ret))
 (.skip))))
 (.keep [0] (.seq (.ops [Zm 12 0,
 Zm 2 12,
 Zo 3 (.mv (.c (.int .i64 0)))])
 (.ret)))))⟩
theorem J_ref03_bound_ok : chkFn Tryz.prog 43 J_ref03_bound = true := by kernel_rfl
def J_ref03_Right_j1 : ACode :=
 .keep [0,3,4,5] (.seq (.seq (.ops [Zm 48 5,
 Zo 49 (.not (.t 48))])
 (.keep [0,3,4,49] (.cond (.t 49)
 (.seq (.ops [Zm 50 3,
 Zm 2 50])
 (.ret))
 (.skip))))
 (.keep [0,3,4] (.ops [Zo 51 (.mvo 3),
 Zm 52 4,
 Zo 53 (.bsl 43 1 1 [(.str ⟨#[]⟩)] [(0,1,(.t 52))]),
 Zo 54 (.appo 43 1 16 51 (.t 53)),
 Zo 3 (.mvo 54)])))
def J_ref03_Right_j2 : ACode :=
 .keep [0,3,4,5,6] (.ops [Zm 13 6,
 Zo 14 (.bin .add (.t 13) (.c (.int .i64 1))),
 Zm 6 14])
def J_ref03_Right_j3 : ACode :=
 .seq (.seq (.ops [Zm 9 6,
 Zm 10 0,
 Zo 11 (.lenl (.t 10)),
 Zo 12 (.bin .lss (.t 9) (.t 11))])
 (.keep [0,3,4,5,6,12] (.cond (.t 12)
 (.skip)
 (.exit 2))))
 (.keep [0,3,4,5,6] (.seq (.block 3 (.seq (.draw [0,3,4,5,6,7] [Zm 15 3,
 Zo 16 (.lenl (.t 15)),
 Zo 17 (.bin .eql (.t 16) (.c (.int .i64 0))),
 Zm 18 17,
 ⟨some 19,(some (18,false)),.mv (.t 3),none⟩,
 ⟨some 20,(some (18,false)),.mv (.t 3),none⟩,
 ⟨some 21,(some (18,false)),.lenl (.t 20),none⟩,
 ⟨some 22,(some (18,false)),.bin .sub (.t 21) (.c (.int .i64 1)),none⟩,
 ⟨some 23,(some (18,false)),.idxa 1 (.t 19) (.t 22),none⟩,
 ⟨some 24,(some (18,false)),.load none (.t 23),none⟩,
 ⟨some 25,(some (18,false)),.mv (.t 0),none⟩,
 ⟨some 26,(some (18,false)),.mv (.t 6),none⟩,
 ⟨some 27,(some (18,false)),.idxa 1 (.t 25) (.t 26),none⟩,
 ⟨some 28,(some (18,false)),.load none (.t 27),none⟩,
 ⟨some 29,(some (18,false)),.call (.f 75) [(.t 24),(.t 28)],none⟩,
 Zo 30 (.pick (.t 18) (.c (.bool true)) (.t 29)),
 Zm 7 30])
 (.keep [0,3,4,5,6,7] (.seq (.ops [Zm 31 7,
 Zm 32 31,
 ⟨some 33,(some (32,true)),.mv (.t 5),none⟩,
 ⟨some 34,(some (32,true)),.not (.t 33),none⟩,
 ⟨some 35,(some (32,true)),.mv (.t 34),none⟩,
 ⟨some 36,(some (35,false)),.mv (.t 0),none⟩,
 ⟨some 37,(some (35,false)),.mv (.t 6),none⟩,
 ⟨some 38,(some (35,false)),.idxa 1 (.t 36) (.t 37),none⟩,
 ⟨some 39,(some (35,false)),.load none (.t 38),none⟩,
 ⟨some 40,(some (35,false)),.mv (.t 4),none⟩,
 ⟨some 41,(some (35,false)),.call (.f 75) [(.t 39),(.t 40)],none⟩,
 ⟨some 42,(some (32,true)),.pick (.t 35) (.c (.bool true)) (.t 41),none⟩,
 Zo 43 (.pick (.t 32) (.t 42) (.c (.bool false)))])
 (.keep [0,3,4,5,6,43] (.cond (.t 43)
 (.seq (.ops [Zm 44 0,
 Zm 45 6,
 Zo 46 (.idxa 1 (.t 44) (.t 45)),
 Zo 47 (.load none (.t 46)),
 Zm 4 47])
 (.keep [0,3,4,6] (.ops [Zo 5 (.mv (.c (.bool true)))])))
 (.skip)))))))
 (J_ref03_Right_j2)))
def J_ref03_Right_j4 : ACode :=
 .block 1 (.seq (.ops [Zo 4 (.mv (.c (.str ⟨#[]⟩)))])
 (.keep [0,3,4] (.seq (.ops [Zo 5 (.mv (.c (.bool false)))])
 (.keep [0,3,4,5] (.seq (.seq (.ops [Zo 6 (.mv (.c (.int .i64 0)))])
 (.keep [0,3,4,5,6] (.block 2 (.loop [0,3,4,5,6] (J_ref03_Right_j3)))))
 (J_ref03_Right_j1))))))
def J_ref03_Right : AFn :=
 ⟨55,[.t 2],.seq (.ops [Zo 2 (.mv (.c (.lst .clip 0 [])))])
 (.keep [0] (.seq (.ops [Zo 8 (.bsl 43 1 0 [] []),
 Zo 3 (.mvo 8)])
 (.keep [0,3] (.block 0 (.loop [0,3] (J_ref03_Right_j4))))))⟩
theorem J_ref03_Right_ok : chkFn Tryz.prog 44 J_ref03_Right = true := by kernel_rfl
def J_ref02_Cat_j1 : ACode :=
 .keep [4] (.seq (.ops [Zm 37 4,
 Zo 38 (.call (.f 32) [(.t 37)]),
 Zm 2 38,
 Zo 3 (.mv (.c (.int .i64 0)))])
 (.ret))
def J_ref02_Cat_j2 : ACode :=
 .seq (.seq (.ops [Zm 21 6,
 Zm 22 0,
 Zo 23 (.lenl (.t 22)),
 Zo 24 (.bin .lss (.t 21) (.t 23))])
 (.keep [0,4,6,24] (.cond (.t 24)
 (.skip)
 (.exit 2))))
 (.keep [0,4,6] (.seq (.block 3 (.seq (.ops [Zo 27 (.mvo 4),
 Zm 28 0,
 Zm 29 6,
 Zo 30 (.idxa 1 (.t 28) (.t 29)),
 Zo 31 (.load none (.t 30)),
 Zo 32 (.call (.f 39) [(.t 31)]),
 Zo 33 (.appo 57 1 2 27 (.t 32)),
 Zo 4 (.mvo 33)])
 (.keep [0,4,6] (.seq (.ops [Zm 34 4,
 Zo 35 (.lenl (.t 34)),
 Zo 36 (.bin .gtr (.t 35) (.c (.int .i64 8)))])
 (.keep [0,4,6,36] (.cond (.t 36)
 (.seq (.ops [Zo 2 (.mv (.c (.str ⟨#[]⟩))),
 Zo 3 (.mv (.c (.int .i64 4)))])
 (.ret))
 (.skip)))))))
 (.keep [0,4,6] (.ops [Zm 25 6,
 Zo 26 (.bin .add (.t 25) (.c (.int .i64 1))),
 Zm 6 26]))))
def J_ref02_Cat_j3 : ACode :=
 .keep [0,4] (.seq (.seq (.ops [Zo 6 (.mv (.c (.int .i64 0)))])
 (.keep [0,4,6] (.block 2 (.loop [0,4,6] (J_ref02_Cat_j2)))))
 (J_ref02_Cat_j1))
def J_ref02_Cat_j4 : ACode :=
 .seq (.seq (.ops [Zm 8 5,
 Zm 9 0,
 Zo 10 (.lenl (.t 9)),
 Zo 11 (.bin .lss (.t 8) (.t 10))])
 (.keep [0,4,5,11] (.cond (.t 11)
 (.skip)
 (.exit 0))))
 (.keep [0,4,5] (.seq (.block 1 (.seq (.ops [Zm 14 0,
 Zm 15 5,
 Zo 16 (.idxa 1 (.t 14) (.t 15)),
 Zo 17 (.load none (.t 16)),
 Zo 18 (.lens (.t 17)),
 Zo 19 (.bin .rem (.t 18) (.c (.int .i64 2))),
 Zo 20 (.bin .eql (.t 19) (.c (.int .i64 1)))])
 (.keep [0,4,5,20] (.cond (.t 20)
 (.seq (.ops [Zo 2 (.mv (.c (.str ⟨#[]⟩))),
 Zo 3 (.mv (.c (.int .i64 2)))])
 (.ret))
 (.skip)))))
 (.keep [0,4,5] (.ops [Zm 12 5,
 Zo 13 (.bin .add (.t 12) (.c (.int .i64 1))),
 Zm 5 13]))))
def J_ref02_Cat : AFn :=
 ⟨39,[.t 2,.t 3],.seq (.ops [Zo 2 (.mv (.c (.str ⟨#[]⟩))),
 Zo 3 (.mv (.c (.int .i64 0)))])
 (.keep [0] (.seq (.ops [Zo 7 (.bsl 57 1 0 [] []),
 Zo 4 (.mvo 7)])
 (.keep [0,4] (.seq (.seq (.ops [Zo 5 (.mv (.c (.int .i64 0)))])
 (.keep [0,4,5] (.block 0 (.loop [0,4,5] (J_ref02_Cat_j4)))))
 (J_ref02_Cat_j3)))))⟩
theorem J_ref02_Cat_ok : chkFn Tryz.prog 45 J_ref02_Cat = true := by kernel_rfl
def J_set_And : AFn :=
 ⟨21,[.t 4,.t 5],.seq (.ops [Zo 4 (.mv (.c (.lst .clip 0 []))),
 Zo 5 (.mv (.c (.int .i64 0)))])
 (.keep [0,1] (.seq (.seq (.ops [Zm 6 0,
 Zo 7 (.call (.f 35) [(.t 6)]),
 Zo 8 (.not (.t 7)),
 Zm 9 8,
 ⟨some 10,(some (9,false)),.mv (.t 1),none⟩,
 ⟨some 11,(some (9,false)),.call (.f 35) [(.t 10)],none⟩,
 ⟨some 12,(some (9,false)),.not (.t 11),none⟩,
 Zo 13 (.pick (.t 9) (.c (.bool true)) (.t 12))])
 (.keep [0,1,13] (.cond (.t 13)
 (.seq (.ops [Zo 4 (.mv (.c (.lst .clip 0 []))),
 Zo 5 (.mv (.c (.int .i64 2)))])
 (.ret))
 (.skip))))
 (.keep [0,1] (.seq (.ops [Zm 14 0,
 Zm 15 1,
 Zo 16 (.bsl 33 1 2 [(.lst .clip 0 []),(.lst .clip 0 [])] [(0,1,(.t 14)),(1,1,(.t 15))]),
 Zo 17 (.call (.f 87) [(.t 16)]),
 Zo 18 (.call (.f 58) [(.t 17)]),
 Zo 19 (.ext 0 (.t 18)),
 Zo 20 (.ext 1 (.t 18)),
 Zm 4 19,
 Zm 5 20])
 (.ret)))))⟩
theorem J_set_And_ok : chkFn Tryz.prog 52 J_set_And = true := by kernel_rfl
def J_set_For : AFn :=
 ⟨34,[.t 4,.t 5],.seq (.ops [Zo 4 (.mv (.c (.lst .clip 0 []))),
 Zo 5 (.mv (.c (.int .i64 0)))])
 (.keep [0,1] (.seq (.ops [Zm 10 0,
 Zm 11 1,
 Zo 12 (.call (.f 54) [(.t 10),(.t 11)]),
 Zm 9 12,
 Zo 13 (.ext 0 (.t 9)),
 Zo 14 (.ext 1 (.t 9)),
 Zm 6 13,
 Zm 7 14])
 (.keep [1,6,7] (.seq (.seq (.ops [Zm 15 7,
 Zo 16 (.bin .neq (.t 15) (.c (.int .i64 0)))])
 (.keep [1,6,7,16] (.cond (.t 16)
 (.seq (.ops [Zm 17 7,
 Zo 4 (.mv (.c (.lst .clip 0 []))),
 Zm 5 17])
 (.ret))
 (.skip))))
 (.keep [1,6] (.seq (.ops [Zo 19 (.bsl 57 1 1 [(.int .u16 0)] [(0,1,(.c (.int .u16 1)))]),
 Zo 20 (.call (.f 59) [(.t 19)]),
 Zo 21 (.bsl 43 1 1 [(.str ⟨#[]⟩)] [(0,1,(.t 20))]),
 Zm 22 1,
 Zo 23 (.call (.f 54) [(.t 21),(.t 22)]),
 Zm 18 23,
 Zo 24 (.ext 0 (.t 18)),
 Zo 25 (.ext 1 (.t 18)),
 Zm 8 24,
 Zm 7 25])
 (.keep [6,7,8] (.seq (.seq (.ops [Zm 26 7,
 Zo 27 (.bin .neq (.t 26) (.c (.int .i64 0)))])
 (.keep [6,7,8,27] (.cond (.t 27)
 (.seq (.ops [Zm 28 7,
 Zo 4 (.mv (.c (.lst .clip 0 []))),
 Zm 5 28])
 (.ret))
 (.skip))))
 (.keep [6,8] (.seq (.ops [Zm 29 6,
 Zm 30 8,
 Zo 31 (.call (.f 52) [(.t 29),(.t 30)]),
 Zo 32 (.ext 0 (.t 31)),
 Zo 33 (.ext 1 (.t 31)),
 Zm 4 32,
 Zm 5 33])
 (.ret)))))))))))⟩
theorem J_set_For_ok : chkFn Tryz.prog 53 J_set_For = true := by kernel_rfl
def J_set_Quote_j1 : ACode :=
 .keep [6] (.seq (.ops [Zm 30 6,
 Zo 31 (.call (.f 58) [(.t 30)]),
 Zo 32 (.ext 0 (.t 31)),
 Zo 33 (.ext 1 (.t 31)),
 Zm 4 32,
 Zm 5 33])
 (.ret))
def J_set_Quote_j2 : ACode :=
 .seq (.ops [Zo 23 (.bin .lss (.t 22) (.t 21))])
 (.keep [6,20,21,22,23] (.seq (.cond (.t 23)
 (.skip)
 (.exit 0))
 (.keep [6,20,21,22] (.seq (.block 1 (.seq (.ops [Zo 24 (.idxa 1 (.t 20) (.t 22)),
 Zo 25 (.load none (.t 24)),
 Zm 8 25])
 (.keep [6,8,20,21,22] (.seq (.ops [Zm 26 8,
 Zo 27 (.call (.f 90) [(.t 26)]),
 Zo 28 (.bin .gtr (.t 27) (.c (.int .i64 8)))])
 (.keep [6,20,21,22,28] (.cond (.t 28)
 (.seq (.ops [Zo 4 (.mv (.c (.lst .clip 0 []))),
 Zo 5 (.mv (.c (.int .i64 4)))])
 (.ret))
 (.skip)))))))
 (.keep [6,20,21,22] (.ops [Zo 29 (.bin .add (.t 22) (.c (.int .i64 1))),
 Zm 22 29]))))))
def J_set_Quote : AFn :=
 ⟨34,[.t 4,.t 5],.seq (.ops [Zo 4 (.mv (.c (.lst .clip 0 []))),
 Zo 5 (.mv (.c (.int .i64 0)))])
 (.keep [0,1] (.seq (.seq (.ops [Zm 9 0,
 Zo 10 (.call (.f 35) [(.t 9)]),
 Zo 11 (.not (.t 10)),
 Zm 12 11,
 ⟨some 13,(some (12,false)),.mv (.t 1),none⟩,
 ⟨some 14,(some (12,false)),.call (.f 35) [(.t 13)],none⟩,
 ⟨some 15,(some (12,false)),.not (.t 14),none⟩,
 Zo 16 (.pick (.t 12) (.c (.bool true)) (.t 15))])
 (.keep [0,1,16] (.cond (.t 16)
 (.seq (.ops [Zo 4 (.mv (.c (.lst .clip 0 []))),
 Zo 5 (.mv (.c (.int .i64 2)))])
 (.ret))
 (.skip))))
 (.keep [0,1] (.seq (.ops [Zm 17 0,
 Zm 18 1,
 Zo 19 (.call (.f 88) [(.t 17),(.t 18),(.f 89)]),
 Zm 6 19])
 (.keep [6] (.seq (.seq (.ops [Zm 20 6,
 Zo 21 (.lenl (.t 20)),
 Zo 22 (.mv (.c (.int .i64 0)))])
 (.keep [6,20,21,22] (.block 0 (.loop [6,20,21,22] (J_set_Quote_j2)))))
 (J_set_Quote_j1)))))))⟩
theorem J_set_Quote_ok : chkFn Tryz.prog 54 J_set_Quote = true := by kernel_rfl
def J_set_As : AFn :=
 ⟨21,[.t 4,.t 5],.seq (.ops [Zo 4 (.mv (.c (.lst .clip 0 []))),
 Zo 5 (.mv (.c (.int .i64 0)))])
 (.keep [0,1] (.seq (.seq (.ops [Zm 6 0,
 Zo 7 (.call (.f 35) [(.t 6)]),
 Zo 8 (.not (.t 7))])
 (.keep [0,1,8] (.cond (.t 8)
 (.seq (.ops [Zo 4 (.mv (.c (.lst .clip 0 []))),
 Zo 5 (.mv (.c (.int .i64 2)))])
 (.ret))
 (.skip))))
 (.keep [0,1] (.seq (.seq (.ops [Zm 9 1,
 Zo 10 (.conv .i64 (.t 9)),
 Zo 11 (.bin .quo (.t 10) (.c (.int .i64 8192))),
 Zo 12 (.bin .neq (.t 11) (.c (.int .i64 5)))])
 (.keep [0,1,12] (.cond (.t 12)
 (.seq (.ops [Zo 4 (.mv (.c (.lst .clip 0 []))),
 Zo 5 (.mv (.c (.int .i64 1)))])
 (.ret))
 (.skip))))
 (.keep [0,1] (.seq (.ops [Zm 13 0,
 Zm 14 1,
 Zo 15 (.bsl 57 1 1 [(.int .u16 0)] [(0,1,(.t 14))]),
 Zo 16 (.call (.f 59) [(.t 15)]),
 Zo 17 (.bsl 43 1 1 [(.str ⟨#[]⟩)] [(0,1,(.t 16))]),
 Zo 18 (.call (.f 54) [(.t 13),(.t 17)]),
 Zo 19 (.ext 0 (.t 18)),
 Zo 20 (.ext 1 (.t 18)),
 Zm 4 19,
 Zm 5 20])
 (.ret)))))))⟩
theorem J_set_As_ok : chkFn Tryz.prog 56 J_set_As = true := by kernel_rfl
def J_word_Of_j1 : ACode :=
 .keep [3] (.seq (.ops [Zm 25 3,
 Zo 26 (.b2s (.t 25)),
 Zm 2 26])
 (.ret))
def J_word_Of_j2 : ACode :=
 .seq (.ops [Zo 13 (.bin .lss (.t 12) (.t 11))])
 (.keep [3,10,11,12,13] (.seq (.cond (.t 13)
 (.skip)
 (.exit 0))
 (.keep [3,10,11,12] (.seq (.block 1 (.seq (.ops [Zo 14 (.idxa 1 (.t 10) (.t 12)),
 Zo 15 (.load none (.t 14)),
 Zm 5 15])
 (.keep [3,5,10,11,12] (.ops [Zo 16 (.mvo 3),
 Zm 17 5,
 Zo 18 (.bin .shr (.t 17) (.c (.int .u64 8))),
 Zo 19 (.conv .u8 (.t 18)),
 Zm 20 5,
 Zo 21 (.conv .u8 (.t 20)),
 Zo 22 (.bsl 5 1 2 [(.int .u8 0),(.int .u8 0)] [(0,1,(.t 19)),(1,1,(.t 21))]),
 Zo 23 (.appo 5 1 1 16 (.t 22)),
 Zo 3 (.mvo 23)]))))
 (.keep [3,10,11,12] (.ops [Zo 24 (.bin .add (.t 12) (.c (.int .i64 1))),
 Zm 12 24]))))))
def J_word_Of : AFn :=
 ⟨27,[.t 2],.seq (.ops [Zo 2 (.mv (.c (.str ⟨#[]⟩)))])
 (.keep [0] (.seq (.ops [Zm 6 0,
 Zo 7 (.lenl (.t 6)),
 Zo 8 (.bin .mul (.c (.int .i64 2)) (.t 7)),
 Zo 9 (.mk0 5 1 1 (.t 8)),
 Zo 3 (.mvo 9)])
 (.keep [0,3] (.seq (.seq (.ops [Zm 10 0,
 Zo 11 (.lenl (.t 10)),
 Zo 12 (.mv (.c (.int .i64 0)))])
 (.keep [3,10,11,12] (.block 0 (.loop [3,10,11,12] (J_word_Of_j2)))))
 (J_word_Of_j1)))))⟩
theorem J_word_Of_ok : chkFn Tryz.prog 59 J_word_Of = true := by kernel_rfl
def J_set_collect_api_Word_api_Word_j1 : ACode :=
 .keep [7] (.seq (.ops [Zm 39 7,
 Zm 6 39])
 (.ret))
def J_set_collect_api_Word_api_Word_j2 : ACode :=
 .keep [1,2,7,18,19,20] (.ops [Zo 38 (.bin .add (.t 20) (.c (.int .i64 1))),
 Zm 20 38])
def J_set_collect_api_Word_api_Word_j3 : ACode :=
 .seq (.ops [Zo 27 (.bin .lss (.t 26) (.t 25))])
 (.keep [1,2,7,9,18,19,20,24,25,26,27] (.seq (.cond (.t 27)
 (.skip)
 (.exit 2))
 (.keep [1,2,7,9,18,19,20,24,25,26] (.seq (.block 3 (.seq (.ops [Zo 28 (.idxa 1 (.t 24) (.t 26)),
 Zo 29 (.load none (.t 28)),
 Zm 11 29])
 (.keep [1,2,7,9,11,18,19,20,24,25,26] (.ops [Zo 30 (.mvo 7),
 Zm 31 2,
 Zm 32 9,
 Zm 33 11,
 Zo 34 (.call (.t 31) [(.t 32),(.t 33)]),
 Zo 35 (.bsl 43 1 1 [(.str ⟨#[]⟩)] [(0,1,(.t 34))]),
 Zo 36 (.appo 43 1 16 30 (.t 35)),
 Zo 7 (.mvo 36)]))))
 (.keep [1,2,7,9,18,19,20,24,25,26] (.ops [Zo 37 (.bin .add (.t 26) (.c (.int .i64 1))),
 Zm 26 37]))))))
def J_set_collect_api_Word_api_Word_j4 : ACode :=
 .seq (.ops [Zo 21 (.bin .lss (.t 20) (.t 19))])
 (.keep [1,2,7,18,19,20,21] (.seq (.cond (.t 21)
 (.skip)
 (.exit 0))
 (.keep [1,2,7,18,19,20] (.seq (.block 1 (.seq (.ops [Zo 22 (.idxa 1 (.t 18) (.t 20)),
 Zo 23 (.load none (.t 22)),
 Zm 9 23])
 (.keep [1,2,7,9,18,19,20] (.seq (.ops [Zm 24 1,
 Zo 25 (.lenl (.t 24)),
 Zo 26 (.mv (.c (.int .i64 0)))])
 (.keep [1,2,7,9,18,19,20,24,25,26] (.block 2 (.loop [1,2,7,9,18,19,20,24,25,26] (J_set_collect_api_Word_api_Word_j3))))))))
 (J_set_collect_api_Word_api_Word_j2)))))
def J_set_collect_api_Word_api_Word : AFn :=
 ⟨40,[.t 6],.seq (.ops [Zo 6 (.mv (.c (.lst .clip 0 [])))])
 (.keep [0,1,2] (.seq (.ops [Zm 12 0,
 Zo 13 (.lenl (.t 12)),
 Zm 14 1,
 Zo 15 (.lenl (.t 14)),
 Zo 16 (.bin .mul (.t 13) (.t 15)),
 Zo 17 (.mk0 43 1 16 (.t 16)),
 Zo 7 (.mvo 17)])
 (.keep [0,1,2,7] (.seq (.seq (.ops [Zm 18 0,
 Zo 19 (.lenl (.t 18)),
 Zo 20 (.mv (.c (.int .i64 0)))])
 (.keep [1,2,7,18,19,20] (.block 0 (.loop [1,2,7,18,19,20] (J_set_collect_api_Word_api_Word_j4)))))
 (J_set_collect_api_Word_api_Word_j1)))))⟩
theorem J_set_collect_api_Word_api_Word_ok : chkFn Tryz.prog 88 J_set_collect_api_Word_api_Word = true := by kernel_rfl
def J_set_Quote_1 : AFn :=
 ⟨8,[.t 4],.seq (.ops [Zo 4 (.mv (.c (.str ⟨#[]⟩)))])
 (.keep [0,1] (.seq (.ops [Zm 5 0,
 Zm 6 1,
 Zo 7 (.bin .add (.t 5) (.t 6)),
 Zm 4 7])
 (.ret)))⟩
theorem J_set_Quote_1_ok : chkFn Tryz.prog 89 J_set_Quote_1 = true := by kernel_rfl
end Go.Proofs.YtedaffmkpljlnaaGreat
/- What the reference's sets do: words in order, each once. -/
namespace Go.Proofs.YtedaffmkpljlnaaGreat
open Go.RowKit Go.Lib

theorem rising_get {r : List ByteArray} (hr : rising r = true) : ∀ {i j : Nat} (hi : i < j) (hj : j < r.length), wless (r[i]'(by omega)) r[j] = true := by
 induction r with
 | nil => intro i j _ hj; simp at hj
 | cons x r ih =>
  obtain ⟨h1, h2⟩ := rising_cons.1 hr
  intro i j hi hj
  cases j with
  | zero => omega
  | succ j =>
   cases i with
   | zero => exact h1 _ (List.getElem_mem _)
   | succ i => exact ih h2 (by omega) (by simpa using hj)
def aft (r : List ByteArray) (k : Nat) (x : ByteArray) : Prop := k = 0 ∨ ∃ h : k - 1 < r.length, wless r[k - 1] x = true
theorem aft_iff {r : List ByteArray} (hr : rising r = true) {k j : Nat} (hk : k ≤ r.length) (hj : j < r.length) : aft r k r[j] ↔ k ≤ j := by
 unfold aft
 constructor
 ·rintro (h | ⟨h, hw⟩)
  ·omega
  ·rcases Nat.lt_or_ge j k with hlt | hge
   ·by_cases e : j = k - 1
    ·subst e; rw [wless_irrefl] at hw; cases hw
    ·have := rising_get hr (i := j) (j := k - 1) (by omega) (by omega)
     rw [wless_asymm this] at hw; cases hw
   ·exact hge
 ·intro h
  by_cases h0 : k = 0
  ·exact .inl h0
  ·exact .inr ⟨by omega, rising_get hr (by omega) hj⟩
structure RInv (l : List ByteArray) (k i : Nat) (best : ByteArray) (found : Bool) : Prop where
  no : found = false → ∀ x ∈ l.take i, ¬ aft (nrm l) k x
  mem : found = true → best ∈ l ∧ aft (nrm l) k best
  least : found = true → ∀ x ∈ l.take i, aft (nrm l) k x → wless x best = false
theorem RInv.zero (l : List ByteArray) (k : Nat) : RInv l k 0 ⟨#[]⟩ false := ⟨fun _ x hx => by simp at hx, fun h => (nomatch h), fun h => (nomatch h)⟩
theorem RInv.take {l : List ByteArray} {k i : Nat} {best : ByteArray} {found : Bool} (h : RInv l k i best found) (hi : i < l.length) (ha : aft (nrm l) k l[i]) (hb : found = true → wless l[i] best = true) : RInv l k (i + 1) l[i] true := by
 refine ⟨fun h => (nomatch h), fun _ => ⟨List.getElem_mem hi, ha⟩, fun _ x hx hax => ?_⟩
 rcases (by rw [List.take_succ_eq_append_getElem hi, List.mem_append] at hx; simpa using hx : x ∈ l.take i ∨ x = l[i]) with hx | rfl
 ·cases found with
  | false => exact absurd hax (h.no rfl x hx)
  | true =>
   cases hw : wless x l[i] with
   | false => rfl
   | true =>
    have := wless_trans hw (hb rfl)
    rw [h.least rfl x hx hax] at this; cases this
 ·exact wless_irrefl _
theorem RInv.skip {l : List ByteArray} {k i : Nat} {best : ByteArray} {found : Bool} (h : RInv l k i best found) (hi : i < l.length) (hs : ¬ aft (nrm l) k l[i] ∨ (found = true ∧ wless l[i] best = false)) : RInv l k (i + 1) best found := by
 have key : ∀ x, x ∈ l.take (i + 1) → x ∈ l.take i ∨ x = l[i] := fun x hx => by rw [List.take_succ_eq_append_getElem hi, List.mem_append] at hx; simpa using hx
 refine ⟨fun hf x hx => ?_, h.mem, fun hf x hx hax => ?_⟩
 ·rcases key x hx with hx | rfl
  ·exact h.no hf x hx
  ·rcases hs with hs | ⟨hs, _⟩
   ·exact hs
   ·rw [hf] at hs; cases hs
 ·rcases key x hx with hx | rfl
  ·exact h.least hf x hx hax
  ·rcases hs with hs | ⟨_, hs⟩
   ·exact absurd hax hs
   ·exact hs
theorem RInv.stop {l : List ByteArray} {k : Nat} {best : ByteArray} (h : RInv l k l.length best false) (hk : k ≤ (nrm l).length) : k = (nrm l).length := by
 rcases Nat.lt_or_ge k (nrm l).length with hlt | hge
 ·have hm : (nrm l)[k] ∈ l := mem_nrm.1 (List.getElem_mem hlt)
  exact absurd ((aft_iff (rising_nrm l) hk hlt).2 (Nat.le_refl _)) (h.no rfl _ (by rw [List.take_length]; exact hm))
 ·omega
theorem RInv.next {l : List ByteArray} {k : Nat} {best : ByteArray} (h : RInv l k l.length best true) (hk : k ≤ (nrm l).length) : ∃ hlt : k < (nrm l).length, best = (nrm l)[k] := by
 obtain ⟨hm, ha⟩ := h.mem rfl
 obtain ⟨j, hj, e⟩ := List.mem_iff_getElem.1 (mem_nrm.2 hm)
 subst e
 have hkj := (aft_iff (rising_nrm l) hk hj).1 ha
 refine ⟨by omega, ?_⟩
 by_cases e : j = k
 ·subst e; rfl
 ·have hlt : k < (nrm l).length := by omega
  have h1 := h.least rfl (nrm l)[k] (by rw [List.take_length]; exact mem_nrm.1 (List.getElem_mem hlt)) ((aft_iff (rising_nrm l) hk hlt).2 (Nat.le_refl _))
  rw [rising_get (rising_nrm l) (by omega) hj] at h1; cases h1
theorem nrm_len : ∀ l : List ByteArray, (nrm l).length ≤ l.length := by
 have h : ∀ (x : ByteArray) (l : List ByteArray), (ins x l).length ≤ l.length + 1 := by
  intro x l
  induction l with
  | nil => simp [ins]
  | cons y l ih => simp only [ins]; split; simp; split <;> simp only [List.length_cons] <;> omega
 intro l
 induction l with
 | nil => simp [nrm]
 | cons x l ih => simp only [nrm, List.length_cons]; have := h x (nrm l); omega
theorem p_rright (l : List ByteArray) (hl : l.length ≤ 1000000) (hs : ∀ x ∈ l, x.size ≤ 1000000) : PCalls Tryz.prog 44 [.lst .ro l.length (l.map .str)] (.lst .ro (nrm l).length ((nrm l).map .str)) := by
 refine pcalls_of (by first | rfl | simp [free, free.frees, frees_str]) (by first | rfl | simp [free, frees_str]) (acalls_of mixed J_ref03_Right_ok (Nat.le_of_ble_eq_true rfl) ?_); simp only [J_ref03_Right, wk,eq_self,reduceCtorEq,↓reduceIte]
 have hnl := nrm_len l
 refine W_loop (fun n fr h => ∃ k : Nat, k ≤ (nrm l).length ∧ n = (nrm l).length - k ∧ fr = [(0, .lst .ro l.length (l.map .str)), (3, .lst (.own 43) k (((nrm l).take k).map .str))]) (nrm l).length ⟨0, by omega, by omega, rfl⟩ ?_
 rintro n fr h ⟨k, hk, rfl, rfl⟩
 simp only [J_ref03_Right_j4, wk,eq_self,Nat.reduceEqDiff,reduceCtorEq,↓reduceIte]
 refine W_loop (fun n fr h => ∃ (i : Nat) (best : ByteArray) (found : Bool), i ≤ l.length ∧ n = l.length - i ∧ best.size ≤ 1000000 ∧ RInv l k i best found ∧ fr = [(0, .lst .ro l.length (l.map .str)), (3, .lst (.own 43) k (((nrm l).take k).map .str)), (4, .str best), (5, .bool found), (6, .int .i64 i)]) l.length ⟨0, ⟨#[]⟩, false, by omega, by omega, by decide, RInv.zero l k, rfl⟩ ?_
 rintro n fr h ⟨i, best, found, hi, rfl, hbs, hinv, rfl⟩
 simp only [J_ref03_Right_j3, wk,eq_self,Nat.reduceEqDiff,reduceCtorEq,↓reduceIte]
 refine ⟨fun hlt => ?_, fun hge => ?_⟩
 ·have hil : i < l.length := by omega
  have hxs := hs l[i] (List.getElem_mem hil)
  have hd : (l.map AV.str).drop (i : Int).toNat = .str l[i] :: (l.map AV.str).drop (i + 1) := by rw [show (i : Int).toNat = i by omega, drop_str hil]
  have hz : (0 ≤ (i : Int)) = True := eq_true (by omega)
  have hlt' : ((i : Int) < (l.length : Int)) = True := eq_true (by omega)
  have htk : ∀ {fr0 : Fr} {Q : Exit → Fr → Hp → Prop} {h : Hp}, restr [0, 3, 4, 5, 6] fr0 = [(0, .lst .ro l.length (l.map .str)), (3, .lst (.own 43) k (((nrm l).take k).map .str)), (4, .str l[i]), (5, .bool true), (6, .int .i64 i)] → aft (nrm l) k l[i] → (found = true → wless l[i] best = true) → W Tryz.prog J_ref03_Right_j2 fr0 h (kloop [0, 3, 4, 5, 6] (fun n fr h => ∃ (i : Nat) (best : ByteArray) (found : Bool), i ≤ l.length ∧ n = l.length - i ∧ best.size ≤ 1000000 ∧ RInv l k i best found ∧ fr = [(0, .lst .ro l.length (l.map .str)), (3, .lst (.own 43) k (((nrm l).take k).map .str)), (4, .str best), (5, .bool found), (6, .int .i64 i)]) (l.length - i) Q) := by
   intro fr0 Q h hf ha hb
   simp only [J_ref03_Right_j2, W_keep]
   rw [hf]
   simp only [wk,eq_self,Nat.reduceEqDiff,reduceCtorEq,↓reduceIte]
   exact ⟨inR_of (by omega) (by omega), l.length - (i + 1), by omega, i + 1, l[i], true, by omega, rfl, hxs, hinv.take hil ha hb, rfl⟩
  have hsk : ∀ {fr0 : Fr} {Q : Exit → Fr → Hp → Prop} {h : Hp}, restr [0, 3, 4, 5, 6] fr0 = [(0, .lst .ro l.length (l.map .str)), (3, .lst (.own 43) k (((nrm l).take k).map .str)), (4, .str best), (5, .bool found), (6, .int .i64 i)] → (¬ aft (nrm l) k l[i] ∨ (found = true ∧ wless l[i] best = false)) → W Tryz.prog J_ref03_Right_j2 fr0 h (kloop [0, 3, 4, 5, 6] (fun n fr h => ∃ (i : Nat) (best : ByteArray) (found : Bool), i ≤ l.length ∧ n = l.length - i ∧ best.size ≤ 1000000 ∧ RInv l k i best found ∧ fr = [(0, .lst .ro l.length (l.map .str)), (3, .lst (.own 43) k (((nrm l).take k).map .str)), (4, .str best), (5, .bool found), (6, .int .i64 i)]) (l.length - i) Q) := by
   intro fr0 Q h hf hss
   simp only [J_ref03_Right_j2, W_keep]
   rw [hf]
   simp only [wk,eq_self,Nat.reduceEqDiff,reduceCtorEq,↓reduceIte]
   exact ⟨inR_of (by omega) (by omega), l.length - (i + 1), by omega, i + 1, best, found, by omega, rfl, hbs, hinv.skip hil hss, rfl⟩
  simp only [wk,eq_self,Nat.reduceEqDiff,reduceCtorEq,↓reduceIte, hd, hz, hlt']
  refine ⟨fun hk0 => ?_, fun hk0 => ?_⟩
  · -- some were taken
   have hkp : 0 < k := by omega
   have hkl : k - 1 < ((nrm l).take k).length := by rw [List.length_take]; omega
   have hd2 : (((nrm l).take k).map AV.str).drop ((k : Int) - 1).toNat = .str ((nrm l)[k - 1]'(by omega)) :: (((nrm l).take k).map AV.str).drop k := by
    rw [show ((k : Int) - 1).toNat = k - 1 by omega, drop_str hkl, List.getElem_take, show k - 1 + 1 = k by omega]
   refine ⟨inR_of (by omega) (by omega), ⟨by omega, by omega⟩, ?_⟩
   simp only [wk,eq_self,Nat.reduceEqDiff,reduceCtorEq,↓reduceIte, hd2, hd, hz, hlt']
   refine ⟨_, p_rwless (nrm l)[k - 1] l[i] (by have := hs _ (mem_nrm.1 (List.getElem_mem (l := nrm l) (n := k - 1) (by omega))); omega), ?_⟩
   have haf : ∀ b, wless (nrm l)[k - 1] l[i] = b → (b = true ↔ aft (nrm l) k l[i]) := by
    intro b hb
    unfold aft
    constructor
    ·intro h; exact .inr ⟨by omega, by rw [hb, h]⟩
    ·rintro (h | ⟨_, h⟩)
     ·omega
     ·rw [← hb]; exact h
   cases hwb : wless (nrm l)[k - 1] l[i] with
   | true =>
    simp only [wk,forall_const,eq_self]
    refine ⟨fun hfo => ?_, fun hfo => htk (by first | rfl | (subst hfo; rfl)) ((haf true hwb).1 rfl) (fun h => by rw [hfo] at h; cases h)⟩
    subst hfo
    refine PCalls.use (p_rwless l[i] best (by omega)) ?_; simp only [wk,eq_self,Nat.reduceEqDiff,reduceCtorEq,↓reduceIte]
    refine ⟨fun hw => ?_, fun hw => ?_⟩
    ·simp only [wk,eq_self,Nat.reduceEqDiff,reduceCtorEq,↓reduceIte, hd, hz, hlt']
     exact htk rfl ((haf true hwb).1 rfl) (fun _ => hw)
    ·exact hsk rfl (.inr ⟨rfl, hw⟩)
   | false =>
    simp only [wk,forall_const,eq_self]
    exact hsk rfl (.inl (fun h => by have := (haf false hwb).2 h; cases this))
  ·have haf : aft (nrm l) k l[i] := .inl (by omega)
   refine ⟨fun hfo => ?_, fun hfo => htk (by first | rfl | (subst hfo; rfl)) haf (fun h => by rw [hfo] at h; cases h)⟩
   subst hfo
   refine PCalls.use (p_rwless l[i] best (by omega)) ?_; simp only [wk,eq_self,Nat.reduceEqDiff,reduceCtorEq,↓reduceIte]
   refine ⟨fun hw => ?_, fun hw => ?_⟩
   ·simp only [wk,eq_self,Nat.reduceEqDiff,reduceCtorEq,↓reduceIte, hd, hz, hlt']
    exact htk rfl haf (fun _ => hw)
   ·exact hsk rfl (.inr ⟨rfl, hw⟩)
 ·have hie : i = l.length := by omega
  subst hie
  simp only [J_ref03_Right_j1, wk,eq_self,Nat.reduceEqDiff,Nat.reduceLeDiff,reduceCtorEq,↓reduceIte]
  cases found with
  | false =>
   obtain rfl := hinv.stop hk
   exact ⟨fun _ => by rw [List.take_length], fun h => (nomatch h)⟩
  | true =>
   obtain ⟨hkl, rfl⟩ := hinv.next hk
   refine ⟨fun h => (nomatch h), fun _ => ⟨⟨by omega, by omega⟩, (nrm l).length - (k + 1), by omega, k + 1, by omega, rfl, ?_⟩⟩
   rw [List.take_succ_eq_append_getElem hkl, List.map_append]
   rfl
def vSet (r : List ByteArray × Int) : AV := .tup [.lst .ro r.1.length (r.1.map .str), .int .i64 r.2]
theorem free_vSet (r : List ByteArray × Int) : free (vSet r) = true := by simp [vSet, free, free.frees, frees_str]
def boundE (l : List ByteArray) : List ByteArray × Int := if 1 ≤ l.length ∧ l.length ≤ 16 then (l, 0) else ([], 3)
theorem ofE_may {l : List ByteArray} (h : ∀ x ∈ l, wordMay x = true) : ofE l = boundE (nrm l) := by
 unfold ofE
 rw [if_neg (by rw [List.all_eq_true.2 h]; simp)]; rfl
theorem p_rbound (l : List ByteArray) (hl : l.length ≤ 1000000) : PCalls Tryz.prog 43 [.lst .ro l.length (l.map .str)] (vSet (boundE l)) := by
 refine pcalls_of (by simp [free, free.frees, frees_str]) (free_vSet _) (ACalls.weak (acalls_of mixed J_ref03_bound_ok (Nat.le_of_ble_eq_true rfl) ?_)); simp only [J_ref03_bound, wk,eq_self,Nat.reduceEqDiff,reduceCtorEq,↓reduceIte]
 refine ⟨fun h1 => ⟨fun h2 => ?_, fun h2 => ?_⟩, fun h1 => ?_⟩
 all_goals unfold boundE
 ·rw [if_neg (by omega)]; rfl
 ·rw [if_pos (by omega)]; rfl
 ·rw [if_neg (by omega)]; rfl
theorem p_rand (a b : List ByteArray) (ha : a.length ≤ 10000) (hb : b.length ≤ 10000) (hsa : ∀ x ∈ a, x.size ≤ 1000000) (hsb : ∀ x ∈ b, x.size ≤ 1000000) : PCalls Tryz.prog 20 [.lst .ro a.length (a.map .str), .lst .ro b.length (b.map .str)] (vSet (andE a b)) := by
 refine pcalls_of (by simp [free, free.frees, frees_str]) (free_vSet _) (ACalls.weak (acalls_of mixed J_ref03_And_ok (Nat.le_of_ble_eq_true rfl) ?_)); simp only [J_ref03_And, wk,eq_self,Nat.reduceEqDiff,Nat.reduceAdd,reduceCtorEq,↓reduceIte]
 refine PCalls.use (p_rsmay a (by omega) (fun x hx => by have := hsa x hx; omega)) ?_; simp only [wk,eq_self,Nat.reduceEqDiff,reduceCtorEq,↓reduceIte]
 refine ⟨fun hm => ?_, fun hm => ?_⟩
 ·refine PCalls.use (p_rsmay b (by omega) (fun x hx => by have := hsb x hx; omega)) ?_; simp only [wk,eq_self,Nat.reduceEqDiff,reduceCtorEq,↓reduceIte]
  refine ⟨fun hm2 => ?_, fun hm2 => ?_⟩
  ·unfold andE; rw [if_pos (.inr hm2)]; rfl
  ·refine ⟨⟨by simp, by omega, by omega⟩, ⟨by simp, by omega, by omega⟩, ?_⟩
   rw [show a.length + b.length = (a ++ b).length by simp, ← List.map_append]
   refine PCalls.use (p_rright (a ++ b) (by simp; omega) (fun x hx => by rcases List.mem_append.1 hx with h | h; exact hsa x h; exact hsb x h)) ?_; simp only [wk,eq_self,↓reduceIte]
   refine PCalls.use (p_rbound (nrm (a ++ b)) (by have := nrm_len (a ++ b); simp at this; omega)) ?_; simp only [wk,eq_self,Nat.reduceEqDiff,↓reduceIte]
   unfold andE
   rw [if_neg (by simp [hm, hm2]), ofE_may (fun x hx => by rcases List.mem_append.1 hx with h | h; exact (setMay_words hm).2 x h; exact (setMay_words hm2).2 x h)]
   simp only [vSet, rod_tup, ro_ro, ro_int, wk,eq_self]
 ·unfold andE; rw [if_pos (.inl hm)]; rfl
def atomNs (s : ByteArray) : List Nat := (List.range (s.size / 2)).map (atomAt s)
theorem atomsL_eq (s : ByteArray) : atomsL s (s.size / 2) = u16s (atomNs s) := by simp [atomsL, atomNs, u16s]
theorem atomNs_len (s : ByteArray) : (atomNs s).length = s.size / 2 := by simp [atomNs]
theorem atomNs_lt (s : ByteArray) : ∀ a ∈ atomNs s, a < 65536 := by
 intro a ha
 obtain ⟨i, _, rfl⟩ := List.mem_map.1 ha
 exact atomAt_lt s i
theorem atomBytes_app (a b : List Nat) : atomBytes (a ++ b) = atomBytes a ++ atomBytes b := by simp [atomBytes]
theorem atomBytes_atoms {s : ByteArray} (h : s.size % 2 = 0) : atomBytes (atomNs s) = s.data.toList := by
 have key : ∀ k, 2 * k ≤ s.size → atomBytes ((List.range k).map (atomAt s)) = s.data.toList.take (2 * k) := by
  intro k
  induction k with
  | zero => intro _; rfl
  | succ k ih =>
   intro hk
   rw [List.range_succ, List.map_append, atomBytes_app, ih (by omega)]
   have h1 : 2 * k < s.data.toList.length := by simp; omega
   have h2 : 2 * k + 1 < s.data.toList.length := by simp; omega
   rw [show 2 * (k + 1) = 2 * k + 1 + 1 by omega, List.take_succ_eq_append_getElem h2, List.take_succ_eq_append_getElem h1, List.append_assoc]
   congr 1
   have ha : atomAt s k = s[2 * k].toNat * 256 + s[2 * k + 1].toNat := by unfold atomAt; rw [dif_pos (by omega)]
   have b1 := s[2 * k].toNat_lt
   have b2 := s[2 * k + 1].toNat_lt
   simp only [List.map_cons, List.map_nil, atomBytes, List.flatMap_cons, List.flatMap_nil, List.append_nil, ha]
   have e1 : (s[2 * k].toNat * 256 + s[2 * k + 1].toNat) / 256 = s[2 * k].toNat := by omega
   have e2 : (s[2 * k].toNat * 256 + s[2 * k + 1].toNat) % 256 = s[2 * k + 1].toNat := by omega
   rw [e1, e2]
   simp
   exact ⟨rfl, rfl⟩
 have := key (s.size / 2) (by omega)
 unfold atomNs
 rw [this, List.take_of_length_le (by simp; omega)]
def catN (l : List ByteArray) : List Nat := l.flatMap atomNs
def catE (l : List ByteArray) : ByteArray × Int := if 8 < (catN l).length then (⟨#[]⟩, 4) else (⟨(l.flatMap fun s => s.data.toList).toArray⟩, 0)
theorem catN_bytes {l : List ByteArray} (h : ∀ x ∈ l, x.size % 2 = 0) : atomBytes (catN l) = l.flatMap fun s => s.data.toList := by
 induction l with
 | nil => rfl
 | cons x l ih => simp only [catN, List.flatMap_cons] at ih ⊢; rw [atomBytes_app, atomBytes_atoms (h x (by simp)), ih (fun y hy => h y (by simp [hy]))]
theorem p_rcat (l : List ByteArray) (hl : l.length ≤ 1000) (hs : ∀ x ∈ l, x.size ≤ 1000) (hev : ∀ x ∈ l, x.size % 2 = 0) : PCalls Tryz.prog 45 [.lst .ro l.length (l.map .str)] (.tup [.str (catE l).1, .int .i64 (catE l).2]) := by
 refine pcalls_of (by first | rfl | simp [free, free.frees, frees_str]) (by first | rfl | simp [free, free.frees, frees_str, frees_u8, frees_u16]) (acalls_of mixed J_ref02_Cat_ok (Nat.le_of_ble_eq_true rfl) ?_); simp only [J_ref02_Cat, wk,eq_self,reduceCtorEq,↓reduceIte]
 have hd : ∀ {i : Nat} (h : i < l.length), (l.map AV.str).drop (i : Int).toNat = .str l[i] :: (l.map AV.str).drop (i + 1) := fun h => by rw [show ∀ i : Nat, (i : Int).toNat = i from fun i => by omega, drop_str h]
 have hlen : ∀ i, (catN (l.take i)).length ≤ 500 * i := by
  intro i
  induction i with
  | zero => simp [catN]
  | succ i ih =>
   by_cases h : i < l.length
   ·rw [List.take_succ_eq_append_getElem h]
    have := hs l[i] (List.getElem_mem h)
    simp only [catN, List.flatMap_append, List.length_append, List.flatMap_cons, List.flatMap_nil, List.append_nil, atomNs_len] at ih ⊢; omega
   ·rw [List.take_of_length_le (by omega)] at ih ⊢; omega
 refine W_loop (fun n fr h => ∃ i : Nat, i ≤ l.length ∧ n = l.length - i ∧ fr = [(0, .lst .ro l.length (l.map .str)), (4, .lst (.own 57) 0 []), (5, .int .i64 i)]) l.length ⟨0, by omega, by omega, rfl⟩ ?_
 rintro n fr h ⟨i, hi, rfl, rfl⟩
 simp only [J_ref02_Cat_j4, wk,eq_self,Nat.reduceEqDiff,reduceCtorEq,↓reduceIte]
 refine ⟨fun hlt => ?_, fun hge => ?_⟩
 ·have hil : i < l.length := by omega
  have he := hev l[i] (List.getElem_mem hil)
  refine ⟨⟨by omega, by omega⟩, ?_⟩
  simp only [hd hil, wk,ne_eq,eq_self,Nat.reduceEqDiff,Int.reduceEq,reduceCtorEq,↓reduceIte]
  refine ⟨fun h1 => ?_, fun _ => ⟨inR_of (by omega) (by omega), l.length - (i + 1), by omega, i + 1, by omega, rfl, rfl⟩⟩
  rw [Int.tmod_eq_emod_of_nonneg (by omega)] at h1
  omega
 ·simp only [J_ref02_Cat_j3, wk,eq_self,Nat.reduceEqDiff,reduceCtorEq,↓reduceIte]
  refine W_loop (fun n fr h => ∃ i : Nat, i ≤ l.length ∧ n = l.length - i ∧ fr = [(0, .lst .ro l.length (l.map .str)), (4, .lst (.own 57) (catN (l.take i)).length (u16s (catN (l.take i)))), (6, .int .i64 i)] ∧ (catN (l.take i)).length ≤ 8) l.length ⟨0, by omega, by omega, rfl, by simp [catN]⟩ ?_
  rintro n fr h ⟨i, hi, rfl, rfl, h8⟩
  simp only [J_ref02_Cat_j2, wk,eq_self,Nat.reduceEqDiff,reduceCtorEq,↓reduceIte]
  refine ⟨fun hlt => ?_, fun hge => ?_⟩
  ·have hil : i < l.length := by omega
   have hx := hs l[i] (List.getElem_mem hil)
   have hnx : catN (l.take (i + 1)) = catN (l.take i) ++ atomNs l[i] := by unfold catN; rw [List.take_succ_eq_append_getElem hil, List.flatMap_append]; simp only [List.flatMap_cons, List.flatMap_nil, List.append_nil]
   refine ⟨⟨by omega, by omega⟩, ?_⟩
   simp only [hd hil, wk,eq_self,↓reduceIte]
   refine PCalls.use (p_ratoms l[i] (by omega)) ?_; simp only [wk,eq_self,Nat.reduceEqDiff,reduceCtorEq,↓reduceIte]
   rw [atomsL_eq]
   refine ⟨⟨by simp [atomNs_len], by omega, by omega⟩, ?_⟩
   rw [← atomNs_len, ← List.length_append, ← List.map_append, ← hnx]
   refine ⟨fun hgt => ?_, fun hng => ?_⟩
   ·have hbig : 8 < (catN l).length := by
     have : catN l = catN (l.take (i + 1)) ++ catN (l.drop (i + 1)) := by unfold catN; rw [← List.flatMap_append, List.take_append_drop]
     rw [this, List.length_append]; omega
    unfold catE; rw [if_pos hbig]
   ·exact ⟨inR_of (by omega) (by omega), l.length - (i + 1), by omega, i + 1, by omega, rfl, rfl, by omega⟩
  ·obtain rfl : i = l.length := by omega
   rw [List.take_length] at h8 ⊢
   simp only [J_ref02_Cat_j1, wk,eq_self,reduceCtorEq,↓reduceIte]
   refine PCalls.use (p_rof (catN l) (by omega) (fun a ha => by obtain ⟨s, _, hs⟩ := List.mem_flatMap.1 ha; exact atomNs_lt s a hs)) ?_; simp only [wk,eq_self,↓reduceIte]
   unfold catE
   rw [if_neg (by omega), catN_bytes hev]
mutual
def rdp : AV → AV
  | .lst .clip n l => .lst .ro n (rdps l)
  | .lst f n l => .lst f n (rdps l)
  | .agg l => .agg (rdps l)
  | .tup l => .tup (rdps l)
  | .fp l => .fp (rdps l)
  | .fn f l => .fn f (rdps l)
  | .fnb f l => .fnb f (rdps l)
  | a => a
def rdps : List AV → List AV
  | [] => []
  | a :: l => rdp a :: rdps l
end
theorem plain_rdp (a : AV) (h : plain a = true) : plain (rdp a) = true := by
 cases a with
 | lst f n l => cases f <;> first | (simp [plain] at h; done) | simp [rdp, plain]
 | itr s p => simp [plain] at h
 | omp b ks vs => simp [plain] at h
 | stk e o l => simp [plain] at h
 | _ => simp [rdp, plain]
theorem plains_rdp : ∀ {l : List AV}, plains l → plains (rdps l)
 | [], _ => by intro a ha; simp [rdps] at ha
 | a :: l, h => by
  intro b hb
  simp only [rdps, List.mem_cons] at hb
  rcases hb with rfl | hb
  ·exact plain_rdp a (h a (by simp))
  ·exact plains_rdp (fun x hx => h x (by simp [hx])) b hb
mutual
theorem Rep.rdp {g : Gh} : ∀ {v : Value} {a : AV}, Rep g v a → Rep g v (rdp a)
  | _, _, .bool b => by simp only [Go.Proofs.YtedaffmkpljlnaaGreat.rdp]; exact .bool b
  | _, _, .int k n => by simp only [Go.Proofs.YtedaffmkpljlnaaGreat.rdp]; exact .int k n
  | _, _, .str s => by simp only [Go.Proofs.YtedaffmkpljlnaaGreat.rdp]; exact .str s
  | _, _, .nilp => by simp only [Go.Proofs.YtedaffmkpljlnaaGreat.rdp]; exact .nilp
  | _, _, .ptr id off b h => by simp only [Go.Proofs.YtedaffmkpljlnaaGreat.rdp]; exact .ptr id off b h
  | _, _, .fp b off vs l h hp hl => by simp only [Go.Proofs.YtedaffmkpljlnaaGreat.rdp]; exact .fp b off vs _ h (plains_rdp hp) (RepL.rdp hl)
  | _, _, .lst b off n c .clip vs l h hp h1 h2 hl => by simp only [Go.Proofs.YtedaffmkpljlnaaGreat.rdp]; exact .lst b off n c .ro vs _ h (plains_rdp hp) h1 (fun e => by cases e) (RepL.rdp hl)
  | _, _, .lst b off n c .ro vs l h hp h1 h2 hl => by simp only [Go.Proofs.YtedaffmkpljlnaaGreat.rdp]; exact .lst b off n c .ro vs _ h (plains_rdp hp) h1 (fun e => by cases e) (RepL.rdp hl)
  | _, _, .lst b off n c (.own e) vs l h hp h1 h2 hl => by simp only [Go.Proofs.YtedaffmkpljlnaaGreat.rdp]; exact .lst b off n c (.own e) vs _ h (plains_rdp hp) h1 (fun e => by cases e) (RepL.rdp hl)
  | _, _, .lst0 a c .clip h => by simp only [Go.Proofs.YtedaffmkpljlnaaGreat.rdp, rdps]; exact .lst0 a c .ro (fun e => by cases e)
  | _, _, .lst0 a c .ro h => by simp only [Go.Proofs.YtedaffmkpljlnaaGreat.rdp, rdps]; exact .lst0 a c .ro (fun e => by cases e)
  | _, _, .lst0 a c (.own e) h => by simp only [Go.Proofs.YtedaffmkpljlnaaGreat.rdp, rdps]; exact .lst0 a c (.own e) (fun e => by cases e)
  | _, _, .hs id b n c h h1 => by simp only [Go.Proofs.YtedaffmkpljlnaaGreat.rdp]; exact .hs id b n c h h1
  | _, _, .hsc id b n c h h1 => by simp only [Go.Proofs.YtedaffmkpljlnaaGreat.rdp]; exact .hsc id b n c h h1
  | _, _, .agg vs l h hp hl => by simp only [Go.Proofs.YtedaffmkpljlnaaGreat.rdp]; exact .agg vs _ h (plains_rdp hp) (RepL.rdp hl)
  | _, _, .tup vs l hp hl => by simp only [Go.Proofs.YtedaffmkpljlnaaGreat.rdp]; exact .tup vs _ (plains_rdp hp) (RepL.rdp hl)
  | _, _, .fn f vs l hp hl => by simp only [Go.Proofs.YtedaffmkpljlnaaGreat.rdp]; exact .fn f vs _ (plains_rdp hp) (RepL.rdp hl)
  | _, _, .fnb f vs l hp hl => by simp only [Go.Proofs.YtedaffmkpljlnaaGreat.rdp]; exact .fnb f vs _ (plains_rdp hp) (RepL.rdp hl)
  | _, _, .nilf => by simp only [Go.Proofs.YtedaffmkpljlnaaGreat.rdp]; exact .nilf
  | _, _, .opq v h h' => by simp only [Go.Proofs.YtedaffmkpljlnaaGreat.rdp]; exact .opq v h h'
  | _, _, .frn v Q S W0 h h' h3 h4 => by simp only [Go.Proofs.YtedaffmkpljlnaaGreat.rdp]; exact .frn v Q S W0 h h' h3 h4
  | _, _, .itr b s p => by simp only [Go.Proofs.YtedaffmkpljlnaaGreat.rdp]; exact .itr b s p
  | _, _, .omp b ks vs => by simp only [Go.Proofs.YtedaffmkpljlnaaGreat.rdp]; exact .omp b ks vs
  | _, _, .mp b => by simp only [Go.Proofs.YtedaffmkpljlnaaGreat.rdp]; exact .mp b
  | _, _, .fmp b obj ks vs h1 h2 => by simp only [Go.Proofs.YtedaffmkpljlnaaGreat.rdp]; exact .fmp b obj ks vs h1 h2
  | _, _, .stk a c e o l h1 h2 h3 => by simp only [Go.Proofs.YtedaffmkpljlnaaGreat.rdp]; exact .stk a c e o l h1 h2 h3
  | _, _, .raw a m c h1 h2 => by simp only [Go.Proofs.YtedaffmkpljlnaaGreat.rdp]; exact .raw a m c h1 h2
  | _, _, .rawp b i m c => by simp only [Go.Proofs.YtedaffmkpljlnaaGreat.rdp]; exact .rawp b i m c
theorem RepL.rdp {g : Gh} : ∀ {vs : List Value} {l : List AV}, RepL g vs l → RepL g vs (rdps l)
  | _, _, .nil => by simp only [rdps]; exact .nil
  | _, _, .cons h hl => by simp only [rdps]; exact .cons (Rep.rdp h) (RepL.rdp hl)
end
theorem ACalls.deep {P : Program} {f : FuncId} {args : List AV} {h : Hp} {R : AV → Hp → Prop} (hc : ACalls P f args h (fun a h' => R (rdp a) h')) : ACalls P f args h R :=
 ⟨hc.1, fun g w vargs h1 h2 h3 h4 => (hc.2 g w vargs h1 h2 h3 h4).mono fun _ _ ⟨x, a, h', g', q1, q2, q3, q4, q5, q6, q7⟩ => ⟨x, _, h', g', q1, q2, q3, q4, q5.rdp, plain_rdp _ q6, q7⟩⟩
mutual
theorem free_rdp : ∀ a : AV, free (rdp a) = free a
  | .lst .clip n l => by simp only [rdp, free, frees_rdp l]
  | .lst .ro n l => by simp only [rdp, free, frees_rdp l]
  | .lst (.own e) n l => by simp only [rdp, free, frees_rdp l]
  | .agg l => by simp only [rdp, free, frees_rdp l]
  | .tup l => by simp only [rdp, free, frees_rdp l]
  | .fp l => by simp only [rdp, free, frees_rdp l]
  | .fn f l => by simp only [rdp, free, frees_rdp l]
  | .fnb f l => by simp only [rdp, free, frees_rdp l]
  | .bool _ => by simp only [rdp]
  | .int _ _ => by simp only [rdp]
  | .str _ => by simp only [rdp]
  | .nilp => by simp only [rdp]
  | .ptr _ _ => by simp only [rdp]
  | .hs _ _ => by simp only [rdp]
  | .hsc _ _ _ => by simp only [rdp]
  | .nilf => by simp only [rdp]
  | .opq => by simp only [rdp]
  | .frn _ => by simp only [rdp]
  | .itr _ _ => by simp only [rdp]
  | .omp _ _ _ => by simp only [rdp]
  | .mp _ => by simp only [rdp]
  | .fmp _ _ => by simp only [rdp]
  | .stk _ _ _ => by simp only [rdp]
  | .raw _ _ => by simp only [rdp]
  | .rawp _ _ => by simp only [rdp]
theorem frees_rdp : ∀ l : List AV, free.frees (rdps l) = free.frees l
  | [] => rfl
  | a :: l => by simp only [rdps, free.frees, free_rdp a, frees_rdp l]
end
theorem rdps_nil : rdps [] = [] := by simp only [rdps]
theorem rdps_cons (a : AV) (l : List AV) : rdps (a :: l) = rdp a :: rdps l := by simp only [rdps]
theorem rdp_bool (b : Bool) : rdp (.bool b) = .bool b := by simp only [rdp]
theorem rdp_int (k : IntKind) (n : Int) : rdp (.int k n) = .int k n := by simp only [rdp]
theorem rdp_str (s : ByteArray) : rdp (.str s) = .str s := by simp only [rdp]
theorem rdp_nilp : rdp .nilp = .nilp := by simp only [rdp]
theorem rdp_hs (i n : Nat) : rdp (.hs i n) = .hs i n := by simp only [rdp]
theorem rdp_hsc (i n c : Nat) : rdp (.hsc i n c) = .hsc i n c := by simp only [rdp]
theorem rdp_ptr (i n : Nat) : rdp (.ptr i n) = .ptr i n := by simp only [rdp]
theorem rdp_ro (n : Nat) (l : List AV) : rdp (.lst .ro n l) = .lst .ro n (rdps l) := by simp only [rdp]
theorem rdp_clip (n : Nat) (l : List AV) : rdp (.lst .clip n l) = .lst .ro n (rdps l) := by simp only [rdp]
theorem rdp_agg (l : List AV) : rdp (.agg l) = .agg (rdps l) := by simp only [rdp]
theorem rdp_tup (l : List AV) : rdp (.tup l) = .tup (rdps l) := by simp only [rdp]
theorem rdps_str : ∀ l : List ByteArray, rdps (l.map .str) = l.map .str
 | [] => rdps_nil
 | a :: l => by simp only [List.map_cons, rdps_cons, rdp_str, rdps_str l]
theorem rdpw : type_of% (And.intro @rdps_nil (And.intro @rdps_cons (And.intro @rdp_bool (And.intro @rdp_int (And.intro @rdp_str (And.intro @rdp_nilp (And.intro @rdp_hs (And.intro @rdp_hsc (And.intro @rdp_ptr (And.intro @rdp_ro (And.intro @rdp_clip (And.intro @rdp_agg (And.intro @rdp_tup @rdps_str))))))))))))) :=
 And.intro @rdps_nil (And.intro @rdps_cons (And.intro @rdp_bool (And.intro @rdp_int (And.intro @rdp_str (And.intro @rdp_nilp (And.intro @rdp_hs (And.intro @rdp_hsc (And.intro @rdp_ptr (And.intro @rdp_ro (And.intro @rdp_clip (And.intro @rdp_agg (And.intro @rdp_tup @rdps_str))))))))))))
theorem valL (fr : Fr) (h : Hp) (s : Option Nat) (x : Opd) (K : AV → Prop) : val fr h (.load s x) K = (match ev fr x with
  | some (.ptr id off) => (match h[id]? with
   | some (some (_, l)) => loadK s (l.drop off) K
   | _ => False)
  | some (.fp l) => loadK s l K
  | _ => False) := id rfl
def low (n : Nat) : AV → Bool
 | .ptr i _ => decide (i < n)
 | .hs i _ => decide (i < n)
 | .hsc i _ _ => decide (i < n)
 | .fp l | .lst _ _ l | .agg l | .tup l | .fn _ l | .fnb _ l => lows l
 | _ => true
where lows : List AV → Bool
  | [] => true
  | a :: l => low n a && lows l
def Gh.cut (g : Gh) (n : Nat) : Gh := { g with io := fun i => if i < n then g.io i else none }
theorem cut_io {g : Gh} {n i b : Nat} (h : (g.cut n).io i = some b) : g.io i = some b ∧ i < n := by
 simp only [Gh.cut] at h
 split at h
 ·next hi => exact ⟨h, hi⟩
 ·cases h
theorem io_cut {g : Gh} {n i b : Nat} (h : g.io i = some b) (hi : i < n) : (g.cut n).io i = some b := by
 simp only [Gh.cut, if_pos hi]; exact h
mutual
theorem Rep.cut {g : Gh} (n : Nat) : ∀ {v : Value} {a : AV}, Rep g v a → low n a = true → Rep (g.cut n) v a
  | _, _, .bool b, _ => .bool b
  | _, _, .int k m, _ => .int k m
  | _, _, .str s, _ => .str s
  | _, _, .nilp, _ => .nilp
  | _, _, .ptr id off b h, hl => .ptr id off b (io_cut h (by simpa [low] using hl))
  | _, _, .fp b off vs l h hp hr, hl => .fp b off vs l h hp (RepL.cut n hr (by simpa [low] using hl))
  | _, _, .lst b off m c f vs l h hp h1 h2 hr, hl => .lst b off m c f vs l h hp h1 h2 (RepL.cut n hr (by simpa [low] using hl))
  | _, _, .lst0 a c f h, _ => .lst0 a c f h
  | _, _, .hs id b m c h h1, hl => .hs id b m c (io_cut h (by simpa [low] using hl)) h1
  | _, _, .hsc id b m c h h1, hl => .hsc id b m c (io_cut h (by simpa [low] using hl)) h1
  | _, _, .agg vs l h hp hr, hl => .agg vs l h hp (RepL.cut n hr (by simpa [low] using hl))
  | _, _, .tup vs l hp hr, hl => .tup vs l hp (RepL.cut n hr (by simpa [low] using hl))
  | _, _, .fn f vs l hp hr, hl => .fn f vs l hp (RepL.cut n hr (by simpa [low] using hl))
  | _, _, .fnb f vs l hp hr, hl => .fnb f vs l hp (RepL.cut n hr (by simpa [low] using hl))
  | _, _, .nilf, _ => .nilf
  | _, _, .opq v h h', _ => .opq v h h'
  | _, _, .itr b s p, _ => .itr b s p
  | _, _, .omp b ks vs, _ => .omp b ks vs
  | _, _, .mp b, _ => .mp b
  | _, _, .fmp b obj ks vs h1 h2, _ => .fmp b obj ks vs h1 h2
  | _, _, .stk a c e o l h1 h2 h3, _ => .stk a c e o l h1 h2 h3
  | _, _, .raw a m c h1 h2, _ => .raw a m c h1 h2
  | _, _, .rawp b i m c, _ => .rawp b i m c
  | _, _, .frn v Q S W0 h1 h2 h3 h4, _ => .frn v Q S W0 h1 h2 h3 h4
theorem RepL.cut {g : Gh} (n : Nat) : ∀ {vs : List Value} {l : List AV}, RepL g vs l → low.lows n l = true → RepL (g.cut n) vs l
  | _, _, .nil, _ => .nil
  | _, _, .cons h hr, hl => by
    simp only [low.lows, Bool.and_eq_true] at hl
    exact .cons (Rep.cut n h hl.1) (RepL.cut n hr hl.2)
end
mutual
theorem Rep.low {g : Gh} {n : Nat} (hd : ∀ i b, g.io i = some b → i < n) : ∀ {v : Value} {a : AV}, Rep g v a → low n a = true
  | _, _, .bool b => by simp [Go.Proofs.YtedaffmkpljlnaaGreat.low]
  | _, _, .int k m => by simp [Go.Proofs.YtedaffmkpljlnaaGreat.low]
  | _, _, .str s => by simp [Go.Proofs.YtedaffmkpljlnaaGreat.low]
  | _, _, .nilp => by simp [Go.Proofs.YtedaffmkpljlnaaGreat.low]
  | _, _, .ptr id off b h => by simpa [Go.Proofs.YtedaffmkpljlnaaGreat.low] using hd id b h
  | _, _, .fp b off vs l h hp hr => by simpa [Go.Proofs.YtedaffmkpljlnaaGreat.low] using RepL.low hd hr
  | _, _, .lst b off m c f vs l h hp h1 h2 hr => by simpa [Go.Proofs.YtedaffmkpljlnaaGreat.low] using RepL.low hd hr
  | _, _, .lst0 a c f h => by simp [Go.Proofs.YtedaffmkpljlnaaGreat.low, low.lows]
  | _, _, .hs id b m c h h1 => by simpa [Go.Proofs.YtedaffmkpljlnaaGreat.low] using hd id b h
  | _, _, .hsc id b m c h h1 => by simpa [Go.Proofs.YtedaffmkpljlnaaGreat.low] using hd id b h
  | _, _, .agg vs l h hp hr => by simpa [Go.Proofs.YtedaffmkpljlnaaGreat.low] using RepL.low hd hr
  | _, _, .tup vs l hp hr => by simpa [Go.Proofs.YtedaffmkpljlnaaGreat.low] using RepL.low hd hr
  | _, _, .fn f vs l hp hr => by simpa [Go.Proofs.YtedaffmkpljlnaaGreat.low] using RepL.low hd hr
  | _, _, .fnb f vs l hp hr => by simpa [Go.Proofs.YtedaffmkpljlnaaGreat.low] using RepL.low hd hr
  | _, _, .nilf => by simp [Go.Proofs.YtedaffmkpljlnaaGreat.low]
  | _, _, .opq v h h' => by simp [Go.Proofs.YtedaffmkpljlnaaGreat.low]
  | _, _, .itr b s p => by simp [Go.Proofs.YtedaffmkpljlnaaGreat.low]
  | _, _, .omp b ks vs => by simp [Go.Proofs.YtedaffmkpljlnaaGreat.low]
  | _, _, .mp b => by simp [Go.Proofs.YtedaffmkpljlnaaGreat.low]
  | _, _, .fmp b obj ks vs h1 h2 => by simp [Go.Proofs.YtedaffmkpljlnaaGreat.low]
  | _, _, .stk a c e o l h1 h2 h3 => by simp [Go.Proofs.YtedaffmkpljlnaaGreat.low]
  | _, _, .raw a m c h1 h2 => by simp [Go.Proofs.YtedaffmkpljlnaaGreat.low]
  | _, _, .rawp b i m c => by simp [Go.Proofs.YtedaffmkpljlnaaGreat.low]
  | _, _, .frn _ _ _ _ _ _ _ _ => by simp [Go.Proofs.YtedaffmkpljlnaaGreat.low]
theorem RepL.low {g : Gh} {n : Nat} (hd : ∀ i b, g.io i = some b → i < n) : ∀ {vs : List Value} {l : List AV}, RepL g vs l → low.lows n l = true
  | _, _, .nil => by simp [low.lows]
  | _, _, .cons h hr => by simp [low.lows, Rep.low hd h, RepL.low hd hr]
end
mutual
theorem low_free {n : Nat} : ∀ {a : AV}, free a = true → low n a = true
  | .bool _, _ => by simp [low]
  | .int _ _, _ => by simp [low]
  | .str _, _ => by simp [low]
  | .nilp, _ => by simp [low]
  | .nilf, _ => by simp [low]
  | .opq, _ => by simp [low]
  | .itr _ _, _ => by simp [low]
  | .omp _ _ _, _ => by simp [low]
  | .mp _, _ => by simp [low]
  | .fmp _ _, _ => by simp [low]
  | .stk _ _ _, _ => by simp [low]
  | .raw _ _, _ => by simp [low]
  | .rawp _ _, _ => by simp [low]
  | .frn _, _ => by simp [low]
  | .ptr _ _, h => by simp [free] at h
  | .hs _ _, h => by simp [free] at h
  | .hsc _ _ _, h => by simp [free] at h
  | .fp l, h => by simpa [low] using lows_free (l := l) (by simpa [free] using h)
  | .lst _ _ l, h => by simpa [low] using lows_free (l := l) (by simpa [free] using h)
  | .agg l, h => by simpa [low] using lows_free (l := l) (by simpa [free] using h)
  | .tup l, h => by simpa [low] using lows_free (l := l) (by simpa [free] using h)
  | .fn _ l, h => by simpa [low] using lows_free (l := l) (by simpa [free] using h)
  | .fnb _ l, h => by simpa [low] using lows_free (l := l) (by simpa [free] using h)
theorem lows_free {n : Nat} : ∀ {l : List AV}, free.frees l = true → low.lows n l = true
  | [], _ => by simp [low.lows]
  | a :: l, h => by
    simp only [free.frees, Bool.and_eq_true] at h
    simp [low.lows, low_free (n := n) h.1, lows_free (n := n) h.2]
end
theorem ACalls.trim {P : Program} {f : FuncId} {args : List AV} {h : Hp} {R : AV → Hp → Prop}
  (hc : ACalls P f args h (fun a h' => ∃ h2 ex, h' = h2 ++ ex ∧ h.length ≤ h2.length ∧ low h2.length a = true ∧ (∀ (j : Nat) s l, h2[j]? = some (some (s, l)) → (∃ s', h[j]? = some (some (s', l))) ∨ low.lows h2.length l = true) ∧ R a h2)) : ACalls P f args h R := by
 refine ⟨hc.1, fun g w vargs hs hns hr hpl => (hc.2 g w vargs hs hns hr hpl).mono ?_⟩
 rintro e w1 ⟨x, a, h', g', rfl, ev, hs', hns', hx, hpa, h2, ex, rfl, hlen, hlow, hcells, hR⟩
 refine ⟨x, a, h2, g'.cut h2.length, rfl, ?_, ?_, hns', hx.cut _ hlow, hpa, hR⟩
 ·refine ⟨⟨ev.le.C, fun i b hi => io_cut (ev.le.io i b hi) (by have := (hs.dom i b hi).1; omega), ev.le.X⟩, ev.F, fun b hb => ?_, ev.os, ev.tape, ev.output, ev.size, ev.Fx⟩
  obtain ⟨q1, q2, q3, q4⟩ := ev.Fb b hb
  exact ⟨q1, q2, q3, fun i hi => q4 i (cut_io hi).1⟩
 ·refine ⟨hs'.prot, fun id s l hl => ?_, fun i j b hi hj => hs'.inj i j b (cut_io hi).1 (cut_io hj).1, fun i b hi => ⟨(cut_io hi).2, (hs'.dom i b (cut_io hi).1).2⟩, hs'.flt, hs'.olt, fun i hi => ?_, fun b o hx => ⟨(hs'.fro b o hx).1, (hs'.fro b o hx).2.1, fun i hi => (hs'.fro b o hx).2.2 i (cut_io hi).1⟩⟩
  ·have hid : id < h2.length := (List.getElem?_eq_some_iff.1 hl).1
   obtain ⟨b, arr, e, p1, p2, p3, p4, p5, p6, p7, p8, p9⟩ := hs'.obj id s l (by rw [List.getElem?_append_left hid]; exact hl)
   have hlw : low.lows h2.length l = true := by
    rcases hcells id s l hl with ⟨s', h0⟩ | h0
    ·obtain ⟨_, _, _, _, _, r3, _⟩ := hs.obj id s' l h0
     exact RepL.low (fun i b hi => by have := (hs.dom i b hi).1; omega) r3
    ·exact h0
   refine ⟨b, arr, e, io_cut p1 hid, p2, p3.cut _ hlw, p4, fun i v a q1 q2 => (p5 i v a q1 q2).keep fun b' o1 o3 o4 => ⟨rfl, o1, fun _ => rfl, o3, fun j hj => o4 j (cut_io hj).1⟩, p6, p7, p8, p9⟩
  ·have hid : i < h2.length := (List.getElem?_eq_some_iff.1 hi).1
   simp only [Gh.cut, if_pos hid]
   exact hs'.hole i (by rw [List.getElem?_append_left hid]; exact hi)
mutual
def fz (h : Hp) : AV → AV
  | .hs id n => match h[id]? with
    | some (some (_, l)) => .lst .ro n (l.map deg)
    | _ => .hs id n
  | .hsc id n c => match h[id]? with
    | some (some (_, l)) => .lst .ro n (l.map deg)
    | _ => .hsc id n c
  | .agg l => .agg (fzs h l)
  | .tup l => .tup (fzs h l)
  | a => a
def fzs (h : Hp) : List AV → List AV
  | [] => []
  | a :: l => fz h a :: fzs h l
end
theorem plain_fz {h : Hp} (a : AV) (hp : plain a = true) : plain (fz h a) = true := by
 cases a with
 | hs id n =>
  simp only [fz]
  split <;> rfl
 | hsc id n c =>
  simp only [fz]
  split <;> rfl
 | lst f n l => simp only [fz]; exact hp
 | itr s p => simp [plain] at hp
 | omp b ks vs => simp [plain] at hp
 | stk e o l => simp [plain] at hp
 | _ => simp [fz, plain]
theorem plains_fz {h : Hp} : ∀ {l : List AV}, plains l → plains (fzs h l)
 | [], _ => by intro a ha; simp [fzs] at ha
 | a :: l, hp => by
  intro b hb
  simp only [fzs, List.mem_cons] at hb
  rcases hb with rfl | hb
  ·exact plain_fz a (hp a (by simp))
  ·exact plains_fz (fun x hx => hp x (by simp [hx])) b hb
open Classical in
noncomputable def Gh.ice (g : Gh) (h : Hp) (w : World) : Gh :=
  { g with io := fun _ => none, C := fun b o => match g.C b o with
    | some v => some v
    | none => if ∃ id s l, g.io id = some b ∧ h[id]? = some (some (s, l)) then (w.cell? ⟨b, o, none⟩).filter (fun v => v.oneCell') else none }
theorem ice_le {g : Gh} {h : Hp} {w : World} {b o : Nat} {v : Value} (hc : g.C b o = some v) : (g.ice h w).C b o = some v := by simp only [Gh.ice, hc]
theorem ice_obj {P : Program} {g : Gh} {h : Hp} {w : World} {id : Nat} {s : Bool} {l : List AV} (hs : Sim P g h w) (hl : h[id]? = some (some (s, l))) :
  ∃ b arr, g.io id = some b ∧ CellsAt (g.ice h w) b 0 arr ∧ RepL g arr l := by
 obtain ⟨b, arr, e, p1, p2, p3, p4, p5, p6, p7, p8, p9⟩ := hs.obj id s l hl
 refine ⟨b, arr.toList, p1, fun i v hv => ?_, p3⟩
 cases hC : g.C b (0 + i) with
 | some u =>
  have h1 := (hs.prot _ _ _ hC).1
  rw [Nat.zero_add, cell_of_row w b i arr e (0, 0) p2] at h1
  have : v = u := by
   rw [Array.getElem?_toList] at hv
   rw [hv] at h1
   simpa using h1
  subst this
  exact ice_le hC
 | none =>
  simp only [Gh.ice, hC]
  rw [if_pos ⟨id, s, l, p1, hl⟩]
  simp only [Option.filter_eq_some_iff]
  refine ⟨?_, p4 v (List.mem_of_getElem? hv)⟩
  rw [Nat.zero_add, cell_of_row w b i arr e (0, 0) p2]
  simpa using hv
mutual
theorem Rep.ice {P : Program} {g : Gh} {h : Hp} {w : World} (hs : Sim P g h w) : ∀ {v : Value} {a : AV}, Rep g v a → free (fz h a) = true → Rep (g.ice h w) v (fz h a)
  | _, _, .bool b, _ => by simp only [fz]; exact .bool b
  | _, _, .int k m, _ => by simp only [fz]; exact .int k m
  | _, _, .str s, _ => by simp only [fz]; exact .str s
  | _, _, .nilp, _ => by simp only [fz]; exact .nilp
  | _, _, .ptr id off b hb, hf => by simp [fz, free] at hf
  | _, _, .fp b off vs l hc hp hr, hf => by
    simp only [fz] at hf ⊢
    exact Rep.free (g := g) (fun _ _ _ hc => ice_le hc) (fun _ _ h => h) (.fp b off vs l hc hp hr) hf
  | _, _, .lst b off m c f vs l hc hp h1 h2 hr, hf => by
    simp only [fz] at hf ⊢
    exact Rep.free (g := g) (fun _ _ _ hc => ice_le hc) (fun _ _ h => h) (.lst b off m c f vs l hc hp h1 h2 hr) hf
  | _, _, .lst0 a c f hc, _ => by simp only [fz]; exact .lst0 a c f hc
  | _, _, .hs id b m c hb h1, hf => by
    simp only [fz] at hf ⊢
    split at hf
    · next s l hl =>
      obtain ⟨b', arr, q1, q2, q3⟩ := ice_obj hs hl
      obtain rfl : b = b' := by rw [hb] at q1; simpa using q1
      simp only [free] at hf
      refine .lst b 0 m c .ro arr _ q2 (fun a ha => ?_) h1 (fun e => by cases e) (RepL.free (g := g) (fun _ _ _ hc => ice_le hc) (fun _ _ h => h) q3.deg hf)
      obtain ⟨a', _, rfl⟩ := List.mem_map.1 ha
      exact plain_deg a'
    · simp [free] at hf
  | _, _, .hsc id b m c hb h1, hf => by
    simp only [fz] at hf ⊢
    split at hf
    · next s l hl =>
      obtain ⟨b', arr, q1, q2, q3⟩ := ice_obj hs hl
      obtain rfl : b = b' := by rw [hb] at q1; simpa using q1
      simp only [free] at hf
      refine .lst b 0 m c .ro arr _ q2 (fun a ha => ?_) h1 (fun e => by cases e) (RepL.free (g := g) (fun _ _ _ hc => ice_le hc) (fun _ _ h => h) q3.deg hf)
      obtain ⟨a', _, rfl⟩ := List.mem_map.1 ha
      exact plain_deg a'
    · simp [free] at hf
  | _, _, .agg vs l h1 hp hr, hf => by
    simp only [fz, free] at hf ⊢
    exact .agg vs _ h1 (plains_fz hp) (RepL.ice hs hr hf)
  | _, _, .tup vs l hp hr, hf => by
    simp only [fz, free] at hf ⊢
    exact .tup vs _ (plains_fz hp) (RepL.ice hs hr hf)
  | _, _, .fn f vs l hp hr, hf => by
    simp only [fz] at hf ⊢
    exact Rep.free (g := g) (fun _ _ _ hc => ice_le hc) (fun _ _ h => h) (.fn f vs l hp hr) hf
  | _, _, .fnb f vs l hp hr, hf => by
    simp only [fz] at hf ⊢
    exact Rep.free (g := g) (fun _ _ _ hc => ice_le hc) (fun _ _ h => h) (.fnb f vs l hp hr) hf
  | _, _, .nilf, _ => by simp only [fz]; exact .nilf
  | _, _, .opq v h h', _ => by simp only [fz]; exact .opq v h h'
  | _, _, .itr b s p, _ => by simp only [fz]; exact .itr b s p
  | _, _, .omp b ks vs, _ => by simp only [fz]; exact .omp b ks vs
  | _, _, .mp b, _ => by simp only [fz]; exact .mp b
  | _, _, .fmp b obj ks vs h1 h2, _ => by simp only [fz]; exact .fmp b obj ks vs h1 h2
  | _, _, .stk a c e o l h1 h2 h3, _ => by simp only [fz]; exact .stk a c e o l h1 h2 h3
  | _, _, .raw a m c h1 h2, _ => by simp only [fz]; exact .raw a m c h1 h2
  | _, _, .rawp b i m c, _ => by simp only [fz]; exact .rawp b i m c
  | _, _, .frn v Q S W0 h1 h2 h3 h4, _ => by simp only [fz]; exact .frn v Q S W0 h1 h2 h3 h4
theorem RepL.ice {P : Program} {g : Gh} {h : Hp} {w : World} (hs : Sim P g h w) : ∀ {vs : List Value} {l : List AV}, RepL g vs l → free.frees (fzs h l) = true → RepL (g.ice h w) vs (fzs h l)
  | _, _, .nil, _ => by simp only [fzs]; exact .nil
  | _, _, .cons h0 hr, hf => by
    simp only [fzs, free.frees, Bool.and_eq_true] at hf ⊢
    exact .cons (Rep.ice hs h0 hf.1) (RepL.ice hs hr hf.2)
end
theorem fz_hs {h : Hp} {id n : Nat} {s : Bool} {l : List AV} (hl : h[id]? = some (some (s, l))) : fz h (.hs id n) = .lst .ro n (l.map deg) := by simp only [fz, hl]
theorem fz_str (h : Hp) (s : ByteArray) : fz h (.str s) = .str s := by simp only [fz]
theorem fzs_nil (h : Hp) : fzs h [] = [] := by simp only [fzs]
theorem fzs_cons (h : Hp) (a : AV) (l : List AV) : fzs h (a :: l) = fz h a :: fzs h l := by simp only [fzs]
mutual
def sh (n : Nat) : AV → AV
  | .ptr i o => .ptr (i + n) o
  | .hs i m => .hs (i + n) m
  | .hsc i m c => .hsc (i + n) m c
  | .fp l => .fp (shs n l)
  | .lst f m l => .lst f m (shs n l)
  | .agg l => .agg (shs n l)
  | .tup l => .tup (shs n l)
  | .fn f l => .fn f (shs n l)
  | .fnb f l => .fnb f (shs n l)
  | a => a
def shs (n : Nat) : List AV → List AV
  | [] => []
  | a :: l => sh n a :: shs n l
end
theorem plain_sh {n : Nat} (a : AV) (h : plain a = true) : plain (sh n a) = true := by
 cases a with
 | lst f m l => cases f <;> first | (simp [plain] at h; done) | simp [sh, plain]
 | itr s p => simp [plain] at h
 | omp b ks vs => simp [plain] at h
 | stk e o l => simp [plain] at h
 | _ => simp [sh, plain]
theorem plains_sh {n : Nat} : ∀ {l : List AV}, plains l → plains (shs n l)
 | [], _ => by intro a ha; simp [shs] at ha
 | a :: l, h => by
  intro b hb
  simp only [shs, List.mem_cons] at hb
  rcases hb with rfl | hb
  ·exact plain_sh a (h a (by simp))
  ·exact plains_sh (fun x hx => h x (by simp [hx])) b hb
theorem shs_len {n : Nat} : ∀ l : List AV, (shs n l).length = l.length
 | [] => by simp [shs]
 | a :: l => by simp [shs, shs_len l]
theorem shs_get {n : Nat} : ∀ (l : List AV) (i : Nat), (shs n l)[i]? = (l[i]?).map (sh n)
 | [], i => by simp [shs]
 | a :: l, 0 => by simp [shs]
 | a :: l, i + 1 => by simp [shs, shs_get l i]
def Gh.join (g g1 : Gh) (n : Nat) : Gh :=
  { C := g1.C, X := g1.X, io := fun i => if i < n then g.io i else g1.io (i - n), F := g.F,
    own := fun b => match g.own b with
      | some x => some x
      | none => match g1.own b with
        | some (.cell id i) => some (.cell (id + n) i)
        | x => x }
mutual
theorem Rep.sh {g g1 : Gh} {n : Nat} : ∀ {v : Value} {a : AV}, Rep g1 v a → Rep (g.join g1 n) v (sh n a)
  | _, _, .bool b => by simp only [Go.Proofs.YtedaffmkpljlnaaGreat.sh]; exact .bool b
  | _, _, .int k m => by simp only [Go.Proofs.YtedaffmkpljlnaaGreat.sh]; exact .int k m
  | _, _, .str s => by simp only [Go.Proofs.YtedaffmkpljlnaaGreat.sh]; exact .str s
  | _, _, .nilp => by simp only [Go.Proofs.YtedaffmkpljlnaaGreat.sh]; exact .nilp
  | _, _, .ptr id off b h => by simp only [Go.Proofs.YtedaffmkpljlnaaGreat.sh]; exact .ptr _ off b (by simp only [Gh.join]; rw [if_neg (by omega), Nat.add_sub_cancel]; exact h)
  | _, _, .fp b off vs l h hp hr => by simp only [Go.Proofs.YtedaffmkpljlnaaGreat.sh]; exact .fp b off vs _ h (plains_sh hp) (RepL.sh hr)
  | _, _, .lst b off m c f vs l h hp h1 h2 hr => by simp only [Go.Proofs.YtedaffmkpljlnaaGreat.sh]; exact .lst b off m c f vs _ h (plains_sh hp) h1 h2 (RepL.sh hr)
  | _, _, .lst0 a c f h => by simp only [Go.Proofs.YtedaffmkpljlnaaGreat.sh, shs]; exact .lst0 a c f h
  | _, _, .hs id b m c h h1 => by simp only [Go.Proofs.YtedaffmkpljlnaaGreat.sh]; exact .hs _ b m c (by simp only [Gh.join]; rw [if_neg (by omega), Nat.add_sub_cancel]; exact h) h1
  | _, _, .hsc id b m c h h1 => by simp only [Go.Proofs.YtedaffmkpljlnaaGreat.sh]; exact .hsc _ b m c (by simp only [Gh.join]; rw [if_neg (by omega), Nat.add_sub_cancel]; exact h) h1
  | _, _, .agg vs l h hp hr => by simp only [Go.Proofs.YtedaffmkpljlnaaGreat.sh]; exact .agg vs _ h (plains_sh hp) (RepL.sh hr)
  | _, _, .tup vs l hp hr => by simp only [Go.Proofs.YtedaffmkpljlnaaGreat.sh]; exact .tup vs _ (plains_sh hp) (RepL.sh hr)
  | _, _, .fn f vs l hp hr => by simp only [Go.Proofs.YtedaffmkpljlnaaGreat.sh]; exact .fn f vs _ (plains_sh hp) (RepL.sh hr)
  | _, _, .fnb f vs l hp hr => by simp only [Go.Proofs.YtedaffmkpljlnaaGreat.sh]; exact .fnb f vs _ (plains_sh hp) (RepL.sh hr)
  | _, _, .nilf => by simp only [Go.Proofs.YtedaffmkpljlnaaGreat.sh]; exact .nilf
  | _, _, .opq v h h' => by simp only [Go.Proofs.YtedaffmkpljlnaaGreat.sh]; exact .opq v h h'
  | _, _, .itr b s p => by simp only [Go.Proofs.YtedaffmkpljlnaaGreat.sh]; exact .itr b s p
  | _, _, .omp b ks vs => by simp only [Go.Proofs.YtedaffmkpljlnaaGreat.sh]; exact .omp b ks vs
  | _, _, .mp b => by simp only [Go.Proofs.YtedaffmkpljlnaaGreat.sh]; exact .mp b
  | _, _, .fmp b obj ks vs h1 h2 => by simp only [Go.Proofs.YtedaffmkpljlnaaGreat.sh]; exact .fmp b obj ks vs h1 h2
  | _, _, .stk a c e o l h1 h2 h3 => by simp only [Go.Proofs.YtedaffmkpljlnaaGreat.sh]; exact .stk a c e o l h1 h2 h3
  | _, _, .raw a m c h1 h2 => by simp only [Go.Proofs.YtedaffmkpljlnaaGreat.sh]; exact .raw a m c h1 h2
  | _, _, .rawp b i m c => by simp only [Go.Proofs.YtedaffmkpljlnaaGreat.sh]; exact .rawp b i m c
  | _, _, .frn v Q S W0 h1 h2 h3 h4 => by simp only [Go.Proofs.YtedaffmkpljlnaaGreat.sh]; exact .frn v Q S W0 h1 h2 h3 h4
theorem RepL.sh {g g1 : Gh} {n : Nat} : ∀ {vs : List Value} {l : List AV}, RepL g1 vs l → RepL (g.join g1 n) vs (shs n l)
  | _, _, .nil => by simp only [shs]; exact .nil
  | _, _, .cons h hr => by simp only [shs]; exact .cons (Rep.sh h) (RepL.sh hr)
end
def shH (n : Nat) (h : Hp) : Hp := h.map fun o => o.map fun x => (x.1, shs n x.2)
theorem Sim.join {P : Program} {g g1 : Gh} {h h1 : Hp} {w w1 : World} (hs : Sim P g h w) (hev : Ev g.bare w g1 w1) (hs1 : Sim P g1 h1 w1) : Sim P (g.join g1 h.length) (h ++ shH h.length h1) w1 ∧ Ev g w (g.join g1 h.length) w1 := by
 have hFF : ∀ b, (g.F b ∨ (∃ i, g.io i = some b) ∨ (∃ x, g.own b = some x)) → g1.F b := fun b hb => (hev.F b).2 hb
 have hle : GLe g (g.join g1 h.length) := ⟨fun b o v hc => hev.le.C b o v hc, fun i b hi => by have := (hs.dom i b hi).1; simp only [Gh.join, if_pos this]; exact hi, fun b o hx => hev.le.X b o hx⟩
 have hfar : ∀ k b, g1.io k = some b → ¬ (g.F b ∨ (∃ i, g.io i = some b) ∨ (∃ x, g.own b = some x)) := fun k b hk hb => by
  have := (hev.Fb b hb).2.2.2 k hk
  cases this
 have hown : ∀ b, ¬ g1.F b → g.own b = none := fun b hb => by
  cases ho : g.own b with
  | none => rfl
  | some x => exact absurd (hFF b (.inr (.inr ⟨x, ho⟩))) hb
 have hfro : ∀ b o, (g.join g1 h.length).X b = some o → w1.heap[b]? = some o ∧ (g.join g1 h.length).own b = none ∧ ∀ i, (g.join g1 h.length).io i ≠ some b := fun b o hx => by
  obtain ⟨q1, q2, q3⟩ := hs1.fro b o hx
  have hbk : (∃ i, g.io i = some b) ∨ (∃ x, g.own b = some x) → g.X b = some o := fun hh => by
   have := hev.Fx b (.inr hh)
   rw [show g.bare.X b = g.X b from rfl] at this
   rw [← this]; exact hx
  refine ⟨q1, ?_, fun i hi => ?_⟩
  ·cases ho : g.own b with
   | none => simp only [Gh.join, ho, q2]
   | some x => exact absurd (hs.fro b o (hbk (.inr ⟨x, ho⟩))).2.1 (by rw [ho]; simp)
  ·simp only [Gh.join] at hi
   split at hi
   ·exact (hs.fro b o (hbk (.inl ⟨i, hi⟩))).2.2 i hi
   ·exact q3 _ hi
 refine ⟨⟨hs1.prot, ?_, ?_, ?_, ?_, ?_, ?_, hfro⟩, ⟨hle, fun _ => .rfl, fun b hb => ?_, hev.os, hev.tape, hev.output, hev.size, fun b hb => hev.Fx b (.inl hb)⟩⟩
 ·intro id s l hl
  by_cases hid : id < h.length
  ·rw [List.getElem?_append_left hid] at hl
   refine (hs.obj id s l hl).keep hle (fun b hb h8 h9 => ?_) (fun b i o1 o3 o4 => ?_)
   ·have hbF : g.F b ∨ (∃ i, g.io i = some b) ∨ (∃ x, g.own b = some x) := .inr (.inl ⟨id, hb⟩)
    obtain ⟨q1, q2, q3, _⟩ := hev.Fb b hbF
    refine ⟨q1, q2, h8, ?_⟩
    simp only [Gh.join, h9]
    rw [q3]
    rfl
   ·obtain ⟨q1, q2, q3, q4⟩ := hev.Fb b (.inr (.inr ⟨_, o1⟩))
    refine ⟨q1, by simp only [Gh.join, o1], q2, o3, fun j hj => ?_⟩
    simp only [Gh.join] at hj
    split at hj
    ·exact o4 j hj
    ·have := q4 _ hj; cases this
  ·rw [List.getElem?_append_right (by omega), shH, List.getElem?_map] at hl
   cases hl1 : h1[id - h.length]? with
   | none => rw [hl1] at hl; cases hl
   | some o =>
    rw [hl1] at hl
    simp only [Option.map_some, Option.some.injEq] at hl
    cases o with
    | none => cases hl
    | some x =>
     obtain ⟨s', l'⟩ := x
     simp only [Option.map_some, Option.some.injEq, Prod.mk.injEq] at hl
     obtain ⟨rfl, rfl⟩ := hl
     obtain ⟨b, arr, e, p1, p2, p3, p4, p5, p6, p7, p8, p9⟩ := hs1.obj _ s' l' hl1
     refine ⟨b, arr, e, by simp only [Gh.join, if_neg hid]; exact p1, p2, p3.sh, p4, fun i v a hv ha => ?_, p6, p7, fun hf => p8 (hFF b (.inl hf)), by simp only [Gh.join, hown b p8, p9]⟩
     rw [shs_get] at ha
     cases hla : l'[i]? with
     | none => rw [hla] at ha; cases ha
     | some a' =>
      rw [hla] at ha
      simp only [Option.map_some, Option.some.injEq] at ha
      subst ha
      have ho := p5 i v a' hv hla
      cases a' with
      | lst f m c =>
       cases f with
       | own e' =>
        simp only [sh]
        obtain ⟨sz, r1, r2, ⟨vs, r3, r4⟩ | r3⟩ := ho
        ·refine ⟨sz, r1, by rw [shs_len]; exact r2, .inl ⟨vs, r3, fun b' hb' => ?_⟩⟩
         obtain ⟨k1, k2, k3, k4⟩ := r4 b' hb'
         refine ⟨?_, fun o ho => k2 o (by rw [shs_len] at ho; exact ho), fun hf => k3 (hFF b' (.inl hf)), fun j hj => ?_⟩
         ·simp only [Gh.join, hown b' k3, k1]
          congr 2; omega
         ·simp only [Gh.join] at hj
          split at hj
          ·exact k3 (hFF b' (.inr (.inl ⟨j, hj⟩)))
          ·exact k4 _ hj
        ·exact ⟨sz, r1, by rw [shs_len]; exact r2, .inr r3⟩
       | _ => exact Owned.plain (by simp [sh, plain])
      | itr s p =>
       simp only [sh]
       obtain ⟨b', r1, r2, k1, k2, k3, k4⟩ := ho
       refine ⟨b', r1, r2, ?_, k2, fun hf => k3 (hFF b' (.inl hf)), fun j hj => ?_⟩
       ·simp only [Gh.join, hown b' k3, k1]
        congr 2; omega
       ·simp only [Gh.join] at hj
        split at hj
        ·exact k3 (hFF b' (.inr (.inl ⟨j, hj⟩)))
        ·exact k4 _ hj
      | omp b ks vs =>
       simp only [sh]
       obtain ⟨b', r1, r2, k1, k2, k3, k4⟩ := ho
       refine ⟨b', r1, r2, ?_, k2, fun hf => k3 (hFF b' (.inl hf)), fun j hj => ?_⟩
       ·simp only [Gh.join, hown b' k3, k1]
        congr 2; omega
       ·simp only [Gh.join] at hj
        split at hj
        ·exact k3 (hFF b' (.inr (.inl ⟨j, hj⟩)))
        ·exact k4 _ hj
      | stk e' u c =>
       simp only [sh]
       obtain ⟨r1, ⟨r3, r4⟩ | r3⟩ := ho
       ·refine ⟨r1, .inl ⟨r3, fun b' hb' => ?_⟩⟩
        obtain ⟨k1, k2, k3, k4⟩ := r4 b' hb'
        refine ⟨?_, k2, fun hf => k3 (hFF b' (.inl hf)), fun j hj => ?_⟩
        ·simp only [Gh.join, hown b' k3, k1]
         congr 2; omega
        ·simp only [Gh.join] at hj
         split at hj
         ·exact k3 (hFF b' (.inr (.inl ⟨j, hj⟩)))
         ·exact k4 _ hj
       ·exact ⟨r1, .inr r3⟩
      | _ => exact Owned.plain (by simp [sh, plain])
 ·intro i j b hi hj
  simp only [Gh.join] at hi hj
  split at hi <;> split at hj
  ·exact hs.inj i j b hi hj
  ·exact absurd (.inr (.inl ⟨i, hi⟩)) (hfar _ b hj)
  ·exact absurd (.inr (.inl ⟨j, hj⟩)) (hfar _ b hi)
  ·have := hs1.inj _ _ b hi hj; omega
 ·intro i b hi
  simp only [Gh.join] at hi
  split at hi
  ·have := hs.dom i b hi; have := hev.size; simp; omega
  ·have := hs1.dom _ b hi; simp [shH]; omega
 ·intro b hb; exact Nat.lt_of_lt_of_le (hs.flt b hb) hev.size
 ·intro b x hb
  simp only [Gh.join] at hb
  split at hb
  ·next y hy => exact Nat.lt_of_lt_of_le (hs.olt b _ hy) hev.size
  ·split at hb
   ·next hy => exact hs1.olt b _ hy
   ·exact hs1.olt b x hb
 ·intro i hi
  by_cases hid : i < h.length
  ·rw [List.getElem?_append_left hid] at hi
   simp only [Gh.join, if_pos hid]; exact hs.hole i hi
  ·rw [List.getElem?_append_right (by omega), shH, List.getElem?_map] at hi
   simp only [Gh.join, if_neg hid]
   cases hl1 : h1[i - h.length]? with
   | none => rw [hl1] at hi; cases hi
   | some o =>
    cases o with
    | none => exact hs1.hole _ hl1
    | some x => rw [hl1] at hi; simp at hi
 ·obtain ⟨q1, q2, q3, q4⟩ := hev.Fb b (.inl hb)
  refine ⟨q1, q2, ?_, fun i hi => ?_⟩
  ·simp only [Gh.join]
   split
   ·next y hy => exact hy.symm
   ·next hy => rw [q3, hy]; rfl
  ·simp only [Gh.join] at hi
   split at hi
   ·exact hi
   ·have := q4 _ hi; cases this
theorem ACalls.shift {P : Program} {f : FuncId} {args : List AV} {R : AV → Hp → Prop} (ha : free.frees args = true) (hc : ACalls P f args [] R) (h : Hp) : ACalls P f args h (fun a h' => ∃ a0 h0, R a0 h0 ∧ a = sh h.length a0 ∧ h' = h ++ shH h.length h0) := by
 refine ⟨hc.1, fun g w vargs hs hns hr hpl => ?_⟩
 refine (hc.2 g.bare w vargs hs.bare (fun b k h => by cases h) (RepL.free (g := g) (g' := g.bare) (fun _ _ _ h => h) (fun _ _ h => h) hr ha) hpl).mono ?_
 rintro e w1 ⟨x, a, h1, g1, rfl, r1, r2, r3, r4, r5, r6⟩
 obtain ⟨s1, s2⟩ := hs.join r1 r2
 refine ⟨x, _, _, g.join g1 h.length, rfl, s2, s1, fun b k hk => ?_, r4.sh, plain_sh _ r5, a, h1, r6, rfl, rfl⟩
 simp only [Gh.join] at hk
 split at hk
 ·next y hy => simp only [Option.some.injEq] at hk; subst hk; exact hns b k hy
 ·split at hk
  ·cases hk
  ·exact r3 b k hk
def only (k : Nat) : AV → Bool
 | .ptr i _ => decide (i = k)
 | .hs i _ => decide (i = k)
 | .hsc i _ _ => decide (i = k)
 | .fp l | .lst _ _ l | .agg l | .tup l | .fn _ l | .fnb _ l => onlys l
 | _ => true
where onlys : List AV → Bool
  | [] => true
  | a :: l => only k a && onlys l
mutual
def rn : AV → AV
  | .ptr _ o => .ptr 0 o
  | .hs _ m => .hs 0 m
  | .hsc _ m c => .hsc 0 m c
  | .fp l => .fp (rns l)
  | .lst f m l => .lst f m (rns l)
  | .agg l => .agg (rns l)
  | .tup l => .tup (rns l)
  | .fn f l => .fn f (rns l)
  | .fnb f l => .fnb f (rns l)
  | a => a
def rns : List AV → List AV
  | [] => []
  | a :: l => rn a :: rns l
end
theorem plain_rn (a : AV) (h : plain a = true) : plain (rn a) = true := by
 cases a with
 | lst f m l => cases f <;> first | (simp [plain] at h; done) | simp [rn, plain]
 | itr s p => simp [plain] at h
 | omp b ks vs => simp [plain] at h
 | stk e o l => simp [plain] at h
 | _ => simp [rn, plain]
theorem plains_rn : ∀ {l : List AV}, plains l → plains (rns l)
 | [], _ => by intro a ha; simp [rns] at ha
 | a :: l, h => by
  intro b hb
  simp only [rns, List.mem_cons] at hb
  rcases hb with rfl | hb
  ·exact plain_rn a (h a (by simp))
  ·exact plains_rn (fun x hx => h x (by simp [hx])) b hb
def Gh.one (g : Gh) (k : Nat) : Gh := { g with io := fun i => if i = 0 then g.io k else none }
mutual
theorem Rep.one {g : Gh} {k : Nat} : ∀ {v : Value} {a : AV}, Rep g v a → only k a = true → Rep (g.one k) v (rn a)
  | _, _, .bool b, _ => by simp only [rn]; exact .bool b
  | _, _, .int i m, _ => by simp only [rn]; exact .int i m
  | _, _, .str s, _ => by simp only [rn]; exact .str s
  | _, _, .nilp, _ => by simp only [rn]; exact .nilp
  | _, _, .ptr id off b h, ho => by
    have : id = k := by simpa [only] using ho
    subst this
    simp only [rn]; exact .ptr 0 off b (by simp only [Gh.one, if_true]; exact h)
  | _, _, .fp b off vs l h hp hr, ho => by simp only [rn]; exact .fp b off vs _ h (plains_rn hp) (RepL.one hr (by simpa [only] using ho))
  | _, _, .lst b off m c f vs l h hp h1 h2 hr, ho => by simp only [rn]; exact .lst b off m c f vs _ h (plains_rn hp) h1 h2 (RepL.one hr (by simpa [only] using ho))
  | _, _, .lst0 a c f h, _ => by simp only [rn, rns]; exact .lst0 a c f h
  | _, _, .hs id b m c h h1, ho => by
    have : id = k := by simpa [only] using ho
    subst this
    simp only [rn]; exact .hs 0 b m c (by simp only [Gh.one, if_true]; exact h) h1
  | _, _, .hsc id b m c h h1, ho => by
    have : id = k := by simpa [only] using ho
    subst this
    simp only [rn]; exact .hsc 0 b m c (by simp only [Gh.one, if_true]; exact h) h1
  | _, _, .agg vs l h hp hr, ho => by simp only [rn]; exact .agg vs _ h (plains_rn hp) (RepL.one hr (by simpa [only] using ho))
  | _, _, .tup vs l hp hr, ho => by simp only [rn]; exact .tup vs _ (plains_rn hp) (RepL.one hr (by simpa [only] using ho))
  | _, _, .fn f vs l hp hr, ho => by simp only [rn]; exact .fn f vs _ (plains_rn hp) (RepL.one hr (by simpa [only] using ho))
  | _, _, .fnb f vs l hp hr, ho => by simp only [rn]; exact .fnb f vs _ (plains_rn hp) (RepL.one hr (by simpa [only] using ho))
  | _, _, .nilf, _ => by simp only [rn]; exact .nilf
  | _, _, .opq v h h', _ => by simp only [rn]; exact .opq v h h'
  | _, _, .itr b s p, _ => by simp only [rn]; exact .itr b s p
  | _, _, .omp b ks vs, _ => by simp only [rn]; exact .omp b ks vs
  | _, _, .mp b, _ => by simp only [rn]; exact .mp b
  | _, _, .fmp b obj ks vs h1 h2, _ => by simp only [rn]; exact .fmp b obj ks vs h1 h2
  | _, _, .stk a c e o l h1 h2 h3, _ => by simp only [rn]; exact .stk a c e o l h1 h2 h3
  | _, _, .raw a m c h1 h2, _ => by simp only [rn]; exact .raw a m c h1 h2
  | _, _, .rawp b i m c, _ => by simp only [rn]; exact .rawp b i m c
  | _, _, .frn v Q S W0 h1 h2 h3 h4, _ => by simp only [rn]; exact .frn v Q S W0 h1 h2 h3 h4
theorem RepL.one {g : Gh} {k : Nat} : ∀ {vs : List Value} {l : List AV}, RepL g vs l → only.onlys k l = true → RepL (g.one k) vs (rns l)
  | _, _, .nil, _ => by simp only [rns]; exact .nil
  | _, _, .cons h hr, ho => by
    simp only [only.onlys, Bool.and_eq_true] at ho
    simp only [rns]; exact .cons (Rep.one h ho.1) (RepL.one hr ho.2)
end
theorem ACalls.one {P : Program} {f : FuncId} {args : List AV} {R : AV → Hp → Prop}
  (hc : ACalls P f args [] (fun a h' => ∃ k l, h'[k]? = some (some (false, l)) ∧ only k a = true ∧ free.frees l = true ∧ plains l ∧ R (rn a) [some (false, l)])) : ACalls P f args [] R := by
 refine ⟨hc.1, fun g w vargs hs hns hr hpl => (hc.2 g w vargs hs hns hr hpl).mono ?_⟩
 rintro e w1 ⟨x, a, h', g', rfl, ev, hs', hns', hx, hpa, k, l, hk, ho, hfl, hpll, hR⟩
 have nodom : ∀ i b, g.io i ≠ some b := fun i b hi => absurd (hs.dom i b hi).1 (by simp)
 obtain ⟨b, arr, e, p1, p2, p3, p4, p5, p6, p7, p8, p9⟩ := hs'.obj k false l hk
 refine ⟨x, _, _, g'.one k, rfl, ?_, ?_, hns', Rep.one hx ho, plain_rn _ hpa, hR⟩
 ·refine ⟨⟨ev.le.C, fun i b hi => absurd hi (nodom i b), ev.le.X⟩, ev.F, fun b' hb' => ?_, ev.os, ev.tape, ev.output, ev.size, ev.Fx⟩
  obtain ⟨q1, q2, q3, q4⟩ := ev.Fb b' hb'
  refine ⟨q1, q2, q3, fun i hi => ?_⟩
  simp only [Gh.one] at hi
  split at hi
  ·exact absurd (q4 _ hi) (nodom _ _)
  ·cases hi
 ·refine ⟨hs'.prot, fun id s l' hl' => ?_, fun i j b' hi hj => ?_, fun i b' hi => ?_, hs'.flt, hs'.olt, fun i hi => ?_, fun b o hx => ⟨(hs'.fro b o hx).1, (hs'.fro b o hx).2.1, fun i hi => by simp only [Gh.one] at hi; split at hi; exact (hs'.fro b o hx).2.2 _ hi; cases hi⟩⟩
  ·cases id with
   | zero =>
    simp only [List.getElem?_cons_zero, Option.some.injEq, Prod.mk.injEq] at hl'
    obtain ⟨rfl, rfl⟩ := hl'
    refine ⟨b, arr, e, by simp only [Gh.one, if_true]; exact p1, p2, RepL.free (g := g') (g' := g'.one k) (fun _ _ _ h => h) (fun _ _ h => h) p3 hfl, p4, fun i v a _ ha => Owned.plain (hpll a (List.mem_of_getElem? ha)), p6, p7, p8, p9⟩
   | succ id => simp at hl'
  ·simp only [Gh.one] at hi hj
   split at hi
   ·split at hj
    ·omega
    ·cases hj
   ·cases hi
  ·simp only [Gh.one] at hi
   split at hi
   ·next h0 => subst h0; exact ⟨by simp, (hs'.dom k b' hi).2⟩
   ·cases hi
  ·cases i with
   | zero => simp at hi
   | succ i => simp at hi
end Go.Proofs.YtedaffmkpljlnaaGreat
