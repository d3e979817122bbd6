/- Texts of one proof, laid together: Ab14 FnT Ab15 Ab16 Ab17 FnP Pw Ak FnS Sr Ss Az Aw Ax Ka Kb Kc Kd Ea Eb. -/
import Derived.Test.YtedaffmkpljlnaaGreatMC17
import Derived.Test.YtedaffmkpljlnaaGreatProg
import Derived.Test.YtedaffmkpljlnaaGreatMC5
import Derived.Test.YtedaffmkpljlnaaGreatMC13
set_option maxRecDepth 100000
set_option maxHeartbeats 16000000

set_option linter.unusedSimpArgs false
set_option linter.unusedVariables false
/- The abstract layer, fifteenth part: how code is walked. -/
namespace Go.Proofs.YtedaffmkpljlnaaGreat
open Go.RowKit Go.Lib

section
variable (P : Program)
theorem W_skip (fr : Fr) (h : Hp) (Q : Exit → Fr → Hp → Prop) : W P .skip fr h Q = Q .normal fr h := id rfl
theorem W_ops (l : List AStm) (fr : Fr) (h : Hp) (Q : Exit → Fr → Hp → Prop) : W P (.ops l) fr h Q = WOps P l fr h (Q .normal) := id rfl
theorem W_draw (v : List Nat) (l : List AStm) (fr : Fr) (h : Hp) (Q : Exit → Fr → Hp → Prop) : W P (.draw v l) fr h Q = VOps P l fr h (kdraw v Q) := id rfl
theorem W_seq (a b : ACode) (fr : Fr) (h : Hp) (Q : Exit → Fr → Hp → Prop) : W P (.seq a b) fr h Q = W P a fr h (kseq P b Q) := id rfl
theorem W_cond (c : Opd) (a b : ACode) (fr : Fr) (h : Hp) (Q : Exit → Fr → Hp → Prop) : W P (.cond c a b) fr h Q = match ev fr c with
  | some (.bool p) => (p = true → W P a fr h Q) ∧ (p = false → W P b fr h Q)
  | _ => False := id rfl
theorem W_block (i : Nat) (a : ACode) (fr : Fr) (h : Hp) (Q : Exit → Fr → Hp → Prop) : W P (.block i a) fr h Q = W P a fr h (kblock i Q) := id rfl
theorem W_exit (i : Nat) (fr : Fr) (h : Hp) (Q : Exit → Fr → Hp → Prop) : W P (.exit i) fr h Q = Q (.exit i) fr h := id rfl
theorem W_ret (fr : Fr) (h : Hp) (Q : Exit → Fr → Hp → Prop) : W P .ret fr h Q = Q .ret fr h := id rfl
theorem W_keep (l : List Nat) (a : ACode) (fr : Fr) (h : Hp) (Q : Exit → Fr → Hp → Prop) : W P (.keep l a) fr h Q = W P a (restr l fr) h Q := id rfl
theorem W_loop {P : Program} {vars : List Nat} {a : ACode} {fr : Fr} {h : Hp} {Q : Exit → Fr → Hp → Prop} (I : Nat → Fr → Hp → Prop) (n : Nat) (h0 : I n (restr vars fr) h) (hr : ∀ n fr h, I n fr h → W P a fr h (kloop vars I n Q)) : W P (.loop vars a) fr h Q := ⟨I, ⟨n, h0⟩, hr⟩
theorem kseq_normal (b : ACode) (Q : Exit → Fr → Hp → Prop) (fr : Fr) (h : Hp) : kseq P b Q .normal fr h = W P b fr h Q := id rfl
theorem kseq_exit (b : ACode) (Q : Exit → Fr → Hp → Prop) (i : Nat) (fr : Fr) (h : Hp) : kseq P b Q (.exit i) fr h = Q (.exit i) fr h := id rfl
theorem kseq_ret (b : ACode) (Q : Exit → Fr → Hp → Prop) (fr : Fr) (h : Hp) : kseq P b Q .ret fr h = Q .ret fr h := id rfl
theorem kblock_normal (i : Nat) (Q : Exit → Fr → Hp → Prop) (fr : Fr) (h : Hp) : kblock i Q .normal fr h = Q .normal fr h := id rfl
theorem kblock_exit (i j : Nat) (Q : Exit → Fr → Hp → Prop) (fr : Fr) (h : Hp) : kblock i Q (.exit j) fr h = if j = i then Q .normal fr h else Q (.exit j) fr h := id rfl
theorem kblock_ret (i : Nat) (Q : Exit → Fr → Hp → Prop) (fr : Fr) (h : Hp) : kblock i Q .ret fr h = Q .ret fr h := id rfl
theorem kloop_normal (v : List Nat) (I : Nat → Fr → Hp → Prop) (n : Nat) (Q : Exit → Fr → Hp → Prop) (fr : Fr) (h : Hp) : kloop v I n Q .normal fr h = ∃ m, m < n ∧ I m (restr v fr) h := id rfl
theorem kloop_exit (v : List Nat) (I : Nat → Fr → Hp → Prop) (n : Nat) (Q : Exit → Fr → Hp → Prop) (i : Nat) (fr : Fr) (h : Hp) : kloop v I n Q (.exit i) fr h = Q (.exit i) fr h := id rfl
theorem kloop_ret (v : List Nat) (I : Nat → Fr → Hp → Prop) (n : Nat) (Q : Exit → Fr → Hp → Prop) (fr : Fr) (h : Hp) : kloop v I n Q .ret fr h = Q .ret fr h := id rfl
theorem kret_normal (rs : List RV) (R : AV → Hp → Prop) (fr : Fr) (h : Hp) : kret rs R .normal fr h = resL fr h rs (res1 (fun a => R a h)) := id rfl
theorem kret_ret (rs : List RV) (R : AV → Hp → Prop) (fr : Fr) (h : Hp) : kret rs R .ret fr h = resL fr h rs (res1 (fun a => R a h)) := id rfl
theorem kdraw_eq (v : List Nat) (Q : Exit → Fr → Hp → Prop) (fr : Fr) (h : Hp) : kdraw v Q fr h = Q .normal (restr v fr) h := id rfl
theorem kval_eq (d : Option Nat) (fr : Fr) (h : Hp) (K : Fr → Hp → Prop) (a : AV) : kval d fr h K a = K (put d a fr) h := id rfl
theorem kv_eq (h : Hp) (R : AV → Hp → Prop) (a : AV) : kv h R a = R a h := id rfl
theorem kput_eq (d : Option Nat) (o : AOp) (fr : Fr) (K : Fr → Hp → Prop) (a : AV) (h : Hp) : kput d o fr K a h = K (put d a (tk o fr)) h := id rfl
theorem kbox_eq (d : Option Nat) (fr : Fr) (h : Hp) (K : Fr → Hp → Prop) (l : List AV) : kbox d fr h K l = K (put d (.ptr h.length 0) fr) (h ++ [some (false, l)]) := id rfl
theorem kobj_eq (h : Hp) (R : AV → Hp → Prop) (l : List AV) : kobj h R l = R (.ptr h.length 0) (h ++ [some (false, l)]) := id rfl
theorem klst_eq (d : Option Nat) (e n : Nat) (fr : Fr) (h : Hp) (K : Fr → Hp → Prop) (l : List AV) : klst d e n fr h K l = K (put d (.lst (.own e) n l) fr) h := id rfl
theorem krow_eq (e n : Nat) (h : Hp) (R : AV → Hp → Prop) (l : List AV) : krow e n h R l = R (.lst (.own e) n l) h := id rfl
theorem kcall_eq (d : Option Nat) (fr : Fr) (K : Fr → Hp → Prop) (a : AV) (h : Hp) : kcall d fr K a h = K (put d a fr) h := id rfl
theorem put_some (k : Nat) (a : AV) (fr : Fr) : put (some k) a fr = (k, a) :: fr := id rfl
theorem put_none (a : AV) (fr : Fr) : put none a fr = fr := id rfl
theorem lk_nil (k : Nat) : lk [] k = none := id rfl
theorem restr_nil (fr : Fr) : restr [] fr = [] := id rfl
theorem restr_cons (k : Nat) (r : List Nat) (fr : Fr) : restr (k :: r) fr = match lk fr k with
  | some a => (k, a) :: restr r fr
  | none => restr r fr := id rfl
theorem ev_t (fr : Fr) (k : Nat) : ev fr (.t k) = (lk fr k).map deg := id rfl
theorem ev_c (fr : Fr) (a : AV) : ev fr (.c a) = some a := id rfl
theorem ev_f (fr : Fr) (i : FuncId) : ev fr (.f i) = some (.fn i []) := id rfl
theorem evs_nil (fr : Fr) : evs fr [] = some [] := id rfl
theorem evs_cons (fr : Fr) (x : Opd) (r : List Opd) : evs fr (x :: r) = match ev fr x, evs fr r with
  | some a, some l => some (a :: l)
  | _, _ => none := id rfl
theorem evD_none (fr : Fr) (d : AV) : evD fr d none = some d := id rfl
theorem evD_some (fr : Fr) (d : AV) (x : Opd) : evD fr d (some x) = ev fr x := id rfl
theorem degr_nil (k : Nat) : degr k [] = [] := id rfl
theorem degr_cons (k j : Nat) (a : AV) (r : Fr) : degr k ((j, a) :: r) = (j, if j = k then deg a else a) :: degr k r := id rfl
theorem args0_nil (k : Nat) : args0 k [] = [] := id rfl
theorem args0_cons (k : Nat) (a : AV) (l : List AV) : args0 k (a :: l) = (k, a) :: args0 (k + 1) l := id rfl
theorem buildK_nil (fr : Fr) (t : List AV) (K : List AV → Prop) : buildK fr t [] K = K t := id rfl
theorem buildK_cons (fr : Fr) (t : List AV) (o s : Nat) (x : Opd) (r : List (Nat × Nat × Opd)) (K : List AV → Prop) : buildK fr t ((o, s, x) :: r) K = match ev fr x with
  | some a => (isTup a = false ∧ (cellsOf a).length = s ∧ o + s ≤ t.length) ∧ buildK fr (splice t o (cellsOf a)) r K
  | none => False := id rfl
theorem upgK_nil (l : List AV) (K : List AV → Prop) : upgK [] l K = K l := id rfl
theorem upgK_cons (i e s : Nat) (r : List (Nat × Nat × Nat)) (l : List AV) (K : List AV → Prop) : upgK ((i, e, s) :: r) l K = match l[i]? with
  | some (.lst .clip n c) => c.length = n * s ∧ upgK r (l.set i (.lst (.own e) n c)) K
  | _ => False := id rfl
theorem resL_nil (fr : Fr) (h : Hp) (K : List AV → Prop) : resL fr h [] K = K [] := id rfl
theorem resL_t (fr : Fr) (h : Hp) (k : Nat) (r : List RV) (K : List AV → Prop) : resL fr h (.t k :: r) K = match ev fr (.t k) with
  | some a => resL fr h r (fun l => K (a :: l))
  | none => False := id rfl
theorem resL_c (fr : Fr) (h : Hp) (k : Nat) (s : Option Nat) (r : List RV) (K : List AV → Prop) : resL fr h (.c k s :: r) K = val fr h (.load s (.t k)) (fun a => resL fr h r (fun l => K (a :: l))) := id rfl
theorem res1_one (K : AV → Prop) (a : AV) : res1 K [a] = K a := id rfl
theorem res1_nil (K : AV → Prop) : res1 K [] = K (.tup []) := id rfl
theorem res1_two (K : AV → Prop) (a b : AV) (l : List AV) : res1 K (a :: b :: l) = K (.tup (a :: b :: l)) := id rfl
end

theorem lk_cons' (j k : Nat) (a : AV) (r : Fr) : lk ((j, a) :: r) k = if j = k then some a else lk r k := id rfl
theorem splice_nil' {α : Type} (l : List α) (o : Nat) : splice l o [] = l := id rfl
theorem splice_cons' {α : Type} (l : List α) (o : Nat) (v : α) (r : List α) : splice l o (v :: r) = splice (l.set o v) (o + 1) r := id rfl
theorem WOps_nil' (P : Program) (fr : Fr) (h : Hp) (K : Fr → Hp → Prop) : WOps P [] fr h K = K fr h := id rfl
theorem WOps_cons' (P : Program) (d : Option Nat) (o : AOp) (f : Option (FB × List Nat)) (r : List AStm) (fr : Fr) (h : Hp) (K : Fr → Hp → Prop) : WOps P (⟨d, none, o, f⟩ :: r) fr h K = wop P d o fr h (kops P r K) := id rfl
theorem WOps_gd' (P : Program) (d : Option Nat) (q : Nat) (want : Bool) (o : AOp) (f : Option (FB × List Nat)) (r : List AStm) (fr : Fr) (h : Hp) (K : Fr → Hp → Prop) : WOps P (⟨d, some (q, want), o, f⟩ :: r) fr h K = match lk fr q with
      | some (.bool p) => (p = want → wop P d o ((q, .bool want) :: fr) h (kops P r K)) ∧ (p = !want → WOps P r (put d (.tup []) ((q, .bool (!want)) :: fr)) h K)
      | some (.tup []) => WOps P r (put d (.tup []) fr) h K
      | _ => False := id rfl
theorem kops_eq' (P : Program) (r : List AStm) (K : Fr → Hp → Prop) (fr : Fr) (h : Hp) : kops P r K fr h = WOps P r fr h K := id rfl
theorem VOps_nil' (P : Program) (fr : Fr) (h : Hp) (K : Fr → Hp → Prop) : VOps P [] fr h K = K fr h := id rfl
theorem VOps_cons' (P : Program) (d : Option Nat) (o : AOp) (r : List AStm) (fr : Fr) (h : Hp) (K : Fr → Hp → Prop) : VOps P (⟨d, none, o, none⟩ :: r) fr h K = eff P o fr h (kput d o fr (kvops P r K)) := id rfl
theorem VOps_gd' (P : Program) (d : Option Nat) (q : Nat) (want : Bool) (o : AOp) (r : List AStm) (fr : Fr) (h : Hp) (K : Fr → Hp → Prop) : VOps P (⟨d, some (q, want), o, none⟩ :: r) fr h K = match lk fr q with
      | some (.bool p) => (p = want → eff P o ((q, .bool want) :: fr) h (kput d o ((q, .bool want) :: fr) (kvops P r K))) ∧ (p = !want → VOps P r (put d (.tup []) ((q, .bool (!want)) :: fr)) h K)
      | some (.tup []) => VOps P r (put d (.tup []) fr) h K
      | _ => False := id rfl
theorem VOps_ft' (P : Program) (d : Option Nat) (o : AOp) (b : FB) (ps : List Nat) (r : List AStm) (fr : Fr) (h : Hp) (K : Fr → Hp → Prop) : VOps P (⟨d, none, o, some (b, ps)⟩ :: r) fr h K = (apart fr (fbId b fr h) ps ∧ effF P b o fr h (kput d o fr (kvops P r K))) := id rfl
theorem VOps_gdft' (P : Program) (d : Option Nat) (q : Nat) (want : Bool) (o : AOp) (b : FB) (ps : List Nat) (r : List AStm) (fr : Fr) (h : Hp) (K : Fr → Hp → Prop) : VOps P (⟨d, some (q, want), o, some (b, ps)⟩ :: r) fr h K = match lk fr q with
      | some (.bool p) => (p = want → apart ((q, .bool want) :: fr) (fbId b ((q, .bool want) :: fr) h) ps ∧ effF P b o ((q, .bool want) :: fr) h (kput d o ((q, .bool want) :: fr) (kvops P r K))) ∧ (p = !want → VOps P r (put d (.tup []) ((q, .bool (!want)) :: fr)) h K)
      | some (.tup []) => VOps P r (put d (.tup []) fr) h K
      | _ => False := id rfl
theorem apart_nil (fr : Fr) (i : Option Nat) : apart fr i [] = True := id rfl
theorem apart_cons (fr : Fr) (i : Option Nat) (p : Nat) (r : List Nat) : apart fr i (p :: r) = ((match i, ptrId (lk fr p) with
  | some a, some b => a ≠ b
  | _, _ => False) ∧ apart fr i r) := id rfl
theorem ptrId_ptr (i o : Nat) : ptrId (some (.ptr i o)) = some i := id rfl
theorem ptrId_hs (i n : Nat) : ptrId (some (.hs i n)) = some i := id rfl
theorem sameId_eq (x : Option AV) (i : Option Nat) : sameId x i = (match ptrId x, i with
 | some a, some b => a = b
 | _, _ => False) := id rfl
theorem fbId_s (k : Nat) (fr : Fr) (h : Hp) : fbId (.s k) fr h = ptrId (lk fr k) := id rfl
theorem fbId_h (k : Nat) (fr : Fr) (h : Hp) : fbId (.h k) fr h = if k < h.length then some (h.length - 1 - k) else none := id rfl
theorem effF_load (P : Program) (b : FB) (s : Option Nat) (x : Opd) (fr : Fr) (h : Hp) (R : AV → Hp → Prop) : effF P b (.load s x) fr h R = (sameId (ev fr x) (fbId b fr h) ∧ eff P (.load s x) fr h R) := id rfl
theorem effF_loado (P : Program) (b : FB) (x : Opd) (fr : Fr) (h : Hp) (R : AV → Hp → Prop) : effF P b (.loado x) fr h R = (sameId (ev fr x) (fbId b fr h) ∧ eff P (.loado x) fr h R) := id rfl
theorem effF_store (P : Program) (b : FB) (n : Nat) (a x : Opd) (fr : Fr) (h : Hp) (R : AV → Hp → Prop) : effF P b (.store n a x) fr h R = (sameId (ev fr a) (fbId b fr h) ∧ eff P (.store n a x) fr h R) := id rfl
theorem effF_stores (P : Program) (b : FB) (n : Nat) (a x : Opd) (fr : Fr) (h : Hp) (R : AV → Hp → Prop) : effF P b (.stores n a x) fr h R = (sameId (ev fr a) (fbId b fr h) ∧ eff P (.stores n a x) fr h R) := id rfl
theorem effF_storeo (P : Program) (b : FB) (a : Opd) (k : Nat) (fr : Fr) (h : Hp) (R : AV → Hp → Prop) : effF P b (.storeo a k) fr h R = (sameId (ev fr a) (fbId b fr h) ∧ eff P (.storeo a k) fr h R) := id rfl
theorem effF_calli (P : Program) (b : FB) (f : Opd) (args : List Opd) (fr : Fr) (h : Hp) (R : AV → Hp → Prop) : effF P b (.calli f args) fr h R = (match ev fr f, evs fr args, fbId b fr h with
  | some (.fn f' caps), some l, some id => ∃ v l0 l1, h[id]? = some (some (false, l0)) ∧ (∀ h0 : Hp, h0[id]? = some (some (false, l0)) → ACalls P f' (l ++ caps) h0 (fun a h' => a = v ∧ h' = h0.set id (some (false, l1)))) ∧ R v (h.set id (some (false, l1)))
  | _, _, _ => False) := id rfl
theorem effF_new (P : Program) (b : FB) (l : List AV) (u : List (Nat × Nat × Nat)) (fr : Fr) (h : Hp) (R : AV → Hp → Prop) : effF P b (.new l u) fr h R = (match fbId b fr h with
  | some id => h[id]? = some none ∧ upgK u l (fun l' => R (.ptr id 0) (h.set id (some (false, l'))))
  | none => False) := id rfl
theorem effF_box (P : Program) (b : FB) (x : Opd) (u : List (Nat × Nat × Nat)) (fr : Fr) (h : Hp) (R : AV → Hp → Prop) : effF P b (.box x u) fr h R = (match fbId b fr h, ev fr x with
  | some id, some a => h[id]? = some none ∧ isTup a = false ∧ upgK u (cellsOf a) (fun l' => R (.ptr id 0) (h.set id (some (false, l'))))
  | _, _ => False) := id rfl
theorem effF_mkn (P : Program) (b : FB) (e s y : Nat) (z : List AV) (c : Opd) (fr : Fr) (h : Hp) (R : AV → Hp → Prop) : effF P b (.mkn e s y z c) fr h R = (match fbId b fr h, ev fr c with
  | some id, some (.int _ n) => h[id]? = some none ∧ (0 ≤ n ∧ y * n ≤ 140737488355328 ∧ n ≤ 9223372036854775807) ∧ R (.hs id n.toNat) (h.set id (some (false, (List.range (n.toNat * s)).map fun i => z.getD (i % s) .nilp)))
  | _, _ => False) := id rfl
theorem W_scope (P : Program) (a : ACode) (fr : Fr) (h : Hp) (Q : Exit → Fr → Hp → Prop) : W P (.scope a) fr h Q = W P a fr h (kscope Q) := id rfl
theorem W_dead (P : Program) (fr : Fr) (h : Hp) (Q : Exit → Fr → Hp → Prop) : W P .dead fr h Q = False := id rfl
theorem kscope_normal (Q : Exit → Fr → Hp → Prop) (fr : Fr) (h : Hp) : kscope Q .normal fr h = Q .normal fr h := id rfl
theorem kscope_exit (Q : Exit → Fr → Hp → Prop) (i : Nat) (fr : Fr) (h : Hp) : kscope Q (.exit i) fr h = Q (.exit i) fr h := id rfl
theorem kscope_ret (Q : Exit → Fr → Hp → Prop) (fr : Fr) (h : Hp) : kscope Q .ret fr h = Q .ret fr h := id rfl
theorem W_holes (P : Program) (m : Nat) (a : ACode) (fr : Fr) (h : Hp) (Q : Exit → Fr → Hp → Prop) : W P (.holes m a) fr h Q = W P a fr (h ++ List.replicate m none) Q := id rfl
theorem rep2 : List.replicate 2 (none : Option (Bool × List AV)) = [none, none] := id rfl
theorem rep3 : List.replicate 3 (none : Option (Bool × List AV)) = [none, none, none] := id rfl
theorem kvops_eq' (P : Program) (r : List AStm) (K : Fr → Hp → Prop) (fr : Fr) (h : Hp) : kvops P r K fr h = VOps P r fr h K := id rfl
theorem frees_str : ∀ l : List ByteArray, free.frees (l.map AV.str) = true
 | [] => rfl
 | _ :: l => by simp [free.frees, free, frees_str l]
theorem frees_u8 : ∀ l : List UInt8, free.frees (l.map fun b => AV.int .u8 b.toNat) = true
 | [] => rfl
 | _ :: l => by simp [free.frees, free, frees_u8 l]
theorem frees_u16 : ∀ l : List Nat, free.frees (l.map fun (b : Nat) => AV.int .u16 (b : Int)) = true
 | [] => rfl
 | _ :: l => by simp [free.frees, free, frees_u16 l]
theorem inR_of {z : Int} (h1 : -9223372036854775808 ≤ z) (h2 : z ≤ 9223372036854775807) : inR z := ⟨h1, h2⟩
theorem ACalls.use {P : Program} {f : FuncId} {args : List AV} {h : Hp} {R R' : AV → Hp → Prop} (hc : ACalls P f args h R) (hr : ∀ a h', R a h' → R' a h') : ACalls P f args h R' := hc.mono hr
theorem mixed : Tryz.prog.follows .mixedOrders = true := by kernel_rfl

end Go.Proofs.YtedaffmkpljlnaaGreat
namespace Go.Proofs.YtedaffmkpljlnaaGreat
open Go.RowKit
def J_token_All_j1 : ACode :=
 .keep [5] (.seq (.ops [Zm 62 5,
 Zm 2 62,
 Zo 3 (.mv (.c (.int .i64 0))),
 Zo 4 (.mv (.c (.int .i64 0)))])
 (.ret))
def J_token_All_j2 : ACode :=
 .seq (.ops [Zo 16 (.nxt 15),
 Zo 17 (.ext 0 (.t 16))])
 (.keep [0,5,6,15,16,17] (.seq (.cond (.t 17)
 (.skip)
 (.exit 0))
 (.keep [0,5,6,15,16] (.block 1 (.seq (.ops [Zo 18 (.ext 1 (.t 16)),
 Zo 19 (.ext 2 (.t 16)),
 Zm 7 18,
 Zm 8 19])
 (.keep [0,5,6,7,8,15] (.seq (.seq (.ops [Zm 20 7,
 Zm 21 6,
 Zo 22 (.bin .lss (.t 20) (.t 21)),
 Zm 23 22,
 ⟨some 24,(some (23,false)),.mv (.t 8),none⟩,
 ⟨some 25,(some (23,false)),.bin .eql (.t 24) (.c (.int .i32 32)),none⟩,
 Zo 26 (.pick (.t 23) (.c (.bool true)) (.t 25)),
 Zm 27 26,
 ⟨some 28,(some (27,false)),.mv (.t 8),none⟩,
 ⟨some 29,(some (27,false)),.bin .eql (.t 28) (.c (.int .i32 9)),none⟩,
 Zo 30 (.pick (.t 27) (.c (.bool true)) (.t 29)),
 Zm 31 30,
 ⟨some 32,(some (31,false)),.mv (.t 8),none⟩,
 ⟨some 33,(some (31,false)),.bin .eql (.t 32) (.c (.int .i32 10)),none⟩,
 Zo 34 (.pick (.t 31) (.c (.bool true)) (.t 33))])
 (.keep [0,5,6,7,8,15,34] (.cond (.t 34)
 (.exit 1)
 (.skip))))
 (.keep [0,5,7,8,15] (.seq (.seq (.ops [Zm 35 8,
 Zo 36 (.bin .eql (.t 35) (.c (.int .i32 35)))])
 (.keep [0,5,7,8,15,36] (.cond (.t 36)
 (.seq (.ops [Zm 37 0,
 Zm 38 7,
 Zo 39 (.call (.f 96) [(.t 37),(.t 38),(.f 97)]),
 Zm 6 39])
 (.exit 1))
 (.skip))))
 (.keep [0,5,7,8,15] (.seq (.ops [Zm 41 0,
 Zm 42 7,
 Zm 43 8,
 Zo 44 (.call (.f 98) [(.t 41),(.t 42),(.t 43)]),
 Zm 40 44,
 Zo 45 (.ext 0 (.t 40)),
 Zo 46 (.ext 1 (.t 40)),
 Zo 9 (.new [(.int .i64 0),(.str ⟨#[]⟩),(.int .i64 0),(.int .i64 0)] []),
 ⟨none,none,.store 4 (.t 9) (.t 45),none⟩,
 Zm 10 46])
 (.keep [0,5,7,9,10,15] (.seq (.seq (.ops [Zo 47 (.fld 0 (.t 9)),
 Zo 48 (.load none (.t 47)),
 Zo 49 (.bin .eql (.t 48) (.c (.int .i64 0)))])
 (.keep [0,5,7,9,10,15,49] (.cond (.t 49)
 (.seq (.ops [Zm 50 7,
 Zo 2 (.mv (.c (.lst .clip 0 []))),
 Zm 3 50,
 Zo 4 (.mv (.c (.int .i64 2)))])
 (.ret))
 (.skip))))
 (.keep [0,5,7,9,10,15] (.seq (.seq (.ops [Zm 51 5,
 Zo 52 (.lenl (.t 51)),
 Zo 53 (.bin .geq (.t 52) (.c (.int .i64 1000)))])
 (.keep [0,5,7,9,10,15,53] (.cond (.t 53)
 (.seq (.ops [Zm 54 7,
 Zo 2 (.mv (.c (.lst .clip 0 []))),
 Zm 3 54,
 Zo 4 (.mv (.c (.int .i64 3)))])
 (.ret))
 (.skip))))
 (.keep [0,5,7,9,10,15] (.seq (.ops [Zm 55 7,
 Zo 56 (.fld 3 (.t 9)),
 ⟨none,none,.store 1 (.t 56) (.t 55),none⟩])
 (.keep [0,5,9,10,15] (.seq (.ops [Zo 57 (.mvo 5),
 Zo 58 (.load (some 4) (.t 9)),
 Zo 59 (.bsl 85 4 1 [(.int .i64 0),(.str ⟨#[]⟩),(.int .i64 0),(.int .i64 0)] [(0,4,(.t 58))]),
 Zo 60 (.appo 85 4 40 57 (.t 59)),
 Zo 5 (.mvo 60)])
 (.keep [0,5,10,15] (.ops [Zm 61 10,
 Zm 6 61])))))))))))))))))))))
def J_token_All : AFn :=
 ⟨63,[.t 2,.t 3,.t 4],.seq (.ops [Zo 2 (.mv (.c (.lst .clip 0 []))),
 Zo 3 (.mv (.c (.int .i64 0))),
 Zo 4 (.mv (.c (.int .i64 0)))])
 (.keep [0] (.seq (.seq (.ops [Zm 11 0,
 Zo 12 (.lens (.t 11)),
 Zo 13 (.bin .gtr (.t 12) (.c (.int .i64 4000)))])
 (.keep [0,13] (.cond (.t 13)
 (.seq (.ops [Zo 2 (.mv (.c (.lst .clip 0 []))),
 Zo 3 (.mv (.c (.int .i64 0))),
 Zo 4 (.mv (.c (.int .i64 3)))])
 (.ret))
 (.skip))))
 (.keep [0] (.seq (.ops [Zo 5 (.mvu 85 4 (.c (.lst .clip 0 [])))])
 (.keep [0,5] (.seq (.ops [Zo 6 (.mv (.c (.int .i64 0)))])
 (.keep [0,5,6] (.seq (.seq (.ops [Zm 14 0,
 Zo 15 (.rngs (.t 14))])
 (.keep [0,5,6,15] (.block 0 (.loop [0,5,6,15] (J_token_All_j2)))))
 (J_token_All_j1)))))))))⟩
theorem J_token_All_ok : chkFn Tryz.prog 61 J_token_All = true := by kernel_rfl
def J_token_Word : AFn :=
 ⟨53,[.t 2],.seq (.ops [Zo 1 (.box (.t 0) []),
 Zo 2 (.mv (.c (.str ⟨#[]⟩)))])
 (.keep [1] (.seq (.seq (.ops [Zo 3 (.fld 0 (.t 1)),
 Zo 4 (.load none (.t 3)),
 Zo 5 (.bin .eql (.t 4) (.c (.int .i64 1)))])
 (.keep [1,5] (.cond (.t 5)
 (.seq (.ops [Zo 6 (.fld 2 (.t 1)),
 Zo 7 (.load none (.t 6)),
 Zo 8 (.fld 1 (.t 1)),
 Zo 9 (.load none (.t 8)),
 Zo 10 (.call (.f 106) [(.t 7),(.t 9)]),
 Zm 2 10])
 (.ret))
 (.skip))))
 (.keep [1] (.seq (.seq (.ops [Zo 11 (.fld 2 (.t 1)),
 Zo 12 (.load none (.t 11)),
 Zo 13 (.bin .neq (.t 12) (.c (.int .i64 0)))])
 (.keep [1,13] (.cond (.t 13)
 (.seq (.ops [Zo 2 (.mv (.c (.str ⟨#[]⟩)))])
 (.ret))
 (.skip))))
 (.keep [1] (.seq (.seq (.ops [Zo 14 (.fld 0 (.t 1)),
 Zo 15 (.load none (.t 14))])
 (.keep [1,15] (.block 0 (.seq (.ops [Zo 17 (.bin .eql (.t 15) (.c (.int .i64 8))),
 Zm 16 17])
 (.keep [1,15,16] (.cond (.t 16)
 (.seq (.seq (.ops [Zo 18 (.fld 1 (.t 1)),
 Zo 19 (.load none (.t 18)),
 Zo 20 (.call (.f 107) [(.t 19)])])
 (.keep [1,20] (.cond (.t 20)
 (.seq (.ops [Zo 21 (.fld 1 (.t 1)),
 Zo 22 (.load none (.t 21)),
 Zm 2 22])
 (.ret))
 (.skip))))
 (.keep [] (.seq (.ops [Zo 2 (.mv (.c (.str ⟨#[]⟩)))])
 (.ret))))
 (.seq (.ops [Zo 24 (.bin .eql (.t 15) (.c (.int .i64 9))),
 Zm 23 24])
 (.keep [1,23] (.cond (.t 23)
 (.seq (.seq (.ops [Zo 25 (.fld 1 (.t 1)),
 Zo 26 (.load none (.t 25)),
 Zo 27 (.lens (.t 26)),
 Zo 28 (.bin .eql (.t 27) (.c (.int .i64 1))),
 Zm 29 28,
 ⟨some 30,(some (29,true)),.fld 1 (.t 1),none⟩,
 ⟨some 31,(some (29,true)),.load none (.t 30),none⟩,
 ⟨some 32,(some (29,true)),.call (.f 108) [(.c (.str ⟨#[61,44,59,60,62,33,63,42]⟩)),(.t 31)],none⟩,
 Zo 33 (.pick (.t 29) (.t 32) (.c (.bool false)))])
 (.keep [1,33] (.cond (.t 33)
 (.seq (.ops [Zo 34 (.fld 1 (.t 1)),
 Zo 35 (.load none (.t 34)),
 Zm 2 35])
 (.ret))
 (.skip))))
 (.keep [] (.seq (.ops [Zo 2 (.mv (.c (.str ⟨#[]⟩)))])
 (.ret))))
 (.skip))))))))))
 (.keep [1] (.seq (.seq (.ops [Zo 36 (.fld 1 (.t 1)),
 Zo 37 (.load none (.t 36)),
 Zo 38 (.bin .neq (.t 37) (.c (.str ⟨#[]⟩)))])
 (.keep [1,38] (.cond (.t 38)
 (.seq (.ops [Zo 2 (.mv (.c (.str ⟨#[]⟩)))])
 (.ret))
 (.skip))))
 (.keep [1] (.seq (.seq (.ops [Zo 39 (.fld 0 (.t 1)),
 Zo 40 (.load none (.t 39))])
 (.keep [40] (.block 1 (.seq (.ops [Zo 42 (.bin .eql (.t 40) (.c (.int .i64 2))),
 Zm 41 42])
 (.keep [40,41] (.cond (.t 41)
 (.seq (.ops [Zo 2 (.mv (.c (.str ⟨#[97,110,100]⟩)))])
 (.ret))
 (.seq (.ops [Zo 44 (.bin .eql (.t 40) (.c (.int .i64 3))),
 Zm 43 44])
 (.keep [40,43] (.cond (.t 43)
 (.seq (.ops [Zo 2 (.mv (.c (.str ⟨#[102,111,114]⟩)))])
 (.ret))
 (.seq (.ops [Zo 46 (.bin .eql (.t 40) (.c (.int .i64 5))),
 Zm 45 46])
 (.keep [40,45] (.cond (.t 45)
 (.seq (.ops [Zo 2 (.mv (.c (.str ⟨#[97,115]⟩)))])
 (.ret))
 (.seq (.ops [Zo 48 (.bin .eql (.t 40) (.c (.int .i64 4))),
 Zm 47 48])
 (.keep [40,47] (.cond (.t 47)
 (.seq (.ops [Zo 2 (.mv (.c (.str ⟨#[124]⟩)))])
 (.ret))
 (.seq (.ops [Zo 50 (.bin .eql (.t 40) (.c (.int .i64 6))),
 Zm 49 50])
 (.keep [40,49] (.cond (.t 49)
 (.seq (.ops [Zo 2 (.mv (.c (.str ⟨#[40]⟩)))])
 (.ret))
 (.seq (.ops [Zo 52 (.bin .eql (.t 40) (.c (.int .i64 7))),
 Zm 51 52])
 (.keep [51] (.cond (.t 51)
 (.seq (.ops [Zo 2 (.mv (.c (.str ⟨#[41]⟩)))])
 (.ret))
 (.skip))))))))))))))))))))))
 (.keep [] (.seq (.ops [Zo 2 (.mv (.c (.str ⟨#[]⟩)))])
 (.ret)))))))))))))⟩
theorem J_token_Word_ok : chkFn Tryz.prog 69 J_token_Word = true := by kernel_rfl
def J_atom_May_j1 : ACode :=
 .keep [] (.seq (.ops [Zo 2 (.mv (.c (.bool true)))])
 (.ret))
def J_atom_May_j2 : ACode :=
 .keep [0,3] (.ops [Zm 17 3,
 Zo 18 (.bin .add (.t 17) (.c (.int .i64 1))),
 Zm 3 18])
def J_atom_May_j3 : ACode :=
 .seq (.seq (.ops [Zm 13 3,
 Zm 14 0,
 Zo 15 (.lens (.t 14)),
 Zo 16 (.bin .lss (.t 13) (.t 15))])
 (.keep [0,3,16] (.cond (.t 16)
 (.skip)
 (.exit 0))))
 (.keep [0,3] (.seq (.block 1 (.seq (.ops [Zm 19 0,
 Zm 20 3,
 Zo 21 (.idxs (.t 19) (.t 20)),
 Zm 4 21])
 (.keep [0,3,4] (.seq (.seq (.ops [Zm 22 4,
 Zo 23 (.bin .geq (.t 22) (.c (.int .u8 97))),
 Zm 24 23,
 ⟨some 25,(some (24,true)),.mv (.t 4),none⟩,
 ⟨some 26,(some (24,true)),.bin .leq (.t 25) (.c (.int .u8 122)),none⟩,
 Zo 27 (.pick (.t 24) (.t 26) (.c (.bool false)))])
 (.keep [0,3,4,27] (.cond (.t 27)
 (.exit 1)
 (.skip))))
 (.keep [0,3,4] (.seq (.seq (.ops [Zm 28 3,
 Zo 29 (.bin .eql (.t 28) (.c (.int .i64 0)))])
 (.keep [0,3,4,29] (.cond (.t 29)
 (.seq (.ops [Zo 2 (.mv (.c (.bool false)))])
 (.ret))
 (.skip))))
 (.keep [0,3,4] (.seq (.ops [Zm 30 4,
 Zo 31 (.bin .lss (.t 30) (.c (.int .u8 48))),
 Zm 32 31,
 ⟨some 33,(some (32,false)),.mv (.t 4),none⟩,
 ⟨some 34,(some (32,false)),.bin .gtr (.t 33) (.c (.int .u8 57)),none⟩,
 Zo 35 (.pick (.t 32) (.c (.bool true)) (.t 34)),
 Zm 36 35,
 ⟨some 37,(some (36,true)),.mv (.t 4),none⟩,
 ⟨some 38,(some (36,true)),.bin .neq (.t 37) (.c (.int .u8 45)),none⟩,
 Zo 39 (.pick (.t 36) (.t 38) (.c (.bool false))),
 Zm 40 39,
 ⟨some 41,(some (40,true)),.mv (.t 4),none⟩,
 ⟨some 42,(some (40,true)),.bin .neq (.t 41) (.c (.int .u8 46)),none⟩,
 Zo 43 (.pick (.t 40) (.t 42) (.c (.bool false)))])
 (.keep [0,3,43] (.cond (.t 43)
 (.seq (.ops [Zo 2 (.mv (.c (.bool false)))])
 (.ret))
 (.skip)))))))))))
 (J_atom_May_j2)))
def J_atom_May : AFn :=
 ⟨44,[.t 2],.seq (.ops [Zo 2 (.mv (.c (.bool false)))])
 (.keep [0] (.seq (.seq (.ops [Zm 5 0,
 Zo 6 (.lens (.t 5)),
 Zo 7 (.bin .lss (.t 6) (.c (.int .i64 1))),
 Zm 8 7,
 ⟨some 9,(some (8,false)),.mv (.t 0),none⟩,
 ⟨some 10,(some (8,false)),.lens (.t 9),none⟩,
 ⟨some 11,(some (8,false)),.bin .gtr (.t 10) (.c (.int .i64 24)),none⟩,
 Zo 12 (.pick (.t 8) (.c (.bool true)) (.t 11))])
 (.keep [0,12] (.cond (.t 12)
 (.seq (.ops [Zo 2 (.mv (.c (.bool false)))])
 (.ret))
 (.skip))))
 (.keep [0] (.seq (.seq (.ops [Zo 3 (.mv (.c (.int .i64 0)))])
 (.keep [0,3] (.block 0 (.loop [0,3] (J_atom_May_j3)))))
 (J_atom_May_j1)))))⟩
theorem J_atom_May_ok : chkFn Tryz.prog 84 J_atom_May = true := by kernel_rfl
def J_token_stop_j1 : ACode :=
 .keep [0] (.seq (.ops [Zm 24 0,
 Zo 25 (.lens (.t 24)),
 Zm 6 25])
 (.ret))
def J_token_stop_j2 : ACode :=
 .seq (.ops [Zo 13 (.nxt 12),
 Zo 14 (.ext 0 (.t 13))])
 (.keep [0,1,2,12,13,14] (.seq (.cond (.t 14)
 (.skip)
 (.exit 0))
 (.keep [0,1,2,12,13] (.block 1 (.seq (.ops [Zo 15 (.ext 1 (.t 13)),
 Zo 16 (.ext 2 (.t 13)),
 Zm 7 15,
 Zm 8 16])
 (.keep [0,1,2,7,8,12] (.seq (.ops [Zm 17 2,
 Zm 18 8,
 Zo 19 (.call (.t 17) [(.t 18)]),
 Zo 20 (.not (.t 19))])
 (.keep [0,1,2,7,12,20] (.cond (.t 20)
 (.seq (.ops [Zm 21 1,
 Zm 22 7,
 Zo 23 (.bin .add (.t 21) (.t 22)),
 Zm 6 23])
 (.ret))
 (.skip))))))))))
def J_token_stop : AFn :=
 ⟨26,[.t 6],.seq (.ops [Zo 6 (.mv (.c (.int .i64 0)))])
 (.keep [0,1,2] (.seq (.seq (.ops [Zm 9 0,
 Zm 10 1,
 Zo 11 (.slcs (.t 9) (some (.t 10)) none),
 Zo 12 (.rngs (.t 11))])
 (.keep [0,1,2,12] (.block 0 (.loop [0,1,2,12] (J_token_stop_j2)))))
 (J_token_stop_j1)))⟩
theorem J_token_stop_ok : chkFn Tryz.prog 96 J_token_stop = true := by kernel_rfl
def J_token_All_1 : AFn :=
 ⟨5,[.t 2],.seq (.ops [Zo 2 (.mv (.c (.bool false)))])
 (.keep [0] (.seq (.ops [Zm 3 0,
 Zo 4 (.bin .neq (.t 3) (.c (.int .i32 10))),
 Zm 2 4])
 (.ret)))⟩
theorem J_token_All_1_ok : chkFn Tryz.prog 97 J_token_All_1 = true := by kernel_rfl
def J_token_sign_j1 : ACode :=
 .keep [0,6,8,9] (.seq (.seq (.ops [Zo 58 (.load (some 4) (.t 9)),
 Zo 59 (.call (.f 69) [(.t 58)]),
 Zo 60 (.bin .eql (.t 59) (.c (.str ⟨#[]⟩))),
 Zm 61 60,
 ⟨some 62,(some (61,false)),.mv (.t 0),none⟩,
 ⟨some 63,(some (61,false)),.mv (.t 8),none⟩,
 ⟨some 64,(some (61,false)),.call (.f 96) [(.t 62),(.t 63),(.f 120)],none⟩,
 ⟨some 65,(some (61,false)),.mv (.t 8),none⟩,
 ⟨some 66,(some (61,false)),.bin .eql (.t 64) (.t 65),none⟩,
 ⟨some 67,(some (61,false)),.mv (.t 66),none⟩,
 ⟨some 68,(some (67,true)),.mv (.t 8),none⟩,
 ⟨some 69,(some (67,true)),.mv (.t 0),none⟩,
 ⟨some 70,(some (67,true)),.lens (.t 69),none⟩,
 ⟨some 71,(some (67,true)),.bin .lss (.t 68) (.t 70),none⟩,
 ⟨some 72,(some (61,false)),.pick (.t 67) (.t 71) (.c (.bool false)),none⟩,
 Zo 73 (.pick (.t 61) (.c (.bool true)) (.t 72))])
 (.keep [6,8,9,73] (.cond (.t 73)
 (.seq (.ops [Zo 74 (.build [(.int .i64 0),(.str ⟨#[]⟩),(.int .i64 0),(.int .i64 0)] []),
 ⟨none,none,.store 4 (.t 6) (.t 74),none⟩,
 Zo 7 (.mv (.c (.int .i64 0)))])
 (.ret))
 (.skip))))
 (.keep [6,8,9] (.seq (.ops [Zo 75 (.load (some 4) (.t 9)),
 Zm 76 8,
 ⟨none,none,.store 4 (.t 6) (.t 75),none⟩,
 Zm 7 76])
 (.ret))))
def J_token_sign : AFn :=
 ⟨77,[.c 6 (some 4),.t 7],.seq (.ops [Zo 6 (.new [(.int .i64 0),(.str ⟨#[]⟩),(.int .i64 0),(.int .i64 0)] []),
 Zo 7 (.mv (.c (.int .i64 0)))])
 (.keep [0,1,2,6] (.seq (.ops [Zm 10 1,
 Zo 11 (.bin .add (.t 10) (.c (.int .i64 1))),
 Zm 8 11])
 (.keep [0,1,2,6,8] (.seq (.ops [Zo 9 (.new [(.int .i64 0),(.str ⟨#[]⟩),(.int .i64 0),(.int .i64 0)] [])])
 (.keep [0,1,2,6,8,9] (.seq (.block 0 (.seq (.ops [Zm 13 2,
 Zo 14 (.bin .eql (.t 13) (.c (.int .i32 124))),
 Zm 12 14])
 (.keep [0,1,2,6,8,9,12] (.cond (.t 12)
 (.seq (.ops [Zo 15 (.build [(.int .i64 0),(.str ⟨#[]⟩),(.int .i64 0),(.int .i64 0)] [(0,1,(.c (.int .i64 4)))]),
 Zm 16 8,
 ⟨none,none,.store 4 (.t 6) (.t 15),none⟩,
 Zm 7 16])
 (.ret))
 (.seq (.ops [Zm 18 2,
 Zo 19 (.bin .eql (.t 18) (.c (.int .i32 40))),
 Zm 17 19])
 (.keep [0,1,2,6,8,9,17] (.cond (.t 17)
 (.seq (.ops [Zo 20 (.build [(.int .i64 0),(.str ⟨#[]⟩),(.int .i64 0),(.int .i64 0)] [(0,1,(.c (.int .i64 6)))]),
 Zm 21 8,
 ⟨none,none,.store 4 (.t 6) (.t 20),none⟩,
 Zm 7 21])
 (.ret))
 (.seq (.ops [Zm 23 2,
 Zo 24 (.bin .eql (.t 23) (.c (.int .i32 41))),
 Zm 22 24])
 (.keep [0,1,2,6,8,9,22] (.cond (.t 22)
 (.seq (.ops [Zo 25 (.build [(.int .i64 0),(.str ⟨#[]⟩),(.int .i64 0),(.int .i64 0)] [(0,1,(.c (.int .i64 7)))]),
 Zm 26 8,
 ⟨none,none,.store 4 (.t 6) (.t 25),none⟩,
 Zm 7 26])
 (.ret))
 (.seq (.ops [Zm 28 2,
 Zo 29 (.call (.f 116) [(.c (.str ⟨#[61,44,59,60,62,33,63,42]⟩)),(.t 28)]),
 Zm 27 29])
 (.keep [0,1,2,6,8,9,27] (.cond (.t 27)
 (.seq (.ops [Zm 30 2,
 Zo 31 (.ex .r2s [(.t 30)]),
 Zo 32 (.build [(.int .i64 0),(.str ⟨#[]⟩),(.int .i64 0),(.int .i64 0)] [(0,1,(.c (.int .i64 9))),(1,1,(.t 31))]),
 Zm 33 8,
 ⟨none,none,.store 4 (.t 6) (.t 32),none⟩,
 Zm 7 33])
 (.ret))
 (.seq (.ops [Zm 35 2,
 Zo 36 (.bin .eql (.t 35) (.c (.int .i32 68))),
 Zm 34 36])
 (.keep [0,1,2,6,8,9,34] (.cond (.t 34)
 (.ops [Zo 37 (.build [(.int .i64 0),(.str ⟨#[]⟩),(.int .i64 0),(.int .i64 0)] [(0,1,(.c (.int .i64 1))),(2,1,(.c (.int .i64 0))),(1,1,(.c (.str ⟨#[68]⟩)))]),
 ⟨none,none,.store 4 (.t 9) (.t 37),none⟩])
 (.seq (.ops [Zm 39 2,
 Zo 40 (.call (.f 117) [(.t 39)]),
 Zm 38 40])
 (.keep [0,1,2,6,8,9,38] (.cond (.t 38)
 (.seq (.ops [Zm 41 0,
 Zm 42 1,
 Zo 43 (.call (.f 96) [(.t 41),(.t 42),(.f 117)]),
 Zm 8 43])
 (.keep [0,1,6,8,9] (.ops [Zm 44 0,
 Zm 45 1,
 Zm 46 8,
 Zo 47 (.slcs (.t 44) (some (.t 45)) (some (.t 46))),
 Zo 48 (.build [(.int .i64 0),(.str ⟨#[]⟩),(.int .i64 0),(.int .i64 0)] [(0,1,(.c (.int .i64 8))),(1,1,(.t 47))]),
 ⟨none,none,.store 4 (.t 9) (.t 48),none⟩])))
 (.seq (.ops [Zm 50 2,
 Zo 51 (.call (.f 118) [(.t 50)]),
 Zm 49 51])
 (.keep [0,1,6,8,9,49] (.cond (.t 49)
 (.ops [Zm 53 0,
 Zm 54 1,
 Zo 55 (.call (.f 119) [(.t 53),(.t 54)]),
 Zm 52 55,
 Zo 56 (.ext 0 (.t 52)),
 Zo 57 (.ext 1 (.t 52)),
 ⟨none,none,.store 4 (.t 9) (.t 56),none⟩,
 Zm 8 57])
 (.skip)))))))))))))))))))))))
 (J_token_sign_j1)))))))⟩
theorem J_token_sign_ok : chkFn Tryz.prog 98 J_token_sign = true := by kernel_rfl
def J_token_atomWord_j1 : ACode :=
 .keep [] (.seq (.ops [Zo 4 (.mv (.c (.str ⟨#[]⟩)))])
 (.ret))
def J_token_atomWord : AFn :=
 ⟨36,[.t 4],.seq (.ops [Zo 4 (.mv (.c (.str ⟨#[]⟩)))])
 (.keep [0,1] (.seq (.seq (.ops [Zm 5 0,
 Zo 6 (.bin .eql (.t 5) (.c (.int .i64 0)))])
 (.keep [0,1,6] (.cond (.t 6)
 (.seq (.seq (.ops [Zm 7 1,
 Zo 8 (.bin .eql (.t 7) (.c (.str ⟨#[68]⟩)))])
 (.keep [1,8] (.cond (.t 8)
 (.seq (.ops [Zm 9 1,
 Zm 4 9])
 (.ret))
 (.skip))))
 (.keep [] (.seq (.ops [Zo 4 (.mv (.c (.str ⟨#[]⟩)))])
 (.ret))))
 (.skip))))
 (.keep [0,1] (.seq (.seq (.ops [Zm 10 1,
 Zo 11 (.call (.f 84) [(.t 10)]),
 Zo 12 (.not (.t 11))])
 (.keep [0,1,12] (.cond (.t 12)
 (.seq (.ops [Zo 4 (.mv (.c (.str ⟨#[]⟩)))])
 (.ret))
 (.skip))))
 (.keep [0,1] (.seq (.seq (.ops [Zm 13 0])
 (.keep [1,13] (.block 0 (.seq (.ops [Zo 15 (.bin .eql (.t 13) (.c (.int .i64 1))),
 Zm 14 15])
 (.keep [1,13,14] (.cond (.t 14)
 (.seq (.ops [Zm 16 1,
 Zo 17 (.bin .add (.c (.str ⟨#[107,101,121,58]⟩)) (.t 16)),
 Zm 4 17])
 (.ret))
 (.seq (.ops [Zo 19 (.bin .eql (.t 13) (.c (.int .i64 2))),
 Zm 18 19])
 (.keep [1,13,18] (.cond (.t 18)
 (.seq (.ops [Zm 20 1,
 Zo 21 (.bin .add (.c (.str ⟨#[99,104,97,110,58]⟩)) (.t 20)),
 Zm 4 21])
 (.ret))
 (.seq (.ops [Zo 23 (.bin .eql (.t 13) (.c (.int .i64 4))),
 Zm 22 23])
 (.keep [1,13,22] (.cond (.t 22)
 (.seq (.ops [Zm 24 1,
 Zo 25 (.bin .add (.c (.str ⟨#[103,114,111,117,112,58]⟩)) (.t 24)),
 Zm 4 25])
 (.ret))
 (.seq (.ops [Zo 27 (.bin .eql (.t 13) (.c (.int .i64 5))),
 Zm 26 27])
 (.keep [1,13,26] (.cond (.t 26)
 (.seq (.ops [Zm 28 1,
 Zo 29 (.bin .add (.c (.str ⟨#[114,111,108,101,58]⟩)) (.t 28)),
 Zm 4 29])
 (.ret))
 (.seq (.ops [Zo 31 (.bin .eql (.t 13) (.c (.int .i64 3))),
 Zm 30 31])
 (.keep [1,30] (.cond (.t 30)
 (.seq (.ops [Zm 32 1,
 Zo 33 (.call (.f 128) [(.t 32)]),
 Zo 34 (.bin .eql (.t 33) (.c (.int .i64 0)))])
 (.keep [1,34] (.cond (.t 34)
 (.seq (.ops [Zm 35 1,
 Zm 4 35])
 (.ret))
 (.skip))))
 (.skip)))))))))))))))))))
 (J_token_atomWord_j1)))))))⟩
theorem J_token_atomWord_ok : chkFn Tryz.prog 106 J_token_atomWord = true := by kernel_rfl
def J_token_number : AFn :=
 ⟨26,[.t 2],.seq (.ops [Zo 2 (.mv (.c (.bool false)))])
 (.keep [0] (.seq (.seq (.ops [Zm 3 0,
 Zo 4 (.lens (.t 3)),
 Zo 5 (.bin .lss (.t 4) (.c (.int .i64 1))),
 Zm 6 5,
 ⟨some 7,(some (6,false)),.mv (.t 0),none⟩,
 ⟨some 8,(some (6,false)),.lens (.t 7),none⟩,
 ⟨some 9,(some (6,false)),.bin .gtr (.t 8) (.c (.int .i64 9)),none⟩,
 Zo 10 (.pick (.t 6) (.c (.bool true)) (.t 9)),
 Zm 11 10,
 ⟨some 12,(some (11,false)),.mv (.t 0),none⟩,
 ⟨some 13,(some (11,false)),.lens (.t 12),none⟩,
 ⟨some 14,(some (11,false)),.bin .gtr (.t 13) (.c (.int .i64 1)),none⟩,
 ⟨some 15,(some (11,false)),.mv (.t 14),none⟩,
 ⟨some 16,(some (15,true)),.mv (.t 0),none⟩,
 ⟨some 17,(some (15,true)),.idxs (.t 16) (.c (.int .i64 0)),none⟩,
 ⟨some 18,(some (15,true)),.bin .eql (.t 17) (.c (.int .u8 48)),none⟩,
 ⟨some 19,(some (11,false)),.pick (.t 15) (.t 18) (.c (.bool false)),none⟩,
 Zo 20 (.pick (.t 11) (.c (.bool true)) (.t 19))])
 (.keep [0,20] (.cond (.t 20)
 (.seq (.ops [Zo 2 (.mv (.c (.bool false)))])
 (.ret))
 (.skip))))
 (.keep [0] (.seq (.ops [Zm 21 0,
 Zo 22 (.call (.f 96) [(.t 21),(.c (.int .i64 0)),(.f 117)]),
 Zm 23 0,
 Zo 24 (.lens (.t 23)),
 Zo 25 (.bin .eql (.t 22) (.t 24)),
 Zm 2 25])
 (.ret)))))⟩
theorem J_token_number_ok : chkFn Tryz.prog 107 J_token_number = true := by kernel_rfl
def J_strings_Contains : AFn :=
 ⟨9,[.t 4],.seq (.ops [Zo 4 (.mv (.c (.bool false)))])
 (.keep [0,1] (.seq (.ops [Zm 5 0,
 Zm 6 1,
 Zo 7 (.call (.f 129) [(.t 5),(.t 6)]),
 Zo 8 (.bin .geq (.t 7) (.c (.int .i64 0))),
 Zm 4 8])
 (.ret)))⟩
theorem J_strings_Contains_ok : chkFn Tryz.prog 108 J_strings_Contains = true := by kernel_rfl
def J_strings_ContainsRune : AFn :=
 ⟨9,[.t 4],.seq (.ops [Zo 4 (.mv (.c (.bool false)))])
 (.keep [0,1] (.seq (.ops [Zm 5 0,
 Zm 6 1,
 Zo 7 (.call (.f 142) [(.t 5),(.t 6)]),
 Zo 8 (.bin .geq (.t 7) (.c (.int .i64 0))),
 Zm 4 8])
 (.ret)))⟩
theorem J_strings_ContainsRune_ok : chkFn Tryz.prog 116 J_strings_ContainsRune = true := by kernel_rfl
def J_token_digit : AFn :=
 ⟨9,[.t 2],.seq (.ops [Zo 2 (.mv (.c (.bool false)))])
 (.keep [0] (.seq (.ops [Zm 3 0,
 Zo 4 (.bin .geq (.t 3) (.c (.int .i32 48))),
 Zm 5 4,
 ⟨some 6,(some (5,true)),.mv (.t 0),none⟩,
 ⟨some 7,(some (5,true)),.bin .leq (.t 6) (.c (.int .i32 57)),none⟩,
 Zo 8 (.pick (.t 5) (.t 7) (.c (.bool false))),
 Zm 2 8])
 (.ret)))⟩
theorem J_token_digit_ok : chkFn Tryz.prog 117 J_token_digit = true := by kernel_rfl
def J_token_letter : AFn :=
 ⟨9,[.t 2],.seq (.ops [Zo 2 (.mv (.c (.bool false)))])
 (.keep [0] (.seq (.ops [Zm 3 0,
 Zo 4 (.bin .geq (.t 3) (.c (.int .i32 97))),
 Zm 5 4,
 ⟨some 6,(some (5,true)),.mv (.t 0),none⟩,
 ⟨some 7,(some (5,true)),.bin .leq (.t 6) (.c (.int .i32 122)),none⟩,
 Zo 8 (.pick (.t 5) (.t 7) (.c (.bool false))),
 Zm 2 8])
 (.ret)))⟩
theorem J_token_letter_ok : chkFn Tryz.prog 118 J_token_letter = true := by kernel_rfl
def J_token_name : AFn :=
 ⟨56,[.c 4 (some 4),.t 5],.seq (.ops [Zo 4 (.new [(.int .i64 0),(.str ⟨#[]⟩),(.int .i64 0),(.int .i64 0)] []),
 Zo 5 (.mv (.c (.int .i64 0)))])
 (.keep [0,1,4] (.seq (.ops [Zm 11 0,
 Zm 12 1,
 Zo 13 (.call (.f 96) [(.t 11),(.t 12),(.f 143)]),
 Zm 6 13])
 (.keep [0,1,4,6] (.seq (.ops [Zm 14 0,
 Zm 15 1,
 Zm 16 6,
 Zo 17 (.slcs (.t 14) (some (.t 15)) (some (.t 16))),
 Zm 7 17])
 (.keep [0,4,6,7] (.seq (.seq (.ops [Zm 18 7,
 Zo 19 (.call (.f 144) [(.t 18)]),
 Zm 8 19])
 (.keep [0,4,6,7,8] (.seq (.ops [Zm 20 8,
 Zo 21 (.bin .neq (.t 20) (.c (.int .i64 0))),
 Zm 22 21,
 ⟨some 23,(some (22,true)),.mv (.t 6),none⟩,
 ⟨some 24,(some (22,true)),.mv (.t 0),none⟩,
 ⟨some 25,(some (22,true)),.lens (.t 24),none⟩,
 ⟨some 26,(some (22,true)),.bin .lss (.t 23) (.t 25),none⟩,
 Zo 27 (.pick (.t 22) (.t 26) (.c (.bool false))),
 Zm 28 27,
 ⟨some 29,(some (28,true)),.mv (.t 0),none⟩,
 ⟨some 30,(some (28,true)),.mv (.t 6),none⟩,
 ⟨some 31,(some (28,true)),.idxs (.t 29) (.t 30),none⟩,
 ⟨some 32,(some (28,true)),.bin .eql (.t 31) (.c (.int .u8 58)),none⟩,
 Zo 33 (.pick (.t 28) (.t 32) (.c (.bool false)))])
 (.keep [0,4,6,7,8,33] (.cond (.t 33)
 (.seq (.ops [Zm 34 6,
 Zo 35 (.bin .add (.t 34) (.c (.int .i64 1))),
 Zm 9 35])
 (.keep [0,4,8,9] (.seq (.ops [Zm 36 0,
 Zm 37 9,
 Zo 38 (.call (.f 96) [(.t 36),(.t 37),(.f 143)]),
 Zm 6 38])
 (.keep [0,4,6,8,9] (.seq (.ops [Zm 39 8,
 Zm 40 0,
 Zm 41 9,
 Zm 42 6,
 Zo 43 (.slcs (.t 40) (some (.t 41)) (some (.t 42))),
 Zo 44 (.build [(.int .i64 0),(.str ⟨#[]⟩),(.int .i64 0),(.int .i64 0)] [(0,1,(.c (.int .i64 1))),(2,1,(.t 39)),(1,1,(.t 43))]),
 Zm 45 6,
 ⟨none,none,.store 4 (.t 4) (.t 44),none⟩,
 Zm 5 45])
 (.ret))))))
 (.skip))))))
 (.keep [4,6,7] (.seq (.seq (.ops [Zm 46 7,
 Zo 47 (.call (.f 128) [(.t 46)]),
 Zm 10 47])
 (.keep [4,6,7,10] (.seq (.ops [Zm 48 10,
 Zo 49 (.bin .neq (.t 48) (.c (.int .i64 0)))])
 (.keep [4,6,7,10,49] (.cond (.t 49)
 (.seq (.ops [Zm 50 10,
 Zo 51 (.build [(.int .i64 0),(.str ⟨#[]⟩),(.int .i64 0),(.int .i64 0)] [(0,1,(.t 50))]),
 Zm 52 6,
 ⟨none,none,.store 4 (.t 4) (.t 51),none⟩,
 Zm 5 52])
 (.ret))
 (.skip))))))
 (.keep [4,6,7] (.seq (.ops [Zm 53 7,
 Zo 54 (.build [(.int .i64 0),(.str ⟨#[]⟩),(.int .i64 0),(.int .i64 0)] [(0,1,(.c (.int .i64 1))),(2,1,(.c (.int .i64 3))),(1,1,(.t 53))]),
 Zm 55 6,
 ⟨none,none,.store 4 (.t 4) (.t 54),none⟩,
 Zm 5 55])
 (.ret)))))))))))⟩
theorem J_token_name_ok : chkFn Tryz.prog 119 J_token_name = true := by kernel_rfl
def J_token_free : AFn :=
 ⟨18,[.t 2],.seq (.ops [Zo 2 (.mv (.c (.bool false)))])
 (.keep [0] (.seq (.ops [Zm 3 0,
 Zo 4 (.call (.f 143) [(.t 3)]),
 Zo 5 (.not (.t 4)),
 Zm 6 5,
 ⟨some 7,(some (6,true)),.mv (.t 0),none⟩,
 ⟨some 8,(some (6,true)),.bin .neq (.t 7) (.c (.int .i32 58)),none⟩,
 Zo 9 (.pick (.t 6) (.t 8) (.c (.bool false))),
 Zm 10 9,
 ⟨some 11,(some (10,true)),.mv (.t 0),none⟩,
 ⟨some 12,(some (10,true)),.bin .lss (.t 11) (.c (.int .i32 65)),none⟩,
 ⟨some 13,(some (10,true)),.mv (.t 12),none⟩,
 ⟨some 14,(some (13,false)),.mv (.t 0),none⟩,
 ⟨some 15,(some (13,false)),.bin .gtr (.t 14) (.c (.int .i32 90)),none⟩,
 ⟨some 16,(some (10,true)),.pick (.t 13) (.c (.bool true)) (.t 15),none⟩,
 Zo 17 (.pick (.t 10) (.t 16) (.c (.bool false))),
 Zm 2 17])
 (.ret)))⟩
theorem J_token_free_ok : chkFn Tryz.prog 120 J_token_free = true := by kernel_rfl
def J_token_keyword : AFn :=
 ⟨10,[.t 2],.seq (.ops [Zo 2 (.mv (.c (.int .i64 0)))])
 (.keep [0] (.seq (.seq (.ops [Zm 3 0])
 (.keep [3] (.block 0 (.seq (.ops [Zo 5 (.bin .eql (.t 3) (.c (.str ⟨#[97,110,100]⟩))),
 Zm 4 5])
 (.keep [3,4] (.cond (.t 4)
 (.seq (.ops [Zo 2 (.mv (.c (.int .i64 2)))])
 (.ret))
 (.seq (.ops [Zo 7 (.bin .eql (.t 3) (.c (.str ⟨#[102,111,114]⟩))),
 Zm 6 7])
 (.keep [3,6] (.cond (.t 6)
 (.seq (.ops [Zo 2 (.mv (.c (.int .i64 3)))])
 (.ret))
 (.seq (.ops [Zo 9 (.bin .eql (.t 3) (.c (.str ⟨#[97,115]⟩))),
 Zm 8 9])
 (.keep [8] (.cond (.t 8)
 (.seq (.ops [Zo 2 (.mv (.c (.int .i64 5)))])
 (.ret))
 (.skip)))))))))))))
 (.keep [] (.seq (.ops [Zo 2 (.mv (.c (.int .i64 0)))])
 (.ret)))))⟩
theorem J_token_keyword_ok : chkFn Tryz.prog 128 J_token_keyword = true := by kernel_rfl
def J_strings_Index : AFn :=
 ⟨8,[.t 4],.seq (.ops [Zo 4 (.mv (.c (.int .i64 0)))])
 (.keep [0,1] (.seq (.ops [Zm 5 0,
 Zm 6 1,
 Zo 7 (.call (.f 146) [(.t 5),(.t 6)]),
 Zm 4 7])
 (.ret)))⟩
theorem J_strings_Index_ok : chkFn Tryz.prog 129 J_strings_Index = true := by kernel_rfl
def J_strings_IndexRune_j1 : ACode :=
 .keep [] (.seq (.ops [Zo 4 (.mv (.c (.int .i64 (-1))))])
 (.ret))
def J_strings_IndexRune_j2 : ACode :=
 .seq (.ops [Zo 176 (.nxt 175),
 Zo 177 (.ext 0 (.t 176))])
 (.keep [175,176,177] (.seq (.cond (.t 177)
 (.skip)
 (.exit 9))
 (.keep [175,176] (.block 10 (.seq (.ops [Zo 178 (.ext 1 (.t 176)),
 Zo 179 (.ext 2 (.t 176)),
 Zm 5 178,
 Zm 6 179])
 (.keep [5,6,175] (.seq (.ops [Zm 180 6,
 Zo 181 (.bin .eql (.t 180) (.c (.int .i32 65533)))])
 (.keep [5,175,181] (.cond (.t 181)
 (.seq (.ops [Zm 182 5,
 Zm 4 182])
 (.ret))
 (.skip))))))))))
def J_strings_IndexRune_j3 : ACode :=
 .keep [] (.seq (.ops [Zo 4 (.mv (.c (.int .i64 (-1))))])
 (.ret))
def J_strings_IndexRune_j4 : ACode :=
 .keep [0,7,8,9,14,15] (.ops [Zm 125 9,
 Zo 126 (.bin .add (.t 125) (.c (.int .i64 1))),
 Zm 9 126])
def J_strings_IndexRune_j5 : ACode :=
 .keep [8,9] (.seq (.ops [Zm 157 9,
 Zm 158 8,
 Zo 159 (.bin .sub (.t 157) (.t 158)),
 Zm 4 159])
 (.ret))
def J_strings_IndexRune_j6 : ACode :=
 .seq (.seq (.ops [Zm 140 16,
 Zm 141 7,
 Zo 142 (.lens (.t 141)),
 Zo 143 (.bin .lss (.t 140) (.t 142))])
 (.keep [0,7,8,9,14,15,16,143] (.cond (.t 143)
 (.skip)
 (.exit 7))))
 (.keep [0,7,8,9,14,15,16] (.seq (.block 8 (.seq (.draw [0,7,8,9,14,15,16,156] [Zm 146 0,
 Zm 147 9,
 Zm 148 16,
 Zo 149 (.bin .sub (.t 147) (.t 148)),
 Zo 150 (.idxs (.t 146) (.t 149)),
 Zm 151 7,
 Zm 152 8,
 Zm 153 16,
 Zo 154 (.bin .sub (.t 152) (.t 153)),
 Zo 155 (.idxs (.t 151) (.t 154)),
 Zo 156 (.bin .neq (.t 150) (.t 155))])
 (.keep [0,7,8,9,14,15,16,156] (.cond (.t 156)
 (.exit 6)
 (.skip)))))
 (.keep [0,7,8,9,14,15,16] (.ops [Zm 144 16,
 Zo 145 (.bin .add (.t 144) (.c (.int .i64 1))),
 Zm 16 145]))))
def J_strings_IndexRune_j7 : ACode :=
 .seq (.seq (.ops [Zm 121 9,
 Zm 122 0,
 Zo 123 (.lens (.t 122)),
 Zo 124 (.bin .lss (.t 121) (.t 123))])
 (.keep [0,7,8,9,14,15,124] (.cond (.t 124)
 (.skip)
 (.exit 5))))
 (.keep [0,7,8,9,14,15] (.seq (.block 6 (.seq (.ops [Zm 127 0,
 Zm 128 9,
 Zo 129 (.idxs (.t 127) (.t 128)),
 Zm 130 14,
 Zo 131 (.bin .eql (.t 129) (.t 130)),
 Zm 132 131,
 ⟨some 133,(some (132,true)),.mv (.t 0),none⟩,
 ⟨some 134,(some (132,true)),.mv (.t 9),none⟩,
 ⟨some 135,(some (132,true)),.bin .sub (.t 134) (.c (.int .i64 1)),none⟩,
 ⟨some 136,(some (132,true)),.idxs (.t 133) (.t 135),none⟩,
 ⟨some 137,(some (132,true)),.mv (.t 15),none⟩,
 ⟨some 138,(some (132,true)),.bin .eql (.t 136) (.t 137),none⟩,
 Zo 139 (.pick (.t 132) (.t 138) (.c (.bool false)))])
 (.keep [0,7,8,9,14,15,139] (.cond (.t 139)
 (.seq (.seq (.ops [Zo 16 (.mv (.c (.int .i64 2)))])
 (.keep [0,7,8,9,14,15,16] (.block 7 (.loop [0,7,8,9,14,15,16] (J_strings_IndexRune_j6)))))
 (J_strings_IndexRune_j5))
 (.skip)))))
 (J_strings_IndexRune_j4)))
def J_strings_IndexRune_j8 : ACode :=
 .keep [] (.seq (.seq (.ops [Zo 4 (.mv (.c (.int .i64 (-1))))])
 (.ret))
 (.keep [0,1,7,8,9] (.seq (.dead)
 (.keep [0,1,7,8,9] (.seq (.cond (.c (.bool true))
 (.seq (.ops [Zm 99 0,
 Zm 100 9,
 Zm 101 8,
 Zo 102 (.bin .sub (.t 100) (.t 101)),
 Zo 103 (.slcs (.t 99) (some (.t 102)) none),
 Zm 104 1,
 Zo 105 (.ex .r2s [(.t 104)]),
 Zo 106 (.call (.f 155) [(.t 103),(.t 105)]),
 Zm 13 106])
 (.keep [8,9,13] (.seq (.ops [Zm 107 13,
 Zo 108 (.bin .geq (.t 107) (.c (.int .i64 0)))])
 (.keep [8,9,13,108] (.cond (.t 108)
 (.seq (.ops [Zm 109 9,
 Zm 110 13,
 Zo 111 (.bin .add (.t 109) (.t 110)),
 Zm 112 8,
 Zo 113 (.bin .sub (.t 111) (.t 112)),
 Zm 4 113])
 (.ret))
 (.skip))))))
 (.scope (.seq (.ops [Zm 114 7,
 Zm 115 8,
 Zo 116 (.idxs (.t 114) (.t 115)),
 Zm 14 116])
 (.keep [0,7,8,9,14] (.seq (.ops [Zm 117 7,
 Zm 118 8,
 Zo 119 (.bin .sub (.t 118) (.c (.int .i64 1))),
 Zo 120 (.idxs (.t 117) (.t 119)),
 Zm 15 120])
 (.keep [0,7,8,9,14,15] (.seq (.dead)
 (.keep [0,7,8,9,14,15] (.block 5 (.loop [0,7,8,9,14,15] (J_strings_IndexRune_j7)))))))))))
 (J_strings_IndexRune_j3))))))
def J_strings_IndexRune_j9 : ACode :=
 .keep [8,9] (.seq (.seq (.ops [Zm 65 9,
 Zm 66 8,
 Zo 67 (.bin .sub (.t 65) (.t 66)),
 Zm 4 67])
 (.ret))
 (.keep [0,7,8,9,10] (.seq (.dead)
 (.keep [0,7,8,9,10] (.seq (.ops [Zm 68 10,
 Zo 69 (.bin .add (.t 68) (.c (.int .i64 1))),
 Zm 10 69])
 (.keep [0,7,8,9,10] (.seq (.ops [Zm 70 9,
 Zo 71 (.bin .add (.t 70) (.c (.int .i64 1))),
 Zm 9 71])
 (.keep [0,7,8,9,10] (.seq (.ops [Zo 72 (.mv (.c (.bool true))),
 ⟨some 73,(some (72,true)),.mv (.t 10),none⟩,
 ⟨some 74,(some (72,true)),.mv (.t 9),none⟩,
 ⟨some 75,(some (72,true)),.call (.f 154) [(.t 74)],none⟩,
 ⟨some 76,(some (72,true)),.bin .gtr (.t 73) (.t 75),none⟩,
 Zo 77 (.pick (.t 72) (.t 76) (.c (.bool false))),
 Zm 78 77,
 ⟨some 79,(some (78,true)),.mv (.t 9),none⟩,
 ⟨some 80,(some (78,true)),.mv (.t 0),none⟩,
 ⟨some 81,(some (78,true)),.lens (.t 80),none⟩,
 ⟨some 82,(some (78,true)),.bin .lss (.t 79) (.t 81),none⟩,
 Zo 83 (.pick (.t 78) (.t 82) (.c (.bool false))),
 Zm 84 83,
 ⟨some 85,(some (84,false)),.mv (.c (.bool false)),none⟩,
 ⟨some 86,(some (85,true)),.mv (.t 10),none⟩,
 ⟨some 87,(some (85,true)),.mv (.t 9),none⟩,
 ⟨some 88,(some (85,true)),.bin .shr (.t 87) (.c (.int .u64 4)),none⟩,
 ⟨some 89,(some (85,true)),.bin .add (.c (.int .i64 4)) (.t 88),none⟩,
 ⟨some 90,(some (85,true)),.bin .geq (.t 86) (.t 89),none⟩,
 ⟨some 91,(some (84,false)),.pick (.t 85) (.t 90) (.c (.bool false)),none⟩,
 ⟨some 92,(some (84,false)),.mv (.t 91),none⟩,
 ⟨some 93,(some (92,true)),.mv (.t 9),none⟩,
 ⟨some 94,(some (92,true)),.mv (.t 0),none⟩,
 ⟨some 95,(some (92,true)),.lens (.t 94),none⟩,
 ⟨some 96,(some (92,true)),.bin .lss (.t 93) (.t 95),none⟩,
 ⟨some 97,(some (84,false)),.pick (.t 92) (.t 96) (.c (.bool false)),none⟩,
 Zo 98 (.pick (.t 84) (.c (.bool true)) (.t 97))])
 (.keep [0,7,8,9,98] (.cond (.t 98)
 (.dead)
 (.skip))))))))))))
def J_strings_IndexRune_j10 : ACode :=
 .seq (.seq (.ops [Zm 48 12,
 Zm 49 7,
 Zo 50 (.lens (.t 49)),
 Zo 51 (.bin .lss (.t 48) (.t 50))])
 (.keep [0,7,8,9,12,51] (.cond (.t 51)
 (.skip)
 (.exit 3))))
 (.keep [0,7,8,9,12] (.seq (.block 4 (.seq (.draw [0,7,8,9,12,64] [Zm 54 0,
 Zm 55 9,
 Zm 56 12,
 Zo 57 (.bin .sub (.t 55) (.t 56)),
 Zo 58 (.idxs (.t 54) (.t 57)),
 Zm 59 7,
 Zm 60 8,
 Zm 61 12,
 Zo 62 (.bin .sub (.t 60) (.t 61)),
 Zo 63 (.idxs (.t 59) (.t 62)),
 Zo 64 (.bin .neq (.t 58) (.t 63))])
 (.keep [0,7,8,9,12,64] (.cond (.t 64)
 (.dead)
 (.skip)))))
 (.keep [0,7,8,9,12] (.ops [Zm 52 12,
 Zo 53 (.bin .add (.t 52) (.c (.int .i64 1))),
 Zm 12 53]))))
def J_strings_IndexRune_j11 : ACode :=
 .keep [0,7,8,9] (.seq (.seq (.ops [Zo 12 (.mv (.c (.int .i64 1)))])
 (.keep [0,7,8,9,12] (.block 3 (.loop [0,7,8,9,12] (J_strings_IndexRune_j10)))))
 (J_strings_IndexRune_j9))
def J_strings_IndexRune_j12 : ACode :=
 .seq (.seq (.ops [Zm 23 9,
 Zm 24 0,
 Zo 25 (.lens (.t 24)),
 Zo 26 (.bin .lss (.t 23) (.t 25))])
 (.keep [0,7,8,9,26] (.cond (.t 26)
 (.skip)
 (.exit 1))))
 (.keep [0,7,8,9] (.block 2 (.scope (.seq (.seq (.draw [0,7,8,9,33] [Zm 27 0,
 Zm 28 9,
 Zo 29 (.idxs (.t 27) (.t 28)),
 Zm 30 7,
 Zm 31 8,
 Zo 32 (.idxs (.t 30) (.t 31)),
 Zo 33 (.bin .neq (.t 29) (.t 32))])
 (.keep [0,7,8,9,33] (.cond (.t 33)
 (.seq (.draw [0,7,8,9,11] [Zm 34 0,
 Zm 35 9,
 Zo 36 (.bin .add (.t 35) (.c (.int .i64 1))),
 Zo 37 (.slcs (.t 34) (some (.t 36)) none),
 Zm 38 7,
 Zm 39 8,
 Zo 40 (.idxs (.t 38) (.t 39)),
 Zo 41 (.call (.f 152) [(.t 37),(.t 40)]),
 Zm 11 41])
 (.keep [0,7,8,9,11] (.seq (.seq (.ops [Zm 42 11,
 Zo 43 (.bin .lss (.t 42) (.c (.int .i64 0)))])
 (.keep [0,7,8,9,11,43] (.cond (.t 43)
 (.seq (.ops [Zo 4 (.mv (.c (.int .i64 (-1))))])
 (.ret))
 (.skip))))
 (.keep [0,7,8,9,11] (.ops [Zm 44 9,
 Zm 45 11,
 Zo 46 (.bin .add (.t 45) (.c (.int .i64 1))),
 Zo 47 (.bin .add (.t 44) (.t 46)),
 Zm 9 47])))))
 (.skip))))
 (J_strings_IndexRune_j11)))))
def J_strings_IndexRune : AFn :=
 ⟨187,[.t 4],.seq (.ops [Zo 4 (.mv (.c (.int .i64 0)))])
 (.keep [0,1] (.block 0 (.seq (.ops [Zm 161 1,
 Zo 162 (.bin .leq (.c (.int .i32 0)) (.t 161)),
 Zm 163 162,
 ⟨some 164,(some (163,true)),.mv (.t 1),none⟩,
 ⟨some 165,(some (163,true)),.bin .lss (.t 164) (.c (.int .i32 128)),none⟩,
 Zo 166 (.pick (.t 163) (.t 165) (.c (.bool false))),
 Zm 160 166])
 (.keep [0,1,160] (.cond (.t 160)
 (.seq (.ops [Zm 167 0,
 Zm 168 1,
 Zo 169 (.conv .u8 (.t 168)),
 Zo 170 (.call (.f 152) [(.t 167),(.t 169)]),
 Zm 4 170])
 (.ret))
 (.seq (.ops [Zm 172 1,
 Zo 173 (.bin .eql (.t 172) (.c (.int .i32 65533))),
 Zm 171 173])
 (.keep [0,1,171] (.cond (.t 171)
 (.seq (.seq (.ops [Zm 174 0,
 Zo 175 (.rngs (.t 174))])
 (.keep [175] (.block 9 (.loop [175] (J_strings_IndexRune_j2)))))
 (J_strings_IndexRune_j1))
 (.seq (.ops [Zm 184 1,
 Zo 185 (.call (.f 153) [(.t 184)]),
 Zo 186 (.not (.t 185)),
 Zm 183 186])
 (.keep [0,1,183] (.cond (.t 183)
 (.seq (.ops [Zo 4 (.mv (.c (.int .i64 (-1))))])
 (.ret))
 (.scope (.seq (.ops [Zm 17 1,
 Zo 18 (.ex .r2s [(.t 17)]),
 Zm 7 18])
 (.keep [0,7] (.seq (.ops [Zm 19 7,
 Zo 20 (.lens (.t 19)),
 Zo 21 (.bin .sub (.t 20) (.c (.int .i64 1))),
 Zm 8 21])
 (.keep [0,7,8] (.seq (.ops [Zm 22 8,
 Zm 9 22])
 (.keep [0,7,8,9] (.seq (.ops [Zo 10 (.mv (.c (.int .i64 0)))])
 (.keep [0,7,8,9] (.seq (.block 1 (.loop [0,7,8,9] (J_strings_IndexRune_j12)))
 (J_strings_IndexRune_j8))))))))))))))))))))))⟩
theorem J_strings_IndexRune_ok : chkFn Tryz.prog 142 J_strings_IndexRune = true := by kernel_rfl
def J_token_inName : AFn :=
 ⟨17,[.t 2],.seq (.ops [Zo 2 (.mv (.c (.bool false)))])
 (.keep [0] (.seq (.ops [Zm 3 0,
 Zo 4 (.call (.f 118) [(.t 3)]),
 Zm 5 4,
 ⟨some 6,(some (5,false)),.mv (.t 0),none⟩,
 ⟨some 7,(some (5,false)),.call (.f 117) [(.t 6)],none⟩,
 Zo 8 (.pick (.t 5) (.c (.bool true)) (.t 7)),
 Zm 9 8,
 ⟨some 10,(some (9,false)),.mv (.t 0),none⟩,
 ⟨some 11,(some (9,false)),.bin .eql (.t 10) (.c (.int .i32 45)),none⟩,
 Zo 12 (.pick (.t 9) (.c (.bool true)) (.t 11)),
 Zm 13 12,
 ⟨some 14,(some (13,false)),.mv (.t 0),none⟩,
 ⟨some 15,(some (13,false)),.bin .eql (.t 14) (.c (.int .i32 46)),none⟩,
 Zo 16 (.pick (.t 13) (.c (.bool true)) (.t 15)),
 Zm 2 16])
 (.ret)))⟩
theorem J_token_inName_ok : chkFn Tryz.prog 143 J_token_inName = true := by kernel_rfl
def J_token_ahead : AFn :=
 ⟨12,[.t 2],.seq (.ops [Zo 2 (.mv (.c (.int .i64 0)))])
 (.keep [0] (.seq (.seq (.ops [Zm 3 0])
 (.keep [3] (.block 0 (.seq (.ops [Zo 5 (.bin .eql (.t 3) (.c (.str ⟨#[107,101,121]⟩))),
 Zm 4 5])
 (.keep [3,4] (.cond (.t 4)
 (.seq (.ops [Zo 2 (.mv (.c (.int .i64 1)))])
 (.ret))
 (.seq (.ops [Zo 7 (.bin .eql (.t 3) (.c (.str ⟨#[99,104,97,110]⟩))),
 Zm 6 7])
 (.keep [3,6] (.cond (.t 6)
 (.seq (.ops [Zo 2 (.mv (.c (.int .i64 2)))])
 (.ret))
 (.seq (.ops [Zo 9 (.bin .eql (.t 3) (.c (.str ⟨#[103,114,111,117,112]⟩))),
 Zm 8 9])
 (.keep [3,8] (.cond (.t 8)
 (.seq (.ops [Zo 2 (.mv (.c (.int .i64 4)))])
 (.ret))
 (.seq (.ops [Zo 11 (.bin .eql (.t 3) (.c (.str ⟨#[114,111,108,101]⟩))),
 Zm 10 11])
 (.keep [10] (.cond (.t 10)
 (.seq (.ops [Zo 2 (.mv (.c (.int .i64 5)))])
 (.ret))
 (.skip))))))))))))))))
 (.keep [] (.seq (.ops [Zo 2 (.mv (.c (.int .i64 0)))])
 (.ret)))))⟩
theorem J_token_ahead_ok : chkFn Tryz.prog 144 J_token_ahead = true := by kernel_rfl
def J_internal_stringslite_Index_j1 : ACode :=
 .keep [] (.seq (.ops [Zo 4 (.mv (.c (.int .i64 (-1))))])
 (.ret))
def J_internal_stringslite_Index_j2 : ACode :=
 .keep [0,1,5,6,7,8,9,10] (.seq (.seq (.ops [Zm 78 0,
 Zm 79 8,
 Zo 80 (.bin .add (.t 79) (.c (.int .i64 1))),
 Zo 81 (.idxs (.t 78) (.t 80)),
 Zm 82 7,
 Zo 83 (.bin .eql (.t 81) (.t 82)),
 Zm 84 83,
 ⟨some 85,(some (84,true)),.mv (.t 0),none⟩,
 ⟨some 86,(some (84,true)),.mv (.t 8),none⟩,
 ⟨some 87,(some (84,true)),.mv (.t 8),none⟩,
 ⟨some 88,(some (84,true)),.mv (.t 5),none⟩,
 ⟨some 89,(some (84,true)),.bin .add (.t 87) (.t 88),none⟩,
 ⟨some 90,(some (84,true)),.slcs (.t 85) (some (.t 86)) (some (.t 89)),none⟩,
 ⟨some 91,(some (84,true)),.mv (.t 1),none⟩,
 ⟨some 92,(some (84,true)),.bin .eql (.t 90) (.t 91),none⟩,
 Zo 93 (.pick (.t 84) (.t 92) (.c (.bool false)))])
 (.keep [0,1,5,6,7,8,9,10,93] (.cond (.t 93)
 (.seq (.ops [Zm 94 8,
 Zm 4 94])
 (.ret))
 (.skip))))
 (.keep [0,1,5,6,7,8,9,10] (.seq (.ops [Zm 95 8,
 Zo 96 (.bin .add (.t 95) (.c (.int .i64 1))),
 Zm 8 96])
 (.keep [0,1,5,6,7,8,9,10] (.seq (.ops [Zm 97 10,
 Zo 98 (.bin .add (.t 97) (.c (.int .i64 1))),
 Zm 10 98])
 (.dead))))))
def J_internal_stringslite_Index_j3 : ACode :=
 .seq (.seq (.ops [Zm 57 8,
 Zm 58 9,
 Zo 59 (.bin .lss (.t 57) (.t 58))])
 (.keep [0,1,5,6,7,8,9,10,59] (.cond (.t 59)
 (.skip)
 (.exit 1))))
 (.keep [0,1,5,6,7,8,9,10] (.block 2 (.seq (.seq (.ops [Zm 60 0,
 Zm 61 8,
 Zo 62 (.idxs (.t 60) (.t 61)),
 Zm 63 6,
 Zo 64 (.bin .neq (.t 62) (.t 63))])
 (.keep [0,1,5,6,7,8,9,10,64] (.cond (.t 64)
 (.seq (.ops [Zm 65 0,
 Zm 66 8,
 Zo 67 (.bin .add (.t 66) (.c (.int .i64 1))),
 Zm 68 9,
 Zo 69 (.slcs (.t 65) (some (.t 67)) (some (.t 68))),
 Zm 70 6,
 Zo 71 (.call (.f 156) [(.t 69),(.t 70)]),
 Zm 11 71])
 (.keep [0,1,5,6,7,8,9,10,11] (.seq (.seq (.ops [Zm 72 11,
 Zo 73 (.bin .lss (.t 72) (.c (.int .i64 0)))])
 (.keep [0,1,5,6,7,8,9,10,11,73] (.cond (.t 73)
 (.seq (.ops [Zo 4 (.mv (.c (.int .i64 (-1))))])
 (.ret))
 (.skip))))
 (.keep [0,1,5,6,7,8,9,10,11] (.ops [Zm 74 8,
 Zm 75 11,
 Zo 76 (.bin .add (.t 75) (.c (.int .i64 1))),
 Zo 77 (.bin .add (.t 74) (.t 76)),
 Zm 8 77])))))
 (.skip))))
 (J_internal_stringslite_Index_j2))))
def J_internal_stringslite_Index : AFn :=
 ⟨143,[.t 4],.seq (.ops [Zo 4 (.mv (.c (.int .i64 0)))])
 (.keep [0,1] (.seq (.ops [Zm 14 1,
 Zo 15 (.lens (.t 14)),
 Zm 5 15])
 (.keep [0,1,5] (.seq (.block 0 (.seq (.ops [Zm 17 5,
 Zo 18 (.bin .eql (.t 17) (.c (.int .i64 0))),
 Zm 19 18,
 ⟨some 20,(some (19,false)),.mv (.t 1),none⟩,
 ⟨some 21,(some (19,false)),.mv (.t 0),none⟩,
 ⟨some 22,(some (19,false)),.bin .eql (.t 20) (.t 21),none⟩,
 Zo 23 (.pick (.t 19) (.c (.bool true)) (.t 22)),
 Zm 16 23])
 (.keep [0,1,5,16] (.cond (.t 16)
 (.seq (.ops [Zo 4 (.mv (.c (.int .i64 0)))])
 (.ret))
 (.seq (.ops [Zm 25 5,
 Zo 26 (.bin .eql (.t 25) (.c (.int .i64 1))),
 Zm 24 26])
 (.keep [0,1,5,24] (.cond (.t 24)
 (.seq (.ops [Zm 27 0,
 Zm 28 1,
 Zo 29 (.idxs (.t 28) (.c (.int .i64 0))),
 Zo 30 (.call (.f 156) [(.t 27),(.t 29)]),
 Zm 4 30])
 (.ret))
 (.seq (.ops [Zm 32 5,
 Zm 33 0,
 Zo 34 (.lens (.t 33)),
 Zo 35 (.bin .geq (.t 32) (.t 34)),
 Zm 31 35])
 (.keep [0,1,5,31] (.cond (.t 31)
 (.seq (.ops [Zo 4 (.mv (.c (.int .i64 (-1))))])
 (.ret))
 (.dead)))))))))))
 (.keep [0,1,5] (.seq (.ops [Zm 48 1,
 Zo 49 (.idxs (.t 48) (.c (.int .i64 0))),
 Zm 6 49])
 (.keep [0,1,5,6] (.seq (.ops [Zm 50 1,
 Zo 51 (.idxs (.t 50) (.c (.int .i64 1))),
 Zm 7 51])
 (.keep [0,1,5,6,7] (.seq (.ops [Zo 8 (.mv (.c (.int .i64 0)))])
 (.keep [0,1,5,6,7,8] (.seq (.ops [Zm 52 0,
 Zo 53 (.lens (.t 52)),
 Zm 54 5,
 Zo 55 (.bin .sub (.t 53) (.t 54)),
 Zo 56 (.bin .add (.t 55) (.c (.int .i64 1))),
 Zm 9 56])
 (.keep [0,1,5,6,7,8,9] (.seq (.ops [Zo 10 (.mv (.c (.int .i64 0)))])
 (.keep [0,1,5,6,7,8,9,10] (.seq (.block 1 (.loop [0,1,5,6,7,8,9,10] (J_internal_stringslite_Index_j3)))
 (J_internal_stringslite_Index_j1)))))))))))))))))⟩
theorem J_internal_stringslite_Index_ok : chkFn Tryz.prog 146 J_internal_stringslite_Index = true := by kernel_rfl
def J_strings_IndexByte : AFn :=
 ⟨8,[.t 4],.seq (.ops [Zo 4 (.mv (.c (.int .i64 0)))])
 (.keep [0,1] (.seq (.ops [Zm 5 0,
 Zm 6 1,
 Zo 7 (.call (.f 156) [(.t 5),(.t 6)]),
 Zm 4 7])
 (.ret)))⟩
theorem J_strings_IndexByte_ok : chkFn Tryz.prog 152 J_strings_IndexByte = true := by kernel_rfl
def J_unicode_utf8_ValidRune : AFn :=
 ⟨17,[.t 2],.seq (.ops [Zo 2 (.mv (.c (.bool false)))])
 (.keep [0] (.seq (.block 0 (.seq (.ops [Zm 4 0,
 Zo 5 (.bin .leq (.c (.int .i32 0)) (.t 4)),
 Zm 6 5,
 ⟨some 7,(some (6,true)),.mv (.t 0),none⟩,
 ⟨some 8,(some (6,true)),.bin .lss (.t 7) (.c (.int .i32 55296)),none⟩,
 Zo 9 (.pick (.t 6) (.t 8) (.c (.bool false))),
 Zm 3 9])
 (.keep [0,3] (.cond (.t 3)
 (.seq (.ops [Zo 2 (.mv (.c (.bool true)))])
 (.ret))
 (.seq (.ops [Zm 11 0,
 Zo 12 (.bin .lss (.c (.int .i32 57343)) (.t 11)),
 Zm 13 12,
 ⟨some 14,(some (13,true)),.mv (.t 0),none⟩,
 ⟨some 15,(some (13,true)),.bin .leq (.t 14) (.c (.int .i32 1114111)),none⟩,
 Zo 16 (.pick (.t 13) (.t 15) (.c (.bool false))),
 Zm 10 16])
 (.keep [10] (.cond (.t 10)
 (.seq (.ops [Zo 2 (.mv (.c (.bool true)))])
 (.ret))
 (.skip))))))))
 (.keep [] (.seq (.ops [Zo 2 (.mv (.c (.bool false)))])
 (.ret)))))⟩
theorem J_unicode_utf8_ValidRune_ok : chkFn Tryz.prog 153 J_unicode_utf8_ValidRune = true := by kernel_rfl
def J_internal_stringslite_IndexByte : AFn :=
 ⟨8,[.t 4],.seq (.ops [Zo 4 (.mv (.c (.int .i64 0)))])
 (.keep [0,1] (.seq (.ops [Zm 5 0,
 Zm 6 1,
 Zo 7 (.ex .ibs [(.t 5),(.t 6)]),
 Zm 4 7])
 (.ret)))⟩
theorem J_internal_stringslite_IndexByte_ok : chkFn Tryz.prog 156 J_internal_stringslite_IndexByte = true := by kernel_rfl
end Go.Proofs.YtedaffmkpljlnaaGreat
/- The abstract layer, sixteenth part: one law an operation, for the walk (written by genlem.py). -/
namespace Go.Proofs.YtedaffmkpljlnaaGreat
open Go.RowKit Go.Lib

section
variable (P : Program)
theorem wop_mv (d : Option Nat) (x : Opd) (fr : Fr) (h : Hp) (K : Fr → Hp → Prop) : wop P d (.mv x) fr h K = (match ev fr x with
  | some a => K (put d a fr) h
  | none => False) := id rfl
theorem eff_mv (x : Opd) (fr : Fr) (h : Hp) (R : AV → Hp → Prop) : eff P (.mv x) fr h R = (match ev fr x with
  | some a => R a h
  | none => False) := id rfl
theorem wop_pick (d : Option Nat) (c x y : Opd) (fr : Fr) (h : Hp) (K : Fr → Hp → Prop) : wop P d (.pick c x y) fr h K = (match ev fr c with
  | some (.bool p) => (p = true → match ev fr x with
   | some a => K (put d a fr) h
   | none => False) ∧ (p = false → match ev fr y with
   | some a => K (put d a fr) h
   | none => False)
  | _ => False) := id rfl
theorem eff_pick (c x y : Opd) (fr : Fr) (h : Hp) (R : AV → Hp → Prop) : eff P (.pick c x y) fr h R = (match ev fr c with
  | some (.bool p) => (p = true → match ev fr x with
   | some a => R a h
   | none => False) ∧ (p = false → match ev fr y with
   | some a => R a h
   | none => False)
  | _ => False) := id rfl
theorem wop_build (d : Option Nat) (t : List AV) (ps : List (Nat × Nat × Opd)) (fr : Fr) (h : Hp) (K : Fr → Hp → Prop) : wop P d (.build t ps) fr h K = (buildK fr t ps (fun l => K (put d (.agg l) fr) h)) := id rfl
theorem eff_build (t : List AV) (ps : List (Nat × Nat × Opd)) (fr : Fr) (h : Hp) (R : AV → Hp → Prop) : eff P (.build t ps) fr h R = (buildK fr t ps (fun l => R (.agg l) h)) := id rfl
theorem wop_load (d : Option Nat) (s : Option Nat) (x : Opd) (fr : Fr) (h : Hp) (K : Fr → Hp → Prop) : wop P d (.load s x) fr h K = (match ev fr x with
  | some (.ptr id off) => (match h[id]? with
   | some (some (_, l)) => loadK s (l.drop off) (kval d fr h K)
   | _ => False)
  | some (.fp l) => loadK s l (kval d fr h K)
  | _ => False) := id rfl
theorem eff_load (s : Option Nat) (x : Opd) (fr : Fr) (h : Hp) (R : AV → Hp → Prop) : eff P (.load s x) fr h R = (match ev fr x with
  | some (.ptr id off) => (match h[id]? with
   | some (some (_, l)) => loadK s (l.drop off) (kv h R)
   | _ => False)
  | some (.fp l) => loadK s l (kv h R)
  | _ => False) := id rfl
theorem wop_lds (d : Option Nat) (s : Option Nat) (x : Opd) (fr : Fr) (h : Hp) (K : Fr → Hp → Prop) : wop P d (.lds s x) fr h K = (match ev fr x with
  | some (.ptr id off) => (match h[id]? with
   | some (some (true, l)) => loadK s (l.drop off) (kval d fr h K)
   | _ => False)
  | some (.fp l) => loadK s l (kval d fr h K)
  | _ => False) := id rfl
theorem eff_lds (s : Option Nat) (x : Opd) (fr : Fr) (h : Hp) (R : AV → Hp → Prop) : eff P (.lds s x) fr h R = (match ev fr x with
  | some (.ptr id off) => (match h[id]? with
   | some (some (true, l)) => loadK s (l.drop off) (kv h R)
   | _ => False)
  | some (.fp l) => loadK s l (kv h R)
  | _ => False) := id rfl
theorem wop_nilck (d : Option Nat) (x : Opd) (fr : Fr) (h : Hp) (K : Fr → Hp → Prop) : wop P d (.nilck x) fr h K = (match ev fr x with
  | some (.ptr id off) => K (put d (.ptr id off) fr) h
  | some (.fp l) => K (put d (.fp l) fr) h
  | some (.fn f l) => K (put d (.fn f l) fr) h
  | some (.frn Q) => K (put d (.frn Q) fr) h
  | _ => False) := id rfl
theorem eff_nilck (x : Opd) (fr : Fr) (h : Hp) (R : AV → Hp → Prop) : eff P (.nilck x) fr h R = (match ev fr x with
  | some (.ptr id off) => R (.ptr id off) h
  | some (.fp l) => R (.fp l) h
  | some (.fn f l) => R (.fn f l) h
  | some (.frn Q) => R (.frn Q) h
  | _ => False) := id rfl
theorem wop_bin (d : Option Nat) (op : BinOp) (x y : Opd) (fr : Fr) (h : Hp) (K : Fr → Hp → Prop) : wop P d (.bin op x y) fr h K = (match ev fr x, ev fr y with
  | some a, some b => bin2 op a b (kval d fr h K)
  | _, _ => False) := id rfl
theorem eff_bin (op : BinOp) (x y : Opd) (fr : Fr) (h : Hp) (R : AV → Hp → Prop) : eff P (.bin op x y) fr h R = (match ev fr x, ev fr y with
  | some a, some b => bin2 op a b (kv h R)
  | _, _ => False) := id rfl
theorem wop_pnil (d : Option Nat) (n : Bool) (x : Opd) (fr : Fr) (h : Hp) (K : Fr → Hp → Prop) : wop P d (.pnil n x) fr h K = (match ev fr x with
  | some .nilp => K (put d (.bool (!n)) fr) h
  | some (.ptr _ _) => K (put d (.bool n) fr) h
  | some (.fp _) => K (put d (.bool n) fr) h
  | some (.frn _) => K (put d (.bool n) fr) h
  | _ => False) := id rfl
theorem eff_pnil (n : Bool) (x : Opd) (fr : Fr) (h : Hp) (R : AV → Hp → Prop) : eff P (.pnil n x) fr h R = (match ev fr x with
  | some .nilp => R (.bool (!n)) h
  | some (.ptr _ _) => R (.bool n) h
  | some (.fp _) => R (.bool n) h
  | some (.frn _) => R (.bool n) h
  | _ => False) := id rfl
theorem wop_bbin (d : Option Nat) (n : Bool) (x y : Opd) (fr : Fr) (h : Hp) (K : Fr → Hp → Prop) : wop P d (.bbin n x y) fr h K = (match ev fr x, ev fr y with
  | some (.bool a), some (.bool b) => K (put d (.bool (if n then decide (a ≠ b) else decide (a = b))) fr) h
  | _, _ => False) := id rfl
theorem eff_bbin (n : Bool) (x y : Opd) (fr : Fr) (h : Hp) (R : AV → Hp → Prop) : eff P (.bbin n x y) fr h R = (match ev fr x, ev fr y with
  | some (.bool a), some (.bool b) => R (.bool (if n then decide (a ≠ b) else decide (a = b))) h
  | _, _ => False) := id rfl
theorem wop_not (d : Option Nat) (x : Opd) (fr : Fr) (h : Hp) (K : Fr → Hp → Prop) : wop P d (.not x) fr h K = (match ev fr x with
  | some (.bool p) => K (put d (.bool (!p)) fr) h
  | _ => False) := id rfl
theorem eff_not (x : Opd) (fr : Fr) (h : Hp) (R : AV → Hp → Prop) : eff P (.not x) fr h R = (match ev fr x with
  | some (.bool p) => R (.bool (!p)) h
  | _ => False) := id rfl
theorem wop_conv (d : Option Nat) (i : IntKind) (x : Opd) (fr : Fr) (h : Hp) (K : Fr → Hp → Prop) : wop P d (.conv i x) fr h K = (match ev fr x with
  | some (.int _ n) => K (put d (.int i (i.wrap n)) fr) h
  | _ => False) := id rfl
theorem eff_conv (i : IntKind) (x : Opd) (fr : Fr) (h : Hp) (R : AV → Hp → Prop) : eff P (.conv i x) fr h R = (match ev fr x with
  | some (.int _ n) => R (.int i (i.wrap n)) h
  | _ => False) := id rfl
theorem wop_cstr (d : Option Nat) (x : Opd) (fr : Fr) (h : Hp) (K : Fr → Hp → Prop) : wop P d (.cstr x) fr h K = (match ev fr x with
  | some (.str s) => K (put d (.str s) fr) h
  | _ => False) := id rfl
theorem eff_cstr (x : Opd) (fr : Fr) (h : Hp) (R : AV → Hp → Prop) : eff P (.cstr x) fr h R = (match ev fr x with
  | some (.str s) => R (.str s) h
  | _ => False) := id rfl
theorem wop_b2s (d : Option Nat) (x : Opd) (fr : Fr) (h : Hp) (K : Fr → Hp → Prop) : wop P d (.b2s x) fr h K = (match ev fr x with
  | some (.lst _ n l) => ∃ bs : List UInt8, l = bs.map (fun b => AV.int .u8 b.toNat) ∧ n = bs.length ∧ K (put d (.str ⟨bs.toArray⟩) fr) h
  | _ => False) := id rfl
theorem eff_b2s (x : Opd) (fr : Fr) (h : Hp) (R : AV → Hp → Prop) : eff P (.b2s x) fr h R = (match ev fr x with
  | some (.lst _ n l) => ∃ bs : List UInt8, l = bs.map (fun b => AV.int .u8 b.toNat) ∧ n = bs.length ∧ R (.str ⟨bs.toArray⟩) h
  | _ => False) := id rfl
theorem wop_fld (d : Option Nat) (o : Nat) (x : Opd) (fr : Fr) (h : Hp) (K : Fr → Hp → Prop) : wop P d (.fld o x) fr h K = (match ev fr x with
  | some (.ptr id q) => K (put d (.ptr id (q + o)) fr) h
  | some (.fp l) => K (put d (.fp (l.drop o)) fr) h
  | some (.frn Q) => o = 0 ∧ K (put d (.frn Q) fr) h
  | _ => False) := id rfl
theorem eff_fld (o : Nat) (x : Opd) (fr : Fr) (h : Hp) (R : AV → Hp → Prop) : eff P (.fld o x) fr h R = (match ev fr x with
  | some (.ptr id q) => R (.ptr id (q + o)) h
  | some (.fp l) => R (.fp (l.drop o)) h
  | some (.frn Q) => o = 0 ∧ R (.frn Q) h
  | _ => False) := id rfl
theorem wop_idxa (d : Option Nat) (s : Nat) (x y : Opd) (fr : Fr) (h : Hp) (K : Fr → Hp → Prop) : wop P d (.idxa s x y) fr h K = (match ev fr x, ev fr y with
  | some (.lst _ n l), some (.int _ i) => (0 ≤ i ∧ i < n) ∧ K (put d (.fp (l.drop (i.toNat * s))) fr) h
  | some (.hs id n), some (.int _ i) => (0 ≤ i ∧ i < n) ∧ K (put d (.ptr id (i.toNat * s)) fr) h
  | some (.hsc id n c), some (.int _ i) => (0 ≤ i ∧ i < n) ∧ K (put d (.ptr id (i.toNat * s)) fr) h
  | _, _ => False) := id rfl
theorem eff_idxa (s : Nat) (x y : Opd) (fr : Fr) (h : Hp) (R : AV → Hp → Prop) : eff P (.idxa s x y) fr h R = (match ev fr x, ev fr y with
  | some (.lst _ n l), some (.int _ i) => (0 ≤ i ∧ i < n) ∧ R (.fp (l.drop (i.toNat * s))) h
  | some (.hs id n), some (.int _ i) => (0 ≤ i ∧ i < n) ∧ R (.ptr id (i.toNat * s)) h
  | some (.hsc id n c), some (.int _ i) => (0 ≤ i ∧ i < n) ∧ R (.ptr id (i.toNat * s)) h
  | _, _ => False) := id rfl
theorem wop_idxs (d : Option Nat) (x y : Opd) (fr : Fr) (h : Hp) (K : Fr → Hp → Prop) : wop P d (.idxs x y) fr h K = (match ev fr x, ev fr y with
  | some (.str s), some (.int _ i) => (0 ≤ i ∧ i < s.size) ∧ K (put d (.int .u8 (byteAt s i.toNat)) fr) h
  | _, _ => False) := id rfl
theorem eff_idxs (x y : Opd) (fr : Fr) (h : Hp) (R : AV → Hp → Prop) : eff P (.idxs x y) fr h R = (match ev fr x, ev fr y with
  | some (.str s), some (.int _ i) => (0 ≤ i ∧ i < s.size) ∧ R (.int .u8 (byteAt s i.toNat)) h
  | _, _ => False) := id rfl
theorem wop_slcs (d : Option Nat) (x : Opd) (lo hi : Option Opd) (fr : Fr) (h : Hp) (K : Fr → Hp → Prop) : wop P d (.slcs x lo hi) fr h K = (match ev fr x with
  | some (.str s) => (match evD fr (.int .i64 0) lo, evD fr (.int .i64 s.size) hi with
   | some (.int _ l), some (.int _ u) => (0 ≤ l ∧ l ≤ u ∧ u ≤ s.size) ∧ K (put d (.str (s.extract l.toNat u.toNat)) fr) h
   | _, _ => False)
  | _ => False) := id rfl
theorem eff_slcs (x : Opd) (lo hi : Option Opd) (fr : Fr) (h : Hp) (R : AV → Hp → Prop) : eff P (.slcs x lo hi) fr h R = (match ev fr x with
  | some (.str s) => (match evD fr (.int .i64 0) lo, evD fr (.int .i64 s.size) hi with
   | some (.int _ l), some (.int _ u) => (0 ≤ l ∧ l ≤ u ∧ u ≤ s.size) ∧ R (.str (s.extract l.toNat u.toNat)) h
   | _, _ => False)
  | _ => False) := id rfl
theorem wop_slcl (d : Option Nat) (s : Nat) (x : Opd) (lo hi mx : Option Opd) (fr : Fr) (h : Hp) (K : Fr → Hp → Prop) : wop P d (.slcl s x lo hi mx) fr h K = (match ev fr x with
  | some (.lst _ n l) => (match evD fr (.int .i64 0) lo, evD fr (.int .i64 n) hi with
   | some (.int _ i), some (.int _ j) => (0 ≤ i ∧ i ≤ j ∧ j ≤ n ∧ l.length = n * s) ∧ (match mx with
    | none => K (put d (.lst .ro (j.toNat - i.toNat) ((l.drop (i.toNat * s)).take ((j.toNat - i.toNat) * s))) fr) h
    | some m => match ev fr m with
     | some (.int _ m) => m = j ∧ K (put d (.lst .clip (j.toNat - i.toNat) ((l.drop (i.toNat * s)).take ((j.toNat - i.toNat) * s))) fr) h
     | _ => False)
   | _, _ => False)
  | _ => False) := id rfl
theorem eff_slcl (s : Nat) (x : Opd) (lo hi mx : Option Opd) (fr : Fr) (h : Hp) (R : AV → Hp → Prop) : eff P (.slcl s x lo hi mx) fr h R = (match ev fr x with
  | some (.lst _ n l) => (match evD fr (.int .i64 0) lo, evD fr (.int .i64 n) hi with
   | some (.int _ i), some (.int _ j) => (0 ≤ i ∧ i ≤ j ∧ j ≤ n ∧ l.length = n * s) ∧ (match mx with
    | none => R (.lst .ro (j.toNat - i.toNat) ((l.drop (i.toNat * s)).take ((j.toNat - i.toNat) * s))) h
    | some m => match ev fr m with
     | some (.int _ m) => m = j ∧ R (.lst .clip (j.toNat - i.toNat) ((l.drop (i.toNat * s)).take ((j.toNat - i.toNat) * s))) h
     | _ => False)
   | _, _ => False)
  | _ => False) := id rfl
theorem wop_ext (d : Option Nat) (i : Nat) (x : Opd) (fr : Fr) (h : Hp) (K : Fr → Hp → Prop) : wop P d (.ext i x) fr h K = (match ev fr x with
  | some (.tup l) => (match l[i]? with
   | some a => K (put d a fr) h
   | none => False)
  | _ => False) := id rfl
theorem eff_ext (i : Nat) (x : Opd) (fr : Fr) (h : Hp) (R : AV → Hp → Prop) : eff P (.ext i x) fr h R = (match ev fr x with
  | some (.tup l) => (match l[i]? with
   | some a => R a h
   | none => False)
  | _ => False) := id rfl
theorem wop_lens (d : Option Nat) (x : Opd) (fr : Fr) (h : Hp) (K : Fr → Hp → Prop) : wop P d (.lens x) fr h K = (match ev fr x with
  | some (.str s) => K (put d (.int .i64 s.size) fr) h
  | _ => False) := id rfl
theorem eff_lens (x : Opd) (fr : Fr) (h : Hp) (R : AV → Hp → Prop) : eff P (.lens x) fr h R = (match ev fr x with
  | some (.str s) => R (.int .i64 s.size) h
  | _ => False) := id rfl
theorem wop_lenl (d : Option Nat) (x : Opd) (fr : Fr) (h : Hp) (K : Fr → Hp → Prop) : wop P d (.lenl x) fr h K = (match ev fr x with
  | some (.lst _ n _) => K (put d (.int .i64 n) fr) h
  | some (.hs _ n) => K (put d (.int .i64 n) fr) h
  | some (.hsc _ n _) => K (put d (.int .i64 n) fr) h
  | _ => False) := id rfl
theorem eff_lenl (x : Opd) (fr : Fr) (h : Hp) (R : AV → Hp → Prop) : eff P (.lenl x) fr h R = (match ev fr x with
  | some (.lst _ n _) => R (.int .i64 n) h
  | some (.hs _ n) => R (.int .i64 n) h
  | some (.hsc _ n _) => R (.int .i64 n) h
  | _ => False) := id rfl
theorem wop_mn (d : Option Nat) (x y : Opd) (fr : Fr) (h : Hp) (K : Fr → Hp → Prop) : wop P d (.mn x y) fr h K = (match ev fr x, ev fr y with
  | some (.int i a), some (.int _ b) => K (put d (.int i (if b < a then b else a)) fr) h
  | _, _ => False) := id rfl
theorem eff_mn (x y : Opd) (fr : Fr) (h : Hp) (R : AV → Hp → Prop) : eff P (.mn x y) fr h R = (match ev fr x, ev fr y with
  | some (.int i a), some (.int _ b) => R (.int i (if b < a then b else a)) h
  | _, _ => False) := id rfl
theorem wop_mx (d : Option Nat) (x y : Opd) (fr : Fr) (h : Hp) (K : Fr → Hp → Prop) : wop P d (.mx x y) fr h K = (match ev fr x, ev fr y with
  | some (.int i a), some (.int _ b) => K (put d (.int i (if a < b then b else a)) fr) h
  | _, _ => False) := id rfl
theorem eff_mx (x y : Opd) (fr : Fr) (h : Hp) (R : AV → Hp → Prop) : eff P (.mx x y) fr h R = (match ev fr x, ev fr y with
  | some (.int i a), some (.int _ b) => R (.int i (if a < b then b else a)) h
  | _, _ => False) := id rfl
theorem wop_ex (d : Option Nat) (e : Ex) (xs : List Opd) (fr : Fr) (h : Hp) (K : Fr → Hp → Prop) : wop P d (.ex e xs) fr h K = (match evs fr xs with
  | some l => (match exF e l with
   | some a => K (put d a fr) h
   | none => False)
  | none => False) := id rfl
theorem eff_ex (e : Ex) (xs : List Opd) (fr : Fr) (h : Hp) (R : AV → Hp → Prop) : eff P (.ex e xs) fr h R = (match evs fr xs with
  | some l => (match exF e l with
   | some a => R a h
   | none => False)
  | none => False) := id rfl
theorem wop_mkfn (d : Option Nat) (f : FuncId) (c : List Opd) (fr : Fr) (h : Hp) (K : Fr → Hp → Prop) : wop P d (.mkfn f c) fr h K = (match evs fr c with
  | some l => K (put d (.fn f l) fr) h
  | none => False) := id rfl
theorem eff_mkfn (f : FuncId) (c : List Opd) (fr : Fr) (h : Hp) (R : AV → Hp → Prop) : eff P (.mkfn f c) fr h R = (match evs fr c with
  | some l => R (.fn f l) h
  | none => False) := id rfl
theorem wop_mvu (d : Option Nat) (e s : Nat) (x : Opd) (fr : Fr) (h : Hp) (K : Fr → Hp → Prop) : wop P d (.mvu e s x) fr h K = (match ev fr x with
  | some (.lst .clip n l) => l.length = n * s ∧ K (put d (.lst (.own e) n l) fr) h
  | _ => False) := id rfl
theorem eff_mvu (e s : Nat) (x : Opd) (fr : Fr) (h : Hp) (R : AV → Hp → Prop) : eff P (.mvu e s x) fr h R = (match ev fr x with
  | some (.lst .clip n l) => l.length = n * s ∧ R (.lst (.own e) n l) h
  | _ => False) := id rfl
theorem wop_mvo (d : Option Nat) (q : Nat) (fr : Fr) (h : Hp) (K : Fr → Hp → Prop) : wop P d (.mvo q) fr h K = (match lk fr q with
  | some (.lst (.own e) n l) => K (put d (.lst (.own e) n l) (degr q fr)) h
  | _ => False) := id rfl
theorem eff_mvo (q : Nat) (fr : Fr) (h : Hp) (R : AV → Hp → Prop) : eff P (.mvo q) fr h R = (match lk fr q with
  | some (.lst (.own e) n l) => R (.lst (.own e) n l) h
  | _ => False) := id rfl
theorem wop_new (d : Option Nat) (l : List AV) (u : List (Nat × Nat × Nat)) (fr : Fr) (h : Hp) (K : Fr → Hp → Prop) : wop P d (.new l u) fr h K = (upgK u l (fun l' => K (put d (.ptr h.length 0) fr) (h ++ [some (false, l')]))) := id rfl
theorem eff_new (l : List AV) (u : List (Nat × Nat × Nat)) (fr : Fr) (h : Hp) (R : AV → Hp → Prop) : eff P (.new l u) fr h R = (upgK u l (fun l' => R (.ptr h.length 0) (h ++ [some (false, l')]))) := id rfl
theorem wop_box (d : Option Nat) (x : Opd) (u : List (Nat × Nat × Nat)) (fr : Fr) (h : Hp) (K : Fr → Hp → Prop) : wop P d (.box x u) fr h K = (match ev fr x with
  | some a => isTup a = false ∧ upgK u (cellsOf a) (fun l' => K (put d (.ptr h.length 0) fr) (h ++ [some (false, l')]))
  | none => False) := id rfl
theorem eff_box (x : Opd) (u : List (Nat × Nat × Nat)) (fr : Fr) (h : Hp) (R : AV → Hp → Prop) : eff P (.box x u) fr h R = (match ev fr x with
  | some a => isTup a = false ∧ upgK u (cellsOf a) (fun l' => R (.ptr h.length 0) (h ++ [some (false, l')]))
  | none => False) := id rfl
theorem wop_bsl (d : Option Nat) (e s n : Nat) (t : List AV) (ps : List (Nat × Nat × Opd)) (fr : Fr) (h : Hp) (K : Fr → Hp → Prop) : wop P d (.bsl e s n t ps) fr h K = (buildK fr t ps (fun l => K (put d (.lst (.own e) n l) fr) h)) := id rfl
theorem eff_bsl (e s n : Nat) (t : List AV) (ps : List (Nat × Nat × Opd)) (fr : Fr) (h : Hp) (R : AV → Hp → Prop) : eff P (.bsl e s n t ps) fr h R = (buildK fr t ps (fun l => R (.lst (.own e) n l) h)) := id rfl
theorem wop_mk0 (d : Option Nat) (e s b : Nat) (c : Opd) (fr : Fr) (h : Hp) (K : Fr → Hp → Prop) : wop P d (.mk0 e s b c) fr h K = (match ev fr c with
  | some (.int _ n) => (0 ≤ n ∧ b * n ≤ 140737488355328 ∧ n ≤ 9223372036854775807) ∧ K (put d (.lst (.own e) 0 []) fr) h
  | _ => False) := id rfl
theorem eff_mk0 (e s b : Nat) (c : Opd) (fr : Fr) (h : Hp) (R : AV → Hp → Prop) : eff P (.mk0 e s b c) fr h R = (match ev fr c with
  | some (.int _ n) => (0 ≤ n ∧ b * n ≤ 140737488355328 ∧ n ≤ 9223372036854775807) ∧ R (.lst (.own e) 0 []) h
  | _ => False) := id rfl
theorem wop_mkn (d : Option Nat) (e s b : Nat) (z : List AV) (c : Opd) (fr : Fr) (h : Hp) (K : Fr → Hp → Prop) : wop P d (.mkn e s b z c) fr h K = (match ev fr c with
  | some (.int _ n) => (0 ≤ n ∧ b * n ≤ 140737488355328 ∧ n ≤ 9223372036854775807) ∧ K (put d (.hs h.length n.toNat) fr) (h ++ [some (false, (List.range (n.toNat * s)).map fun i => z.getD (i % s) .nilp)])
  | _ => False) := id rfl
theorem eff_mkn (e s b : Nat) (z : List AV) (c : Opd) (fr : Fr) (h : Hp) (R : AV → Hp → Prop) : eff P (.mkn e s b z c) fr h R = (match ev fr c with
  | some (.int _ n) => (0 ≤ n ∧ b * n ≤ 140737488355328 ∧ n ≤ 9223372036854775807) ∧ R (.hs h.length n.toNat) (h ++ [some (false, (List.range (n.toNat * s)).map fun i => z.getD (i % s) .nilp)])
  | _ => False) := id rfl
theorem wop_loado (d : Option Nat) (x : Opd) (fr : Fr) (h : Hp) (K : Fr → Hp → Prop) : wop P d (.loado x) fr h K = (match ev fr x with
  | some (.ptr id off) => (match h[id]? with
   | some (some (false, l)) => (match l[off]? with
    | some (.lst (.own e) n c) => K (put d (.lst (.own e) n c) fr) (h.set id (some (false, l.set off (.lst .ro n c))))
    | _ => False)
   | _ => False)
  | _ => False) := id rfl
theorem eff_loado (x : Opd) (fr : Fr) (h : Hp) (R : AV → Hp → Prop) : eff P (.loado x) fr h R = (match ev fr x with
  | some (.ptr id off) => (match h[id]? with
   | some (some (false, l)) => (match l[off]? with
    | some (.lst (.own e) n c) => R (.lst (.own e) n c) (h.set id (some (false, l.set off (.lst .ro n c))))
    | _ => False)
   | _ => False)
  | _ => False) := id rfl
theorem wop_app (d : Option Nat) (e s b : Nat) (x y : Opd) (fr : Fr) (h : Hp) (K : Fr → Hp → Prop) : wop P d (.app e s b x y) fr h K = (match ev fr x, ev fr y with
  | some (.lst .clip n l), some (.lst _ m l') => (l.length = n * s ∧ l'.length = m * s ∧ n + m ≤ 9223372036854775807 ∧ (n + m) * b ≤ 140737488355328) ∧ K (put d (.lst (.own e) (n + m) (l ++ l')) fr) h
  | _, _ => False) := id rfl
theorem eff_app (e s b : Nat) (x y : Opd) (fr : Fr) (h : Hp) (R : AV → Hp → Prop) : eff P (.app e s b x y) fr h R = (match ev fr x, ev fr y with
  | some (.lst .clip n l), some (.lst _ m l') => (l.length = n * s ∧ l'.length = m * s ∧ n + m ≤ 9223372036854775807 ∧ (n + m) * b ≤ 140737488355328) ∧ R (.lst (.own e) (n + m) (l ++ l')) h
  | _, _ => False) := id rfl
theorem wop_appo (d : Option Nat) (e s b q : Nat) (y : Opd) (fr : Fr) (h : Hp) (K : Fr → Hp → Prop) : wop P d (.appo e s b q y) fr h K = (match lk fr q, ev fr y with
  | some (.lst (.own e') n l), some (.lst _ m l') => (e' = e ∧ l'.length = m * s ∧ n + m ≤ 9223372036854775807 ∧ (n + m) * b ≤ 140737488355328) ∧ K (put d (.lst (.own e) (n + m) (l ++ l')) (degr q fr)) h
  | _, _ => False) := id rfl
theorem eff_appo (e s b q : Nat) (y : Opd) (fr : Fr) (h : Hp) (R : AV → Hp → Prop) : eff P (.appo e s b q y) fr h R = (match lk fr q, ev fr y with
  | some (.lst (.own e') n l), some (.lst _ m l') => (e' = e ∧ l'.length = m * s ∧ n + m ≤ 9223372036854775807 ∧ (n + m) * b ≤ 140737488355328) ∧ R (.lst (.own e) (n + m) (l ++ l')) h
  | _, _ => False) := id rfl
theorem wop_appso (d : Option Nat) (e q : Nat) (y : Opd) (fr : Fr) (h : Hp) (K : Fr → Hp → Prop) : wop P d (.appso e q y) fr h K = (match lk fr q, ev fr y with
  | some (.lst (.own e') n l), some (.str s) => (e' = e ∧ n + s.size ≤ 140737488355328) ∧ K (put d (.lst (.own e) (n + s.size) (l ++ s.data.toList.map fun b => AV.int .u8 b.toNat)) (degr q fr)) h
  | _, _ => False) := id rfl
theorem eff_appso (e q : Nat) (y : Opd) (fr : Fr) (h : Hp) (R : AV → Hp → Prop) : eff P (.appso e q y) fr h R = (match lk fr q, ev fr y with
  | some (.lst (.own e') n l), some (.str s) => (e' = e ∧ n + s.size ≤ 140737488355328) ∧ R (.lst (.own e) (n + s.size) (l ++ s.data.toList.map fun b => AV.int .u8 b.toNat)) h
  | _, _ => False) := id rfl
theorem wop_bar (d : Option Nat) (s : Nat) (t : List AV) (ps : List (Nat × Nat × Opd)) (fr : Fr) (h : Hp) (K : Fr → Hp → Prop) : wop P d (.bar s t ps) fr h K = (buildK fr t ps (fun l => K (put d (.agg l) fr) h)) := id rfl
theorem wop_bsh (d : Option Nat) (e s n : Nat) (t : List AV) (ps : List (Nat × Nat × Opd)) (fr : Fr) (h : Hp) (K : Fr → Hp → Prop) : wop P d (.bsh e s n t ps) fr h K = (buildK fr t ps (fun l => K (put d (.hs h.length n) fr) (h ++ [some (false, l)]))) := id rfl
theorem wop_store (d : Option Nat) (n : Nat) (a x : Opd) (fr : Fr) (h : Hp) (K : Fr → Hp → Prop) : wop P d (.store n a x) fr h K = (match ev fr a, ev fr x with
  | some (.ptr id off), some v => (match h[id]? with
   | some (some (false, l)) => (isTup v = false ∧ (cellsOf v).length = n ∧ off + n ≤ l.length) ∧ K fr (h.set id (some (false, splice l off (cellsOf v))))
   | _ => False)
  | _, _ => False) := id rfl
theorem wop_storeo (d : Option Nat) (a : Opd) (q : Nat) (fr : Fr) (h : Hp) (K : Fr → Hp → Prop) : wop P d (.storeo a q) fr h K = (match ev fr a, lk fr q with
  | some (.ptr id off), some (.lst (.own e) n c) => (match h[id]? with
   | some (some (false, l)) => off < l.length ∧ K (degr q fr) (h.set id (some (false, l.set off (.lst (.own e) n c))))
   | _ => False)
  | _, _ => False) := id rfl
theorem wop_stores (d : Option Nat) (n : Nat) (a x : Opd) (fr : Fr) (h : Hp) (K : Fr → Hp → Prop) : wop P d (.stores n a x) fr h K = (match ev fr a, ev fr x with
  | some (.ptr id off), some v => (match h[id]? with
   | some (some (false, l)) => (isTup v = false ∧ (cellsOf v).length = n ∧ off + n ≤ l.length) ∧ K fr (h.set id (some (true, splice l off (cellsOf v))))
   | _ => False)
  | _, _ => False) := id rfl
theorem eff_store (n : Nat) (a x : Opd) (fr : Fr) (h : Hp) (R : AV → Hp → Prop) : eff P (.store n a x) fr h R = (match ev fr a, ev fr x with
  | some (.ptr id off), some v => (match h[id]? with
   | some (some (false, l)) => (isTup v = false ∧ (cellsOf v).length = n ∧ off + n ≤ l.length) ∧ R .nilp (h.set id (some (false, splice l off (cellsOf v))))
   | _ => False)
  | _, _ => False) := id rfl
theorem eff_storeo (a : Opd) (q : Nat) (fr : Fr) (h : Hp) (R : AV → Hp → Prop) : eff P (.storeo a q) fr h R = (match ev fr a, lk fr q with
  | some (.ptr id off), some (.lst (.own e) n c) => (match h[id]? with
   | some (some (false, l)) => off < l.length ∧ R .nilp (h.set id (some (false, l.set off (.lst (.own e) n c))))
   | _ => False)
  | _, _ => False) := id rfl
theorem eff_stores (n : Nat) (a x : Opd) (fr : Fr) (h : Hp) (R : AV → Hp → Prop) : eff P (.stores n a x) fr h R = (match ev fr a, ev fr x with
  | some (.ptr id off), some v => (match h[id]? with
   | some (some (false, l)) => (isTup v = false ∧ (cellsOf v).length = n ∧ off + n ≤ l.length) ∧ R .nilp (h.set id (some (true, splice l off (cellsOf v))))
   | _ => False)
  | _, _ => False) := id rfl
theorem wop_call (d : Option Nat) (f : Opd) (l : List Opd) (fr : Fr) (h : Hp) (K : Fr → Hp → Prop) : wop P d (.call f l) fr h K = (match ev fr f, evs fr l with
  | some (.fn f' caps), some l => ACalls P f' (l ++ caps) h (kcall d fr K)
  | some (.fnb f' bnd), some l => ACalls P f' (bnd ++ l) h (kcall d fr K)
  | _, _ => False) := id rfl
theorem eff_call (f : Opd) (l : List Opd) (fr : Fr) (h : Hp) (R : AV → Hp → Prop) : eff P (.call f l) fr h R = (match ev fr f, evs fr l with
  | some (.fn f' caps), some l => ∃ v, PCalls P f' (l ++ caps) v ∧ R v h
  | _, _ => False) := id rfl
theorem wop_calli (d : Option Nat) (f : Opd) (l : List Opd) (fr : Fr) (h : Hp) (K : Fr → Hp → Prop) : wop P d (.calli f l) fr h K = (match ev fr f, evs fr l with
  | some (.fn f' caps), some l => ACalls P f' (l ++ caps) h (kcall d fr K)
  | _, _ => False) := id rfl
theorem eff_calli (f : Opd) (l : List Opd) (fr : Fr) (h : Hp) (R : AV → Hp → Prop) : eff P (.calli f l) fr h R = (match ev fr f, evs fr l with
  | some (.fn f' caps), some l => ∃ v hv, ACalls P f' (l ++ caps) h (fun a h' => a = v ∧ h' = hv) ∧ SealEq h hv ∧ R v hv
  | _, _ => False) := id rfl
theorem wop_snil (d : Option Nat) (n : Bool) (x : Opd) (fr : Fr) (h : Hp) (K : Fr → Hp → Prop) : wop P d (.snil n x) fr h K = (match ev fr x with
  | some (.lst _ m _) => K (put d (.bool n) fr) h ∧ (m = 0 → K (put d (.bool (!n)) fr) h)
  | some (.hs _ _) => K (put d (.bool n) fr) h
  | some (.hsc _ _ _) => K (put d (.bool n) fr) h
  | _ => False) := id rfl
theorem eff_snil (n : Bool) (x : Opd) (fr : Fr) (h : Hp) (R : AV → Hp → Prop) : eff P (.snil n x) fr h R = (match ev fr x with
  | some (.lst _ m _) => m ≠ 0 ∧ R (.bool n) h
  | some (.hs _ _) => R (.bool n) h
  | some (.hsc _ _ _) => R (.bool n) h
  | _ => False) := id rfl
theorem wop_storeu (d : Option Nat) (n : Nat) (u : List (Nat × Nat × Nat)) (a x : Opd) (fr : Fr) (h : Hp) (K : Fr → Hp → Prop) : wop P d (.storeu n u a x) fr h K = (match ev fr a, ev fr x with
  | some (.ptr id 0), some v => (match h[id]? with
   | some (some (false, l)) => (isTup v = false ∧ (cellsOf v).length = n ∧ n ≤ l.length) ∧ upgK u (cellsOf v) (fun l' => K fr (h.set id (some (false, splice l 0 l'))))
   | _ => False)
  | _, _ => False) := id rfl
theorem wop_rngs (d : Option Nat) (x : Opd) (fr : Fr) (h : Hp) (K : Fr → Hp → Prop) : wop P d (.rngs x) fr h K = (match ev fr x with
  | some (.str s) => K (put d (.itr s 0) fr) h
  | _ => False) := id rfl
theorem wop_nxt (d : Option Nat) (k : Nat) (fr : Fr) (h : Hp) (K : Fr → Hp → Prop) : wop P d (.nxt k) fr h K = (match lk fr k with
  | some (.itr s pos) => if pos < s.size then K (put d (.tup [.bool true, .int .i64 pos, .int .i32 (Utf8.decode s pos).1]) ((k, .itr s (pos + (Utf8.decode s pos).2)) :: fr)) h else K (put d (.tup [.bool false]) fr) h
  | _ => False) := id rfl
theorem tk_mv (x : Opd) (fr : Fr) : tk (.mv x) fr = fr := id rfl
theorem tk_pick (c x y : Opd) (fr : Fr) : tk (.pick c x y) fr = fr := id rfl
theorem tk_build (t : List AV) (ps : List (Nat × Nat × Opd)) (fr : Fr) : tk (.build t ps) fr = fr := id rfl
theorem tk_load (s : Option Nat) (x : Opd) (fr : Fr) : tk (.load s x) fr = fr := id rfl
theorem tk_lds (s : Option Nat) (x : Opd) (fr : Fr) : tk (.lds s x) fr = fr := id rfl
theorem tk_nilck (x : Opd) (fr : Fr) : tk (.nilck x) fr = fr := id rfl
theorem tk_bin (op : BinOp) (x y : Opd) (fr : Fr) : tk (.bin op x y) fr = fr := id rfl
theorem tk_pnil (n : Bool) (x : Opd) (fr : Fr) : tk (.pnil n x) fr = fr := id rfl
theorem tk_bbin (n : Bool) (x y : Opd) (fr : Fr) : tk (.bbin n x y) fr = fr := id rfl
theorem tk_not (x : Opd) (fr : Fr) : tk (.not x) fr = fr := id rfl
theorem tk_conv (i : IntKind) (x : Opd) (fr : Fr) : tk (.conv i x) fr = fr := id rfl
theorem tk_cstr (x : Opd) (fr : Fr) : tk (.cstr x) fr = fr := id rfl
theorem tk_b2s (x : Opd) (fr : Fr) : tk (.b2s x) fr = fr := id rfl
theorem tk_fld (o : Nat) (x : Opd) (fr : Fr) : tk (.fld o x) fr = fr := id rfl
theorem tk_idxa (s : Nat) (x y : Opd) (fr : Fr) : tk (.idxa s x y) fr = fr := id rfl
theorem tk_idxs (x y : Opd) (fr : Fr) : tk (.idxs x y) fr = fr := id rfl
theorem tk_slcs (x : Opd) (lo hi : Option Opd) (fr : Fr) : tk (.slcs x lo hi) fr = fr := id rfl
theorem tk_slcl (s : Nat) (x : Opd) (lo hi mx : Option Opd) (fr : Fr) : tk (.slcl s x lo hi mx) fr = fr := id rfl
theorem tk_ext (i : Nat) (x : Opd) (fr : Fr) : tk (.ext i x) fr = fr := id rfl
theorem tk_lens (x : Opd) (fr : Fr) : tk (.lens x) fr = fr := id rfl
theorem tk_lenl (x : Opd) (fr : Fr) : tk (.lenl x) fr = fr := id rfl
theorem tk_mn (x y : Opd) (fr : Fr) : tk (.mn x y) fr = fr := id rfl
theorem tk_mx (x y : Opd) (fr : Fr) : tk (.mx x y) fr = fr := id rfl
theorem tk_ex (e : Ex) (xs : List Opd) (fr : Fr) : tk (.ex e xs) fr = fr := id rfl
theorem tk_mkfn (f : FuncId) (c : List Opd) (fr : Fr) : tk (.mkfn f c) fr = fr := id rfl
theorem tk_mvu (e s : Nat) (x : Opd) (fr : Fr) : tk (.mvu e s x) fr = fr := id rfl
theorem tk_mvo (q : Nat) (fr : Fr) : tk (.mvo q) fr = degr q fr := id rfl
theorem tk_new (l : List AV) (u : List (Nat × Nat × Nat)) (fr : Fr) : tk (.new l u) fr = fr := id rfl
theorem tk_box (x : Opd) (u : List (Nat × Nat × Nat)) (fr : Fr) : tk (.box x u) fr = fr := id rfl
theorem tk_bsl (e s n : Nat) (t : List AV) (ps : List (Nat × Nat × Opd)) (fr : Fr) : tk (.bsl e s n t ps) fr = fr := id rfl
theorem tk_mk0 (e s b : Nat) (c : Opd) (fr : Fr) : tk (.mk0 e s b c) fr = fr := id rfl
theorem tk_mkn (e s b : Nat) (z : List AV) (c : Opd) (fr : Fr) : tk (.mkn e s b z c) fr = fr := id rfl
theorem tk_loado (x : Opd) (fr : Fr) : tk (.loado x) fr = fr := id rfl
theorem tk_app (e s b : Nat) (x y : Opd) (fr : Fr) : tk (.app e s b x y) fr = fr := id rfl
theorem tk_appo (e s b q : Nat) (y : Opd) (fr : Fr) : tk (.appo e s b q y) fr = degr q fr := id rfl
theorem tk_appso (e q : Nat) (y : Opd) (fr : Fr) : tk (.appso e q y) fr = degr q fr := id rfl
theorem tk_store (n : Nat) (a x : Opd) (fr : Fr) : tk (.store n a x) fr = fr := id rfl
theorem tk_storeo (a : Opd) (q : Nat) (fr : Fr) : tk (.storeo a q) fr = degr q fr := id rfl
theorem tk_call (f : Opd) (l : List Opd) (fr : Fr) : tk (.call f l) fr = fr := id rfl
theorem tk_stores (n : Nat) (a x : Opd) (fr : Fr) : tk (.stores n a x) fr = fr := id rfl
theorem tk_calli (f : Opd) (l : List Opd) (fr : Fr) : tk (.calli f l) fr = fr := id rfl
theorem tk_snil (n : Bool) (x : Opd) (fr : Fr) : tk (.snil n x) fr = fr := id rfl
theorem ex_wadd (k : IntKind) (x y : Int) : exF (.binw .add) [.int k x, .int k y] = some (.int k (k.wrap (x + y))) := by simp [exF, exF0]
theorem ex_wsub (k : IntKind) (x y : Int) : exF (.binw .sub) [.int k x, .int k y] = some (.int k (k.wrap (x - y))) := by simp [exF, exF0]
theorem ex_wmul (k : IntKind) (x y : Int) : exF (.binw .mul) [.int k x, .int k y] = some (.int k (k.wrap (x * y))) := by simp [exF, exF0]
theorem ex_aeq (n : Bool) (ks : List Nat) (l m : List AV) : exF (.aeq n ks) [.agg l, .agg m] = (eqCells ks l m).map (fun r => .bool (if n then !r else r)) := id rfl
theorem ex_r2s (k : IntKind) (n : Int) : exF .r2s [.int k n] = some (.str (Utf8.encode n)) := id rfl
theorem ex_ibs (s : ByteArray) (c : Int) : exF .ibs [.str s, .int .u8 c] = some (.int .i64 (indexByte s.data.toList c.toNat.toUInt8)) := id rfl
theorem ex_mkb (f : FuncId) (l : List AV) : exF (.mkb f) l = some (.fnb f l) := id rfl
theorem deg_itr (s : ByteArray) (p : Nat) : deg (.itr s p) = .opq := id rfl
theorem wop_mmk (d : Option Nat) (fr : Fr) (h : Hp) (K : Fr → Hp → Prop) : wop P d .mmk fr h K = (∀ b, K (put d (.omp b [] []) fr) h) := id rfl
theorem wop_mup (d : Option Nat) (st : Bool) (k : Nat) (m x y : Opd) (fr : Fr) (h : Hp) (K : Fr → Hp → Prop) : wop P d (.mup st k m x y) fr h K = (match lk fr k, ev fr m, ev fr x, ev fr y with
  | some (.omp q ks vs), some (.mp q'), some a, some b => (q' = q ∧ (isKey st a && ks.all (kSame a) && (pv b).isSome) = true) ∧ K ((k, .omp q (mKeys a ks) (mVals a b ks vs)) :: fr) h
  | _, _, _, _ => False) := id rfl
theorem wop_mfz (d : Option Nat) (q : Nat) (fr : Fr) (h : Hp) (K : Fr → Hp → Prop) : wop P d (.mfz q) fr h K = (match lk fr q with
  | some (.omp _ ks vs) => K (put d (.fmp ks vs) (degr q fr)) h
  | _ => False) := id rfl
theorem wop_mmv (d : Option Nat) (q : Nat) (fr : Fr) (h : Hp) (K : Fr → Hp → Prop) : wop P d (.mmv q) fr h K = (match lk fr q with
  | some (.omp b ks vs) => K (put d (.omp b ks vs) (degr q fr)) h
  | _ => False) := id rfl
theorem wop_mra (d : Option Nat) (q : Nat) (fr : Fr) (h : Hp) (K : Fr → Hp → Prop) : wop P d (.mra q) fr h K = (match lk fr q with
  | some (.omp b _ _) => K (put d (.mp b) fr) h
  | _ => False) := id rfl
theorem wop_cpy (d : Option Nat) (sz : Nat) (x y : Opd) (fr : Fr) (h : Hp) (K : Fr → Hp → Prop) : wop P d (.cpy sz x y) fr h K = (match ev fr x, ev fr y with
  | some (.hs id n), some (.lst _ m l') => (match h[id]? with
   | some (some (false, l)) => (l'.length = m * sz ∧ n * sz ≤ l.length) ∧ K (put d (.int .i64 (min m n : Nat)) fr) (h.set id (some (false, splice l 0 (l'.take (min m n * sz)))))
   | _ => False)
  | _, _ => False) := id rfl
theorem eff_cpy (sz : Nat) (x y : Opd) (fr : Fr) (h : Hp) (R : AV → Hp → Prop) : eff P (.cpy sz x y) fr h R = (match ev fr x, ev fr y with
  | some (.hs id n), some (.lst _ m l') => (match h[id]? with
   | some (some (false, l)) => (l'.length = m * sz ∧ n * sz ≤ l.length) ∧ R (.int .i64 (min m n : Nat)) (h.set id (some (false, splice l 0 (l'.take (min m n * sz)))))
   | _ => False)
  | _, _ => False) := id rfl
theorem tk_cpy (sz : Nat) (x y : Opd) (fr : Fr) : tk (.cpy sz x y) fr = fr := id rfl
theorem ex_zag (z : List AV) : exF (.zag z) [] = some (.agg z) := id rfl
theorem wop_apc (d : Option Nat) (e sz bytes : Nat) (zero : List AV) (x y : Opd) (fr : Fr) (h : Hp) (K : Fr → Hp → Prop) : wop P d (.apc e sz bytes zero x y) fr h K = (match ev fr x, (ev fr y).bind (rowA h sz) with
  | some (.lst .clip n l), some (m, l') => (l.length = n * sz ∧ l'.length = m * sz ∧ 0 < m ∧ n + m ≤ 9223372036854775807 ∧ (n + m) * bytes ≤ 140737488355328) ∧ ∀ k : Nat, K (put d (.hsc h.length (n + m) (n + m + k)) fr) (h ++ [some (false, (l ++ l') ++ zrow zero sz (k * sz))])
  | some (.hsc id n c), some (m, l') => (match h[id]?, isLst (ev fr y) with
   | some (some (false, l)), true => (l.length = c * sz ∧ l'.length = m * sz ∧ 0 < m ∧ n ≤ c ∧ n + m ≤ 9223372036854775807 ∧ (n + m) * bytes ≤ 140737488355328) ∧ (n + m ≤ c → K (put d (.hsc id (n + m) c) fr) (h.set id (some (false, splice l (n * sz) l')))) ∧ (c < n + m → ∀ k : Nat, K (put d (.hsc h.length (n + m) (n + m + k)) fr) (h ++ [some (false, ((l.take (n * sz)).map deg ++ l') ++ zrow zero sz (k * sz))]))
   | _, _ => False)
  | _, _ => False) := id rfl
theorem obind (a : AV) (f : AV → Option (Nat × List AV)) : (some a).bind f = f a := id rfl
theorem rowA_lst (h : Hp) (sz : Nat) (f : Fl) (m : Nat) (l : List AV) : rowA h sz (.lst f m l) = some (m, l) := id rfl
theorem isLst_lst (f : Fl) (m : Nat) (l : List AV) : isLst (some (.lst f m l)) = true := id rfl
theorem rowA_hs (h : Hp) (sz i' m : Nat) : rowA h sz (.hs i' m) = (match h[i']? with
  | some (some (_, l)) => if m * sz ≤ l.length then some (m, (l.take (m * sz)).map deg) else none
  | _ => none) := id rfl
theorem wop_slch (d : Option Nat) (sz : Nat) (x j : Opd) (fr : Fr) (h : Hp) (K : Fr → Hp → Prop) : wop P d (.slch sz x j) fr h K = (match ev fr x, ev fr j with
  | some (.hsc id n c), some (.int _ j) => (0 ≤ j ∧ j ≤ n) ∧ K (put d (.hsc id j.toNat c) fr) h
  | _, _ => False) := id rfl
theorem wop_aph (d : Option Nat) (e sz bytes : Nat) (x y : Opd) (fr : Fr) (h : Hp) (K : Fr → Hp → Prop) : wop P d (.aph e sz bytes x y) fr h K = (match ev fr x, ev fr y with
  | some (.lst .clip n l), some (.hs id m) => (match h[id]? with
   | some (some (_, l')) => (l.length = n * sz ∧ m * sz ≤ l'.length ∧ n + m ≤ 9223372036854775807 ∧ (n + m) * bytes ≤ 140737488355328) ∧ K (put d (.lst (.own e) (n + m) (l ++ (l'.take (m * sz)).map deg)) fr) h
   | _ => False)
  | _, _ => False) := id rfl
theorem ex_mlk (st ag : Bool) (z : List AV) (ok : Bool) (l : List AV) : exF (.mlk st ag z ok) l = mlkF st ag z ok l := id rfl
theorem ex_idp (sz n : Nat) (l : List AV) : exF (.idp sz n) l = idpF sz n l := id rfl
theorem ex_sla (n : Nat) (l : List AV) : exF (.sla n) l = slaF n l := id rfl
theorem deg_omp (b : Nat) (ks vs : List AV) : deg (.omp b ks vs) = .mp b := id rfl
theorem deg_mp (b : Nat) : deg (.mp b) = .mp b := id rfl
theorem isTup_mp (b : Nat) : isTup (.mp b) = false := id rfl
theorem cellsOf_mp (b : Nat) : cellsOf (.mp b) = [.mp b] := id rfl
theorem deg_fmp (ks vs : List AV) : deg (.fmp ks vs) = .fmp ks vs := id rfl
theorem isTup_fmp (ks vs : List AV) : isTup (.fmp ks vs) = false := id rfl
theorem cellsOf_fmp (ks vs : List AV) : cellsOf (.fmp ks vs) = [.fmp ks vs] := id rfl
theorem int_add (i j : IntKind) (x y : Int) (K : AV → Prop) : bin2 .add (.int i x) (.int j y) K = (i = j ∧ arith i (x + y) K) := id rfl
theorem int_sub (i j : IntKind) (x y : Int) (K : AV → Prop) : bin2 .sub (.int i x) (.int j y) K = (i = j ∧ arith i (x - y) K) := id rfl
theorem int_mul (i j : IntKind) (x y : Int) (K : AV → Prop) : bin2 .mul (.int i x) (.int j y) K = (i = j ∧ arith i (x * y) K) := id rfl
theorem int_quo (i j : IntKind) (x y : Int) (K : AV → Prop) : bin2 .quo (.int i x) (.int j y) K = (i = j ∧ y ≠ 0 ∧ arith i (x.tdiv y) K) := id rfl
theorem int_rem (i j : IntKind) (x y : Int) (K : AV → Prop) : bin2 .rem (.int i x) (.int j y) K = (i = j ∧ y ≠ 0 ∧ K (.int i (x.tmod y))) := id rfl
theorem int_and (i j : IntKind) (x y : Int) (K : AV → Prop) : bin2 .and (.int i x) (.int j y) K = (i = j ∧ K (.int i (bitV .and i x y))) := id rfl
theorem int_andNot (i j : IntKind) (x y : Int) (K : AV → Prop) : bin2 .andNot (.int i x) (.int j y) K = (i = j ∧ K (.int i (bitV .andNot i x y))) := id rfl
theorem int_or (i j : IntKind) (x y : Int) (K : AV → Prop) : bin2 .or (.int i x) (.int j y) K = (i = j ∧ K (.int i (bitV .or i x y))) := id rfl
theorem int_xor (i j : IntKind) (x y : Int) (K : AV → Prop) : bin2 .xor (.int i x) (.int j y) K = (i = j ∧ K (.int i (bitV .xor i x y))) := id rfl
theorem int_eql (i j : IntKind) (x y : Int) (K : AV → Prop) : bin2 .eql (.int i x) (.int j y) K = (i = j ∧ K (.bool (decide (x = y)))) := id rfl
theorem int_neq (i j : IntKind) (x y : Int) (K : AV → Prop) : bin2 .neq (.int i x) (.int j y) K = (i = j ∧ K (.bool (decide (x ≠ y)))) := id rfl
theorem int_lss (i j : IntKind) (x y : Int) (K : AV → Prop) : bin2 .lss (.int i x) (.int j y) K = (i = j ∧ K (.bool (decide (x < y)))) := id rfl
theorem int_leq (i j : IntKind) (x y : Int) (K : AV → Prop) : bin2 .leq (.int i x) (.int j y) K = (i = j ∧ K (.bool (decide (x ≤ y)))) := id rfl
theorem int_gtr (i j : IntKind) (x y : Int) (K : AV → Prop) : bin2 .gtr (.int i x) (.int j y) K = (i = j ∧ K (.bool (decide (y < x)))) := id rfl
theorem int_geq (i j : IntKind) (x y : Int) (K : AV → Prop) : bin2 .geq (.int i x) (.int j y) K = (i = j ∧ K (.bool (decide (y ≤ x)))) := id rfl
theorem int_shl (i j : IntKind) (x y : Int) (K : AV → Prop) : bin2 .shl (.int i x) (.int j y) K = (0 ≤ y ∧ K (.int i (i.wrap (x * 2 ^ (min y.toNat i.bits))))) := id rfl
theorem int_shr (i j : IntKind) (x y : Int) (K : AV → Prop) : bin2 .shr (.int i x) (.int j y) K = (0 ≤ y ∧ K (.int i (x.fdiv (2 ^ (min y.toNat i.bits))))) := id rfl
theorem str_add (x y : ByteArray) (K : AV → Prop) : bin2 .add (.str x) (.str y) K = (x.size + y.size ≤ 9223372036854775807 ∧ K (.str (x ++ y))) := id rfl
theorem str_eql (x y : ByteArray) (K : AV → Prop) : bin2 .eql (.str x) (.str y) K = (K (.bool (decide (x = y)))) := id rfl
theorem str_neq (x y : ByteArray) (K : AV → Prop) : bin2 .neq (.str x) (.str y) K = (K (.bool (decide (x ≠ y)))) := id rfl
theorem str_lss (x y : ByteArray) (K : AV → Prop) : bin2 .lss (.str x) (.str y) K = (K (.bool (Op.bytesLess x.toList y.toList))) := id rfl
theorem arith_i8 (z : Int) (K : AV → Prop) : arith .i8 z K = K (.int .i8 (IntKind.i8.wrap z)) := id rfl
theorem arith_i16 (z : Int) (K : AV → Prop) : arith .i16 z K = K (.int .i16 (IntKind.i16.wrap z)) := id rfl
theorem arith_i32 (z : Int) (K : AV → Prop) : arith .i32 z K = K (.int .i32 (IntKind.i32.wrap z)) := id rfl
theorem arith_u8 (z : Int) (K : AV → Prop) : arith .u8 z K = K (.int .u8 (IntKind.u8.wrap z)) := id rfl
theorem arith_u16 (z : Int) (K : AV → Prop) : arith .u16 z K = K (.int .u16 (IntKind.u16.wrap z)) := id rfl
theorem arith_u32 (z : Int) (K : AV → Prop) : arith .u32 z K = K (.int .u32 (IntKind.u32.wrap z)) := id rfl
theorem arith_u64 (z : Int) (K : AV → Prop) : arith .u64 z K = K (.int .u64 (IntKind.u64.wrap z)) := id rfl
theorem arith_i64 (z : Int) (K : AV → Prop) : arith .i64 z K = (inR z ∧ K (.int .i64 z)) := id rfl
theorem loadK_none (a : AV) (l : List AV) (K : AV → Prop) : loadK none (a :: l) K = K (deg a) := id rfl
theorem loadK_some (n : Nat) (l : List AV) (K : AV → Prop) : loadK (some n) l K = (n ≤ l.length ∧ K (.agg ((l.take n).map deg))) := id rfl
theorem deg_bool (b : Bool) : deg (.bool b) = (.bool b) := id rfl
theorem isTup_bool (b : Bool) : isTup (.bool b) = false := id rfl
theorem cellsOf_bool (b : Bool) : cellsOf (.bool b) = [.bool b] := id rfl
theorem deg_int (i : IntKind) (n : Int) : deg (.int i n) = (.int i n) := id rfl
theorem isTup_int (i : IntKind) (n : Int) : isTup (.int i n) = false := id rfl
theorem cellsOf_int (i : IntKind) (n : Int) : cellsOf (.int i n) = [.int i n] := id rfl
theorem deg_str (s : ByteArray) : deg (.str s) = (.str s) := id rfl
theorem isTup_str (s : ByteArray) : isTup (.str s) = false := id rfl
theorem cellsOf_str (s : ByteArray) : cellsOf (.str s) = [.str s] := id rfl
theorem deg_nilp  : deg .nilp = .nilp := id rfl
theorem isTup_nilp  : isTup .nilp = false := id rfl
theorem cellsOf_nilp  : cellsOf .nilp = [.nilp] := id rfl
theorem deg_ptr (i o : Nat) : deg (.ptr i o) = (.ptr i o) := id rfl
theorem isTup_ptr (i o : Nat) : isTup (.ptr i o) = false := id rfl
theorem cellsOf_ptr (i o : Nat) : cellsOf (.ptr i o) = [.ptr i o] := id rfl
theorem deg_fp (l : List AV) : deg (.fp l) = (.fp l) := id rfl
theorem isTup_fp (l : List AV) : isTup (.fp l) = false := id rfl
theorem cellsOf_fp (l : List AV) : cellsOf (.fp l) = [.fp l] := id rfl
theorem deg_hs (i n : Nat) : deg (.hs i n) = (.hs i n) := id rfl
theorem isTup_hs (i n : Nat) : isTup (.hs i n) = false := id rfl
theorem cellsOf_hs (i n : Nat) : cellsOf (.hs i n) = [.hs i n] := id rfl
theorem deg_hsc (i n c : Nat) : deg (.hsc i n c) = (.hsc i n c) := id rfl
theorem isTup_hsc (i n c : Nat) : isTup (.hsc i n c) = false := id rfl
theorem cellsOf_hsc (i n c : Nat) : cellsOf (.hsc i n c) = [.hsc i n c] := id rfl
theorem deg_agg (l : List AV) : deg (.agg l) = (.agg l) := id rfl
theorem isTup_agg (l : List AV) : isTup (.agg l) = false := id rfl
theorem cellsOf_agg (l : List AV) : cellsOf (.agg l) = l := id rfl
theorem deg_tup (l : List AV) : deg (.tup l) = (.tup l) := id rfl
theorem isTup_tup (l : List AV) : isTup (.tup l) = true := id rfl
theorem cellsOf_tup (l : List AV) : cellsOf (.tup l) = [.tup l] := id rfl
theorem deg_fn (f : FuncId) (l : List AV) : deg (.fn f l) = (.fn f l) := id rfl
theorem isTup_fn (f : FuncId) (l : List AV) : isTup (.fn f l) = false := id rfl
theorem cellsOf_fn (f : FuncId) (l : List AV) : cellsOf (.fn f l) = [.fn f l] := id rfl
theorem deg_fnb (f : FuncId) (l : List AV) : deg (.fnb f l) = (.fnb f l) := id rfl
theorem isTup_fnb (f : FuncId) (l : List AV) : isTup (.fnb f l) = false := id rfl
theorem cellsOf_fnb (f : FuncId) (l : List AV) : cellsOf (.fnb f l) = [.fnb f l] := id rfl
theorem deg_nilf  : deg .nilf = .nilf := id rfl
theorem isTup_nilf  : isTup .nilf = false := id rfl
theorem cellsOf_nilf  : cellsOf .nilf = [.nilf] := id rfl
theorem deg_opq  : deg .opq = .opq := id rfl
theorem isTup_opq  : isTup .opq = false := id rfl
theorem cellsOf_opq  : cellsOf .opq = [.opq] := id rfl
theorem deg_frn (Q : World → Value → Prop) : deg (.frn Q) = (.frn Q) := id rfl
theorem isTup_frn (Q : World → Value → Prop) : isTup (.frn Q) = false := id rfl
theorem cellsOf_frn (Q : World → Value → Prop) : cellsOf (.frn Q) = [.frn Q] := id rfl
theorem deg_ro (n : Nat) (l : List AV) : deg (.lst .ro n l) = .lst .ro n l := id rfl
theorem deg_clip (n : Nat) (l : List AV) : deg (.lst .clip n l) = .lst .clip n l := id rfl
theorem deg_own (e : TypeId) (n : Nat) (l : List AV) : deg (.lst (.own e) n l) = .lst .ro n l := id rfl
theorem isTup_lst (f : Fl) (n : Nat) (l : List AV) : isTup (.lst f n l) = false := id rfl
theorem cellsOf_lst (f : Fl) (n : Nat) (l : List AV) : cellsOf (.lst f n l) = [.lst f n l] := id rfl
end
theorem sel (p : Bool) (A B : Prop) : ((p = true → A) ∧ (p = false → B)) = (if p = true then A else B) := by cases p <;> simp
theorem selg (p want : Bool) (A B : Prop) : ((p = want → A) ∧ (p = !want → B)) = (if p = want then A else B) := by cases p <;> cases want <;> simp
theorem ite_and (c : Prop) [Decidable c] (A B : Prop) : (if c then A else B) = ((c → A) ∧ (¬ c → B)) := by
 by_cases h : c <;> simp [h]
theorem end_get (h : Hp) (x : Option (Bool × List AV)) : (h ++ [x])[h.length]? = some x := by simp
theorem end_set (h : Hp) (x y : Option (Bool × List AV)) : (h ++ [x]).set h.length y = h ++ [y] := by simp
section
variable (P : Program)
theorem W_cond2 (c : Opd) (a b : ACode) (fr : Fr) (h : Hp) (Q : Exit → Fr → Hp → Prop) : W P (.cond c a b) fr h Q = match ev fr c with
  | some (.bool p) => (if p = true then W P a fr h Q else W P b fr h Q)
  | _ => False := by
 rw [W_cond]
 simp only [sel] <;> rfl
theorem WOps_gd2 (d : Option Nat) (q : Nat) (want : Bool) (o : AOp) (f : Option (FB × List Nat)) (r : List AStm) (fr : Fr) (h : Hp) (K : Fr → Hp → Prop) : WOps P (⟨d, some (q, want), o, f⟩ :: r) fr h K = match lk fr q with
      | some (.bool p) => (if p = want then wop P d o ((q, .bool want) :: fr) h (kops P r K) else WOps P r (put d (.tup []) ((q, .bool (!want)) :: fr)) h K)
      | some (.tup []) => WOps P r (put d (.tup []) fr) h K
      | _ => False := by
  rw [WOps_gd']
  simp only [selg] <;> rfl
theorem VOps_gd2 (d : Option Nat) (q : Nat) (want : Bool) (o : AOp) (r : List AStm) (fr : Fr) (h : Hp) (K : Fr → Hp → Prop) : VOps P (⟨d, some (q, want), o, none⟩ :: r) fr h K = match lk fr q with
      | some (.bool p) => (if p = want then eff P o ((q, .bool want) :: fr) h (kput d o ((q, .bool want) :: fr) (kvops P r K)) else VOps P r (put d (.tup []) ((q, .bool (!want)) :: fr)) h K)
      | some (.tup []) => VOps P r (put d (.tup []) fr) h K
      | _ => False := by
  rw [VOps_gd']
  simp only [selg] <;> rfl
theorem VOps_gdft2 (d : Option Nat) (q : Nat) (want : Bool) (o : AOp) (b : FB) (ps : List Nat) (r : List AStm) (fr : Fr) (h : Hp) (K : Fr → Hp → Prop) : VOps P (⟨d, some (q, want), o, some (b, ps)⟩ :: r) fr h K = match lk fr q with
      | some (.bool p) => (if p = want then (apart ((q, .bool want) :: fr) (fbId b ((q, .bool want) :: fr) h) ps ∧ effF P b o ((q, .bool want) :: fr) h (kput d o ((q, .bool want) :: fr) (kvops P r K))) else VOps P r (put d (.tup []) ((q, .bool (!want)) :: fr)) h K)
      | some (.tup []) => VOps P r (put d (.tup []) fr) h K
      | _ => False := by
  rw [VOps_gdft']
  simp only [selg] <;> rfl
theorem wop_pick2 (d : Option Nat) (c x y : Opd) (fr : Fr) (h : Hp) (K : Fr → Hp → Prop) : wop P d (.pick c x y) fr h K = (match ev fr c with
  | some (.bool p) => (if p = true then (match ev fr x with
   | some a => K (put d a fr) h
   | none => False) else (match ev fr y with
   | some a => K (put d a fr) h
   | none => False))
  | _ => False) := by
 rw [wop_pick]
 simp only [sel] <;> rfl
theorem eff_pick2 (c x y : Opd) (fr : Fr) (h : Hp) (R : AV → Hp → Prop) : eff P (.pick c x y) fr h R = (match ev fr c with
  | some (.bool p) => (if p = true then (match ev fr x with
   | some a => R a h
   | none => False) else (match ev fr y with
   | some a => R a h
   | none => False))
  | _ => False) := by
 rw [eff_pick]
 simp only [sel] <;> rfl
end
theorem wk : type_of% (z (z (z (z (z (z (z (z (z (@W_skip) (z (@W_scope) (@W_dead))) (z (@kscope_normal) (z (@kscope_exit) (@kscope_ret)))) (z (z (@W_ops) (z (@W_draw) (@W_seq))) (z (@W_cond2) (z (@W_block) (@W_exit))))) (z (z (z (@W_ret) (z (@W_keep) (@kseq_normal))) (z (@kseq_exit) (z (@kseq_ret) (@kblock_normal)))) (z (z (@kblock_exit) (z (@kblock_ret) (@kloop_normal))) (z (@kloop_exit) (z (@kloop_ret) (@kret_normal)))))) (z (z (z (z (@kret_ret) (z (@kdraw_eq) (@kval_eq))) (z (@kv_eq) (z (@kput_eq) (@kbox_eq)))) (z (z (@kobj_eq) (z (@klst_eq) (@krow_eq))) (z (@kcall_eq) (z (@put_some) (@put_none))))) (z (z (z (@lk_cons') (z (@lk_nil) (@restr_nil))) (z (@restr_cons) (z (@ev_t) (@ev_c)))) (z (z (@ev_f) (z (@evs_nil) (@evs_cons))) (z (@evD_none) (z (@evD_some) (@degr_nil))))))) (z (z (z (z (z (@degr_cons) (z (@args0_nil) (@args0_cons))) (z (@buildK_nil) (z (@buildK_cons) (@upgK_nil)))) (z (z (@upgK_cons) (z (@resL_nil) (@resL_t))) (z (@resL_c) (z (@res1_one) (@res1_nil))))) (z (z (z (@res1_two) (z (@WOps_nil') (@WOps_cons'))) (z (@WOps_gd2) (z (@kops_eq') (@VOps_nil')))) (z (z (@VOps_cons') (z (@VOps_gd2) (@VOps_ft'))) (z (@VOps_gdft2) (z (@apart_nil) (@apart_cons)))))) (z (z (z (z (@ptrId_ptr) (z (@ptrId_hs) (@sameId_eq))) (z (@fbId_s) (z (@fbId_h) (@effF_load)))) (z (z (@effF_loado) (z (@effF_store) (@effF_stores))) (z (@effF_storeo) (z (@effF_calli) (@effF_new))))) (z (z (z (@effF_box) (z (@effF_mkn) (@W_holes))) (z (@rep2) (z (@rep3) (@kvops_eq')))) (z (z (@splice_cons') (z (@splice_nil') (@wop_mv))) (z (z (@eff_mv) (@wop_pick2)) (z (@eff_pick2) (@wop_build)))))))) (z (z (z (z (z (z (@eff_build) (z (@wop_load) (@eff_load))) (z (@wop_lds) (z (@eff_lds) (@wop_nilck)))) (z (z (@eff_nilck) (z (@wop_bin) (@eff_bin))) (z (@wop_pnil) (z (@eff_pnil) (@wop_bbin))))) (z (z (z (@eff_bbin) (z (@wop_not) (@eff_not))) (z (@wop_conv) (z (@eff_conv) (@wop_cstr)))) (z (z (@eff_cstr) (z (@wop_b2s) (@eff_b2s))) (z (@wop_fld) (z (@eff_fld) (@wop_idxa)))))) (z (z (z (z (@eff_idxa) (z (@wop_idxs) (@eff_idxs))) (z (@wop_slcs) (z (@eff_slcs) (@wop_slcl)))) (z (z (@eff_slcl) (z (@wop_ext) (@eff_ext))) (z (@wop_lens) (z (@eff_lens) (@wop_lenl))))) (z (z (z (@eff_lenl) (z (@wop_mn) (@eff_mn))) (z (@wop_mx) (z (@eff_mx) (@wop_ex)))) (z (z (@eff_ex) (z (@wop_mkfn) (@eff_mkfn))) (z (@wop_mvu) (z (@eff_mvu) (@wop_mvo))))))) (z (z (z (z (z (@eff_mvo) (z (@wop_new) (@eff_new))) (z (@wop_box) (z (@eff_box) (@wop_bsl)))) (z (z (@eff_bsl) (z (@wop_mk0) (@eff_mk0))) (z (@wop_mkn) (z (@eff_mkn) (@wop_loado))))) (z (z (z (@eff_loado) (z (@wop_app) (@eff_app))) (z (@wop_appo) (z (@eff_appo) (@wop_appso)))) (z (z (@eff_appso) (z (@wop_bar) (@wop_bsh))) (z (@wop_store) (z (@wop_storeo) (@wop_stores)))))) (z (z (z (z (@eff_store) (z (@eff_storeo) (@eff_stores))) (z (@wop_rngs) (z (@wop_nxt) (@wop_call)))) (z (z (@eff_call) (z (@wop_calli) (@eff_calli))) (z (@wop_snil) (z (@eff_snil) (@wop_storeu))))) (z (z (z (@tk_mv) (z (@tk_pick) (@tk_build))) (z (@tk_load) (z (@tk_lds) (@tk_nilck)))) (z (z (@tk_bin) (z (@tk_pnil) (@tk_bbin))) (z (z (@tk_not) (@tk_conv)) (z (@tk_cstr) (@tk_b2s))))))))) (z (z (z (z (z (z (z (@tk_fld) (z (@tk_idxa) (@tk_idxs))) (z (@tk_slcs) (z (@tk_slcl) (@tk_ext)))) (z (z (@tk_lens) (z (@tk_lenl) (@tk_mn))) (z (@tk_mx) (z (@tk_ex) (@tk_mkfn))))) (z (z (z (@tk_mvu) (z (@tk_mvo) (@tk_new))) (z (@tk_box) (z (@tk_bsl) (@tk_mk0)))) (z (z (@tk_mkn) (z (@tk_loado) (@tk_app))) (z (@tk_appo) (z (@tk_appso) (@tk_store)))))) (z (z (z (z (@tk_storeo) (z (@tk_call) (@tk_stores))) (z (@tk_calli) (z (@tk_snil) (@ex_wadd)))) (z (z (@ex_wsub) (z (@ex_wmul) (@ex_aeq))) (z (@ex_r2s) (z (@ex_ibs) (@ex_mkb))))) (z (z (z (@deg_itr) (z (@ex_zag) (@wop_apc))) (z (@obind) (z (@rowA_lst) (@isLst_lst)))) (z (z (@rowA_hs) (z (@wop_slch) (@wop_aph))) (z (@wop_mmv) (z (@wop_mra) (@wop_cpy))))))) (z (z (z (z (z (@eff_cpy) (z (@tk_cpy) (@deg_omp))) (z (@deg_mp) (z (@isTup_mp) (@cellsOf_mp)))) (z (z (@deg_fmp) (z (@isTup_fmp) (@cellsOf_fmp))) (z (@wop_mmk) (z (@wop_mup) (@wop_mfz))))) (z (z (z (@ex_mlk) (z (@ex_idp) (@ex_sla))) (z (@int_add) (z (@int_sub) (@int_mul)))) (z (z (@int_quo) (z (@int_rem) (@int_and))) (z (@int_andNot) (z (@int_or) (@int_xor)))))) (z (z (z (z (@int_eql) (z (@int_neq) (@int_lss))) (z (@int_leq) (z (@int_gtr) (@int_geq)))) (z (z (@int_shl) (z (@int_shr) (@str_add))) (z (@str_eql) (z (@str_neq) (@str_lss))))) (z (z (z (@arith_i8) (z (@arith_i16) (@arith_i32))) (z (@arith_u8) (z (@arith_u16) (@arith_u32)))) (z (z (@arith_u64) (z (@arith_i64) (@loadK_none))) (z (z (@loadK_some) (@deg_bool)) (z (@isTup_bool) (@cellsOf_bool)))))))) (z (z (z (z (z (z (@deg_int) (z (@isTup_int) (@cellsOf_int))) (z (@deg_str) (z (@isTup_str) (@cellsOf_str)))) (z (z (@deg_nilp) (z (@isTup_nilp) (@cellsOf_nilp))) (z (@deg_ptr) (z (@isTup_ptr) (@cellsOf_ptr))))) (z (z (z (@deg_fp) (z (@isTup_fp) (@cellsOf_fp))) (z (@deg_hs) (z (@isTup_hs) (@cellsOf_hs)))) (z (z (@deg_hsc) (z (@isTup_hsc) (@cellsOf_hsc))) (z (@deg_agg) (z (@isTup_agg) (@cellsOf_agg)))))) (z (z (z (z (@deg_tup) (z (@isTup_tup) (@cellsOf_tup))) (z (@deg_fn) (z (@isTup_fn) (@cellsOf_fn)))) (z (z (@deg_fnb) (z (@isTup_fnb) (@cellsOf_fnb))) (z (@deg_nilf) (z (@isTup_nilf) (@cellsOf_nilf))))) (z (z (z (@deg_opq) (z (@isTup_opq) (@cellsOf_opq))) (z (@deg_frn) (z (@isTup_frn) (@cellsOf_frn)))) (z (z (@deg_ro) (z (@deg_clip) (@deg_own))) (z (z (@isTup_lst) (@cellsOf_lst)) (z (@Option.map_some.{0, 0}) (@Option.map_none.{0, 0}))))))) (z (z (z (z (z (@Nat.zero_mul) (z (@Nat.add_zero) (@Nat.zero_add))) (z (@Nat.mul_one) (z (@Nat.succ_ne_self) (@Nat.one_ne_zero)))) (z (z (@Nat.zero_ne_one) (z (@List.length_cons.{0}) (@List.length_nil.{0}))) (z (@List.set_cons_zero.{0}) (z (@List.set_cons_succ.{0}) (@List.getElem?_cons_zero.{0}))))) (z (z (z (@List.getElem?_cons_succ.{0}) (z (@List.getElem?_nil.{0}) (@List.drop_zero.{0}))) (z (@List.drop_succ_cons.{0}) (z (@List.take_succ_cons.{0}) (@List.take_zero.{0})))) (z (z (@List.map_cons.{0, 0}) (z (@List.map_nil.{0, 0}) (@List.nil_append.{0}))) (z (@List.append_nil.{0}) (z (@List.cons_append.{0}) (@Bool.not_true)))))) (z (z (z (z (@Bool.not_false) (z (@Bool.true_eq_false) (@Bool.false_eq_true))) (z (@true_and) (z (@and_true) (@and_self)))) (z (z (@true_implies) (z (@false_implies) (@Bool.not_eq_true'))) (z (@Bool.not_eq_false') (z (@Bool.not_eq_eq_eq_not) (@decide_eq_true_eq))))) (z (z (z (@decide_eq_false_iff_not) (z (@Int.toNat_zero) (@not_true_eq_false))) (z (@not_false_eq_true) (z (@List.set_set.{0}) (@end_get)))) (z (z (@end_set) (z (@ite_and) (@decide_true))) (z (z (@decide_false) (@Bool.not_eq_true)) (z (@Bool.not_eq_false) (@Decidable.not_not)))))))))) (z (@Zm_eq) (@Zo_eq))) :=
 z (z (z (z (z (z (z (z (z (@W_skip) (z (@W_scope) (@W_dead))) (z (@kscope_normal) (z (@kscope_exit) (@kscope_ret)))) (z (z (@W_ops) (z (@W_draw) (@W_seq))) (z (@W_cond2) (z (@W_block) (@W_exit))))) (z (z (z (@W_ret) (z (@W_keep) (@kseq_normal))) (z (@kseq_exit) (z (@kseq_ret) (@kblock_normal)))) (z (z (@kblock_exit) (z (@kblock_ret) (@kloop_normal))) (z (@kloop_exit) (z (@kloop_ret) (@kret_normal)))))) (z (z (z (z (@kret_ret) (z (@kdraw_eq) (@kval_eq))) (z (@kv_eq) (z (@kput_eq) (@kbox_eq)))) (z (z (@kobj_eq) (z (@klst_eq) (@krow_eq))) (z (@kcall_eq) (z (@put_some) (@put_none))))) (z (z (z (@lk_cons') (z (@lk_nil) (@restr_nil))) (z (@restr_cons) (z (@ev_t) (@ev_c)))) (z (z (@ev_f) (z (@evs_nil) (@evs_cons))) (z (@evD_none) (z (@evD_some) (@degr_nil))))))) (z (z (z (z (z (@degr_cons) (z (@args0_nil) (@args0_cons))) (z (@buildK_nil) (z (@buildK_cons) (@upgK_nil)))) (z (z (@upgK_cons) (z (@resL_nil) (@resL_t))) (z (@resL_c) (z (@res1_one) (@res1_nil))))) (z (z (z (@res1_two) (z (@WOps_nil') (@WOps_cons'))) (z (@WOps_gd2) (z (@kops_eq') (@VOps_nil')))) (z (z (@VOps_cons') (z (@VOps_gd2) (@VOps_ft'))) (z (@VOps_gdft2) (z (@apart_nil) (@apart_cons)))))) (z (z (z (z (@ptrId_ptr) (z (@ptrId_hs) (@sameId_eq))) (z (@fbId_s) (z (@fbId_h) (@effF_load)))) (z (z (@effF_loado) (z (@effF_store) (@effF_stores))) (z (@effF_storeo) (z (@effF_calli) (@effF_new))))) (z (z (z (@effF_box) (z (@effF_mkn) (@W_holes))) (z (@rep2) (z (@rep3) (@kvops_eq')))) (z (z (@splice_cons') (z (@splice_nil') (@wop_mv))) (z (z (@eff_mv) (@wop_pick2)) (z (@eff_pick2) (@wop_build)))))))) (z (z (z (z (z (z (@eff_build) (z (@wop_load) (@eff_load))) (z (@wop_lds) (z (@eff_lds) (@wop_nilck)))) (z (z (@eff_nilck) (z (@wop_bin) (@eff_bin))) (z (@wop_pnil) (z (@eff_pnil) (@wop_bbin))))) (z (z (z (@eff_bbin) (z (@wop_not) (@eff_not))) (z (@wop_conv) (z (@eff_conv) (@wop_cstr)))) (z (z (@eff_cstr) (z (@wop_b2s) (@eff_b2s))) (z (@wop_fld) (z (@eff_fld) (@wop_idxa)))))) (z (z (z (z (@eff_idxa) (z (@wop_idxs) (@eff_idxs))) (z (@wop_slcs) (z (@eff_slcs) (@wop_slcl)))) (z (z (@eff_slcl) (z (@wop_ext) (@eff_ext))) (z (@wop_lens) (z (@eff_lens) (@wop_lenl))))) (z (z (z (@eff_lenl) (z (@wop_mn) (@eff_mn))) (z (@wop_mx) (z (@eff_mx) (@wop_ex)))) (z (z (@eff_ex) (z (@wop_mkfn) (@eff_mkfn))) (z (@wop_mvu) (z (@eff_mvu) (@wop_mvo))))))) (z (z (z (z (z (@eff_mvo) (z (@wop_new) (@eff_new))) (z (@wop_box) (z (@eff_box) (@wop_bsl)))) (z (z (@eff_bsl) (z (@wop_mk0) (@eff_mk0))) (z (@wop_mkn) (z (@eff_mkn) (@wop_loado))))) (z (z (z (@eff_loado) (z (@wop_app) (@eff_app))) (z (@wop_appo) (z (@eff_appo) (@wop_appso)))) (z (z (@eff_appso) (z (@wop_bar) (@wop_bsh))) (z (@wop_store) (z (@wop_storeo) (@wop_stores)))))) (z (z (z (z (@eff_store) (z (@eff_storeo) (@eff_stores))) (z (@wop_rngs) (z (@wop_nxt) (@wop_call)))) (z (z (@eff_call) (z (@wop_calli) (@eff_calli))) (z (@wop_snil) (z (@eff_snil) (@wop_storeu))))) (z (z (z (@tk_mv) (z (@tk_pick) (@tk_build))) (z (@tk_load) (z (@tk_lds) (@tk_nilck)))) (z (z (@tk_bin) (z (@tk_pnil) (@tk_bbin))) (z (z (@tk_not) (@tk_conv)) (z (@tk_cstr) (@tk_b2s))))))))) (z (z (z (z (z (z (z (@tk_fld) (z (@tk_idxa) (@tk_idxs))) (z (@tk_slcs) (z (@tk_slcl) (@tk_ext)))) (z (z (@tk_lens) (z (@tk_lenl) (@tk_mn))) (z (@tk_mx) (z (@tk_ex) (@tk_mkfn))))) (z (z (z (@tk_mvu) (z (@tk_mvo) (@tk_new))) (z (@tk_box) (z (@tk_bsl) (@tk_mk0)))) (z (z (@tk_mkn) (z (@tk_loado) (@tk_app))) (z (@tk_appo) (z (@tk_appso) (@tk_store)))))) (z (z (z (z (@tk_storeo) (z (@tk_call) (@tk_stores))) (z (@tk_calli) (z (@tk_snil) (@ex_wadd)))) (z (z (@ex_wsub) (z (@ex_wmul) (@ex_aeq))) (z (@ex_r2s) (z (@ex_ibs) (@ex_mkb))))) (z (z (z (@deg_itr) (z (@ex_zag) (@wop_apc))) (z (@obind) (z (@rowA_lst) (@isLst_lst)))) (z (z (@rowA_hs) (z (@wop_slch) (@wop_aph))) (z (@wop_mmv) (z (@wop_mra) (@wop_cpy))))))) (z (z (z (z (z (@eff_cpy) (z (@tk_cpy) (@deg_omp))) (z (@deg_mp) (z (@isTup_mp) (@cellsOf_mp)))) (z (z (@deg_fmp) (z (@isTup_fmp) (@cellsOf_fmp))) (z (@wop_mmk) (z (@wop_mup) (@wop_mfz))))) (z (z (z (@ex_mlk) (z (@ex_idp) (@ex_sla))) (z (@int_add) (z (@int_sub) (@int_mul)))) (z (z (@int_quo) (z (@int_rem) (@int_and))) (z (@int_andNot) (z (@int_or) (@int_xor)))))) (z (z (z (z (@int_eql) (z (@int_neq) (@int_lss))) (z (@int_leq) (z (@int_gtr) (@int_geq)))) (z (z (@int_shl) (z (@int_shr) (@str_add))) (z (@str_eql) (z (@str_neq) (@str_lss))))) (z (z (z (@arith_i8) (z (@arith_i16) (@arith_i32))) (z (@arith_u8) (z (@arith_u16) (@arith_u32)))) (z (z (@arith_u64) (z (@arith_i64) (@loadK_none))) (z (z (@loadK_some) (@deg_bool)) (z (@isTup_bool) (@cellsOf_bool)))))))) (z (z (z (z (z (z (@deg_int) (z (@isTup_int) (@cellsOf_int))) (z (@deg_str) (z (@isTup_str) (@cellsOf_str)))) (z (z (@deg_nilp) (z (@isTup_nilp) (@cellsOf_nilp))) (z (@deg_ptr) (z (@isTup_ptr) (@cellsOf_ptr))))) (z (z (z (@deg_fp) (z (@isTup_fp) (@cellsOf_fp))) (z (@deg_hs) (z (@isTup_hs) (@cellsOf_hs)))) (z (z (@deg_hsc) (z (@isTup_hsc) (@cellsOf_hsc))) (z (@deg_agg) (z (@isTup_agg) (@cellsOf_agg)))))) (z (z (z (z (@deg_tup) (z (@isTup_tup) (@cellsOf_tup))) (z (@deg_fn) (z (@isTup_fn) (@cellsOf_fn)))) (z (z (@deg_fnb) (z (@isTup_fnb) (@cellsOf_fnb))) (z (@deg_nilf) (z (@isTup_nilf) (@cellsOf_nilf))))) (z (z (z (@deg_opq) (z (@isTup_opq) (@cellsOf_opq))) (z (@deg_frn) (z (@isTup_frn) (@cellsOf_frn)))) (z (z (@deg_ro) (z (@deg_clip) (@deg_own))) (z (z (@isTup_lst) (@cellsOf_lst)) (z (@Option.map_some.{0, 0}) (@Option.map_none.{0, 0}))))))) (z (z (z (z (z (@Nat.zero_mul) (z (@Nat.add_zero) (@Nat.zero_add))) (z (@Nat.mul_one) (z (@Nat.succ_ne_self) (@Nat.one_ne_zero)))) (z (z (@Nat.zero_ne_one) (z (@List.length_cons.{0}) (@List.length_nil.{0}))) (z (@List.set_cons_zero.{0}) (z (@List.set_cons_succ.{0}) (@List.getElem?_cons_zero.{0}))))) (z (z (z (@List.getElem?_cons_succ.{0}) (z (@List.getElem?_nil.{0}) (@List.drop_zero.{0}))) (z (@List.drop_succ_cons.{0}) (z (@List.take_succ_cons.{0}) (@List.take_zero.{0})))) (z (z (@List.map_cons.{0, 0}) (z (@List.map_nil.{0, 0}) (@List.nil_append.{0}))) (z (@List.append_nil.{0}) (z (@List.cons_append.{0}) (@Bool.not_true)))))) (z (z (z (z (@Bool.not_false) (z (@Bool.true_eq_false) (@Bool.false_eq_true))) (z (@true_and) (z (@and_true) (@and_self)))) (z (z (@true_implies) (z (@false_implies) (@Bool.not_eq_true'))) (z (@Bool.not_eq_false') (z (@Bool.not_eq_eq_eq_not) (@decide_eq_true_eq))))) (z (z (z (@decide_eq_false_iff_not) (z (@Int.toNat_zero) (@not_true_eq_false))) (z (@not_false_eq_true) (z (@List.set_set.{0}) (@end_get)))) (z (z (@end_set) (z (@ite_and) (@decide_true))) (z (z (@decide_false) (@Bool.not_eq_true)) (z (@Bool.not_eq_false) (@Decidable.not_not)))))))))) (z (@Zm_eq) (@Zo_eq))
end Go.Proofs.YtedaffmkpljlnaaGreat
namespace Go.Proofs.YtedaffmkpljlnaaGreat
open Go.RowKit
def F_ref03_Equal : AFn :=
 ⟨26,[.t 4],.seq (.ops [Zo 4 (.mv (.c (.bool false)))])
 (.keep [0,1] (.seq (.seq (.ops [Zm 6 0,
 Zo 7 (.lenl (.t 6)),
 Zm 8 1,
 Zo 9 (.lenl (.t 8)),
 Zo 10 (.bin .neq (.t 7) (.t 9))])
 (.keep [0,1,10] (.cond (.t 10)
 (.seq (.ops [Zo 4 (.mv (.c (.bool false)))])
 (.ret))
 (.skip))))
 (.keep [0,1] (.seq (.seq (.ops [Zo 5 (.mv (.c (.int .i64 0)))])
 (.keep [0,1,5] (.block 0 (.loop [0,1,5] (.seq (.seq (.ops [Zm 11 5,
 Zm 12 0,
 Zo 13 (.lenl (.t 12)),
 Zo 14 (.bin .lss (.t 11) (.t 13))])
 (.keep [0,1,5,14] (.cond (.t 14)
 (.skip)
 (.exit 0))))
 (.keep [0,1,5] (.seq (.block 1 (.seq (.draw [0,1,5,25] [Zm 17 0,
 Zm 18 5,
 Zo 19 (.idxa 1 (.t 17) (.t 18)),
 Zo 20 (.load none (.t 19)),
 Zm 21 1,
 Zm 22 5,
 Zo 23 (.idxa 1 (.t 21) (.t 22)),
 Zo 24 (.load none (.t 23)),
 Zo 25 (.bin .neq (.t 20) (.t 24))])
 (.keep [0,1,5,25] (.cond (.t 25)
 (.seq (.ops [Zo 4 (.mv (.c (.bool false)))])
 (.ret))
 (.skip)))))
 (.keep [0,1,5] (.ops [Zm 15 5,
 Zo 16 (.bin .add (.t 15) (.c (.int .i64 1))),
 Zm 5 16])))))))))
 (.keep [] (.seq (.ops [Zo 4 (.mv (.c (.bool true)))])
 (.ret)))))))⟩
theorem F_ref03_Equal_ok : chkFn Tryz.prog 14 F_ref03_Equal = true := by kernel_rfl
def F_set_May : AFn :=
 ⟨36,[.t 2],.seq (.ops [Zo 2 (.mv (.c (.bool false)))])
 (.keep [0] (.seq (.seq (.ops [Zm 5 0,
 Zo 6 (.lenl (.t 5)),
 Zo 7 (.bin .lss (.t 6) (.c (.int .i64 1))),
 Zm 8 7,
 ⟨some 9,(some (8,false)),.mv (.t 0),none⟩,
 ⟨some 10,(some (8,false)),.lenl (.t 9),none⟩,
 ⟨some 11,(some (8,false)),.bin .gtr (.t 10) (.c (.int .i64 16)),none⟩,
 Zo 12 (.pick (.t 8) (.c (.bool true)) (.t 11))])
 (.keep [0,12] (.cond (.t 12)
 (.seq (.ops [Zo 2 (.mv (.c (.bool false)))])
 (.ret))
 (.skip))))
 (.keep [0] (.seq (.seq (.ops [Zm 13 0,
 Zo 14 (.lenl (.t 13)),
 Zo 15 (.mv (.c (.int .i64 0)))])
 (.keep [0,13,14,15] (.block 0 (.loop [0,13,14,15] (.seq (.ops [Zo 16 (.bin .lss (.t 15) (.t 14))])
 (.keep [0,13,14,15,16] (.seq (.cond (.t 16)
 (.skip)
 (.exit 0))
 (.keep [0,13,14,15] (.seq (.block 1 (.seq (.ops [Zm 17 15,
 Zo 18 (.idxa 1 (.t 13) (.t 15)),
 Zo 19 (.load none (.t 18)),
 Zm 3 17,
 Zm 4 19])
 (.keep [0,3,4,13,14,15] (.seq (.seq (.ops [Zm 20 4,
 Zo 21 (.call (.f 65) [(.t 20)]),
 Zo 22 (.not (.t 21))])
 (.keep [0,3,4,13,14,15,22] (.cond (.t 22)
 (.seq (.ops [Zo 2 (.mv (.c (.bool false)))])
 (.ret))
 (.skip))))
 (.keep [0,3,4,13,14,15] (.seq (.ops [Zm 23 3,
 Zo 24 (.bin .gtr (.t 23) (.c (.int .i64 0))),
 Zm 25 24,
 ⟨some 26,(some (25,true)),.mv (.t 0),none⟩,
 ⟨some 27,(some (25,true)),.mv (.t 3),none⟩,
 ⟨some 28,(some (25,true)),.bin .sub (.t 27) (.c (.int .i64 1)),none⟩,
 ⟨some 29,(some (25,true)),.idxa 1 (.t 26) (.t 28),none⟩,
 ⟨some 30,(some (25,true)),.load none (.t 29),none⟩,
 ⟨some 31,(some (25,true)),.mv (.t 4),none⟩,
 ⟨some 32,(some (25,true)),.call (.f 66) [(.t 30),(.t 31)],none⟩,
 ⟨some 33,(some (25,true)),.not (.t 32),none⟩,
 Zo 34 (.pick (.t 25) (.t 33) (.c (.bool false)))])
 (.keep [0,13,14,15,34] (.cond (.t 34)
 (.seq (.ops [Zo 2 (.mv (.c (.bool false)))])
 (.ret))
 (.skip)))))))))
 (.keep [0,13,14,15] (.ops [Zo 35 (.bin .add (.t 15) (.c (.int .i64 1))),
 Zm 15 35])))))))))))
 (.keep [] (.seq (.ops [Zo 2 (.mv (.c (.bool true)))])
 (.ret)))))))⟩
theorem F_set_May_ok : chkFn Tryz.prog 35 F_set_May = true := by kernel_rfl
def F_word_At : AFn :=
 ⟨26,[.t 4],.seq (.ops [Zo 4 (.mv (.c (.int .u16 0)))])
 (.keep [0,1] (.seq (.seq (.ops [Zm 5 1,
 Zo 6 (.bin .lss (.t 5) (.c (.int .i64 0))),
 Zm 7 6,
 ⟨some 8,(some (7,false)),.mv (.t 1),none⟩,
 ⟨some 9,(some (7,false)),.mv (.t 0),none⟩,
 ⟨some 10,(some (7,false)),.call (.f 90) [(.t 9)],none⟩,
 ⟨some 11,(some (7,false)),.bin .geq (.t 8) (.t 10),none⟩,
 Zo 12 (.pick (.t 7) (.c (.bool true)) (.t 11))])
 (.keep [0,1,12] (.cond (.t 12)
 (.seq (.ops [Zo 4 (.mv (.c (.int .u16 0)))])
 (.ret))
 (.skip))))
 (.keep [0,1] (.seq (.draw [4] [Zm 13 0,
 Zm 14 1,
 Zo 15 (.bin .mul (.c (.int .i64 2)) (.t 14)),
 Zo 16 (.idxs (.t 13) (.t 15)),
 Zo 17 (.conv .u16 (.t 16)),
 Zo 18 (.bin .shl (.t 17) (.c (.int .u64 8))),
 Zm 19 0,
 Zm 20 1,
 Zo 21 (.bin .mul (.c (.int .i64 2)) (.t 20)),
 Zo 22 (.bin .add (.t 21) (.c (.int .i64 1))),
 Zo 23 (.idxs (.t 19) (.t 22)),
 Zo 24 (.conv .u16 (.t 23)),
 Zo 25 (.bin .or (.t 18) (.t 24)),
 Zm 4 25])
 (.ret)))))⟩
theorem F_word_At_ok : chkFn Tryz.prog 57 F_word_At = true := by kernel_rfl
def F_word_May : AFn :=
 ⟨26,[.t 2],.seq (.ops [Zo 2 (.mv (.c (.bool false)))])
 (.keep [0] (.seq (.seq (.ops [Zm 4 0,
 Zo 5 (.call (.f 104) [(.t 4)]),
 Zm 6 5,
 ⟨some 7,(some (6,false)),.mv (.t 0),none⟩,
 ⟨some 8,(some (6,false)),.call (.f 90) [(.t 7)],none⟩,
 ⟨some 9,(some (6,false)),.bin .lss (.t 8) (.c (.int .i64 1)),none⟩,
 Zo 10 (.pick (.t 6) (.c (.bool true)) (.t 9)),
 Zm 11 10,
 ⟨some 12,(some (11,false)),.mv (.t 0),none⟩,
 ⟨some 13,(some (11,false)),.call (.f 90) [(.t 12)],none⟩,
 ⟨some 14,(some (11,false)),.bin .gtr (.t 13) (.c (.int .i64 8)),none⟩,
 Zo 15 (.pick (.t 11) (.c (.bool true)) (.t 14))])
 (.keep [0,15] (.cond (.t 15)
 (.seq (.ops [Zo 2 (.mv (.c (.bool false)))])
 (.ret))
 (.skip))))
 (.keep [0] (.seq (.seq (.ops [Zm 16 0,
 Zo 17 (.call (.f 90) [(.t 16)]),
 Zo 18 (.mv (.c (.int .i64 0)))])
 (.keep [0,17,18] (.block 0 (.loop [0,17,18] (.seq (.ops [Zo 19 (.bin .lss (.t 18) (.t 17))])
 (.keep [0,17,18,19] (.seq (.cond (.t 19)
 (.skip)
 (.exit 0))
 (.keep [0,17,18] (.seq (.block 1 (.seq (.ops [Zm 20 18,
 Zm 3 20])
 (.keep [0,3,17,18] (.seq (.ops [Zm 21 0,
 Zm 22 3,
 Zo 23 (.call (.f 57) [(.t 21),(.t 22)]),
 Zo 24 (.bin .eql (.t 23) (.c (.int .u16 0)))])
 (.keep [0,17,18,24] (.cond (.t 24)
 (.seq (.ops [Zo 2 (.mv (.c (.bool false)))])
 (.ret))
 (.skip)))))))
 (.keep [0,17,18] (.ops [Zo 25 (.bin .add (.t 18) (.c (.int .i64 1))),
 Zm 18 25])))))))))))
 (.keep [] (.seq (.ops [Zo 2 (.mv (.c (.bool true)))])
 (.ret)))))))⟩
theorem F_word_May_ok : chkFn Tryz.prog 65 F_word_May = true := by kernel_rfl
def F_word_Less : AFn :=
 ⟨18,[.t 4],.seq (.ops [Zo 4 (.mv (.c (.bool false)))])
 (.keep [0,1] (.seq (.seq (.ops [Zm 5 0,
 Zo 6 (.lens (.t 5)),
 Zm 7 1,
 Zo 8 (.lens (.t 7)),
 Zo 9 (.bin .neq (.t 6) (.t 8))])
 (.keep [0,1,9] (.cond (.t 9)
 (.seq (.ops [Zm 10 0,
 Zo 11 (.lens (.t 10)),
 Zm 12 1,
 Zo 13 (.lens (.t 12)),
 Zo 14 (.bin .lss (.t 11) (.t 13)),
 Zm 4 14])
 (.ret))
 (.skip))))
 (.keep [0,1] (.seq (.ops [Zm 15 0,
 Zm 16 1,
 Zo 17 (.bin .lss (.t 15) (.t 16)),
 Zm 4 17])
 (.ret)))))⟩
theorem F_word_Less_ok : chkFn Tryz.prog 66 F_word_Less = true := by kernel_rfl
def F_word_Len : AFn :=
 ⟨6,[.t 2],.seq (.ops [Zo 2 (.mv (.c (.int .i64 0)))])
 (.keep [0] (.seq (.ops [Zm 3 0,
 Zo 4 (.lens (.t 3)),
 Zo 5 (.bin .quo (.t 4) (.c (.int .i64 2))),
 Zm 2 5])
 (.ret)))⟩
theorem F_word_Len_ok : chkFn Tryz.prog 90 F_word_Len = true := by kernel_rfl
def F_word_odd : AFn :=
 ⟨7,[.t 2],.seq (.ops [Zo 2 (.mv (.c (.bool false)))])
 (.keep [0] (.seq (.ops [Zm 3 0,
 Zo 4 (.lens (.t 3)),
 Zo 5 (.bin .rem (.t 4) (.c (.int .i64 2))),
 Zo 6 (.bin .neq (.t 5) (.c (.int .i64 0))),
 Zm 2 6])
 (.ret)))⟩
theorem F_word_odd_ok : chkFn Tryz.prog 104 F_word_odd = true := by kernel_rfl
end Go.Proofs.YtedaffmkpljlnaaGreat
/- What the functions of packages word and set tell, over the abstract code. -/
namespace Go.Proofs.YtedaffmkpljlnaaGreat
open Go.RowKit Go.Lib

theorem bool_eq {p q : Bool} (h : p = q) : AV.bool p = .bool q := by rw [h]
theorem int_eq {k : IntKind} {a b : Int} (h : a = b) : AV.int k a = .int k b := by rw [h]
theorem byteAt_eq {s : ByteArray} {i : Nat} (h : i < s.size) : byteAt s i = s[i].toNat := by
 have : i < s.data.toList.length := by simpa using h
 simp only [byteAt, List.getElem?_eq_getElem this]; rfl

theorem p_wlen (s : ByteArray) (hs : s.size ≤ 9223372036854775807) : PCalls Tryz.prog 90 [.str s] (.int .i64 ((s.size / 2 : Nat) : Int)) := by
 refine pcalls_of (by first | rfl | simp [free, free.frees, frees_str, frees_u8, frees_u16]) (by first | rfl | simp [free, free.frees, frees_str, frees_u8, frees_u16]) (acalls_of mixed F_word_Len_ok (Nat.le_of_ble_eq_true rfl) ?_); simp only [F_word_Len, wk,ne_eq,eq_self,Int.reduceEq,reduceCtorEq,↓reduceIte]
 rw [Int.tdiv_eq_ediv_of_nonneg (by omega)]
 exact ⟨inR_of (by omega) (by omega), rfl⟩
theorem p_wodd (s : ByteArray) : PCalls Tryz.prog 104 [.str s] (.bool (decide (s.size % 2 ≠ 0))) := by
 refine pcalls_of (by first | rfl | simp [free, free.frees, frees_str, frees_u8, frees_u16]) (by first | rfl | simp [free, free.frees, frees_str, frees_u8, frees_u16]) (acalls_of mixed F_word_odd_ok (Nat.le_of_ble_eq_true rfl) ?_); simp only [F_word_odd, wk,ne_eq,eq_self,Int.reduceEq,reduceCtorEq,↓reduceIte]
 rw [Int.tmod_eq_emod_of_nonneg (by omega)]
 refine bool_eq ?_
 rw [Bool.eq_iff_iff]; simp; omega
theorem or_word' (x y : Nat) (hx : x < 256) (hy : y < 256) : bitV .or .u16 (IntKind.u16.wrap (IntKind.u16.wrap (x : Int) * 2 ^ (min 8 IntKind.u16.bits))) (IntKind.u16.wrap (y : Int)) = ((x * 256 + y : Nat) : Int) := by
 have e1 : IntKind.u16.wrap (x : Int) = x := by rw [IntKind.wrap_u16]; omega
 have e2 : IntKind.u16.wrap (y : Int) = y := by rw [IntKind.wrap_u16]; omega
 have e3 : IntKind.u16.wrap ((x : Int) * 2 ^ (min 8 IntKind.u16.bits)) = ((x * 256 : Nat) : Int) := by
  rw [show (min 8 IntKind.u16.bits) = 8 by decide, IntKind.wrap_u16]; omega
 rw [e1, e2, e3]
 show bits .or .u16 _ _ = _
 rw [u16_or_nat _ _ (by omega) (by omega), nat_join 8 _ _ (by omega) (by omega)]
theorem p_wat (s : ByteArray) (i : Nat) (hs : s.size ≤ 9223372036854775807) (hi : 2 * i + 1 < s.size) : PCalls Tryz.prog 57 [.str s, .int .i64 i] (.int .u16 (atomAt s i)) := by
 refine pcalls_of (by first | rfl | simp [free, free.frees, frees_str, frees_u8, frees_u16]) (by first | rfl | simp [free, free.frees, frees_str, frees_u8, frees_u16]) (acalls_of mixed F_word_At_ok (Nat.le_of_ble_eq_true rfl) ?_); simp only [F_word_At, wk,eq_self,Nat.reduceEqDiff,Nat.reduceAdd,reduceCtorEq,↓reduceIte]
 refine ⟨fun _ => ?_, fun h => by omega⟩
 refine PCalls.use (p_wlen s hs) ?_; simp only [wk,eq_self,Nat.reduceEqDiff,Int.reduceLE,reduceCtorEq,Int.reduceToNat,↓reduceIte]
 refine ⟨fun h => by omega, fun _ => ?_⟩
 (repeat (refine And.intro (by first | omega | exact inR_of (by omega) (by omega) | exact ⟨by omega, by omega⟩ | exact ⟨by omega, by omega, by omega⟩ | rfl) ?_))
 refine int_eq ?_
 rw [show (2 * (i : Int)).toNat = 2 * i by omega, show (2 * (i : Int) + 1).toNat = 2 * i + 1 by omega, byteAt_eq (by omega), byteAt_eq hi, or_word' _ _ s[2 * i].toNat_lt s[2 * i + 1].toNat_lt]
 simp [atomAt, hi]
theorem p_wless (a b : ByteArray) : PCalls Tryz.prog 66 [.str a, .str b] (.bool (wless a b)) := by
 refine pcalls_of (by first | rfl | simp [free, free.frees, frees_str, frees_u8, frees_u16]) (by first | rfl | simp [free, free.frees, frees_str, frees_u8, frees_u16]) (acalls_of mixed F_word_Less_ok (Nat.le_of_ble_eq_true rfl) ?_); simp only [F_word_Less, wk,ne_eq,eq_self,Nat.reduceEqDiff,Nat.reduceAdd,reduceCtorEq,↓reduceIte]
 refine ⟨fun h => bool_eq ?_, fun h => bool_eq ?_⟩
 ·unfold wless; rw [if_neg (by omega)]; simp
 ·unfold wless; rw [if_pos (by omega)]
theorem p_wmay (s : ByteArray) (hs : s.size ≤ 9223372036854775807) : PCalls Tryz.prog 65 [.str s] (.bool (wordMay s)) := by
 refine pcalls_of (by first | rfl | simp [free, free.frees, frees_str, frees_u8, frees_u16]) (by first | rfl | simp [free, free.frees, frees_str, frees_u8, frees_u16]) (acalls_of mixed F_word_May_ok (Nat.le_of_ble_eq_true rfl) ?_); simp only [F_word_May, wk,eq_self,reduceCtorEq,↓reduceIte]
 refine PCalls.use (p_wodd s) ?_; simp only [wk,ne_eq,eq_self,Nat.reduceEqDiff,reduceCtorEq,↓reduceIte]
 refine ⟨fun ho => ?_, fun ho => bool_eq ?_⟩
 rotate_left
 ·simp only [wordMay]; symm; rw [decide_eq_false_iff_not]; omega
 refine PCalls.use (p_wlen s hs) ?_; simp only [wk,eq_self,Nat.reduceEqDiff,reduceCtorEq,↓reduceIte]
 refine ⟨fun h1 => ?_, fun h1 => bool_eq ?_⟩
 rotate_left
 ·simp only [wordMay]; symm; rw [decide_eq_false_iff_not]; omega
 refine PCalls.use (p_wlen s hs) ?_; simp only [wk,eq_self,Nat.reduceEqDiff,reduceCtorEq,↓reduceIte]
 refine ⟨fun h2 => bool_eq ?_, fun h2 => ?_⟩
 ·simp only [wordMay]; symm; rw [decide_eq_false_iff_not]; omega
 refine PCalls.use (p_wlen s hs) ?_; simp only [wk,eq_self,reduceCtorEq,↓reduceIte]
 refine W_loop (fun n fr h => ∃ i : Nat, i ≤ s.size / 2 ∧ n = s.size / 2 - i ∧ fr = [(0, .str s), (17, .int .i64 ((s.size / 2 : Nat) : Int)), (18, .int .i64 i)] ∧ (∀ j, j < i → atomAt s j ≠ 0)) (s.size / 2) ⟨0, by omega, by omega, rfl, fun j hj => by omega⟩ ?_
 rintro n fr h ⟨i, hi, rfl, rfl, hall⟩
 simp only [wk,ne_eq,eq_self,Nat.reduceEqDiff,reduceCtorEq,↓reduceIte]
 refine ⟨fun hlt => ?_, fun hge => bool_eq ?_⟩
 ·refine PCalls.use (p_wat s i hs (by omega)) ?_; simp only [wk,eq_self,Nat.reduceEqDiff,reduceCtorEq,↓reduceIte]
  refine ⟨fun h0 => bool_eq ?_, fun h0 => ⟨inR_of (by omega) (by omega), s.size / 2 - (i + 1), by omega, i + 1, by omega, rfl, rfl, fun j hj => ?_⟩⟩
  ·simp only [wordMay]; symm; rw [decide_eq_false_iff_not]; rintro ⟨_, _, _, h4⟩; exact h4 i (by omega) (by omega)
  ·by_cases e : j = i
   ·subst e; omega
   ·exact hall j (by omega)
 ·simp only [wordMay]; symm; rw [decide_eq_true_eq]; exact ⟨by omega, by omega, by omega, fun j hj => hall j (by omega)⟩

theorem drop_str {l : List ByteArray} {i : Nat} (h : i < l.length) : (l.map AV.str).drop i = AV.str l[i] :: (l.map AV.str).drop (i + 1) := by
 rw [List.drop_eq_getElem_cons (by simpa using h)]; simp
theorem p_smay (l : List ByteArray) (hl : l.length ≤ 9223372036854775807) (hs : ∀ x ∈ l, x.size ≤ 9223372036854775807) : PCalls Tryz.prog 35 [.lst .ro l.length (l.map .str)] (.bool (setMay l)) := by
 refine pcalls_of (by first | rfl | simp [free, free.frees, frees_str]) (by first | rfl | simp [free, free.frees, frees_str, frees_u8, frees_u16]) (acalls_of mixed F_set_May_ok (Nat.le_of_ble_eq_true rfl) ?_); simp only [F_set_May, wk,eq_self,Nat.reduceEqDiff,reduceCtorEq,↓reduceIte]
 refine ⟨fun h1 => ?_, fun h1 => bool_eq (setMay_len (by omega)).symm⟩
 refine ⟨fun h2 => bool_eq (setMay_len (by omega)).symm, fun h2 => ?_⟩
 refine W_loop (fun n fr h => ∃ i : Nat, i ≤ l.length ∧ n = l.length - i ∧ fr = [(0, .lst .ro l.length (l.map .str)), (13, .lst .ro l.length (l.map .str)), (14, .int .i64 l.length), (15, .int .i64 i)] ∧ risingTo l i = true) l.length ⟨0, by omega, by omega, rfl, risingTo_zero l⟩ ?_
 rintro n fr h ⟨i, hi, rfl, rfl, hris⟩
 simp only [wk,eq_self,Nat.reduceEqDiff,reduceCtorEq,↓reduceIte]
 refine ⟨fun hlt => ?_, fun hge => bool_eq ?_⟩
 ·have hil : i < l.length := by omega
  have hget : l[i]? = some l[i] := by simp [hil]
  refine ⟨⟨by omega, hlt⟩, ?_⟩
  rw [show (i : Int).toNat = i by omega, drop_str hil]
  simp only [wk,eq_self,Nat.reduceEqDiff,reduceCtorEq,↓reduceIte]
  refine PCalls.use (p_wmay l[i] (hs _ (List.getElem_mem hil))) ?_; simp only [wk,eq_self,Nat.reduceEqDiff,reduceCtorEq,↓reduceIte]
  refine ⟨fun hw => bool_eq ?_, fun hw => ⟨fun h0 => ?_, fun h0 => ?_⟩⟩
  ·symm
   refine setMay_no (k := i + 1) (by omega) ?_
   cases hi0 : i with
   | zero => subst hi0; rw [risingTo_one hget, hw]
   | succ m => subst hi0; rw [risingTo_succ (x := l[m]'(by omega)) (List.getElem?_eq_getElem (by omega)) hget, hw]; simp
  ·obtain ⟨m, rfl⟩ : ∃ m, i = m + 1 := ⟨i - 1, by omega⟩
   (repeat (refine And.intro (by first | omega | exact inR_of (by omega) (by omega) | exact ⟨by omega, by omega⟩ | exact ⟨by omega, by omega, by omega⟩ | rfl) ?_))
   rw [show (((m + 1 : Nat) : Int) - 1).toNat = m by omega, drop_str (show m < l.length by omega)]
   simp only [wk,eq_self,Nat.reduceEqDiff,reduceCtorEq,↓reduceIte]
   refine PCalls.use (p_wless l[m] l[m + 1]) ?_; simp only [wk,eq_self,Nat.reduceEqDiff,reduceCtorEq,↓reduceIte]
   refine ⟨fun hw2 => bool_eq ?_, fun hw2 => ⟨inR_of (by omega) (by omega), l.length - (m + 2), by omega, m + 2, by omega, rfl, rfl, ?_⟩⟩
   ·symm
    refine setMay_no (k := m + 2) (by omega) ?_
    rw [risingTo_succ (x := l[m]) (List.getElem?_eq_getElem (by omega)) hget, hw2]; simp
   ·rw [risingTo_succ (x := l[m]) (List.getElem?_eq_getElem (by omega)) hget, hw2, hw, hris]; rfl
  ·have hi0 : i = 0 := by omega
   subst hi0
   refine ⟨inR_of (by omega) (by omega), l.length - 1, by omega, 1, by omega, rfl, rfl, ?_⟩
   rw [risingTo_one hget, hw]
 ·rw [setMay_eq l (by omega) (by omega), show l.length = i by omega, hris]

theorem p_requal (a b : List ByteArray) (ha : a.length ≤ 9223372036854775807) : PCalls Tryz.prog 14 [.lst .ro a.length (a.map .str), .lst .ro b.length (b.map .str)] (.bool (decide (a = b))) := by
 refine pcalls_of (by first | rfl | simp [free, free.frees, frees_str]) (by first | rfl | simp [free, free.frees, frees_str, frees_u8, frees_u16]) (acalls_of mixed F_ref03_Equal_ok (Nat.le_of_ble_eq_true rfl) ?_); simp only [F_ref03_Equal, wk,ne_eq,eq_self,Nat.reduceEqDiff,Nat.reduceAdd,reduceCtorEq,↓reduceIte]
 refine ⟨fun h => bool_eq ?_, fun h => ?_⟩
 ·symm; rw [decide_eq_false_iff_not]; intro e; rw [e] at h; exact h rfl
 have hab : a.length = b.length := by omega
 refine W_loop (fun n fr h => ∃ i : Nat, i ≤ a.length ∧ n = a.length - i ∧ fr = [(0, .lst .ro a.length (a.map .str)), (1, .lst .ro b.length (b.map .str)), (5, .int .i64 i)] ∧ a.take i = b.take i) a.length ⟨0, by omega, by omega, rfl, rfl⟩ ?_
 rintro n fr h ⟨i, hi, rfl, rfl, hall⟩
 simp only [wk,eq_self,Nat.reduceEqDiff,reduceCtorEq,↓reduceIte]
 refine ⟨fun hlt => ?_, fun hge => bool_eq ?_⟩
 ·have hia : i < a.length := by omega
  have hib : i < b.length := by omega
  (repeat (refine And.intro (by first | omega | exact inR_of (by omega) (by omega) | exact ⟨by omega, by omega⟩ | exact ⟨by omega, by omega, by omega⟩ | rfl) ?_))
  rw [show (i : Int).toNat = i by omega, drop_str hia]
  simp only [wk,eq_self,Nat.reduceEqDiff,reduceCtorEq,↓reduceIte]
  (repeat (refine And.intro (by first | omega | exact inR_of (by omega) (by omega) | exact ⟨by omega, by omega⟩ | exact ⟨by omega, by omega, by omega⟩ | rfl) ?_))
  rw [show (i : Int).toNat = i by omega, drop_str hib]
  simp only [wk,ne_eq,eq_self,Nat.reduceEqDiff,reduceCtorEq,↓reduceIte]
  refine ⟨fun hne => bool_eq ?_, fun he => ?_⟩
  ·symm; rw [decide_eq_false_iff_not]; intro e; subst e; exact hne rfl
  ·refine ⟨inR_of (by omega) (by omega), a.length - (i + 1), by omega, i + 1, by omega, rfl, rfl, ?_⟩
   rw [List.take_succ_eq_append_getElem hia, List.take_succ_eq_append_getElem hib, hall, he]
 ·symm; rw [decide_eq_true_eq]
  rw [List.take_of_length_le (by omega), List.take_of_length_le (by omega)] at hall
  exact hall

abbrev u8s (l : List UInt8) : List AV := l.map fun b => AV.int .u8 b.toNat
theorem u8s_app (l m : List UInt8) : u8s l ++ u8s m = u8s (l ++ m) := by simp [u8s]
def atomBytes (l : List Nat) : List UInt8 := l.flatMap fun a => [UInt8.ofNat (a / 256), UInt8.ofNat (a % 256)]
abbrev u16s (l : List Nat) : List AV := l.map fun (b : Nat) => AV.int .u16 (b : Int)
theorem u16s_drop {l : List Nat} {i : Nat} (h : i < l.length) : (u16s l).drop i = .int .u16 ((l[i] : Nat) : Int) :: (u16s l).drop (i + 1) := by
 rw [List.drop_eq_getElem_cons (by simpa using h)]; simp
def ro : AV → AV
 | .lst .clip n l => .lst .ro n l
 | a => a
theorem Rep.ro {g : Gh} {v : Value} {a : AV} (h : Rep g v a) : Rep g v (ro a) := by
 cases h with
 | lst b off n c f vs l h1 h2 h3 h4 h5 => cases f with
  | clip => exact .lst b off n c .ro vs l h1 h2 h3 (fun h => by cases h) h5
  | _ => exact .lst b off n c _ vs l h1 h2 h3 h4 h5
 | lst0 a c f h => cases f with
  | clip => exact .lst0 a c .ro (fun h => by cases h)
  | _ => exact .lst0 a c _ h
 | itr b s p => exact .itr _ _ _
 | omp b ks vs => exact .omp b ks vs
 | mp b => exact .mp b
 | fmp b obj ks vs h1 h2 => exact .fmp b obj ks vs h1 h2
 | stk a c e o l h1 h2 h3 => exact .stk a c e o l h1 h2 h3
 | raw a n c h1 h2 => exact .raw a n c h1 h2
 | rawp b i n c => exact .rawp b i n c
 | opq v h h' => exact .opq _ h h'
 | frn v Q S W0 h h' h3 h4 => exact .frn _ Q S W0 h h' h3 h4
 | _ => first | exact .bool _ | exact .int _ _ | exact .str _ | exact .nilp | (exact .ptr _ _ _ ‹_›) | (exact .fp _ _ _ _ ‹_› ‹_› ‹_›) | (exact .hs _ _ _ _ ‹_› ‹_›) | (exact .hsc _ _ _ _ ‹_› ‹_›) | (exact .agg _ _ ‹_› ‹_› ‹_›) | (exact .tup _ _ ‹_› ‹_›) | (exact .fn _ _ _ ‹_› ‹_›) | (exact .fnb _ _ _ ‹_› ‹_›) | exact .nilf
theorem RepL.ro {g : Gh} : ∀ {vs : List Value} {l : List AV}, RepL g vs l → RepL g vs (l.map ro)
 | _, _, .nil => .nil
 | _, _, .cons h hl => .cons h.ro (RepL.ro hl)
theorem plain_ro {a : AV} (h : plain a = true) : plain (ro a) = true := by
 cases a with
 | lst f n l => cases f <;> first | rfl | exact h
 | _ => exact h
theorem free_ro (a : AV) : free (ro a) = free a := by
 cases a with
 | lst f n l => cases f <;> simp [Go.Proofs.YtedaffmkpljlnaaGreat.ro, free]
 | _ => rfl
theorem frees_ro : ∀ l : List AV, free.frees (l.map ro) = free.frees l
 | [] => rfl
 | a :: l => by simp only [List.map_cons, free.frees, free_ro, frees_ro l]
theorem ACalls.ro {P : Program} {f : FuncId} {args : List AV} {h : Hp} {R : AV → Hp → Prop} (hc : ACalls P f (args.map ro) h R) : ACalls P f args h R :=
 ⟨hc.1, fun g w vargs h1 h2 h3 h4 => hc.2 g w vargs h1 h2 h3.ro (fun a ha => by
  obtain ⟨b, hb, rfl⟩ := List.mem_map.1 ha
  exact plain_ro (h4 b hb))⟩
theorem PCalls.ro {P : Program} {f : FuncId} {args : List AV} {v : AV} (hc : PCalls P f (args.map ro) v) : PCalls P f args v :=
 ⟨by rw [← frees_ro]; exact hc.1, hc.2.1, ACalls.ro hc.2.2⟩
def rod : AV → AV
 | .tup l => .tup (l.map ro)
 | a => ro a
theorem Rep.rod {g : Gh} {v : Value} {a : AV} (h : Rep g v a) : Rep g v (rod a) := by
 cases h with
 | tup vs l h1 h2 => exact .tup vs _ (fun a ha => by obtain ⟨b, hb, rfl⟩ := List.mem_map.1 ha; exact plain_ro (h1 b hb)) h2.ro
 | lst b off n c f vs l h1 h2 h3 h4 h5 => exact (Rep.lst b off n c f vs l h1 h2 h3 h4 h5).ro
 | lst0 a c f h => exact (Rep.lst0 a c f h).ro
 | itr b s p => exact .itr _ _ _
 | omp b ks vs => exact .omp b ks vs
 | mp b => exact .mp b
 | fmp b obj ks vs h1 h2 => exact .fmp b obj ks vs h1 h2
 | stk a c e o l h1 h2 h3 => exact .stk a c e o l h1 h2 h3
 | raw a n c h1 h2 => exact .raw a n c h1 h2
 | rawp b i n c => exact .rawp b i n c
 | opq v h h' => exact .opq _ h h'
 | frn v Q S W0 h h' h3 h4 => exact .frn _ Q S W0 h h' h3 h4
 | _ => first | exact .bool _ | exact .int _ _ | exact .str _ | exact .nilp | (exact .ptr _ _ _ ‹_›) | (exact .fp _ _ _ _ ‹_› ‹_› ‹_›) | (exact .hs _ _ _ _ ‹_› ‹_›) | (exact .hsc _ _ _ _ ‹_› ‹_›) | (exact .agg _ _ ‹_› ‹_› ‹_›) | (exact .fn _ _ _ ‹_› ‹_›) | (exact .fnb _ _ _ ‹_› ‹_›) | exact .nilf
theorem plain_rod {a : AV} (h : plain a = true) : plain (rod a) = true := by
 cases a with
 | lst f n l => exact plain_ro h
 | _ => first | rfl | exact h
theorem ACalls.weak {P : Program} {f : FuncId} {args : List AV} {h : Hp} {R : AV → Hp → Prop} (hc : ACalls P f args h (fun a h' => R (Go.Proofs.YtedaffmkpljlnaaGreat.rod a) h')) : ACalls P f args h R :=
 ⟨hc.1, fun g w vargs h1 h2 h3 h4 => (hc.2 g w vargs h1 h2 h3 h4).mono fun _ _ ⟨x, a, h', g', q1, q2, q3, q4, q5, q6, q7⟩ => ⟨x, _, h', g', q1, q2, q3, q4, q5.rod, plain_rod q6, q7⟩⟩
theorem rod_tup (l : List AV) : rod (.tup l) = .tup (l.map ro) := id rfl
theorem ro_ro (n : Nat) (l : List AV) : ro (.lst .ro n l) = .lst .ro n l := id rfl
theorem ro_int (k : IntKind) (n : Int) : ro (.int k n) = .int k n := id rfl
end Go.Proofs.YtedaffmkpljlnaaGreat
namespace Go.Proofs.YtedaffmkpljlnaaGreat
open Go.RowKit
def J_set_And : AFn :=
 ⟨21,[.t 4,.t 5],.seq (.ops [Zo 4 (.mv (.c (.lst .clip 0 []))),
 Zo 5 (.mv (.c (.int .i64 0)))])
 (.keep [0,1] (.seq (.seq (.ops [Zm 6 0,
 Zo 7 (.call (.f 35) [(.t 6)]),
 Zo 8 (.not (.t 7)),
 Zm 9 8,
 ⟨some 10,(some (9,false)),.mv (.t 1),none⟩,
 ⟨some 11,(some (9,false)),.call (.f 35) [(.t 10)],none⟩,
 ⟨some 12,(some (9,false)),.not (.t 11),none⟩,
 Zo 13 (.pick (.t 9) (.c (.bool true)) (.t 12))])
 (.keep [0,1,13] (.cond (.t 13)
 (.seq (.ops [Zo 4 (.mv (.c (.lst .clip 0 []))),
 Zo 5 (.mv (.c (.int .i64 2)))])
 (.ret))
 (.skip))))
 (.keep [0,1] (.seq (.ops [Zm 14 0,
 Zm 15 1,
 Zo 16 (.bsl 33 1 2 [(.lst .clip 0 []),(.lst .clip 0 [])] [(0,1,(.t 14)),(1,1,(.t 15))]),
 Zo 17 (.call (.f 87) [(.t 16)]),
 Zo 18 (.call (.f 58) [(.t 17)]),
 Zo 19 (.ext 0 (.t 18)),
 Zo 20 (.ext 1 (.t 18)),
 Zm 4 19,
 Zm 5 20])
 (.ret)))))⟩
theorem J_set_And_ok : chkFn Tryz.prog 52 J_set_And = true := by kernel_rfl
def J_set_For : AFn :=
 ⟨34,[.t 4,.t 5],.seq (.ops [Zo 4 (.mv (.c (.lst .clip 0 []))),
 Zo 5 (.mv (.c (.int .i64 0)))])
 (.keep [0,1] (.seq (.ops [Zm 10 0,
 Zm 11 1,
 Zo 12 (.call (.f 54) [(.t 10),(.t 11)]),
 Zm 9 12,
 Zo 13 (.ext 0 (.t 9)),
 Zo 14 (.ext 1 (.t 9)),
 Zm 6 13,
 Zm 7 14])
 (.keep [1,6,7] (.seq (.seq (.ops [Zm 15 7,
 Zo 16 (.bin .neq (.t 15) (.c (.int .i64 0)))])
 (.keep [1,6,7,16] (.cond (.t 16)
 (.seq (.ops [Zm 17 7,
 Zo 4 (.mv (.c (.lst .clip 0 []))),
 Zm 5 17])
 (.ret))
 (.skip))))
 (.keep [1,6] (.seq (.ops [Zo 19 (.bsl 57 1 1 [(.int .u16 0)] [(0,1,(.c (.int .u16 1)))]),
 Zo 20 (.call (.f 59) [(.t 19)]),
 Zo 21 (.bsl 43 1 1 [(.str ⟨#[]⟩)] [(0,1,(.t 20))]),
 Zm 22 1,
 Zo 23 (.call (.f 54) [(.t 21),(.t 22)]),
 Zm 18 23,
 Zo 24 (.ext 0 (.t 18)),
 Zo 25 (.ext 1 (.t 18)),
 Zm 8 24,
 Zm 7 25])
 (.keep [6,7,8] (.seq (.seq (.ops [Zm 26 7,
 Zo 27 (.bin .neq (.t 26) (.c (.int .i64 0)))])
 (.keep [6,7,8,27] (.cond (.t 27)
 (.seq (.ops [Zm 28 7,
 Zo 4 (.mv (.c (.lst .clip 0 []))),
 Zm 5 28])
 (.ret))
 (.skip))))
 (.keep [6,8] (.seq (.ops [Zm 29 6,
 Zm 30 8,
 Zo 31 (.call (.f 52) [(.t 29),(.t 30)]),
 Zo 32 (.ext 0 (.t 31)),
 Zo 33 (.ext 1 (.t 31)),
 Zm 4 32,
 Zm 5 33])
 (.ret)))))))))))⟩
theorem J_set_For_ok : chkFn Tryz.prog 53 J_set_For = true := by kernel_rfl
def J_set_Quote_j1 : ACode :=
 .keep [6] (.seq (.ops [Zm 30 6,
 Zo 31 (.call (.f 58) [(.t 30)]),
 Zo 32 (.ext 0 (.t 31)),
 Zo 33 (.ext 1 (.t 31)),
 Zm 4 32,
 Zm 5 33])
 (.ret))
def J_set_Quote_j2 : ACode :=
 .seq (.ops [Zo 23 (.bin .lss (.t 22) (.t 21))])
 (.keep [6,20,21,22,23] (.seq (.cond (.t 23)
 (.skip)
 (.exit 0))
 (.keep [6,20,21,22] (.seq (.block 1 (.seq (.ops [Zo 24 (.idxa 1 (.t 20) (.t 22)),
 Zo 25 (.load none (.t 24)),
 Zm 8 25])
 (.keep [6,8,20,21,22] (.seq (.ops [Zm 26 8,
 Zo 27 (.call (.f 90) [(.t 26)]),
 Zo 28 (.bin .gtr (.t 27) (.c (.int .i64 8)))])
 (.keep [6,20,21,22,28] (.cond (.t 28)
 (.seq (.ops [Zo 4 (.mv (.c (.lst .clip 0 []))),
 Zo 5 (.mv (.c (.int .i64 4)))])
 (.ret))
 (.skip)))))))
 (.keep [6,20,21,22] (.ops [Zo 29 (.bin .add (.t 22) (.c (.int .i64 1))),
 Zm 22 29]))))))
def J_set_Quote : AFn :=
 ⟨34,[.t 4,.t 5],.seq (.ops [Zo 4 (.mv (.c (.lst .clip 0 []))),
 Zo 5 (.mv (.c (.int .i64 0)))])
 (.keep [0,1] (.seq (.seq (.ops [Zm 9 0,
 Zo 10 (.call (.f 35) [(.t 9)]),
 Zo 11 (.not (.t 10)),
 Zm 12 11,
 ⟨some 13,(some (12,false)),.mv (.t 1),none⟩,
 ⟨some 14,(some (12,false)),.call (.f 35) [(.t 13)],none⟩,
 ⟨some 15,(some (12,false)),.not (.t 14),none⟩,
 Zo 16 (.pick (.t 12) (.c (.bool true)) (.t 15))])
 (.keep [0,1,16] (.cond (.t 16)
 (.seq (.ops [Zo 4 (.mv (.c (.lst .clip 0 []))),
 Zo 5 (.mv (.c (.int .i64 2)))])
 (.ret))
 (.skip))))
 (.keep [0,1] (.seq (.ops [Zm 17 0,
 Zm 18 1,
 Zo 19 (.call (.f 88) [(.t 17),(.t 18),(.f 89)]),
 Zm 6 19])
 (.keep [6] (.seq (.seq (.ops [Zm 20 6,
 Zo 21 (.lenl (.t 20)),
 Zo 22 (.mv (.c (.int .i64 0)))])
 (.keep [6,20,21,22] (.block 0 (.loop [6,20,21,22] (J_set_Quote_j2)))))
 (J_set_Quote_j1)))))))⟩
theorem J_set_Quote_ok : chkFn Tryz.prog 54 J_set_Quote = true := by kernel_rfl
def J_set_As : AFn :=
 ⟨21,[.t 4,.t 5],.seq (.ops [Zo 4 (.mv (.c (.lst .clip 0 []))),
 Zo 5 (.mv (.c (.int .i64 0)))])
 (.keep [0,1] (.seq (.seq (.ops [Zm 6 0,
 Zo 7 (.call (.f 35) [(.t 6)]),
 Zo 8 (.not (.t 7))])
 (.keep [0,1,8] (.cond (.t 8)
 (.seq (.ops [Zo 4 (.mv (.c (.lst .clip 0 []))),
 Zo 5 (.mv (.c (.int .i64 2)))])
 (.ret))
 (.skip))))
 (.keep [0,1] (.seq (.seq (.ops [Zm 9 1,
 Zo 10 (.conv .i64 (.t 9)),
 Zo 11 (.bin .quo (.t 10) (.c (.int .i64 8192))),
 Zo 12 (.bin .neq (.t 11) (.c (.int .i64 5)))])
 (.keep [0,1,12] (.cond (.t 12)
 (.seq (.ops [Zo 4 (.mv (.c (.lst .clip 0 []))),
 Zo 5 (.mv (.c (.int .i64 1)))])
 (.ret))
 (.skip))))
 (.keep [0,1] (.seq (.ops [Zm 13 0,
 Zm 14 1,
 Zo 15 (.bsl 57 1 1 [(.int .u16 0)] [(0,1,(.t 14))]),
 Zo 16 (.call (.f 59) [(.t 15)]),
 Zo 17 (.bsl 43 1 1 [(.str ⟨#[]⟩)] [(0,1,(.t 16))]),
 Zo 18 (.call (.f 54) [(.t 13),(.t 17)]),
 Zo 19 (.ext 0 (.t 18)),
 Zo 20 (.ext 1 (.t 18)),
 Zm 4 19,
 Zm 5 20])
 (.ret)))))))⟩
theorem J_set_As_ok : chkFn Tryz.prog 56 J_set_As = true := by kernel_rfl
def J_word_Of_j1 : ACode :=
 .keep [3] (.seq (.ops [Zm 25 3,
 Zo 26 (.b2s (.t 25)),
 Zm 2 26])
 (.ret))
def J_word_Of_j2 : ACode :=
 .seq (.ops [Zo 13 (.bin .lss (.t 12) (.t 11))])
 (.keep [3,10,11,12,13] (.seq (.cond (.t 13)
 (.skip)
 (.exit 0))
 (.keep [3,10,11,12] (.seq (.block 1 (.seq (.ops [Zo 14 (.idxa 1 (.t 10) (.t 12)),
 Zo 15 (.load none (.t 14)),
 Zm 5 15])
 (.keep [3,5,10,11,12] (.ops [Zo 16 (.mvo 3),
 Zm 17 5,
 Zo 18 (.bin .shr (.t 17) (.c (.int .u64 8))),
 Zo 19 (.conv .u8 (.t 18)),
 Zm 20 5,
 Zo 21 (.conv .u8 (.t 20)),
 Zo 22 (.bsl 5 1 2 [(.int .u8 0),(.int .u8 0)] [(0,1,(.t 19)),(1,1,(.t 21))]),
 Zo 23 (.appo 5 1 1 16 (.t 22)),
 Zo 3 (.mvo 23)]))))
 (.keep [3,10,11,12] (.ops [Zo 24 (.bin .add (.t 12) (.c (.int .i64 1))),
 Zm 12 24]))))))
def J_word_Of : AFn :=
 ⟨27,[.t 2],.seq (.ops [Zo 2 (.mv (.c (.str ⟨#[]⟩)))])
 (.keep [0] (.seq (.ops [Zm 6 0,
 Zo 7 (.lenl (.t 6)),
 Zo 8 (.bin .mul (.c (.int .i64 2)) (.t 7)),
 Zo 9 (.mk0 5 1 1 (.t 8)),
 Zo 3 (.mvo 9)])
 (.keep [0,3] (.seq (.seq (.ops [Zm 10 0,
 Zo 11 (.lenl (.t 10)),
 Zo 12 (.mv (.c (.int .i64 0)))])
 (.keep [3,10,11,12] (.block 0 (.loop [3,10,11,12] (J_word_Of_j2)))))
 (J_word_Of_j1)))))⟩
theorem J_word_Of_ok : chkFn Tryz.prog 59 J_word_Of = true := by kernel_rfl
def J_set_collect_api_Word_api_Word_j1 : ACode :=
 .keep [7] (.seq (.ops [Zm 39 7,
 Zm 6 39])
 (.ret))
def J_set_collect_api_Word_api_Word_j2 : ACode :=
 .keep [1,2,7,18,19,20] (.ops [Zo 38 (.bin .add (.t 20) (.c (.int .i64 1))),
 Zm 20 38])
def J_set_collect_api_Word_api_Word_j3 : ACode :=
 .seq (.ops [Zo 27 (.bin .lss (.t 26) (.t 25))])
 (.keep [1,2,7,9,18,19,20,24,25,26,27] (.seq (.cond (.t 27)
 (.skip)
 (.exit 2))
 (.keep [1,2,7,9,18,19,20,24,25,26] (.seq (.block 3 (.seq (.ops [Zo 28 (.idxa 1 (.t 24) (.t 26)),
 Zo 29 (.load none (.t 28)),
 Zm 11 29])
 (.keep [1,2,7,9,11,18,19,20,24,25,26] (.ops [Zo 30 (.mvo 7),
 Zm 31 2,
 Zm 32 9,
 Zm 33 11,
 Zo 34 (.call (.t 31) [(.t 32),(.t 33)]),
 Zo 35 (.bsl 43 1 1 [(.str ⟨#[]⟩)] [(0,1,(.t 34))]),
 Zo 36 (.appo 43 1 16 30 (.t 35)),
 Zo 7 (.mvo 36)]))))
 (.keep [1,2,7,9,18,19,20,24,25,26] (.ops [Zo 37 (.bin .add (.t 26) (.c (.int .i64 1))),
 Zm 26 37]))))))
def J_set_collect_api_Word_api_Word_j4 : ACode :=
 .seq (.ops [Zo 21 (.bin .lss (.t 20) (.t 19))])
 (.keep [1,2,7,18,19,20,21] (.seq (.cond (.t 21)
 (.skip)
 (.exit 0))
 (.keep [1,2,7,18,19,20] (.seq (.block 1 (.seq (.ops [Zo 22 (.idxa 1 (.t 18) (.t 20)),
 Zo 23 (.load none (.t 22)),
 Zm 9 23])
 (.keep [1,2,7,9,18,19,20] (.seq (.ops [Zm 24 1,
 Zo 25 (.lenl (.t 24)),
 Zo 26 (.mv (.c (.int .i64 0)))])
 (.keep [1,2,7,9,18,19,20,24,25,26] (.block 2 (.loop [1,2,7,9,18,19,20,24,25,26] (J_set_collect_api_Word_api_Word_j3))))))))
 (J_set_collect_api_Word_api_Word_j2)))))
def J_set_collect_api_Word_api_Word : AFn :=
 ⟨40,[.t 6],.seq (.ops [Zo 6 (.mv (.c (.lst .clip 0 [])))])
 (.keep [0,1,2] (.seq (.ops [Zm 12 0,
 Zo 13 (.lenl (.t 12)),
 Zm 14 1,
 Zo 15 (.lenl (.t 14)),
 Zo 16 (.bin .mul (.t 13) (.t 15)),
 Zo 17 (.mk0 43 1 16 (.t 16)),
 Zo 7 (.mvo 17)])
 (.keep [0,1,2,7] (.seq (.seq (.ops [Zm 18 0,
 Zo 19 (.lenl (.t 18)),
 Zo 20 (.mv (.c (.int .i64 0)))])
 (.keep [1,2,7,18,19,20] (.block 0 (.loop [1,2,7,18,19,20] (J_set_collect_api_Word_api_Word_j4)))))
 (J_set_collect_api_Word_api_Word_j1)))))⟩
theorem J_set_collect_api_Word_api_Word_ok : chkFn Tryz.prog 88 J_set_collect_api_Word_api_Word = true := by kernel_rfl
def J_set_Quote_1 : AFn :=
 ⟨8,[.t 4],.seq (.ops [Zo 4 (.mv (.c (.str ⟨#[]⟩)))])
 (.keep [0,1] (.seq (.ops [Zm 5 0,
 Zm 6 1,
 Zo 7 (.bin .add (.t 5) (.t 6)),
 Zm 4 7])
 (.ret)))⟩
theorem J_set_Quote_1_ok : chkFn Tryz.prog 89 J_set_Quote_1 = true := by kernel_rfl
end Go.Proofs.YtedaffmkpljlnaaGreat
/- What the reference's sets do: words in order, each once. -/
namespace Go.Proofs.YtedaffmkpljlnaaGreat
open Go.RowKit Go.Lib

theorem rising_get {r : List ByteArray} (hr : rising r = true) : ∀ {i j : Nat} (hi : i < j) (hj : j < r.length), wless (r[i]'(by omega)) r[j] = true := by
 induction r with
 | nil => intro i j _ hj; simp at hj
 | cons x r ih =>
  obtain ⟨h1, h2⟩ := rising_cons.1 hr
  intro i j hi hj
  cases j with
  | zero => omega
  | succ j =>
   cases i with
   | zero => exact h1 _ (List.getElem_mem _)
   | succ i => exact ih h2 (by omega) (by simpa using hj)
def aft (r : List ByteArray) (k : Nat) (x : ByteArray) : Prop := k = 0 ∨ ∃ h : k - 1 < r.length, wless r[k - 1] x = true
theorem aft_iff {r : List ByteArray} (hr : rising r = true) {k j : Nat} (hk : k ≤ r.length) (hj : j < r.length) : aft r k r[j] ↔ k ≤ j := by
 unfold aft
 constructor
 ·rintro (h | ⟨h, hw⟩)
  ·omega
  ·rcases Nat.lt_or_ge j k with hlt | hge
   ·by_cases e : j = k - 1
    ·subst e; rw [wless_irrefl] at hw; cases hw
    ·have := rising_get hr (i := j) (j := k - 1) (by omega) (by omega)
     rw [wless_asymm this] at hw; cases hw
   ·exact hge
 ·intro h
  by_cases h0 : k = 0
  ·exact .inl h0
  ·exact .inr ⟨by omega, rising_get hr (by omega) hj⟩
structure RInv (l : List ByteArray) (k i : Nat) (best : ByteArray) (found : Bool) : Prop where
  no : found = false → ∀ x ∈ l.take i, ¬ aft (nrm l) k x
  mem : found = true → best ∈ l ∧ aft (nrm l) k best
  least : found = true → ∀ x ∈ l.take i, aft (nrm l) k x → wless x best = false
theorem RInv.zero (l : List ByteArray) (k : Nat) : RInv l k 0 ⟨#[]⟩ false := ⟨fun _ x hx => by simp at hx, fun h => (nomatch h), fun h => (nomatch h)⟩
theorem RInv.take {l : List ByteArray} {k i : Nat} {best : ByteArray} {found : Bool} (h : RInv l k i best found) (hi : i < l.length) (ha : aft (nrm l) k l[i]) (hb : found = true → wless l[i] best = true) : RInv l k (i + 1) l[i] true := by
 refine ⟨fun h => (nomatch h), fun _ => ⟨List.getElem_mem hi, ha⟩, fun _ x hx hax => ?_⟩
 rcases (by rw [List.take_succ_eq_append_getElem hi, List.mem_append] at hx; simpa using hx : x ∈ l.take i ∨ x = l[i]) with hx | rfl
 ·cases found with
  | false => exact absurd hax (h.no rfl x hx)
  | true =>
   cases hw : wless x l[i] with
   | false => rfl
   | true =>
    have := wless_trans hw (hb rfl)
    rw [h.least rfl x hx hax] at this; cases this
 ·exact wless_irrefl _
theorem RInv.skip {l : List ByteArray} {k i : Nat} {best : ByteArray} {found : Bool} (h : RInv l k i best found) (hi : i < l.length) (hs : ¬ aft (nrm l) k l[i] ∨ (found = true ∧ wless l[i] best = false)) : RInv l k (i + 1) best found := by
 have key : ∀ x, x ∈ l.take (i + 1) → x ∈ l.take i ∨ x = l[i] := fun x hx => by rw [List.take_succ_eq_append_getElem hi, List.mem_append] at hx; simpa using hx
 refine ⟨fun hf x hx => ?_, h.mem, fun hf x hx hax => ?_⟩
 ·rcases key x hx with hx | rfl
  ·exact h.no hf x hx
  ·rcases hs with hs | ⟨hs, _⟩
   ·exact hs
   ·rw [hf] at hs; cases hs
 ·rcases key x hx with hx | rfl
  ·exact h.least hf x hx hax
  ·rcases hs with hs | ⟨_, hs⟩
   ·exact absurd hax hs
   ·exact hs
theorem RInv.stop {l : List ByteArray} {k : Nat} {best : ByteArray} (h : RInv l k l.length best false) (hk : k ≤ (nrm l).length) : k = (nrm l).length := by
 rcases Nat.lt_or_ge k (nrm l).length with hlt | hge
 ·have hm : (nrm l)[k] ∈ l := mem_nrm.1 (List.getElem_mem hlt)
  exact absurd ((aft_iff (rising_nrm l) hk hlt).2 (Nat.le_refl _)) (h.no rfl _ (by rw [List.take_length]; exact hm))
 ·omega
theorem RInv.next {l : List ByteArray} {k : Nat} {best : ByteArray} (h : RInv l k l.length best true) (hk : k ≤ (nrm l).length) : ∃ hlt : k < (nrm l).length, best = (nrm l)[k] := by
 obtain ⟨hm, ha⟩ := h.mem rfl
 obtain ⟨j, hj, e⟩ := List.mem_iff_getElem.1 (mem_nrm.2 hm)
 subst e
 have hkj := (aft_iff (rising_nrm l) hk hj).1 ha
 refine ⟨by omega, ?_⟩
 by_cases e : j = k
 ·subst e; rfl
 ·have hlt : k < (nrm l).length := by omega
  have h1 := h.least rfl (nrm l)[k] (by rw [List.take_length]; exact mem_nrm.1 (List.getElem_mem hlt)) ((aft_iff (rising_nrm l) hk hlt).2 (Nat.le_refl _))
  rw [rising_get (rising_nrm l) (by omega) hj] at h1; cases h1
theorem nrm_len : ∀ l : List ByteArray, (nrm l).length ≤ l.length := by
 have h : ∀ (x : ByteArray) (l : List ByteArray), (ins x l).length ≤ l.length + 1 := by
  intro x l
  induction l with
  | nil => simp [ins]
  | cons y l ih => simp only [ins]; split; simp; split <;> simp only [List.length_cons] <;> omega
 intro l
 induction l with
 | nil => simp [nrm]
 | cons x l ih => simp only [nrm, List.length_cons]; have := h x (nrm l); omega
def vSet (r : List ByteArray × Int) : AV := .tup [.lst .ro r.1.length (r.1.map .str), .int .i64 r.2]
theorem free_vSet (r : List ByteArray × Int) : free (vSet r) = true := by simp [vSet, free, free.frees, frees_str]
def boundE (l : List ByteArray) : List ByteArray × Int := if 1 ≤ l.length ∧ l.length ≤ 16 then (l, 0) else ([], 3)
theorem ofE_may {l : List ByteArray} (h : ∀ x ∈ l, wordMay x = true) : ofE l = boundE (nrm l) := by
 unfold ofE
 rw [if_neg (by rw [List.all_eq_true.2 h]; simp)]; rfl
def atomNs (s : ByteArray) : List Nat := (List.range (s.size / 2)).map (atomAt s)
theorem atomNs_len (s : ByteArray) : (atomNs s).length = s.size / 2 := by simp [atomNs]
mutual
def rdp : AV → AV
  | .lst .clip n l => .lst .ro n (rdps l)
  | .lst f n l => .lst f n (rdps l)
  | .agg l => .agg (rdps l)
  | .tup l => .tup (rdps l)
  | .fp l => .fp (rdps l)
  | .fn f l => .fn f (rdps l)
  | .fnb f l => .fnb f (rdps l)
  | a => a
def rdps : List AV → List AV
  | [] => []
  | a :: l => rdp a :: rdps l
end
theorem plain_rdp (a : AV) (h : plain a = true) : plain (rdp a) = true := by
 cases a with
 | lst f n l => cases f <;> first | (simp [plain] at h; done) | simp [rdp, plain]
 | itr s p => simp [plain] at h
 | omp b ks vs => simp [plain] at h
 | stk e o l => simp [plain] at h
 | _ => simp [rdp, plain]
theorem plains_rdp : ∀ {l : List AV}, plains l → plains (rdps l)
 | [], _ => by intro a ha; simp [rdps] at ha
 | a :: l, h => by
  intro b hb
  simp only [rdps, List.mem_cons] at hb
  rcases hb with rfl | hb
  ·exact plain_rdp a (h a (by simp))
  ·exact plains_rdp (fun x hx => h x (by simp [hx])) b hb
mutual
theorem Rep.rdp {g : Gh} : ∀ {v : Value} {a : AV}, Rep g v a → Rep g v (rdp a)
  | _, _, .bool b => by simp only [Go.Proofs.YtedaffmkpljlnaaGreat.rdp]; exact .bool b
  | _, _, .int k n => by simp only [Go.Proofs.YtedaffmkpljlnaaGreat.rdp]; exact .int k n
  | _, _, .str s => by simp only [Go.Proofs.YtedaffmkpljlnaaGreat.rdp]; exact .str s
  | _, _, .nilp => by simp only [Go.Proofs.YtedaffmkpljlnaaGreat.rdp]; exact .nilp
  | _, _, .ptr id off b h => by simp only [Go.Proofs.YtedaffmkpljlnaaGreat.rdp]; exact .ptr id off b h
  | _, _, .fp b off vs l h hp hl => by simp only [Go.Proofs.YtedaffmkpljlnaaGreat.rdp]; exact .fp b off vs _ h (plains_rdp hp) (RepL.rdp hl)
  | _, _, .lst b off n c .clip vs l h hp h1 h2 hl => by simp only [Go.Proofs.YtedaffmkpljlnaaGreat.rdp]; exact .lst b off n c .ro vs _ h (plains_rdp hp) h1 (fun e => by cases e) (RepL.rdp hl)
  | _, _, .lst b off n c .ro vs l h hp h1 h2 hl => by simp only [Go.Proofs.YtedaffmkpljlnaaGreat.rdp]; exact .lst b off n c .ro vs _ h (plains_rdp hp) h1 (fun e => by cases e) (RepL.rdp hl)
  | _, _, .lst b off n c (.own e) vs l h hp h1 h2 hl => by simp only [Go.Proofs.YtedaffmkpljlnaaGreat.rdp]; exact .lst b off n c (.own e) vs _ h (plains_rdp hp) h1 (fun e => by cases e) (RepL.rdp hl)
  | _, _, .lst0 a c .clip h => by simp only [Go.Proofs.YtedaffmkpljlnaaGreat.rdp, rdps]; exact .lst0 a c .ro (fun e => by cases e)
  | _, _, .lst0 a c .ro h => by simp only [Go.Proofs.YtedaffmkpljlnaaGreat.rdp, rdps]; exact .lst0 a c .ro (fun e => by cases e)
  | _, _, .lst0 a c (.own e) h => by simp only [Go.Proofs.YtedaffmkpljlnaaGreat.rdp, rdps]; exact .lst0 a c (.own e) (fun e => by cases e)
  | _, _, .hs id b n c h h1 => by simp only [Go.Proofs.YtedaffmkpljlnaaGreat.rdp]; exact .hs id b n c h h1
  | _, _, .hsc id b n c h h1 => by simp only [Go.Proofs.YtedaffmkpljlnaaGreat.rdp]; exact .hsc id b n c h h1
  | _, _, .agg vs l h hp hl => by simp only [Go.Proofs.YtedaffmkpljlnaaGreat.rdp]; exact .agg vs _ h (plains_rdp hp) (RepL.rdp hl)
  | _, _, .tup vs l hp hl => by simp only [Go.Proofs.YtedaffmkpljlnaaGreat.rdp]; exact .tup vs _ (plains_rdp hp) (RepL.rdp hl)
  | _, _, .fn f vs l hp hl => by simp only [Go.Proofs.YtedaffmkpljlnaaGreat.rdp]; exact .fn f vs _ (plains_rdp hp) (RepL.rdp hl)
  | _, _, .fnb f vs l hp hl => by simp only [Go.Proofs.YtedaffmkpljlnaaGreat.rdp]; exact .fnb f vs _ (plains_rdp hp) (RepL.rdp hl)
  | _, _, .nilf => by simp only [Go.Proofs.YtedaffmkpljlnaaGreat.rdp]; exact .nilf
  | _, _, .opq v h h' => by simp only [Go.Proofs.YtedaffmkpljlnaaGreat.rdp]; exact .opq v h h'
  | _, _, .frn v Q S W0 h h' h3 h4 => by simp only [Go.Proofs.YtedaffmkpljlnaaGreat.rdp]; exact .frn v Q S W0 h h' h3 h4
  | _, _, .itr b s p => by simp only [Go.Proofs.YtedaffmkpljlnaaGreat.rdp]; exact .itr b s p
  | _, _, .omp b ks vs => by simp only [Go.Proofs.YtedaffmkpljlnaaGreat.rdp]; exact .omp b ks vs
  | _, _, .mp b => by simp only [Go.Proofs.YtedaffmkpljlnaaGreat.rdp]; exact .mp b
  | _, _, .fmp b obj ks vs h1 h2 => by simp only [Go.Proofs.YtedaffmkpljlnaaGreat.rdp]; exact .fmp b obj ks vs h1 h2
  | _, _, .stk a c e o l h1 h2 h3 => by simp only [Go.Proofs.YtedaffmkpljlnaaGreat.rdp]; exact .stk a c e o l h1 h2 h3
  | _, _, .raw a m c h1 h2 => by simp only [Go.Proofs.YtedaffmkpljlnaaGreat.rdp]; exact .raw a m c h1 h2
  | _, _, .rawp b i m c => by simp only [Go.Proofs.YtedaffmkpljlnaaGreat.rdp]; exact .rawp b i m c
theorem RepL.rdp {g : Gh} : ∀ {vs : List Value} {l : List AV}, RepL g vs l → RepL g vs (rdps l)
  | _, _, .nil => by simp only [rdps]; exact .nil
  | _, _, .cons h hl => by simp only [rdps]; exact .cons (Rep.rdp h) (RepL.rdp hl)
end
theorem ACalls.deep {P : Program} {f : FuncId} {args : List AV} {h : Hp} {R : AV → Hp → Prop} (hc : ACalls P f args h (fun a h' => R (rdp a) h')) : ACalls P f args h R :=
 ⟨hc.1, fun g w vargs h1 h2 h3 h4 => (hc.2 g w vargs h1 h2 h3 h4).mono fun _ _ ⟨x, a, h', g', q1, q2, q3, q4, q5, q6, q7⟩ => ⟨x, _, h', g', q1, q2, q3, q4, q5.rdp, plain_rdp _ q6, q7⟩⟩
mutual
theorem free_rdp : ∀ a : AV, free (rdp a) = free a
  | .lst .clip n l => by simp only [rdp, free, frees_rdp l]
  | .lst .ro n l => by simp only [rdp, free, frees_rdp l]
  | .lst (.own e) n l => by simp only [rdp, free, frees_rdp l]
  | .agg l => by simp only [rdp, free, frees_rdp l]
  | .tup l => by simp only [rdp, free, frees_rdp l]
  | .fp l => by simp only [rdp, free, frees_rdp l]
  | .fn f l => by simp only [rdp, free, frees_rdp l]
  | .fnb f l => by simp only [rdp, free, frees_rdp l]
  | .bool _ => by simp only [rdp]
  | .int _ _ => by simp only [rdp]
  | .str _ => by simp only [rdp]
  | .nilp => by simp only [rdp]
  | .ptr _ _ => by simp only [rdp]
  | .hs _ _ => by simp only [rdp]
  | .hsc _ _ _ => by simp only [rdp]
  | .nilf => by simp only [rdp]
  | .opq => by simp only [rdp]
  | .frn _ => by simp only [rdp]
  | .itr _ _ => by simp only [rdp]
  | .omp _ _ _ => by simp only [rdp]
  | .mp _ => by simp only [rdp]
  | .fmp _ _ => by simp only [rdp]
  | .stk _ _ _ => by simp only [rdp]
  | .raw _ _ => by simp only [rdp]
  | .rawp _ _ => by simp only [rdp]
theorem frees_rdp : ∀ l : List AV, free.frees (rdps l) = free.frees l
  | [] => rfl
  | a :: l => by simp only [rdps, free.frees, free_rdp a, frees_rdp l]
end
theorem rdps_nil : rdps [] = [] := by simp only [rdps]
theorem rdps_cons (a : AV) (l : List AV) : rdps (a :: l) = rdp a :: rdps l := by simp only [rdps]
theorem rdp_bool (b : Bool) : rdp (.bool b) = .bool b := by simp only [rdp]
theorem rdp_int (k : IntKind) (n : Int) : rdp (.int k n) = .int k n := by simp only [rdp]
theorem rdp_str (s : ByteArray) : rdp (.str s) = .str s := by simp only [rdp]
theorem rdp_nilp : rdp .nilp = .nilp := by simp only [rdp]
theorem rdp_hs (i n : Nat) : rdp (.hs i n) = .hs i n := by simp only [rdp]
theorem rdp_hsc (i n c : Nat) : rdp (.hsc i n c) = .hsc i n c := by simp only [rdp]
theorem rdp_ptr (i n : Nat) : rdp (.ptr i n) = .ptr i n := by simp only [rdp]
theorem rdp_ro (n : Nat) (l : List AV) : rdp (.lst .ro n l) = .lst .ro n (rdps l) := by simp only [rdp]
theorem rdp_clip (n : Nat) (l : List AV) : rdp (.lst .clip n l) = .lst .ro n (rdps l) := by simp only [rdp]
theorem rdp_agg (l : List AV) : rdp (.agg l) = .agg (rdps l) := by simp only [rdp]
theorem rdp_tup (l : List AV) : rdp (.tup l) = .tup (rdps l) := by simp only [rdp]
theorem rdps_str : ∀ l : List ByteArray, rdps (l.map .str) = l.map .str
 | [] => rdps_nil
 | a :: l => by simp only [List.map_cons, rdps_cons, rdp_str, rdps_str l]
theorem rdpw : type_of% (And.intro @rdps_nil (And.intro @rdps_cons (And.intro @rdp_bool (And.intro @rdp_int (And.intro @rdp_str (And.intro @rdp_nilp (And.intro @rdp_hs (And.intro @rdp_hsc (And.intro @rdp_ptr (And.intro @rdp_ro (And.intro @rdp_clip (And.intro @rdp_agg (And.intro @rdp_tup @rdps_str))))))))))))) :=
 And.intro @rdps_nil (And.intro @rdps_cons (And.intro @rdp_bool (And.intro @rdp_int (And.intro @rdp_str (And.intro @rdp_nilp (And.intro @rdp_hs (And.intro @rdp_hsc (And.intro @rdp_ptr (And.intro @rdp_ro (And.intro @rdp_clip (And.intro @rdp_agg (And.intro @rdp_tup @rdps_str))))))))))))
def low (n : Nat) : AV → Bool
 | .ptr i _ => decide (i < n)
 | .hs i _ => decide (i < n)
 | .hsc i _ _ => decide (i < n)
 | .fp l | .lst _ _ l | .agg l | .tup l | .fn _ l | .fnb _ l => lows l
 | _ => true
where lows : List AV → Bool
  | [] => true
  | a :: l => low n a && lows l
def Gh.cut (g : Gh) (n : Nat) : Gh := { g with io := fun i => if i < n then g.io i else none }
theorem cut_io {g : Gh} {n i b : Nat} (h : (g.cut n).io i = some b) : g.io i = some b ∧ i < n := by
 simp only [Gh.cut] at h
 split at h
 ·next hi => exact ⟨h, hi⟩
 ·cases h
theorem io_cut {g : Gh} {n i b : Nat} (h : g.io i = some b) (hi : i < n) : (g.cut n).io i = some b := by
 simp only [Gh.cut, if_pos hi]; exact h
mutual
theorem Rep.cut {g : Gh} (n : Nat) : ∀ {v : Value} {a : AV}, Rep g v a → low n a = true → Rep (g.cut n) v a
  | _, _, .bool b, _ => .bool b
  | _, _, .int k m, _ => .int k m
  | _, _, .str s, _ => .str s
  | _, _, .nilp, _ => .nilp
  | _, _, .ptr id off b h, hl => .ptr id off b (io_cut h (by simpa [low] using hl))
  | _, _, .fp b off vs l h hp hr, hl => .fp b off vs l h hp (RepL.cut n hr (by simpa [low] using hl))
  | _, _, .lst b off m c f vs l h hp h1 h2 hr, hl => .lst b off m c f vs l h hp h1 h2 (RepL.cut n hr (by simpa [low] using hl))
  | _, _, .lst0 a c f h, _ => .lst0 a c f h
  | _, _, .hs id b m c h h1, hl => .hs id b m c (io_cut h (by simpa [low] using hl)) h1
  | _, _, .hsc id b m c h h1, hl => .hsc id b m c (io_cut h (by simpa [low] using hl)) h1
  | _, _, .agg vs l h hp hr, hl => .agg vs l h hp (RepL.cut n hr (by simpa [low] using hl))
  | _, _, .tup vs l hp hr, hl => .tup vs l hp (RepL.cut n hr (by simpa [low] using hl))
  | _, _, .fn f vs l hp hr, hl => .fn f vs l hp (RepL.cut n hr (by simpa [low] using hl))
  | _, _, .fnb f vs l hp hr, hl => .fnb f vs l hp (RepL.cut n hr (by simpa [low] using hl))
  | _, _, .nilf, _ => .nilf
  | _, _, .opq v h h', _ => .opq v h h'
  | _, _, .itr b s p, _ => .itr b s p
  | _, _, .omp b ks vs, _ => .omp b ks vs
  | _, _, .mp b, _ => .mp b
  | _, _, .fmp b obj ks vs h1 h2, _ => .fmp b obj ks vs h1 h2
  | _, _, .stk a c e o l h1 h2 h3, _ => .stk a c e o l h1 h2 h3
  | _, _, .raw a m c h1 h2, _ => .raw a m c h1 h2
  | _, _, .rawp b i m c, _ => .rawp b i m c
  | _, _, .frn v Q S W0 h1 h2 h3 h4, _ => .frn v Q S W0 h1 h2 h3 h4
theorem RepL.cut {g : Gh} (n : Nat) : ∀ {vs : List Value} {l : List AV}, RepL g vs l → low.lows n l = true → RepL (g.cut n) vs l
  | _, _, .nil, _ => .nil
  | _, _, .cons h hr, hl => by
    simp only [low.lows, Bool.and_eq_true] at hl
    exact .cons (Rep.cut n h hl.1) (RepL.cut n hr hl.2)
end
mutual
theorem Rep.low {g : Gh} {n : Nat} (hd : ∀ i b, g.io i = some b → i < n) : ∀ {v : Value} {a : AV}, Rep g v a → low n a = true
  | _, _, .bool b => by simp [Go.Proofs.YtedaffmkpljlnaaGreat.low]
  | _, _, .int k m => by simp [Go.Proofs.YtedaffmkpljlnaaGreat.low]
  | _, _, .str s => by simp [Go.Proofs.YtedaffmkpljlnaaGreat.low]
  | _, _, .nilp => by simp [Go.Proofs.YtedaffmkpljlnaaGreat.low]
  | _, _, .ptr id off b h => by simpa [Go.Proofs.YtedaffmkpljlnaaGreat.low] using hd id b h
  | _, _, .fp b off vs l h hp hr => by simpa [Go.Proofs.YtedaffmkpljlnaaGreat.low] using RepL.low hd hr
  | _, _, .lst b off m c f vs l h hp h1 h2 hr => by simpa [Go.Proofs.YtedaffmkpljlnaaGreat.low] using RepL.low hd hr
  | _, _, .lst0 a c f h => by simp [Go.Proofs.YtedaffmkpljlnaaGreat.low, low.lows]
  | _, _, .hs id b m c h h1 => by simpa [Go.Proofs.YtedaffmkpljlnaaGreat.low] using hd id b h
  | _, _, .hsc id b m c h h1 => by simpa [Go.Proofs.YtedaffmkpljlnaaGreat.low] using hd id b h
  | _, _, .agg vs l h hp hr => by simpa [Go.Proofs.YtedaffmkpljlnaaGreat.low] using RepL.low hd hr
  | _, _, .tup vs l hp hr => by simpa [Go.Proofs.YtedaffmkpljlnaaGreat.low] using RepL.low hd hr
  | _, _, .fn f vs l hp hr => by simpa [Go.Proofs.YtedaffmkpljlnaaGreat.low] using RepL.low hd hr
  | _, _, .fnb f vs l hp hr => by simpa [Go.Proofs.YtedaffmkpljlnaaGreat.low] using RepL.low hd hr
  | _, _, .nilf => by simp [Go.Proofs.YtedaffmkpljlnaaGreat.low]
  | _, _, .opq v h h' => by simp [Go.Proofs.YtedaffmkpljlnaaGreat.low]
  | _, _, .itr b s p => by simp [Go.Proofs.YtedaffmkpljlnaaGreat.low]
  | _, _, .omp b ks vs => by simp [Go.Proofs.YtedaffmkpljlnaaGreat.low]
  | _, _, .mp b => by simp [Go.Proofs.YtedaffmkpljlnaaGreat.low]
  | _, _, .fmp b obj ks vs h1 h2 => by simp [Go.Proofs.YtedaffmkpljlnaaGreat.low]
  | _, _, .stk a c e o l h1 h2 h3 => by simp [Go.Proofs.YtedaffmkpljlnaaGreat.low]
  | _, _, .raw a m c h1 h2 => by simp [Go.Proofs.YtedaffmkpljlnaaGreat.low]
  | _, _, .rawp b i m c => by simp [Go.Proofs.YtedaffmkpljlnaaGreat.low]
  | _, _, .frn _ _ _ _ _ _ _ _ => by simp [Go.Proofs.YtedaffmkpljlnaaGreat.low]
theorem RepL.low {g : Gh} {n : Nat} (hd : ∀ i b, g.io i = some b → i < n) : ∀ {vs : List Value} {l : List AV}, RepL g vs l → low.lows n l = true
  | _, _, .nil => by simp [low.lows]
  | _, _, .cons h hr => by simp [low.lows, Rep.low hd h, RepL.low hd hr]
end
mutual
theorem low_free {n : Nat} : ∀ {a : AV}, free a = true → low n a = true
  | .bool _, _ => by simp [low]
  | .int _ _, _ => by simp [low]
  | .str _, _ => by simp [low]
  | .nilp, _ => by simp [low]
  | .nilf, _ => by simp [low]
  | .opq, _ => by simp [low]
  | .itr _ _, _ => by simp [low]
  | .omp _ _ _, _ => by simp [low]
  | .mp _, _ => by simp [low]
  | .fmp _ _, _ => by simp [low]
  | .stk _ _ _, _ => by simp [low]
  | .raw _ _, _ => by simp [low]
  | .rawp _ _, _ => by simp [low]
  | .frn _, _ => by simp [low]
  | .ptr _ _, h => by simp [free] at h
  | .hs _ _, h => by simp [free] at h
  | .hsc _ _ _, h => by simp [free] at h
  | .fp l, h => by simpa [low] using lows_free (l := l) (by simpa [free] using h)
  | .lst _ _ l, h => by simpa [low] using lows_free (l := l) (by simpa [free] using h)
  | .agg l, h => by simpa [low] using lows_free (l := l) (by simpa [free] using h)
  | .tup l, h => by simpa [low] using lows_free (l := l) (by simpa [free] using h)
  | .fn _ l, h => by simpa [low] using lows_free (l := l) (by simpa [free] using h)
  | .fnb _ l, h => by simpa [low] using lows_free (l := l) (by simpa [free] using h)
theorem lows_free {n : Nat} : ∀ {l : List AV}, free.frees l = true → low.lows n l = true
  | [], _ => by simp [low.lows]
  | a :: l, h => by
    simp only [free.frees, Bool.and_eq_true] at h
    simp [low.lows, low_free (n := n) h.1, lows_free (n := n) h.2]
end
theorem ACalls.trim {P : Program} {f : FuncId} {args : List AV} {h : Hp} {R : AV → Hp → Prop}
  (hc : ACalls P f args h (fun a h' => ∃ h2 ex, h' = h2 ++ ex ∧ h.length ≤ h2.length ∧ low h2.length a = true ∧ (∀ (j : Nat) s l, h2[j]? = some (some (s, l)) → (∃ s', h[j]? = some (some (s', l))) ∨ low.lows h2.length l = true) ∧ R a h2)) : ACalls P f args h R := by
 refine ⟨hc.1, fun g w vargs hs hns hr hpl => (hc.2 g w vargs hs hns hr hpl).mono ?_⟩
 rintro e w1 ⟨x, a, h', g', rfl, ev, hs', hns', hx, hpa, h2, ex, rfl, hlen, hlow, hcells, hR⟩
 refine ⟨x, a, h2, g'.cut h2.length, rfl, ?_, ?_, hns', hx.cut _ hlow, hpa, hR⟩
 ·refine ⟨⟨ev.le.C, fun i b hi => io_cut (ev.le.io i b hi) (by have := (hs.dom i b hi).1; omega), ev.le.X⟩, ev.F, fun b hb => ?_, ev.os, ev.tape, ev.output, ev.size, ev.Fx⟩
  obtain ⟨q1, q2, q3, q4⟩ := ev.Fb b hb
  exact ⟨q1, q2, q3, fun i hi => q4 i (cut_io hi).1⟩
 ·refine ⟨hs'.prot, fun id s l hl => ?_, fun i j b hi hj => hs'.inj i j b (cut_io hi).1 (cut_io hj).1, fun i b hi => ⟨(cut_io hi).2, (hs'.dom i b (cut_io hi).1).2⟩, hs'.flt, hs'.olt, fun i hi => ?_, fun b o hx => ⟨(hs'.fro b o hx).1, (hs'.fro b o hx).2.1, fun i hi => (hs'.fro b o hx).2.2 i (cut_io hi).1⟩⟩
  ·have hid : id < h2.length := (List.getElem?_eq_some_iff.1 hl).1
   obtain ⟨b, arr, e, p1, p2, p3, p4, p5, p6, p7, p8, p9⟩ := hs'.obj id s l (by rw [List.getElem?_append_left hid]; exact hl)
   have hlw : low.lows h2.length l = true := by
    rcases hcells id s l hl with ⟨s', h0⟩ | h0
    ·obtain ⟨_, _, _, _, _, r3, _⟩ := hs.obj id s' l h0
     exact RepL.low (fun i b hi => by have := (hs.dom i b hi).1; omega) r3
    ·exact h0
   refine ⟨b, arr, e, io_cut p1 hid, p2, p3.cut _ hlw, p4, fun i v a q1 q2 => (p5 i v a q1 q2).keep fun b' o1 o3 o4 => ⟨rfl, o1, fun _ => rfl, o3, fun j hj => o4 j (cut_io hj).1⟩, p6, p7, p8, p9⟩
  ·have hid : i < h2.length := (List.getElem?_eq_some_iff.1 hi).1
   simp only [Gh.cut, if_pos hid]
   exact hs'.hole i (by rw [List.getElem?_append_left hid]; exact hi)
mutual
def fz (h : Hp) : AV → AV
  | .hs id n => match h[id]? with
    | some (some (_, l)) => .lst .ro n (l.map deg)
    | _ => .hs id n
  | .hsc id n c => match h[id]? with
    | some (some (_, l)) => .lst .ro n (l.map deg)
    | _ => .hsc id n c
  | .agg l => .agg (fzs h l)
  | .tup l => .tup (fzs h l)
  | a => a
def fzs (h : Hp) : List AV → List AV
  | [] => []
  | a :: l => fz h a :: fzs h l
end
theorem plain_fz {h : Hp} (a : AV) (hp : plain a = true) : plain (fz h a) = true := by
 cases a with
 | hs id n =>
  simp only [fz]
  split <;> rfl
 | hsc id n c =>
  simp only [fz]
  split <;> rfl
 | lst f n l => simp only [fz]; exact hp
 | itr s p => simp [plain] at hp
 | omp b ks vs => simp [plain] at hp
 | stk e o l => simp [plain] at hp
 | _ => simp [fz, plain]
theorem plains_fz {h : Hp} : ∀ {l : List AV}, plains l → plains (fzs h l)
 | [], _ => by intro a ha; simp [fzs] at ha
 | a :: l, hp => by
  intro b hb
  simp only [fzs, List.mem_cons] at hb
  rcases hb with rfl | hb
  ·exact plain_fz a (hp a (by simp))
  ·exact plains_fz (fun x hx => hp x (by simp [hx])) b hb
open Classical in
noncomputable def Gh.ice (g : Gh) (h : Hp) (w : World) : Gh :=
  { g with io := fun _ => none, C := fun b o => match g.C b o with
    | some v => some v
    | none => if ∃ id s l, g.io id = some b ∧ h[id]? = some (some (s, l)) then (w.cell? ⟨b, o, none⟩).filter (fun v => v.oneCell') else none }
theorem ice_le {g : Gh} {h : Hp} {w : World} {b o : Nat} {v : Value} (hc : g.C b o = some v) : (g.ice h w).C b o = some v := by simp only [Gh.ice, hc]
theorem ice_obj {P : Program} {g : Gh} {h : Hp} {w : World} {id : Nat} {s : Bool} {l : List AV} (hs : Sim P g h w) (hl : h[id]? = some (some (s, l))) :
  ∃ b arr, g.io id = some b ∧ CellsAt (g.ice h w) b 0 arr ∧ RepL g arr l := by
 obtain ⟨b, arr, e, p1, p2, p3, p4, p5, p6, p7, p8, p9⟩ := hs.obj id s l hl
 refine ⟨b, arr.toList, p1, fun i v hv => ?_, p3⟩
 cases hC : g.C b (0 + i) with
 | some u =>
  have h1 := (hs.prot _ _ _ hC).1
  rw [Nat.zero_add, cell_of_row w b i arr e (0, 0) p2] at h1
  have : v = u := by
   rw [Array.getElem?_toList] at hv
   rw [hv] at h1
   simpa using h1
  subst this
  exact ice_le hC
 | none =>
  simp only [Gh.ice, hC]
  rw [if_pos ⟨id, s, l, p1, hl⟩]
  simp only [Option.filter_eq_some_iff]
  refine ⟨?_, p4 v (List.mem_of_getElem? hv)⟩
  rw [Nat.zero_add, cell_of_row w b i arr e (0, 0) p2]
  simpa using hv
mutual
theorem Rep.ice {P : Program} {g : Gh} {h : Hp} {w : World} (hs : Sim P g h w) : ∀ {v : Value} {a : AV}, Rep g v a → free (fz h a) = true → Rep (g.ice h w) v (fz h a)
  | _, _, .bool b, _ => by simp only [fz]; exact .bool b
  | _, _, .int k m, _ => by simp only [fz]; exact .int k m
  | _, _, .str s, _ => by simp only [fz]; exact .str s
  | _, _, .nilp, _ => by simp only [fz]; exact .nilp
  | _, _, .ptr id off b hb, hf => by simp [fz, free] at hf
  | _, _, .fp b off vs l hc hp hr, hf => by
    simp only [fz] at hf ⊢
    exact Rep.free (g := g) (fun _ _ _ hc => ice_le hc) (fun _ _ h => h) (.fp b off vs l hc hp hr) hf
  | _, _, .lst b off m c f vs l hc hp h1 h2 hr, hf => by
    simp only [fz] at hf ⊢
    exact Rep.free (g := g) (fun _ _ _ hc => ice_le hc) (fun _ _ h => h) (.lst b off m c f vs l hc hp h1 h2 hr) hf
  | _, _, .lst0 a c f hc, _ => by simp only [fz]; exact .lst0 a c f hc
  | _, _, .hs id b m c hb h1, hf => by
    simp only [fz] at hf ⊢
    split at hf
    · next s l hl =>
      obtain ⟨b', arr, q1, q2, q3⟩ := ice_obj hs hl
      obtain rfl : b = b' := by rw [hb] at q1; simpa using q1
      simp only [free] at hf
      refine .lst b 0 m c .ro arr _ q2 (fun a ha => ?_) h1 (fun e => by cases e) (RepL.free (g := g) (fun _ _ _ hc => ice_le hc) (fun _ _ h => h) q3.deg hf)
      obtain ⟨a', _, rfl⟩ := List.mem_map.1 ha
      exact plain_deg a'
    · simp [free] at hf
  | _, _, .hsc id b m c hb h1, hf => by
    simp only [fz] at hf ⊢
    split at hf
    · next s l hl =>
      obtain ⟨b', arr, q1, q2, q3⟩ := ice_obj hs hl
      obtain rfl : b = b' := by rw [hb] at q1; simpa using q1
      simp only [free] at hf
      refine .lst b 0 m c .ro arr _ q2 (fun a ha => ?_) h1 (fun e => by cases e) (RepL.free (g := g) (fun _ _ _ hc => ice_le hc) (fun _ _ h => h) q3.deg hf)
      obtain ⟨a', _, rfl⟩ := List.mem_map.1 ha
      exact plain_deg a'
    · simp [free] at hf
  | _, _, .agg vs l h1 hp hr, hf => by
    simp only [fz, free] at hf ⊢
    exact .agg vs _ h1 (plains_fz hp) (RepL.ice hs hr hf)
  | _, _, .tup vs l hp hr, hf => by
    simp only [fz, free] at hf ⊢
    exact .tup vs _ (plains_fz hp) (RepL.ice hs hr hf)
  | _, _, .fn f vs l hp hr, hf => by
    simp only [fz] at hf ⊢
    exact Rep.free (g := g) (fun _ _ _ hc => ice_le hc) (fun _ _ h => h) (.fn f vs l hp hr) hf
  | _, _, .fnb f vs l hp hr, hf => by
    simp only [fz] at hf ⊢
    exact Rep.free (g := g) (fun _ _ _ hc => ice_le hc) (fun _ _ h => h) (.fnb f vs l hp hr) hf
  | _, _, .nilf, _ => by simp only [fz]; exact .nilf
  | _, _, .opq v h h', _ => by simp only [fz]; exact .opq v h h'
  | _, _, .itr b s p, _ => by simp only [fz]; exact .itr b s p
  | _, _, .omp b ks vs, _ => by simp only [fz]; exact .omp b ks vs
  | _, _, .mp b, _ => by simp only [fz]; exact .mp b
  | _, _, .fmp b obj ks vs h1 h2, _ => by simp only [fz]; exact .fmp b obj ks vs h1 h2
  | _, _, .stk a c e o l h1 h2 h3, _ => by simp only [fz]; exact .stk a c e o l h1 h2 h3
  | _, _, .raw a m c h1 h2, _ => by simp only [fz]; exact .raw a m c h1 h2
  | _, _, .rawp b i m c, _ => by simp only [fz]; exact .rawp b i m c
  | _, _, .frn v Q S W0 h1 h2 h3 h4, _ => by simp only [fz]; exact .frn v Q S W0 h1 h2 h3 h4
theorem RepL.ice {P : Program} {g : Gh} {h : Hp} {w : World} (hs : Sim P g h w) : ∀ {vs : List Value} {l : List AV}, RepL g vs l → free.frees (fzs h l) = true → RepL (g.ice h w) vs (fzs h l)
  | _, _, .nil, _ => by simp only [fzs]; exact .nil
  | _, _, .cons h0 hr, hf => by
    simp only [fzs, free.frees, Bool.and_eq_true] at hf ⊢
    exact .cons (Rep.ice hs h0 hf.1) (RepL.ice hs hr hf.2)
end
theorem fz_hs {h : Hp} {id n : Nat} {s : Bool} {l : List AV} (hl : h[id]? = some (some (s, l))) : fz h (.hs id n) = .lst .ro n (l.map deg) := by simp only [fz, hl]
theorem fz_str (h : Hp) (s : ByteArray) : fz h (.str s) = .str s := by simp only [fz]
theorem fzs_nil (h : Hp) : fzs h [] = [] := by simp only [fzs]
theorem fzs_cons (h : Hp) (a : AV) (l : List AV) : fzs h (a :: l) = fz h a :: fzs h l := by simp only [fzs]
mutual
def sh (n : Nat) : AV → AV
  | .ptr i o => .ptr (i + n) o
  | .hs i m => .hs (i + n) m
  | .hsc i m c => .hsc (i + n) m c
  | .fp l => .fp (shs n l)
  | .lst f m l => .lst f m (shs n l)
  | .agg l => .agg (shs n l)
  | .tup l => .tup (shs n l)
  | .fn f l => .fn f (shs n l)
  | .fnb f l => .fnb f (shs n l)
  | a => a
def shs (n : Nat) : List AV → List AV
  | [] => []
  | a :: l => sh n a :: shs n l
end
theorem plain_sh {n : Nat} (a : AV) (h : plain a = true) : plain (sh n a) = true := by
 cases a with
 | lst f m l => cases f <;> first | (simp [plain] at h; done) | simp [sh, plain]
 | itr s p => simp [plain] at h
 | omp b ks vs => simp [plain] at h
 | stk e o l => simp [plain] at h
 | _ => simp [sh, plain]
theorem plains_sh {n : Nat} : ∀ {l : List AV}, plains l → plains (shs n l)
 | [], _ => by intro a ha; simp [shs] at ha
 | a :: l, h => by
  intro b hb
  simp only [shs, List.mem_cons] at hb
  rcases hb with rfl | hb
  ·exact plain_sh a (h a (by simp))
  ·exact plains_sh (fun x hx => h x (by simp [hx])) b hb
theorem shs_len {n : Nat} : ∀ l : List AV, (shs n l).length = l.length
 | [] => by simp [shs]
 | a :: l => by simp [shs, shs_len l]
theorem shs_get {n : Nat} : ∀ (l : List AV) (i : Nat), (shs n l)[i]? = (l[i]?).map (sh n)
 | [], i => by simp [shs]
 | a :: l, 0 => by simp [shs]
 | a :: l, i + 1 => by simp [shs, shs_get l i]
def Gh.join (g g1 : Gh) (n : Nat) : Gh :=
  { C := g1.C, X := g1.X, io := fun i => if i < n then g.io i else g1.io (i - n), F := g.F,
    own := fun b => match g.own b with
      | some x => some x
      | none => match g1.own b with
        | some (.cell id i) => some (.cell (id + n) i)
        | x => x }
mutual
theorem Rep.sh {g g1 : Gh} {n : Nat} : ∀ {v : Value} {a : AV}, Rep g1 v a → Rep (g.join g1 n) v (sh n a)
  | _, _, .bool b => by simp only [Go.Proofs.YtedaffmkpljlnaaGreat.sh]; exact .bool b
  | _, _, .int k m => by simp only [Go.Proofs.YtedaffmkpljlnaaGreat.sh]; exact .int k m
  | _, _, .str s => by simp only [Go.Proofs.YtedaffmkpljlnaaGreat.sh]; exact .str s
  | _, _, .nilp => by simp only [Go.Proofs.YtedaffmkpljlnaaGreat.sh]; exact .nilp
  | _, _, .ptr id off b h => by simp only [Go.Proofs.YtedaffmkpljlnaaGreat.sh]; exact .ptr _ off b (by simp only [Gh.join]; rw [if_neg (by omega), Nat.add_sub_cancel]; exact h)
  | _, _, .fp b off vs l h hp hr => by simp only [Go.Proofs.YtedaffmkpljlnaaGreat.sh]; exact .fp b off vs _ h (plains_sh hp) (RepL.sh hr)
  | _, _, .lst b off m c f vs l h hp h1 h2 hr => by simp only [Go.Proofs.YtedaffmkpljlnaaGreat.sh]; exact .lst b off m c f vs _ h (plains_sh hp) h1 h2 (RepL.sh hr)
  | _, _, .lst0 a c f h => by simp only [Go.Proofs.YtedaffmkpljlnaaGreat.sh, shs]; exact .lst0 a c f h
  | _, _, .hs id b m c h h1 => by simp only [Go.Proofs.YtedaffmkpljlnaaGreat.sh]; exact .hs _ b m c (by simp only [Gh.join]; rw [if_neg (by omega), Nat.add_sub_cancel]; exact h) h1
  | _, _, .hsc id b m c h h1 => by simp only [Go.Proofs.YtedaffmkpljlnaaGreat.sh]; exact .hsc _ b m c (by simp only [Gh.join]; rw [if_neg (by omega), Nat.add_sub_cancel]; exact h) h1
  | _, _, .agg vs l h hp hr => by simp only [Go.Proofs.YtedaffmkpljlnaaGreat.sh]; exact .agg vs _ h (plains_sh hp) (RepL.sh hr)
  | _, _, .tup vs l hp hr => by simp only [Go.Proofs.YtedaffmkpljlnaaGreat.sh]; exact .tup vs _ (plains_sh hp) (RepL.sh hr)
  | _, _, .fn f vs l hp hr => by simp only [Go.Proofs.YtedaffmkpljlnaaGreat.sh]; exact .fn f vs _ (plains_sh hp) (RepL.sh hr)
  | _, _, .fnb f vs l hp hr => by simp only [Go.Proofs.YtedaffmkpljlnaaGreat.sh]; exact .fnb f vs _ (plains_sh hp) (RepL.sh hr)
  | _, _, .nilf => by simp only [Go.Proofs.YtedaffmkpljlnaaGreat.sh]; exact .nilf
  | _, _, .opq v h h' => by simp only [Go.Proofs.YtedaffmkpljlnaaGreat.sh]; exact .opq v h h'
  | _, _, .itr b s p => by simp only [Go.Proofs.YtedaffmkpljlnaaGreat.sh]; exact .itr b s p
  | _, _, .omp b ks vs => by simp only [Go.Proofs.YtedaffmkpljlnaaGreat.sh]; exact .omp b ks vs
  | _, _, .mp b => by simp only [Go.Proofs.YtedaffmkpljlnaaGreat.sh]; exact .mp b
  | _, _, .fmp b obj ks vs h1 h2 => by simp only [Go.Proofs.YtedaffmkpljlnaaGreat.sh]; exact .fmp b obj ks vs h1 h2
  | _, _, .stk a c e o l h1 h2 h3 => by simp only [Go.Proofs.YtedaffmkpljlnaaGreat.sh]; exact .stk a c e o l h1 h2 h3
  | _, _, .raw a m c h1 h2 => by simp only [Go.Proofs.YtedaffmkpljlnaaGreat.sh]; exact .raw a m c h1 h2
  | _, _, .rawp b i m c => by simp only [Go.Proofs.YtedaffmkpljlnaaGreat.sh]; exact .rawp b i m c
  | _, _, .frn v Q S W0 h1 h2 h3 h4 => by simp only [Go.Proofs.YtedaffmkpljlnaaGreat.sh]; exact .frn v Q S W0 h1 h2 h3 h4
theorem RepL.sh {g g1 : Gh} {n : Nat} : ∀ {vs : List Value} {l : List AV}, RepL g1 vs l → RepL (g.join g1 n) vs (shs n l)
  | _, _, .nil => by simp only [shs]; exact .nil
  | _, _, .cons h hr => by simp only [shs]; exact .cons (Rep.sh h) (RepL.sh hr)
end
def shH (n : Nat) (h : Hp) : Hp := h.map fun o => o.map fun x => (x.1, shs n x.2)
theorem Sim.join {P : Program} {g g1 : Gh} {h h1 : Hp} {w w1 : World} (hs : Sim P g h w) (hev : Ev g.bare w g1 w1) (hs1 : Sim P g1 h1 w1) : Sim P (g.join g1 h.length) (h ++ shH h.length h1) w1 ∧ Ev g w (g.join g1 h.length) w1 := by
 have hFF : ∀ b, (g.F b ∨ (∃ i, g.io i = some b) ∨ (∃ x, g.own b = some x)) → g1.F b := fun b hb => (hev.F b).2 hb
 have hle : GLe g (g.join g1 h.length) := ⟨fun b o v hc => hev.le.C b o v hc, fun i b hi => by have := (hs.dom i b hi).1; simp only [Gh.join, if_pos this]; exact hi, fun b o hx => hev.le.X b o hx⟩
 have hfar : ∀ k b, g1.io k = some b → ¬ (g.F b ∨ (∃ i, g.io i = some b) ∨ (∃ x, g.own b = some x)) := fun k b hk hb => by
  have := (hev.Fb b hb).2.2.2 k hk
  cases this
 have hown : ∀ b, ¬ g1.F b → g.own b = none := fun b hb => by
  cases ho : g.own b with
  | none => rfl
  | some x => exact absurd (hFF b (.inr (.inr ⟨x, ho⟩))) hb
 have hfro : ∀ b o, (g.join g1 h.length).X b = some o → w1.heap[b]? = some o ∧ (g.join g1 h.length).own b = none ∧ ∀ i, (g.join g1 h.length).io i ≠ some b := fun b o hx => by
  obtain ⟨q1, q2, q3⟩ := hs1.fro b o hx
  have hbk : (∃ i, g.io i = some b) ∨ (∃ x, g.own b = some x) → g.X b = some o := fun hh => by
   have := hev.Fx b (.inr hh)
   rw [show g.bare.X b = g.X b from rfl] at this
   rw [← this]; exact hx
  refine ⟨q1, ?_, fun i hi => ?_⟩
  ·cases ho : g.own b with
   | none => simp only [Gh.join, ho, q2]
   | some x => exact absurd (hs.fro b o (hbk (.inr ⟨x, ho⟩))).2.1 (by rw [ho]; simp)
  ·simp only [Gh.join] at hi
   split at hi
   ·exact (hs.fro b o (hbk (.inl ⟨i, hi⟩))).2.2 i hi
   ·exact q3 _ hi
 refine ⟨⟨hs1.prot, ?_, ?_, ?_, ?_, ?_, ?_, hfro⟩, ⟨hle, fun _ => .rfl, fun b hb => ?_, hev.os, hev.tape, hev.output, hev.size, fun b hb => hev.Fx b (.inl hb)⟩⟩
 ·intro id s l hl
  by_cases hid : id < h.length
  ·rw [List.getElem?_append_left hid] at hl
   refine (hs.obj id s l hl).keep hle (fun b hb h8 h9 => ?_) (fun b i o1 o3 o4 => ?_)
   ·have hbF : g.F b ∨ (∃ i, g.io i = some b) ∨ (∃ x, g.own b = some x) := .inr (.inl ⟨id, hb⟩)
    obtain ⟨q1, q2, q3, _⟩ := hev.Fb b hbF
    refine ⟨q1, q2, h8, ?_⟩
    simp only [Gh.join, h9]
    rw [q3]
    rfl
   ·obtain ⟨q1, q2, q3, q4⟩ := hev.Fb b (.inr (.inr ⟨_, o1⟩))
    refine ⟨q1, by simp only [Gh.join, o1], q2, o3, fun j hj => ?_⟩
    simp only [Gh.join] at hj
    split at hj
    ·exact o4 j hj
    ·have := q4 _ hj; cases this
  ·rw [List.getElem?_append_right (by omega), shH, List.getElem?_map] at hl
   cases hl1 : h1[id - h.length]? with
   | none => rw [hl1] at hl; cases hl
   | some o =>
    rw [hl1] at hl
    simp only [Option.map_some, Option.some.injEq] at hl
    cases o with
    | none => cases hl
    | some x =>
     obtain ⟨s', l'⟩ := x
     simp only [Option.map_some, Option.some.injEq, Prod.mk.injEq] at hl
     obtain ⟨rfl, rfl⟩ := hl
     obtain ⟨b, arr, e, p1, p2, p3, p4, p5, p6, p7, p8, p9⟩ := hs1.obj _ s' l' hl1
     refine ⟨b, arr, e, by simp only [Gh.join, if_neg hid]; exact p1, p2, p3.sh, p4, fun i v a hv ha => ?_, p6, p7, fun hf => p8 (hFF b (.inl hf)), by simp only [Gh.join, hown b p8, p9]⟩
     rw [shs_get] at ha
     cases hla : l'[i]? with
     | none => rw [hla] at ha; cases ha
     | some a' =>
      rw [hla] at ha
      simp only [Option.map_some, Option.some.injEq] at ha
      subst ha
      have ho := p5 i v a' hv hla
      cases a' with
      | lst f m c =>
       cases f with
       | own e' =>
        simp only [sh]
        obtain ⟨sz, r1, r2, ⟨vs, r3, r4⟩ | r3⟩ := ho
        ·refine ⟨sz, r1, by rw [shs_len]; exact r2, .inl ⟨vs, r3, fun b' hb' => ?_⟩⟩
         obtain ⟨k1, k2, k3, k4⟩ := r4 b' hb'
         refine ⟨?_, fun o ho => k2 o (by rw [shs_len] at ho; exact ho), fun hf => k3 (hFF b' (.inl hf)), fun j hj => ?_⟩
         ·simp only [Gh.join, hown b' k3, k1]
          congr 2; omega
         ·simp only [Gh.join] at hj
          split at hj
          ·exact k3 (hFF b' (.inr (.inl ⟨j, hj⟩)))
          ·exact k4 _ hj
        ·exact ⟨sz, r1, by rw [shs_len]; exact r2, .inr r3⟩
       | _ => exact Owned.plain (by simp [sh, plain])
      | itr s p =>
       simp only [sh]
       obtain ⟨b', r1, r2, k1, k2, k3, k4⟩ := ho
       refine ⟨b', r1, r2, ?_, k2, fun hf => k3 (hFF b' (.inl hf)), fun j hj => ?_⟩
       ·simp only [Gh.join, hown b' k3, k1]
        congr 2; omega
       ·simp only [Gh.join] at hj
        split at hj
        ·exact k3 (hFF b' (.inr (.inl ⟨j, hj⟩)))
        ·exact k4 _ hj
      | omp b ks vs =>
       simp only [sh]
       obtain ⟨b', r1, r2, k1, k2, k3, k4⟩ := ho
       refine ⟨b', r1, r2, ?_, k2, fun hf => k3 (hFF b' (.inl hf)), fun j hj => ?_⟩
       ·simp only [Gh.join, hown b' k3, k1]
        congr 2; omega
       ·simp only [Gh.join] at hj
        split at hj
        ·exact k3 (hFF b' (.inr (.inl ⟨j, hj⟩)))
        ·exact k4 _ hj
      | stk e' u c =>
       simp only [sh]
       obtain ⟨r1, ⟨r3, r4⟩ | r3⟩ := ho
       ·refine ⟨r1, .inl ⟨r3, fun b' hb' => ?_⟩⟩
        obtain ⟨k1, k2, k3, k4⟩ := r4 b' hb'
        refine ⟨?_, k2, fun hf => k3 (hFF b' (.inl hf)), fun j hj => ?_⟩
        ·simp only [Gh.join, hown b' k3, k1]
         congr 2; omega
        ·simp only [Gh.join] at hj
         split at hj
         ·exact k3 (hFF b' (.inr (.inl ⟨j, hj⟩)))
         ·exact k4 _ hj
       ·exact ⟨r1, .inr r3⟩
      | _ => exact Owned.plain (by simp [sh, plain])
 ·intro i j b hi hj
  simp only [Gh.join] at hi hj
  split at hi <;> split at hj
  ·exact hs.inj i j b hi hj
  ·exact absurd (.inr (.inl ⟨i, hi⟩)) (hfar _ b hj)
  ·exact absurd (.inr (.inl ⟨j, hj⟩)) (hfar _ b hi)
  ·have := hs1.inj _ _ b hi hj; omega
 ·intro i b hi
  simp only [Gh.join] at hi
  split at hi
  ·have := hs.dom i b hi; have := hev.size; simp; omega
  ·have := hs1.dom _ b hi; simp [shH]; omega
 ·intro b hb; exact Nat.lt_of_lt_of_le (hs.flt b hb) hev.size
 ·intro b x hb
  simp only [Gh.join] at hb
  split at hb
  ·next y hy => exact Nat.lt_of_lt_of_le (hs.olt b _ hy) hev.size
  ·split at hb
   ·next hy => exact hs1.olt b _ hy
   ·exact hs1.olt b x hb
 ·intro i hi
  by_cases hid : i < h.length
  ·rw [List.getElem?_append_left hid] at hi
   simp only [Gh.join, if_pos hid]; exact hs.hole i hi
  ·rw [List.getElem?_append_right (by omega), shH, List.getElem?_map] at hi
   simp only [Gh.join, if_neg hid]
   cases hl1 : h1[i - h.length]? with
   | none => rw [hl1] at hi; cases hi
   | some o =>
    cases o with
    | none => exact hs1.hole _ hl1
    | some x => rw [hl1] at hi; simp at hi
 ·obtain ⟨q1, q2, q3, q4⟩ := hev.Fb b (.inl hb)
  refine ⟨q1, q2, ?_, fun i hi => ?_⟩
  ·simp only [Gh.join]
   split
   ·next y hy => exact hy.symm
   ·next hy => rw [q3, hy]; rfl
  ·simp only [Gh.join] at hi
   split at hi
   ·exact hi
   ·have := q4 _ hi; cases this
theorem ACalls.shift {P : Program} {f : FuncId} {args : List AV} {R : AV → Hp → Prop} (ha : free.frees args = true) (hc : ACalls P f args [] R) (h : Hp) : ACalls P f args h (fun a h' => ∃ a0 h0, R a0 h0 ∧ a = sh h.length a0 ∧ h' = h ++ shH h.length h0) := by
 refine ⟨hc.1, fun g w vargs hs hns hr hpl => ?_⟩
 refine (hc.2 g.bare w vargs hs.bare (fun b k h => by cases h) (RepL.free (g := g) (g' := g.bare) (fun _ _ _ h => h) (fun _ _ h => h) hr ha) hpl).mono ?_
 rintro e w1 ⟨x, a, h1, g1, rfl, r1, r2, r3, r4, r5, r6⟩
 obtain ⟨s1, s2⟩ := hs.join r1 r2
 refine ⟨x, _, _, g.join g1 h.length, rfl, s2, s1, fun b k hk => ?_, r4.sh, plain_sh _ r5, a, h1, r6, rfl, rfl⟩
 simp only [Gh.join] at hk
 split at hk
 ·next y hy => simp only [Option.some.injEq] at hk; subst hk; exact hns b k hy
 ·split at hk
  ·cases hk
  ·exact r3 b k hk
def only (k : Nat) : AV → Bool
 | .ptr i _ => decide (i = k)
 | .hs i _ => decide (i = k)
 | .hsc i _ _ => decide (i = k)
 | .fp l | .lst _ _ l | .agg l | .tup l | .fn _ l | .fnb _ l => onlys l
 | _ => true
where onlys : List AV → Bool
  | [] => true
  | a :: l => only k a && onlys l
mutual
def rn : AV → AV
  | .ptr _ o => .ptr 0 o
  | .hs _ m => .hs 0 m
  | .hsc _ m c => .hsc 0 m c
  | .fp l => .fp (rns l)
  | .lst f m l => .lst f m (rns l)
  | .agg l => .agg (rns l)
  | .tup l => .tup (rns l)
  | .fn f l => .fn f (rns l)
  | .fnb f l => .fnb f (rns l)
  | a => a
def rns : List AV → List AV
  | [] => []
  | a :: l => rn a :: rns l
end
theorem plain_rn (a : AV) (h : plain a = true) : plain (rn a) = true := by
 cases a with
 | lst f m l => cases f <;> first | (simp [plain] at h; done) | simp [rn, plain]
 | itr s p => simp [plain] at h
 | omp b ks vs => simp [plain] at h
 | stk e o l => simp [plain] at h
 | _ => simp [rn, plain]
theorem plains_rn : ∀ {l : List AV}, plains l → plains (rns l)
 | [], _ => by intro a ha; simp [rns] at ha
 | a :: l, h => by
  intro b hb
  simp only [rns, List.mem_cons] at hb
  rcases hb with rfl | hb
  ·exact plain_rn a (h a (by simp))
  ·exact plains_rn (fun x hx => h x (by simp [hx])) b hb
def Gh.one (g : Gh) (k : Nat) : Gh := { g with io := fun i => if i = 0 then g.io k else none }
mutual
theorem Rep.one {g : Gh} {k : Nat} : ∀ {v : Value} {a : AV}, Rep g v a → only k a = true → Rep (g.one k) v (rn a)
  | _, _, .bool b, _ => by simp only [rn]; exact .bool b
  | _, _, .int i m, _ => by simp only [rn]; exact .int i m
  | _, _, .str s, _ => by simp only [rn]; exact .str s
  | _, _, .nilp, _ => by simp only [rn]; exact .nilp
  | _, _, .ptr id off b h, ho => by
    have : id = k := by simpa [only] using ho
    subst this
    simp only [rn]; exact .ptr 0 off b (by simp only [Gh.one, if_true]; exact h)
  | _, _, .fp b off vs l h hp hr, ho => by simp only [rn]; exact .fp b off vs _ h (plains_rn hp) (RepL.one hr (by simpa [only] using ho))
  | _, _, .lst b off m c f vs l h hp h1 h2 hr, ho => by simp only [rn]; exact .lst b off m c f vs _ h (plains_rn hp) h1 h2 (RepL.one hr (by simpa [only] using ho))
  | _, _, .lst0 a c f h, _ => by simp only [rn, rns]; exact .lst0 a c f h
  | _, _, .hs id b m c h h1, ho => by
    have : id = k := by simpa [only] using ho
    subst this
    simp only [rn]; exact .hs 0 b m c (by simp only [Gh.one, if_true]; exact h) h1
  | _, _, .hsc id b m c h h1, ho => by
    have : id = k := by simpa [only] using ho
    subst this
    simp only [rn]; exact .hsc 0 b m c (by simp only [Gh.one, if_true]; exact h) h1
  | _, _, .agg vs l h hp hr, ho => by simp only [rn]; exact .agg vs _ h (plains_rn hp) (RepL.one hr (by simpa [only] using ho))
  | _, _, .tup vs l hp hr, ho => by simp only [rn]; exact .tup vs _ (plains_rn hp) (RepL.one hr (by simpa [only] using ho))
  | _, _, .fn f vs l hp hr, ho => by simp only [rn]; exact .fn f vs _ (plains_rn hp) (RepL.one hr (by simpa [only] using ho))
  | _, _, .fnb f vs l hp hr, ho => by simp only [rn]; exact .fnb f vs _ (plains_rn hp) (RepL.one hr (by simpa [only] using ho))
  | _, _, .nilf, _ => by simp only [rn]; exact .nilf
  | _, _, .opq v h h', _ => by simp only [rn]; exact .opq v h h'
  | _, _, .itr b s p, _ => by simp only [rn]; exact .itr b s p
  | _, _, .omp b ks vs, _ => by simp only [rn]; exact .omp b ks vs
  | _, _, .mp b, _ => by simp only [rn]; exact .mp b
  | _, _, .fmp b obj ks vs h1 h2, _ => by simp only [rn]; exact .fmp b obj ks vs h1 h2
  | _, _, .stk a c e o l h1 h2 h3, _ => by simp only [rn]; exact .stk a c e o l h1 h2 h3
  | _, _, .raw a m c h1 h2, _ => by simp only [rn]; exact .raw a m c h1 h2
  | _, _, .rawp b i m c, _ => by simp only [rn]; exact .rawp b i m c
  | _, _, .frn v Q S W0 h1 h2 h3 h4, _ => by simp only [rn]; exact .frn v Q S W0 h1 h2 h3 h4
theorem RepL.one {g : Gh} {k : Nat} : ∀ {vs : List Value} {l : List AV}, RepL g vs l → only.onlys k l = true → RepL (g.one k) vs (rns l)
  | _, _, .nil, _ => by simp only [rns]; exact .nil
  | _, _, .cons h hr, ho => by
    simp only [only.onlys, Bool.and_eq_true] at ho
    simp only [rns]; exact .cons (Rep.one h ho.1) (RepL.one hr ho.2)
end
theorem ACalls.one {P : Program} {f : FuncId} {args : List AV} {R : AV → Hp → Prop}
  (hc : ACalls P f args [] (fun a h' => ∃ k l, h'[k]? = some (some (false, l)) ∧ only k a = true ∧ free.frees l = true ∧ plains l ∧ R (rn a) [some (false, l)])) : ACalls P f args [] R := by
 refine ⟨hc.1, fun g w vargs hs hns hr hpl => (hc.2 g w vargs hs hns hr hpl).mono ?_⟩
 rintro e w1 ⟨x, a, h', g', rfl, ev, hs', hns', hx, hpa, k, l, hk, ho, hfl, hpll, hR⟩
 have nodom : ∀ i b, g.io i ≠ some b := fun i b hi => absurd (hs.dom i b hi).1 (by simp)
 obtain ⟨b, arr, e, p1, p2, p3, p4, p5, p6, p7, p8, p9⟩ := hs'.obj k false l hk
 refine ⟨x, _, _, g'.one k, rfl, ?_, ?_, hns', Rep.one hx ho, plain_rn _ hpa, hR⟩
 ·refine ⟨⟨ev.le.C, fun i b hi => absurd hi (nodom i b), ev.le.X⟩, ev.F, fun b' hb' => ?_, ev.os, ev.tape, ev.output, ev.size, ev.Fx⟩
  obtain ⟨q1, q2, q3, q4⟩ := ev.Fb b' hb'
  refine ⟨q1, q2, q3, fun i hi => ?_⟩
  simp only [Gh.one] at hi
  split at hi
  ·exact absurd (q4 _ hi) (nodom _ _)
  ·cases hi
 ·refine ⟨hs'.prot, fun id s l' hl' => ?_, fun i j b' hi hj => ?_, fun i b' hi => ?_, hs'.flt, hs'.olt, fun i hi => ?_, fun b o hx => ⟨(hs'.fro b o hx).1, (hs'.fro b o hx).2.1, fun i hi => by simp only [Gh.one] at hi; split at hi; exact (hs'.fro b o hx).2.2 _ hi; cases hi⟩⟩
  ·cases id with
   | zero =>
    simp only [List.getElem?_cons_zero, Option.some.injEq, Prod.mk.injEq] at hl'
    obtain ⟨rfl, rfl⟩ := hl'
    refine ⟨b, arr, e, by simp only [Gh.one, if_true]; exact p1, p2, RepL.free (g := g') (g' := g'.one k) (fun _ _ _ h => h) (fun _ _ h => h) p3 hfl, p4, fun i v a _ ha => Owned.plain (hpll a (List.mem_of_getElem? ha)), p6, p7, p8, p9⟩
   | succ id => simp at hl'
  ·simp only [Gh.one] at hi hj
   split at hi
   ·split at hj
    ·omega
    ·cases hj
   ·cases hi
  ·simp only [Gh.one] at hi
   split at hi
   ·next h0 => subst h0; exact ⟨by simp, (hs'.dom k b' hi).2⟩
   ·cases hi
  ·cases i with
   | zero => simp at hi
   | succ i => simp at hi
theorem byte_get {s : ByteArray} {i : Nat} (h : i < s.size) : s.get! i = s.data.toList[i]'(by simpa using h) := by
 show s.get! i = _
 simp only [ByteArray.get!]
 rw [getElem!_pos s.data i h]
 simp
theorem dec_lt {s : ByteArray} {pos : Nat} (h : pos < s.data.toList.length) (ha : (s.data.toList[pos]).toNat < 128) : Utf8.decode s pos = ((s.data.toList[pos]).toNat, 1) := by
 have h' : pos < s.size := by simpa using h
 have e : s.get! (pos + 0) = s.data.toList[pos] := by rw [Nat.add_zero]; exact byte_get h'
 simp only [Utf8.decode, e, ha, if_true]
theorem dec_ge {s : ByteArray} {pos : Nat} (h : pos < s.data.toList.length) (ha : ¬ (s.data.toList[pos]).toNat < 128) :
  128 ≤ (Utf8.decode s pos).1 ∧ 1 ≤ (Utf8.decode s pos).2 ∧ pos + (Utf8.decode s pos).2 ≤ s.data.toList.length ∧ ∀ k (hk : k < s.data.toList.length), pos < k → k < pos + (Utf8.decode s pos).2 → 128 ≤ (s.data.toList[k]).toNat := by
 have h' : pos < s.size := by simpa using h
 have hl : s.data.toList.length = s.size := by simp
 have e : s.get! (pos + 0) = s.data.toList[pos] := by rw [Nat.add_zero]; exact byte_get h'
 have hb : (s.data.toList[pos]).toNat < 256 := (s.data.toList[pos]).toNat_lt
 have cont : ∀ k, (decide (pos + k < s.size) && ((s.get! (pos + k)).toNat / 64 == 2)) = true → pos + k < s.data.toList.length ∧ ∀ hk : pos + k < s.data.toList.length, 128 ≤ (s.data.toList[pos + k]).toNat := by
  intro k hk
  simp only [Bool.and_eq_true, decide_eq_true_eq, beq_iff_eq] at hk
  refine ⟨by omega, fun hk2 => ?_⟩
  have := hk.2
  rw [byte_get hk.1] at this
  omega
 have one : 128 ≤ Utf8.runeError := by decide
 simp only [Utf8.decode, e, ha, if_false]
 split
 ·next c =>
  simp only [Bool.and_eq_true, beq_iff_eq] at c
  obtain ⟨c0, c1⟩ := c
  obtain ⟨g1, g2⟩ := cont 1 (by simpa using c1)
  split
  ·next c2 => exact ⟨c2, by simp, by omega, fun k hk h1 h2 => by
    obtain rfl : k = pos + 1 := by omega
    exact g2 hk⟩
  ·exact ⟨one, by decide, by omega, fun k hk h1 h2 => by omega⟩
 ·split
  ·next c =>
   simp only [Bool.and_eq_true, beq_iff_eq] at c
   obtain ⟨⟨c0, c1⟩, c2⟩ := c
   obtain ⟨g1, g2⟩ := cont 1 (by simpa using c1)
   obtain ⟨g3, g4⟩ := cont 2 (by simpa using c2)
   split
   ·next c3 =>
    simp only [Bool.and_eq_true, decide_eq_true_eq] at c3
    exact ⟨by omega, by simp, by omega, fun k hk h1 h2 => by
     rcases (show k = pos + 1 ∨ k = pos + 2 by omega) with rfl | rfl
     ·exact g2 hk
     ·exact g4 hk⟩
   ·exact ⟨one, by decide, by omega, fun k hk h1 h2 => by omega⟩
  ·split
   ·next c =>
    simp only [Bool.and_eq_true, beq_iff_eq] at c
    obtain ⟨⟨⟨c0, c1⟩, c2⟩, c3⟩ := c
    obtain ⟨g1, g2⟩ := cont 1 (by simpa using c1)
    obtain ⟨g3, g4⟩ := cont 2 (by simpa using c2)
    obtain ⟨g5, g6⟩ := cont 3 (by simpa using c3)
    split
    ·next c3 =>
     simp only [Bool.and_eq_true, decide_eq_true_eq] at c3
     exact ⟨by omega, by simp, by omega, fun k hk h1 h2 => by
      rcases (show k = pos + 1 ∨ k = pos + 2 ∨ k = pos + 3 by omega) with rfl | rfl | rfl
      ·exact g2 hk
      ·exact g4 hk
      ·exact g6 hk⟩
    ·exact ⟨one, by decide, by omega, fun k hk h1 h2 => by omega⟩
   ·exact ⟨one, by decide, by omega, fun k hk h1 h2 => by omega⟩
def digI (r : Int) : Bool := decide (48 ≤ r) && decide (r ≤ 57)
def lttI (r : Int) : Bool := decide (97 ≤ r) && decide (r ≤ 122)
def innI (r : Int) : Bool := lttI r || digI r || decide (r = 45) || decide (r = 46)
def freI (r : Int) : Bool := !innI r && decide (r ≠ 58) && (decide (r < 65) || decide (90 < r))
def notI (r : Int) : Bool := decide (r ≠ 10)
theorem hi_dig (r : Int) (h : 128 ≤ r) : digI r = digI 128 := by simp [digI]; omega
theorem hi_inn (r : Int) (h : 128 ≤ r) : innI r = innI 128 := by simp [innI, digI, lttI]; omega
theorem hi_fre (r : Int) (h : 128 ≤ r) : freI r = freI 128 := by simp [freI, innI, digI, lttI]; omega
theorem hi_not (r : Int) (h : 128 ≤ r) : notI r = notI 128 := by simp [notI]; omega
theorem p_digit (r : Int) : PCalls Tryz.prog 117 [.int .i32 r] (.bool (digI r)) := by
 refine pcalls_of (by first | rfl | simp [free, free.frees, frees_str, frees_u8, frees_u16]) (by first | rfl | simp [free, free.frees, frees_str, frees_u8, frees_u16]) (acalls_of mixed J_token_digit_ok (Nat.le_of_ble_eq_true rfl) ?_); simp only [J_token_digit, wk,eq_self,Nat.reduceEqDiff,reduceCtorEq,↓reduceIte]
 refine ⟨fun e => ?_, fun e => ?_⟩ <;> congr 1 <;> simp [digI, e]
theorem p_letter (r : Int) : PCalls Tryz.prog 118 [.int .i32 r] (.bool (lttI r)) := by
 refine pcalls_of (by first | rfl | simp [free, free.frees, frees_str, frees_u8, frees_u16]) (by first | rfl | simp [free, free.frees, frees_str, frees_u8, frees_u16]) (acalls_of mixed J_token_letter_ok (Nat.le_of_ble_eq_true rfl) ?_); simp only [J_token_letter, wk,eq_self,Nat.reduceEqDiff,reduceCtorEq,↓reduceIte]
 refine ⟨fun e => ?_, fun e => ?_⟩ <;> congr 1 <;> simp [lttI, e]
theorem p_not (r : Int) : PCalls Tryz.prog 97 [.int .i32 r] (.bool (notI r)) := by
 refine pcalls_of (by first | rfl | simp [free, free.frees, frees_str, frees_u8, frees_u16]) (by first | rfl | simp [free, free.frees, frees_str, frees_u8, frees_u16]) (acalls_of mixed J_token_All_1_ok (Nat.le_of_ble_eq_true rfl) ?_); simp only [J_token_All_1, wk,ne_eq,eq_self,reduceCtorEq,↓reduceIte]
 rfl
theorem p_inName (r : Int) : PCalls Tryz.prog 143 [.int .i32 r] (.bool (innI r)) := by
 refine pcalls_of (by first | rfl | simp [free, free.frees, frees_str, frees_u8, frees_u16]) (by first | rfl | simp [free, free.frees, frees_str, frees_u8, frees_u16]) (acalls_of mixed J_token_inName_ok (Nat.le_of_ble_eq_true rfl) ?_); simp only [J_token_inName, wk,eq_self,reduceCtorEq,↓reduceIte]
 have q := p_digit r
 refine PCalls.use (p_letter r) ?_; simp only [wk,eq_self,Nat.reduceEqDiff,reduceCtorEq,↓reduceIte]
 repeat' (first | (refine PCalls.use q ?_; simp only [wk,eq_self,Nat.reduceEqDiff,reduceCtorEq,↓reduceIte]) | (refine And.intro ?_ ?_) | intro _)
 all_goals (congr 1; simp_all [innI])
theorem p_free (r : Int) : PCalls Tryz.prog 120 [.int .i32 r] (.bool (freI r)) := by
 refine pcalls_of (by first | rfl | simp [free, free.frees, frees_str, frees_u8, frees_u16]) (by first | rfl | simp [free, free.frees, frees_str, frees_u8, frees_u16]) (acalls_of mixed J_token_free_ok (Nat.le_of_ble_eq_true rfl) ?_); simp only [J_token_free, wk,eq_self,reduceCtorEq,↓reduceIte]
 refine PCalls.use (p_inName r) ?_; simp only [wk,ne_eq,eq_self,Nat.reduceEqDiff,reduceCtorEq,↓reduceIte]
 repeat' (first | (refine And.intro ?_ ?_) | intro _)
 all_goals (congr 1; unfold freI; simp_all; try omega)
def keyW (s : ByteArray) : Int := if s = ⟨#[97, 110, 100]⟩ then 2 else if s = ⟨#[102, 111, 114]⟩ then 3 else if s = ⟨#[97, 115]⟩ then 5 else 0
theorem p_keyword (s : ByteArray) : PCalls Tryz.prog 128 [.str s] (.int .i64 (keyW s)) := by
 refine pcalls_of (by first | rfl | simp [free, free.frees, frees_str, frees_u8, frees_u16]) (by first | rfl | simp [free, free.frees, frees_str, frees_u8, frees_u16]) (acalls_of mixed J_token_keyword_ok (Nat.le_of_ble_eq_true rfl) ?_); simp only [J_token_keyword, wk,eq_self,Nat.reduceEqDiff,reduceCtorEq,↓reduceIte]
 repeat' (first | (refine And.intro ?_ ?_) | intro _)
 all_goals (congr 1; simp_all [keyW])
def aheW (s : ByteArray) : Int := if s = ⟨#[107, 101, 121]⟩ then 1 else if s = ⟨#[99, 104, 97, 110]⟩ then 2 else if s = ⟨#[103, 114, 111, 117, 112]⟩ then 4 else if s = ⟨#[114, 111, 108, 101]⟩ then 5 else 0
theorem p_ahead (s : ByteArray) : PCalls Tryz.prog 144 [.str s] (.int .i64 (aheW s)) := by
 refine pcalls_of (by first | rfl | simp [free, free.frees, frees_str, frees_u8, frees_u16]) (by first | rfl | simp [free, free.frees, frees_str, frees_u8, frees_u16]) (acalls_of mixed J_token_ahead_ok (Nat.le_of_ble_eq_true rfl) ?_); simp only [J_token_ahead, wk,eq_self,Nat.reduceEqDiff,reduceCtorEq,↓reduceIte]
 repeat' (first | (refine And.intro ?_ ?_) | intro _)
 all_goals (congr 1; simp_all [aheW])
def preW (k : Int) : ByteArray := if k = 1 then ⟨#[107, 101, 121, 58]⟩ else if k = 2 then ⟨#[99, 104, 97, 110, 58]⟩ else if k = 4 then ⟨#[103, 114, 111, 117, 112, 58]⟩ else if k = 5 then ⟨#[114, 111, 108, 101, 58]⟩ else ⟨#[]⟩
def stopN (q : Int → Bool) (l : List UInt8) : Nat := (l.takeWhile fun b => q b.toNat).length
theorem tw_len {α : Type} {f : α → Bool} : ∀ {l : List α} {p : Nat}, p ≤ l.length → (∀ b ∈ l.take p, f b = true) → (∀ h : p < l.length, f l[p] = false) → (l.takeWhile f).length = p
 | [], p, h, _, _ => by simp at h; simp [h]
 | b :: l, 0, _, _, h => by
  have := h (by simp)
  simp at this
  simp [this]
 | b :: l, p + 1, h, h1, h2 => by
  have hb := h1 b (by simp)
  have := tw_len (f := f) (l := l) (p := p) (by simpa using h) (fun x hx => h1 x (by simp [hx])) (fun hp => by have h3 := h2 (by simp; omega); rwa [List.getElem_cons_succ] at h3)
  simp [hb, this]
theorem p_stop {f : FuncId} {q : Int → Bool} (hf : ∀ r : Int, PCalls Tryz.prog f [.int .i32 r] (.bool (q r))) (hi : ∀ r, 128 ≤ r → q r = q 128) (s : ByteArray) (k : Nat) (hs : s.size ≤ 1000000) (hk : k ≤ s.size) :
  PCalls Tryz.prog 96 [.str s, .int .i64 k, .fn f []] (.int .i64 (k + stopN q (s.data.toList.drop k))) := by
 refine pcalls_of (by first | rfl | simp [free, free.frees, frees_str, frees_u8, frees_u16]) (by first | rfl | simp [free, free.frees, frees_str, frees_u8, frees_u16]) (acalls_of mixed J_token_stop_ok (Nat.le_of_ble_eq_true rfl) ?_); simp only [J_token_stop, wk,eq_self,Nat.reduceEqDiff,Nat.reduceAdd,reduceCtorEq,↓reduceIte]
 refine ⟨⟨by omega, by omega⟩, ?_⟩
 obtain ⟨S, hS⟩ : ∃ S, S = s.extract k s.size := ⟨_, rfl⟩
 have hl : S.data.toList = s.data.toList.drop k := by rw [hS]; simp only [ByteArray.data_extract, Array.toList_extract, List.extract_eq_take_drop]; rw [List.take_of_length_le (by simp)]
 have hSz : S.size ≤ 1000000 := by rw [hS]; simp; omega
 rw [← hl]
 simp only [Int.toNat_natCast, ← hS]
 refine W_loop (fun n fr h' => ∃ p : Nat, p ≤ S.data.toList.length ∧ n = S.data.toList.length - p ∧ fr = [(0, .str s), (1, .int .i64 k), (2, .fn f []), (12, .itr S p)] ∧ ∀ b ∈ S.data.toList.take p, q b.toNat = true) S.data.toList.length ⟨0, by omega, by omega, rfl, by simp⟩ ?_
 rintro n fr h' ⟨p, hp, rfl, rfl, hall⟩
 have hlen : S.data.toList.length = S.size := by simp
 simp only [J_token_stop_j2, wk,eq_self,Nat.reduceEqDiff,reduceCtorEq,↓reduceIte]
 refine ⟨fun hlt => ?_, fun hge => ?_⟩
 ·have hpl : p < S.data.toList.length := by omega
  have hfr := hf ((Utf8.decode S p).1 : Nat)
  have hstop : q (Utf8.decode S p).1 = q (S.data.toList[p]).toNat := by
   by_cases ha : (S.data.toList[p]).toNat < 128
   ·rw [dec_lt hpl ha]
   ·rw [hi _ (by have := (dec_ge hpl ha).1; omega), hi (S.data.toList[p]).toNat (by omega)]
  refine PCalls.use (hfr) ?_; simp only [wk,eq_self,Nat.reduceEqDiff,reduceCtorEq,↓reduceIte]
  refine ⟨fun e => ?_, fun e => ?_⟩
  ·have h1 : stopN q S.data.toList = p := tw_len hp hall (fun _ => by rw [← hstop]; exact e)
   rw [h1]
   exact ⟨inR_of (by omega) (by omega), rfl⟩
  ·by_cases ha : (S.data.toList[p]).toNat < 128
   ·rw [dec_lt hpl ha] at e ⊢
    refine ⟨S.data.toList.length - (p + 1), by omega, p + 1, by omega, rfl, rfl, fun b hb => ?_⟩
    rw [List.take_succ_eq_append_getElem hpl] at hb
    rcases List.mem_append.1 hb with hb | hb
    ·exact hall b hb
    ·simp at hb; subst hb; exact e
   ·obtain ⟨d1, d2, d3, d4⟩ := dec_ge hpl ha
    refine ⟨S.data.toList.length - (p + (Utf8.decode S p).2), by omega, p + (Utf8.decode S p).2, by omega, rfl, rfl, fun b hb => ?_⟩
    obtain ⟨i, hi1, rfl⟩ := List.mem_iff_getElem.1 hb
    simp only [List.length_take] at hi1
    rw [List.getElem_take]
    rcases Nat.lt_trichotomy i p with h1 | h1 | h1
    ·exact hall _ (List.mem_iff_getElem.2 ⟨i, by simp; omega, by rw [List.getElem_take]⟩)
    ·subst h1; rw [← hstop]; exact e
    ·have h2 := d4 i (by omega) h1 (by omega)
     rw [hi _ (by omega)] at e
     rw [hi _ (by omega)]; exact e
 ·rw [List.take_of_length_le (by omega)] at hall
  simp only [J_token_stop_j1, wk,eq_self,↓reduceIte]
  have h1 : stopN q S.data.toList = S.data.toList.length := tw_len (Nat.le_refl _) (by rw [List.take_length]; exact hall) (fun h => by omega)
  rw [h1, hl, List.length_drop]
  congr 1
  simp only [Array.length_toList, ByteArray.size_data]
  omega
def atB (s : ByteArray) (p : Nat) : Prop := p = 0 ∨ ∃ h : p - 1 < s.data.toList.length, (s.data.toList[p - 1]).toNat < 128
theorem len_size (s : ByteArray) : s.data.toList.length = s.size := by simp
theorem step_le {s : ByteArray} {p a : Nat} (hb : atB s a) (hp : p < a) (ha : a ≤ s.size) : p + (Utf8.decode s p).2 ≤ a := by
 have hl := len_size s
 have hpl : p < s.data.toList.length := by omega
 rcases hb with hb | ⟨h, hb⟩
 ·omega
 ·by_cases h1 : (s.data.toList[p]).toNat < 128
  ·rw [dec_lt hpl h1]; show p + 1 ≤ a; omega
  ·obtain ⟨d1, d2, d3, d4⟩ := dec_ge hpl h1
   rcases Nat.lt_or_ge a (p + (Utf8.decode s p).2) with h2 | h2
   ·by_cases h3 : a - 1 = p
    ·simp only [h3] at hb; omega
    ·have := d4 (a - 1) h (by omega) (by omega)
     omega
   ·exact h2
theorem step_one {s : ByteArray} {p : Nat} (hp : p < s.size) : 1 ≤ (Utf8.decode s p).2 ∧ p + (Utf8.decode s p).2 ≤ s.size := by
 have hl := len_size s
 have hpl : p < s.data.toList.length := by omega
 by_cases h1 : (s.data.toList[p]).toNat < 128
 ·rw [dec_lt hpl h1]; exact ⟨Nat.le_refl _, by show p + 1 ≤ s.size; omega⟩
 ·obtain ⟨d1, d2, d3, d4⟩ := dec_ge hpl h1
  exact ⟨d2, by omega⟩
def fineL : List UInt8 → Bool
 | [] => true
 | b :: _ => freI b.toNat
def nameL (l : List UInt8) : Option Nat := match l with
 | [] => none
 | b :: r => if lttI b.toNat = true ∧ stopN innI (b :: r) ≤ 24 ∧ fineL ((b :: r).drop (stopN innI (b :: r))) = true then some (stopN innI (b :: r)) else none
theorem stopN_le (q : Int → Bool) (l : List UInt8) : stopN q l ≤ l.length := by
 unfold stopN
 exact (List.takeWhile_prefix _).length_le
theorem stopN_at {q : Int → Bool} : ∀ {l : List UInt8} {i : Nat} (h : i < l.length), i < stopN q l → q (l[i]).toNat = true
 | [], i, h, _ => by simp at h
 | b :: l, i, h, hi => by
  by_cases hb : q b.toNat = true
  ·have e : stopN q (b :: l) = stopN q l + 1 := by unfold stopN; simp [hb]
   cases i with
   | zero => exact hb
   | succ i =>
    rw [List.getElem_cons_succ]
    exact stopN_at (by simpa using h) (by omega)
  ·have e : stopN q (b :: l) = 0 := by unfold stopN; simp [hb]
   omega
theorem stopN_end {q : Int → Bool} : ∀ {l : List UInt8} (h : stopN q l < l.length), q (l[stopN q l]).toNat = false
 | [], h => by simp at h
 | b :: l, h => by
  by_cases hb : q b.toNat = true
  ·have e : stopN q (b :: l) = stopN q l + 1 := by unfold stopN; simp [hb]
   have := stopN_end (q := q) (l := l) (by rw [e] at h; simpa using h)
   simp only [e, List.getElem_cons_succ]
   exact this
  ·have e : stopN q (b :: l) = 0 := by unfold stopN; simp [hb]
   simp only [e, List.getElem_cons_zero]
   simpa using hb
theorem lo_inn (r : Int) (h : 128 ≤ r) : innI r = false := by rw [hi_inn r h]; rfl
theorem lo_dig (r : Int) (h : 128 ≤ r) : digI r = false := by rw [hi_dig r h]; rfl
theorem hi_ltt (r : Int) (h : 128 ≤ r) : lttI r = lttI 128 := by simp [lttI]; omega
theorem byte_at {s : ByteArray} {i : Nat} (h : i < s.data.toList.length) : byteAt s i = (s.data.toList[i]).toNat := by
 unfold byteAt; rw [List.getElem?_eq_getElem h]; rfl
theorem stop_more {q : Int → Bool} {l : List UInt8} {n : Nat} (h : n < l.length) (hn : n ≤ stopN q l) (hq : q (l[n]).toNat = true) : n + 1 ≤ stopN q l := by
 rcases Nat.lt_or_ge n (stopN q l) with h1 | h1
 ·exact h1
 ·have e : stopN q l = n := by omega
  have := stopN_end (q := q) (l := l) (by omega)
  simp only [e] at this
  rw [hq] at this; cases this
def numW (s : ByteArray) : Bool := decide (1 ≤ s.size) && (decide (s.size ≤ 9) && (s.data.toList.all (fun b => digI b.toNat) && (decide (byteAt s 0 ≠ 48) || decide (s.size = 1))))
def sigB (n : Nat) : Bool := n == 61 || n == 44 || n == 59 || n == 60 || n == 62 || n == 33 || n == 63 || n == 42
def sigW (s : ByteArray) : Bool := decide (s.size = 1) && sigB (byteAt s 0)
theorem one_byte {s : ByteArray} (h : s.size = 1) : ∃ b : UInt8, s = ⟨#[b]⟩ := by
 obtain ⟨⟨l⟩⟩ := s
 match l, h with
 | [b], _ => exact ⟨b, rfl⟩
def ba (l : List UInt8) : ByteArray := ⟨l.toArray⟩
theorem ba_list (l : List UInt8) : (ba l).data.toList = l := by simp [ba]
theorem ba_len2 (l : List UInt8) : (ba l).size = l.length := by show l.toArray.size = _; simp
theorem ba_inj {a b : List UInt8} : ba a = ba b ↔ a = b := ⟨fun h => by rw [← ba_list a, h, ba_list], fun h => by rw [h]⟩
theorem ext_ba (s : ByteArray) (a n : Nat) : s.extract a (a + n) = ba ((s.data.toList.drop a).take n) := by
 apply ByteArray.ext; apply Array.ext'
 simp [ba, List.extract_eq_take_drop]
def begL (p : ByteArray) (l : List UInt8) : Bool := decide (l.take p.size = p.data.toList)
abbrev Sig := Int × ByteArray × Int × Nat
def atomL (k : Int) (skip : Nat) (l : List UInt8) : Option Sig := match nameL l with
 | none => none
 | some n => some (1, ba (l.take n), k, skip + n)
def plainL : List UInt8 → Option Sig
 | [] => none
 | b :: r =>
  if lttI b.toNat = true then (match nameL (b :: r) with
   | none => none
   | some n => if keyW (ba ((b :: r).take n)) = 0 then some (1, ba ((b :: r).take n), 3, n) else some (keyW (ba ((b :: r).take n)), ba [], 0, n))
  else if b.toNat = 68 then (if fineL r = true then some (1, ba [68], 0, 1) else none)
  else if b.toNat = 124 then some (4, ba [], 0, 1)
  else if b.toNat = 40 then some (6, ba [], 0, 1)
  else if b.toNat = 41 then some (7, ba [], 0, 1)
  else if digI b.toNat = true then (if numW (ba ((b :: r).take (stopN digI (b :: r)))) = true ∧ fineL ((b :: r).drop (stopN digI (b :: r))) = true then some (8, ba ((b :: r).take (stopN digI (b :: r))), 0, stopN digI (b :: r)) else none)
  else if sigB b.toNat = true then some (9, ba [b], 0, 1)
  else none
def kindL (l : List UInt8) : Int := if begL (preW 1) l = true then 1 else if begL (preW 2) l = true then 2 else if begL (preW 4) l = true then 4 else if begL (preW 5) l = true then 5 else 0
def signL (l : List UInt8) : Option Sig := if kindL l = 0 then plainL l else atomL (kindL l) (preW (kindL l)).size (l.drop (preW (kindL l)).size)
def kinds : List Int := [1, 2, 4, 5]
theorem pre_ok {k : Int} (h : k ∈ kinds) : 0 < (preW k).size ∧ (preW k).size ≤ 6 ∧ ∀ b ∈ (preW k).data.toList, b.toNat < 128 := by
 unfold kinds at h
 simp only [List.mem_cons, List.not_mem_nil, or_false] at h
 rcases h with rfl | rfl | rfl | rfl <;> exact ⟨by decide, by decide, by decide⟩
theorem kinds_nz {k : Int} (h : k ∈ kinds) : k ≠ 0 := by
 unfold kinds at h
 simp only [List.mem_cons, List.not_mem_nil, or_false] at h
 omega
structure Tok where
  kind : Int
  name : ByteArray
  of : Int
  at_ : Int
def tC (t : Tok) : List AV := [.int .i64 t.kind, .str t.name, .int .i64 t.of, .int .i64 t.at_]
def toksC (l : List Tok) : List AV := l.flatMap tC
def vToks (l : List Tok) : AV := .lst .ro l.length (toksC l)
theorem frees_toks (l : List Tok) : free.frees (toksC l) = true := by
 induction l with
 | nil => rfl
 | cons x l ih => simp only [toksC, List.flatMap_cons, tC, List.cons_append, List.nil_append, free.frees, free, Bool.true_and] at ih ⊢; exact ih
theorem rdps_toks : ∀ l : List Tok, rdps (toksC l) = toksC l
 | [] => rdps_nil
 | x :: l => by
  have := rdps_toks l
  simp only [toksC, List.flatMap_cons, tC, List.cons_append, List.nil_append, rdpw] at this ⊢
  rw [this]
theorem toksC_sn (l : List Tok) (t : Tok) : toksC (l ++ [t]) = toksC l ++ [.int .i64 t.kind, .str t.name, .int .i64 t.of, .int .i64 t.at_] := by
 simp [toksC, tC]
theorem toksC_drop : ∀ {l : List Tok} {i : Nat} (h : i < l.length), (toksC l).drop (i * 4) = .int .i64 l[i].kind :: .str l[i].name :: .int .i64 l[i].of :: .int .i64 l[i].at_ :: (toksC l).drop ((i + 1) * 4)
 | [], _, h => by simp at h
 | w :: l, 0, h => by simp [toksC, tC]
 | w :: l, i + 1, h => by
  have := toksC_drop (l := l) (i := i) (by simpa using h)
  simp only [toksC, List.flatMap_cons, tC, List.cons_append, List.nil_append] at this ⊢
  rw [show (i + 1) * 4 = i * 4 + 1 + 1 + 1 + 1 by omega, show (i + 1 + 1) * 4 = (i + 1) * 4 + 1 + 1 + 1 + 1 by omega]
  simp only [List.drop_succ_cons, List.getElem_cons_succ]
  exact this
theorem nameL_ok {l : List UInt8} {n : Nat} (h : nameL l = some n) : n = stopN innI l ∧ 1 ≤ n ∧ n ≤ 24 ∧ n ≤ l.length ∧ ∃ b r, l = b :: r ∧ lttI b.toNat = true := by
 unfold nameL at h
 split at h
 ·cases h
 ·next b r =>
  split at h
  ·next hc =>
   simp only [Option.some.injEq] at h
   subst h
   have hle := stopN_le innI (b :: r)
   refine ⟨rfl, ?_, hc.2.1, hle, b, r, rfl, hc.1⟩
   have hi : innI b.toNat = true := by unfold innI; rw [hc.1]; rfl
   have := stop_more (q := innI) (l := b :: r) (n := 0) (by simp) (by omega) hi
   omega
  ·cases h
def ascii (l : List UInt8) (n : Nat) : Prop := 1 ≤ n ∧ n ≤ l.length ∧ ∀ (i : Nat) (h : i < l.length), i < n → (l[i]).toNat < 128
theorem ascii_one {b : UInt8} {r : List UInt8} (h : b.toNat < 128) : ascii (b :: r) 1 := by
 refine ⟨Nat.le_refl _, by simp, fun i hi h1 => ?_⟩
 obtain rfl : i = 0 := by omega
 exact h
theorem ascii_stop {q : Int → Bool} (hq : ∀ r, 128 ≤ r → q r = false) {l : List UInt8} (h : 1 ≤ stopN q l) : ascii l (stopN q l) := by
 refine ⟨h, stopN_le q l, fun i hi h1 => ?_⟩
 have := stopN_at hi h1
 by_cases hc : (l[i]).toNat < 128
 ·exact hc
 ·rw [hq _ (by omega)] at this; cases this
theorem plainL_ascii {l : List UInt8} {k : Int} {w : ByteArray} {o : Int} {n : Nat} (h : plainL l = some (k, w, o, n)) : ascii l n := by
 unfold plainL at h
 split at h
 ·cases h
 ·next b r =>
  have one : ∀ k' : Sig, some k' = some (k, w, o, n) → k'.2.2.2 = n := fun k' e => by simp only [Option.some.injEq] at e; rw [e]
  split at h
  ·next hlet =>
   split at h
   ·cases h
   ·next m hm =>
    obtain ⟨e1, e2, _⟩ := nameL_ok hm
    have : m = n := by
     split at h <;> exact one _ h
    subst this
    rw [e1] at e2 ⊢
    exact ascii_stop lo_inn e2
  ·split at h
   ·next h68 =>
    split at h
    ·rw [← one _ h]; exact ascii_one (by omega)
    ·cases h
   ·split at h
    ·next hc => rw [← one _ h]; exact ascii_one (by omega)
    ·split at h
     ·next hc => rw [← one _ h]; exact ascii_one (by omega)
     ·split at h
      ·next hc => rw [← one _ h]; exact ascii_one (by omega)
      ·split at h
       ·next hc =>
        split at h
        ·next hn =>
         rw [← one _ h]
         refine ascii_stop lo_dig ?_
         exact stop_more (q := digI) (l := b :: r) (n := 0) (by simp) (by omega) hc
        ·cases h
       ·split at h
        ·next hc => rw [← one _ h]; exact ascii_one (by simp [sigB] at hc; omega)
        ·cases h
theorem kindL_cases (l : List UInt8) : kindL l = 0 ∨ (kindL l ∈ kinds ∧ begL (preW (kindL l)) l = true) := by
 unfold kindL kinds
 split
 ·next h => right; exact ⟨by simp, h⟩
 ·split
  ·next h => right; exact ⟨by simp, h⟩
  ·split
   ·next h => right; exact ⟨by simp, h⟩
   ·split
    ·next h => right; exact ⟨by simp, h⟩
    ·exact .inl rfl
theorem signL_ascii {l : List UInt8} {k : Int} {w : ByteArray} {o : Int} {n : Nat} (h : signL l = some (k, w, o, n)) : ascii l n := by
 unfold signL at h
 split at h
 ·exact plainL_ascii h
 ·next hk =>
  rcases kindL_cases l with h0 | ⟨hm, hbg⟩
  ·exact absurd h0 hk
  ·obtain ⟨g1, g2, g3⟩ := pre_ok hm
   unfold atomL at h
   split at h
   ·cases h
   ·next m hn =>
    simp only [Option.some.injEq, Prod.mk.injEq] at h
    obtain ⟨_, _, _, rfl⟩ := h
    obtain ⟨e1, e2, _, e3, _⟩ := nameL_ok hn
    rw [List.length_drop] at e3
    refine ⟨by omega, by omega, fun i hi h1 => ?_⟩
    rcases Nat.lt_or_ge i (preW (kindL l)).size with h2 | h2
    ·unfold begL at hbg
     have h3 := of_decide_eq_true hbg
     refine g3 _ ?_
     rw [← h3, List.mem_iff_getElem]
     exact ⟨i, by rw [List.length_take]; omega, by rw [List.getElem_take]⟩
    ·obtain ⟨j, rfl⟩ : ∃ j, i = (preW (kindL l)).size + j := ⟨i - (preW (kindL l)).size, by omega⟩
     have hj : j < (l.drop (preW (kindL l)).size).length := by rw [List.length_drop]; omega
     have := stopN_at (q := innI) hj (by omega)
     rw [List.getElem_drop] at this
     by_cases hc : (l[(preW (kindL l)).size + j]).toNat < 128
     ·exact hc
     ·rw [lo_inn _ (by omega)] at this; cases this
abbrev Res := List Tok × Nat × Int
def blankB (b : UInt8) : Bool := b.toNat == 32 || b.toNat == 9 || b.toNat == 10
def scanF : Nat → List UInt8 → Nat → List Tok → Res
 | 0, _, _, acc => (acc, 0, 0)
 | _ + 1, [], _, acc => (acc, 0, 0)
 | f + 1, b :: r, a, acc =>
  if blankB b = true then scanF f r (a + 1) acc
  else if b.toNat = 35 then scanF f ((b :: r).drop (stopN notI (b :: r))) (a + stopN notI (b :: r)) acc
  else match signL (b :: r) with
   | none => ([], a, 2)
   | some (k, w, o, n) => if acc.length = 1000 then ([], a, 3) else scanF f ((b :: r).drop n) (a + n) (acc ++ [⟨k, w, o, a⟩])
theorem note_one {b : UInt8} {r : List UInt8} (h : b.toNat = 35) : 1 ≤ stopN notI (b :: r) := stop_more (q := notI) (l := b :: r) (n := 0) (by simp) (by omega) (by show notI b.toNat = true; rw [h]; rfl)
theorem scanF_more : ∀ (f g : Nat) (l : List UInt8) (a : Nat) (acc : List Tok), l.length ≤ f → l.length ≤ g → scanF f l a acc = scanF g l a acc
 | 0, 0, _, _, _, _, _ => rfl
 | 0, g + 1, l, a, acc, h, _ => by
  have : l = [] := List.eq_nil_of_length_eq_zero (by omega)
  subst this; rfl
 | f + 1, 0, l, a, acc, _, h => by
  have : l = [] := List.eq_nil_of_length_eq_zero (by omega)
  subst this; rfl
 | f + 1, g + 1, [], a, acc, _, _ => rfl
 | f + 1, g + 1, b :: r, a, acc, h1, h2 => by
  simp only [List.length_cons] at h1 h2
  simp only [scanF]
  split
  ·exact scanF_more f g r _ _ (by omega) (by omega)
  ·split
   ·next h => have := note_one (r := r) h; exact scanF_more f g _ _ _ (by simp; omega) (by simp; omega)
   ·split
    ·rfl
    ·next k w o n hs =>
     split
     ·rfl
     ·have := (signL_ascii hs).1
      exact scanF_more f g _ _ _ (by simp; omega) (by simp; omega)
def scan (l : List UInt8) (a : Nat) (acc : List Tok) : Res := scanF l.length l a acc
theorem scan_cons (b : UInt8) (r : List UInt8) (a : Nat) (acc : List Tok) : scan (b :: r) a acc =
  if blankB b = true then scan r (a + 1) acc
  else if b.toNat = 35 then scan ((b :: r).drop (stopN notI (b :: r))) (a + stopN notI (b :: r)) acc
  else match signL (b :: r) with
   | none => ([], a, 2)
   | some (k, w, o, n) => if acc.length = 1000 then ([], a, 3) else scan ((b :: r).drop n) (a + n) (acc ++ [⟨k, w, o, a⟩]) := by
 unfold scan
 simp only [List.length_cons, scanF]
 split
 ·rfl
 ·split
  ·next h => have := note_one (r := r) h; exact scanF_more _ _ _ _ _ (by simp; omega) (by simp)
  ·split
   ·rfl
   ·next k w o n hs =>
    split
    ·rfl
    ·have := (signL_ascii hs).1
     exact scanF_more _ _ _ _ _ (by simp; omega) (by simp)
def allT (s : ByteArray) : Res := if 4000 < s.size then ([], 0, 3) else scan s.data.toList 0 []
def resV (r : Res) : AV := .tup [vToks r.1, .int .i64 r.2.1, .int .i64 r.2.2]
theorem ascii_at {s : ByteArray} {a n : Nat} (ha : a ≤ s.size) (h : ascii (s.data.toList.drop a) n) : a + n ≤ s.size ∧ atB s (a + n) := by
 have hl := len_size s
 obtain ⟨h1, h2, h3⟩ := h
 rw [List.length_drop] at h2
 refine ⟨by omega, .inr ⟨by omega, ?_⟩⟩
 have := h3 (n - 1) (by rw [List.length_drop]; omega) (by omega)
 rw [List.getElem_drop] at this
 have e : a + n - 1 = a + (n - 1) := by omega
 simp only [e]; exact this
theorem free_resV (r : Res) : free (resV r) = true := by simp [resV, vToks, free, free.frees, frees_toks]
theorem stopN_cons {q : Int → Bool} {b : UInt8} {r : List UInt8} (h : q b.toNat = true) : stopN q (b :: r) = stopN q r + 1 := by unfold stopN; simp [h]
theorem stopN_zero {q : Int → Bool} {b : UInt8} {r : List UInt8} (h : q b.toNat = false) : stopN q (b :: r) = 0 := by unfold stopN; simp [h]
end Go.Proofs.YtedaffmkpljlnaaGreat
/- Expressions: plain laws: what the reader's stack reads of tokens is what the document's way, by the last sign that binds least, reads; what is written is read; terms as trees, told from the front and from behind; texts; what is read, written, has no more parentheses; what tokens are read as, and where they are wrong. No program in sight. -/
namespace Go.Proofs.YtedaffmkpljlnaaGreat
open Go.RowKit Go.Lib

structure Trm where
  op : Int
  of : Int
  name : ByteArray
def sgn (k : Int) : Trm := ⟨k, 0, ⟨#[]⟩⟩
def leaf (t : Tok) : Trm := ⟨1, t.of, t.name⟩
def bindK (k : Int) : Int := if k = 2 then 1 else if k = 3 then 2 else if k = 4 then 3 else if k = 5 then 4 else 0
def popL (m : Int) (w : List Int) : List Int := w.takeWhile fun k => decide (m ≤ bindK k)
def popR (m : Int) (w : List Int) : List Int := w.dropWhile fun k => decide (m ≤ bindK k)
def sstep (s : List Trm × List Int) (t : Tok) : List Trm × List Int :=
 if t.kind = 1 then (s.1 ++ [leaf t], s.2)
 else if t.kind = 6 then (s.1, 6 :: s.2)
 else if t.kind = 7 then (s.1 ++ (popL 1 s.2).map sgn, (popR 1 s.2).tail)
 else (s.1 ++ (popL (bindK t.kind) s.2).map sgn, t.kind :: popR (bindK t.kind) s.2)
def srun (l : List Tok) (s : List Trm × List Int) : List Trm × List Int := l.foldl sstep s
def readD (l : List Tok) : List Trm := (srun l ([], [])).1 ++ (popL 1 (srun l ([], [])).2).map sgn
def cstep (M : Nat) (b : Bool) (n : Nat) (az : Bool) (t : Tok) : Option (Bool × Nat) :=
 if b = false then
  (if t.kind = 1 ∧ (az = false ∨ t.of = 5) then some (true, n)
  else if t.kind = 6 ∧ az = false then (if n = M then none else some (false, n + 1))
  else none)
 else if t.kind = 7 then (if 0 < n then some (true, n - 1) else none)
 else if 0 < bindK t.kind then some (false, n)
 else none
def ctl (M : Nat) (b : Bool) (n : Nat) (az : Bool) : List Tok → Option (Bool × Nat)
 | [] => some (b, n)
 | t :: l => match cstep M b n az t with
  | none => none
  | some (b', n') => ctl M b' n' (decide (t.kind = 5)) l
def accT (M : Nat) (l : List Tok) : Prop := ctl M false 0 false l = some (true, 0)
theorem bind6 : bindK 6 = 0 := by decide
theorem bind7 : bindK 7 = 0 := by decide
theorem bind1 : bindK 1 = 0 := by decide
theorem bind_pos {k : Int} (h : 0 < bindK k) : k = 2 ∨ k = 3 ∨ k = 4 ∨ k = 5 := by
 unfold bindK at h
 split at h <;> (try split at h) <;> (try split at h) <;> (try split at h) <;> omega
theorem bind_ge (k : Int) : 0 ≤ bindK k := by
 unfold bindK
 split <;> (try split) <;> (try split) <;> (try split) <;> omega
theorem bind_ne {k : Int} (h : 0 < bindK k) : k ≠ 1 ∧ k ≠ 6 ∧ k ≠ 7 := by have := bind_pos h; omega
theorem cstep_cases {M : Nat} {b : Bool} {n : Nat} {az : Bool} {t : Tok} {b' : Bool} {n' : Nat} (h : cstep M b n az t = some (b', n')) :
  (b = false ∧ t.kind = 1 ∧ (az = false ∨ t.of = 5) ∧ b' = true ∧ n' = n) ∨ (b = false ∧ t.kind = 6 ∧ az = false ∧ n ≠ M ∧ b' = false ∧ n' = n + 1) ∨
  (b = true ∧ t.kind = 7 ∧ 0 < n ∧ b' = true ∧ n' = n - 1) ∨ (b = true ∧ 0 < bindK t.kind ∧ b' = false ∧ n' = n) := by
 unfold cstep at h
 by_cases hb : b = false
 ·rw [if_pos hb] at h
  by_cases h1 : t.kind = 1 ∧ (az = false ∨ t.of = 5)
  ·rw [if_pos h1] at h
   simp only [Option.some.injEq, Prod.mk.injEq] at h
   exact .inl ⟨hb, h1.1, h1.2, h.1.symm, h.2.symm⟩
  ·rw [if_neg h1] at h
   by_cases h2 : t.kind = 6 ∧ az = false
   ·rw [if_pos h2] at h
    by_cases h3 : n = M
    ·rw [if_pos h3] at h; cases h
    ·rw [if_neg h3] at h
     simp only [Option.some.injEq, Prod.mk.injEq] at h
     exact .inr (.inl ⟨hb, h2.1, h2.2, h3, h.1.symm, h.2.symm⟩)
   ·rw [if_neg h2] at h; cases h
 ·rw [if_neg hb] at h
  have hb : b = true := by simpa using hb
  by_cases h1 : t.kind = 7
  ·rw [if_pos h1] at h
   by_cases h2 : 0 < n
   ·rw [if_pos h2] at h
    simp only [Option.some.injEq, Prod.mk.injEq] at h
    exact .inr (.inr (.inl ⟨hb, h1, h2, h.1.symm, h.2.symm⟩))
   ·rw [if_neg h2] at h; cases h
  ·rw [if_neg h1] at h
   by_cases h2 : 0 < bindK t.kind
   ·rw [if_pos h2] at h
    simp only [Option.some.injEq, Prod.mk.injEq] at h
    exact .inr (.inr (.inr ⟨hb, h2, h.1.symm, h.2.symm⟩))
   ·rw [if_neg h2] at h; cases h
theorem ctl_cons {M : Nat} {b : Bool} {n : Nat} {az : Bool} {t : Tok} {l : List Tok} {r : Bool × Nat} (h : ctl M b n az (t :: l) = some r) : ∃ b' n', cstep M b n az t = some (b', n') ∧ ctl M b' n' (decide (t.kind = 5)) l = some r := by
 simp only [ctl] at h
 cases hc : cstep M b n az t with
 | none => rw [hc] at h; cases h
 | some x => obtain ⟨b', n'⟩ := x; rw [hc] at h; exact ⟨b', n', rfl, h⟩
def lowsOk (m : Int) : Nat → List Tok → Prop
 | _, [] => True
 | n, t :: l => if t.kind = 6 then lowsOk m (n + 1) l else if t.kind = 7 then lowsOk m (n - 1) l else (n = 0 → 0 < bindK t.kind → m ≤ bindK t.kind) ∧ lowsOk m n l
def geOk (m : Int) : List Int → Prop
 | [] => True
 | k :: P => (P.count 6 = 0 → k ≠ 6 → m ≤ bindK k) ∧ geOk m P
theorem geOk_popR {m q : Int} : ∀ {P : List Int}, geOk m P → geOk m (popR q P)
 | [], _ => trivial
 | a :: P, ⟨h1, h2⟩ => by
  unfold popR
  rw [List.dropWhile_cons]
  split
  ·exact geOk_popR h2
  ·exact ⟨h1, h2⟩
theorem pop_app {q : Int} (hq : 0 < q) : ∀ (P : List Int) (base : List Int), (6 ∈ P ∨ ∀ k ∈ base.head?, bindK k < q) → popL q (P ++ base) = popL q P ∧ popR q (P ++ base) = popR q P ++ base
 | [], base, h => by
  rcases h with h | h
  ·simp at h
  ·cases base with
   | nil => simp [popL, popR]
   | cons a r =>
    have : ¬ q ≤ bindK a := by have := h a (by simp); omega
    simp [popL, popR, this]
 | a :: P, base, h => by
  by_cases ha : q ≤ bindK a
  ·have h' : 6 ∈ P ∨ ∀ k ∈ base.head?, bindK k < q := by
    rcases h with h | h
    ·rcases List.mem_cons.1 h with rfl | h
     ·rw [bind6] at ha; omega
     ·exact .inl h
    ·exact .inr h
   obtain ⟨i1, i2⟩ := pop_app hq P base h'
   simp only [popL, popR] at i1 i2 ⊢
   simp [ha, i1, i2]
  ·simp [popL, popR, ha]
theorem popR_count {q : Int} (hq : 0 < q) : ∀ P : List Int, (popR q P).count 6 = P.count 6
 | [] => rfl
 | a :: P => by
  unfold popR
  rw [List.dropWhile_cons]
  split
  ·next h =>
   have : a ≠ 6 := fun e => by subst e; simp [bind6] at h; omega
   rw [List.count_cons, if_neg (by simpa using this)]
   exact popR_count hq P
  ·rfl
theorem popR_close : ∀ {P : List Int}, 0 < P.count 6 → (∀ k ∈ P, k = 6 ∨ 0 < bindK k) → ∃ R, popR 1 P = 6 :: R ∧ R.count 6 + 1 = P.count 6
 | [], h, _ => by simp at h
 | a :: P, h, hs => by
  unfold popR
  rw [List.dropWhile_cons]
  by_cases ha : a = 6
  ·subst ha
   rw [if_neg (by simp [bind6])]
   exact ⟨P, rfl, by rw [List.count_cons]; simp⟩
  ·have hb : 0 < bindK a := (hs a (by simp)).resolve_left ha
   rw [if_pos (by simp; omega)]
   rw [List.count_cons, if_neg (by simpa using ha)] at h ⊢
   exact popR_close h (fun k hk => hs k (by simp [hk]))
theorem popR_mem {q : Int} {P : List Int} {k : Int} (h : k ∈ popR q P) : k ∈ P := (List.dropWhile_suffix _).subset h
theorem frame {M : Nat} {base : List Int} {m : Int} (hm : 0 < m) (hb : ∀ k ∈ base.head?, bindK k < m) : ∀ (l : List Tok) (b : Bool) (n : Nat) (az : Bool) (r : Bool × Nat) (out A : List Trm) (P : List Int), ctl M b n az l = some r → lowsOk m n l → P.count 6 = n → (∀ k ∈ P, k = 6 ∨ 0 < bindK k) → geOk m P →
  srun l (out ++ A, P ++ base) = (out ++ (srun l (A, P)).1, (srun l (A, P)).2 ++ base) ∧ (srun l (A, P)).2.count 6 = r.2 ∧ (∀ k ∈ (srun l (A, P)).2, k = 6 ∨ 0 < bindK k) ∧ geOk m (srun l (A, P)).2
 | [], b, n, az, r, out, A, P, hc, _, hn, hs, hg => by
  simp only [ctl, Option.some.injEq] at hc
  subst hc
  exact ⟨rfl, hn, hs, hg⟩
 | t :: l, b, n, az, r, out, A, P, hc, hl, hn, hs, hg => by
  obtain ⟨b', n', h1, h2⟩ := ctl_cons hc
  have go : ∀ (A' : List Trm) (P' : List Int), sstep (A, P) t = (A', P') → sstep (out ++ A, P ++ base) t = (out ++ A', P' ++ base) → lowsOk m n' l → P'.count 6 = n' → (∀ k ∈ P', k = 6 ∨ 0 < bindK k) → geOk m P' →
    srun (t :: l) (out ++ A, P ++ base) = (out ++ (srun (t :: l) (A, P)).1, (srun (t :: l) (A, P)).2 ++ base) ∧ (srun (t :: l) (A, P)).2.count 6 = r.2 ∧ (∀ k ∈ (srun (t :: l) (A, P)).2, k = 6 ∨ 0 < bindK k) ∧ geOk m (srun (t :: l) (A, P)).2 := by
   intro A' P' e1 e2 q1 q2 q3 q4
   have := frame hm hb l b' n' _ r out A' P' h2 q1 q2 q3 q4
   simp only [srun, List.foldl_cons, e1, e2] at this ⊢
   exact this
  simp only [lowsOk] at hl
  rcases cstep_cases h1 with ⟨_, k1, _, _, rfl⟩ | ⟨_, k1, _, _, _, rfl⟩ | ⟨_, k1, hpos, _, rfl⟩ | ⟨_, k1, _, rfl⟩
  ·rw [k1, if_neg (by decide), if_neg (by decide)] at hl
   refine go (A ++ [leaf t]) P ?_ ?_ hl.2 hn hs hg
   ·unfold sstep; rw [if_pos k1]
   ·unfold sstep; rw [if_pos k1]; simp
  ·rw [if_pos k1] at hl
   refine go A (6 :: P) ?_ ?_ hl ?_ ?_ ⟨fun _ h => absurd rfl h, hg⟩
   ·unfold sstep; rw [if_neg (by omega), if_pos k1]
   ·unfold sstep; rw [if_neg (by omega), if_pos k1]; rfl
   ·rw [List.count_cons, hn]; simp
   ·intro k hk
    rcases List.mem_cons.1 hk with rfl | hk
    ·exact .inl rfl
    ·exact hs k hk
  ·rw [if_neg (by omega), if_pos k1] at hl
   obtain ⟨R, e1, e2⟩ := popR_close (P := P) (by omega) hs
   have h6 : 6 ∈ P := List.count_pos_iff.1 (by omega)
   obtain ⟨p1, p2⟩ := pop_app (q := 1) (by decide) P base (.inl h6)
   refine go (A ++ (popL 1 P).map sgn) R ?_ ?_ hl (by omega) ?_ ?_
   ·unfold sstep; rw [if_neg (by omega), if_neg (by omega), if_pos k1]; simp [e1]
   ·unfold sstep; rw [if_neg (by omega), if_neg (by omega), if_pos k1, p1, p2]; simp [e1]
   ·intro k hk
    exact hs k (popR_mem (q := 1) (by rw [e1]; simp [hk]))
   ·have := geOk_popR (q := 1) hg
    rw [e1] at this
    exact this.2
  ·obtain ⟨n1, n6, n7⟩ := bind_ne k1
   rw [if_neg n6, if_neg n7] at hl
   have hor : 6 ∈ P ∨ ∀ k ∈ base.head?, bindK k < bindK t.kind := by
    by_cases h0 : P.count 6 = 0
    ·exact .inr fun k hk => by have := hb k hk; have := hl.1 (by omega) k1; omega
    ·exact .inl (List.count_pos_iff.1 (by omega))
   obtain ⟨p1, p2⟩ := pop_app (q := bindK t.kind) k1 P base hor
   refine go (A ++ (popL (bindK t.kind) P).map sgn) (t.kind :: popR (bindK t.kind) P) ?_ ?_ hl.2 ?_ ?_ ⟨fun h0 _ => ?_, geOk_popR hg⟩
   ·unfold sstep; rw [if_neg n1, if_neg n6, if_neg n7]
   ·unfold sstep; rw [if_neg n1, if_neg n6, if_neg n7, p1, p2]; simp
   ·rw [List.count_cons, popR_count k1, if_neg (by simpa using n6)]; omega
   ·intro k hk
    rcases List.mem_cons.1 hk with rfl | hk
    ·exact .inr k1
    ·exact hs k (popR_mem hk)
   ·rw [popR_count k1] at h0
    exact hl.1 (by omega) k1

inductive Xp where
  | atm (t : Trm)
  | op (k : Int) (a b : Xp)
namespace Xp
def post : Xp → List Trm
 | .atm t => [t]
 | .op k a b => a.post ++ (b.post ++ [sgn k])
def deep : Xp → Int
 | .atm _ => 1
 | .op _ a b => (if a.deep < b.deep then b.deep else a.deep) + 1
def okE (wr : Trm → Bool) : Xp → Prop
 | .atm t => t.op = 1 ∧ wr t = true
 | .op k a b => 0 < bindK k ∧ (k = 5 → ∃ t, b = .atm t ∧ t.of = 5) ∧ a.okE wr ∧ b.okE wr
end Xp
namespace Xp
end Xp
def Xp.role : Xp → Bool
 | .atm t => decide (t.of = 5)
 | .op _ _ _ => false
theorem role_iff (e : Xp) : e.role = true ↔ ∃ t, e = .atm t ∧ t.of = 5 := by
 cases e with
 | atm t => simp [Xp.role]
 | op k a b => simp [Xp.role]
def stepX (wr : Trm → Bool) (t : Trm) (st : List Xp) : Option (List Xp) :=
 if t.op = 1 then (if wr t = true then some (.atm t :: st) else none)
 else if 0 < bindK t.op ∧ t.of = 0 ∧ t.name = ⟨#[]⟩ then (match st with
  | b :: a :: r => if t.op = 5 ∧ b.role = false then none else some (.op t.op a b :: r)
  | _ => none)
 else none
def runX (wr : Trm → Bool) : List Trm → List Xp → Option (List Xp)
 | [], st => some st
 | t :: l, st => match stepX wr t st with
  | none => none
  | some st' => runX wr l st'
theorem runX_post {wr : Trm → Bool} : ∀ (e : Xp) (l : List Trm) (st : List Xp), e.okE wr → runX wr (e.post ++ l) st = runX wr l (e :: st)
 | .atm t, l, st, ⟨h1, h2⟩ => by
  simp only [Xp.post, List.cons_append, List.nil_append, runX, stepX]
  rw [if_pos h1, if_pos h2]
 | .op k a b, l, st, ⟨hk, h5, oa, ob⟩ => by
  simp only [Xp.post, List.append_assoc]
  rw [runX_post a _ _ oa, runX_post b _ _ ob]
  simp only [List.cons_append, List.nil_append, runX, stepX]
  rw [if_neg (show ¬ (sgn k).op = 1 from (bind_ne hk).1), if_pos (show 0 < bindK (sgn k).op ∧ (sgn k).of = 0 ∧ (sgn k).name = ⟨#[]⟩ from ⟨hk, rfl, rfl⟩)]
  have : ¬ ((sgn k).op = 5 ∧ b.role = false) := fun ⟨h, hr⟩ => by
   have := (role_iff b).2 (h5 h)
   rw [this] at hr; cases hr
  try simp only
  rw [if_neg this]
  try rfl
def stp (st : List Xp) : List Trm := st.reverse.flatMap Xp.post
theorem stp_cons (e : Xp) (st : List Xp) : stp (e :: st) = stp st ++ e.post := by simp [stp]
theorem sgn_eta {t : Trm} (h1 : t.of = 0) (h2 : t.name = ⟨#[]⟩) : sgn t.op = t := by
 cases t; simp only at h1 h2; subst h1; subst h2; rfl
theorem runX_ok {wr : Trm → Bool} : ∀ (l : List Trm) (st st' : List Xp), runX wr l st = some st' → (∀ e ∈ st, e.okE wr) → (∀ e ∈ st', e.okE wr) ∧ stp st' = stp st ++ l
 | [], st, st', h, ho => by
  simp only [runX, Option.some.injEq] at h
  subst h
  exact ⟨ho, by simp⟩
 | t :: l, st, st', h, ho => by
  simp only [runX] at h
  cases hs : stepX wr t st with
  | none => rw [hs] at h; cases h
  | some s1 =>
   rw [hs] at h
   simp only [stepX] at hs
   by_cases h1 : t.op = 1
   ·rw [if_pos h1] at hs
    by_cases h2 : wr t = true
    ·rw [if_pos h2] at hs
     simp only [Option.some.injEq] at hs
     subst hs
     obtain ⟨q1, q2⟩ := runX_ok l _ _ h (fun e he => by
      rcases List.mem_cons.1 he with rfl | he
      ·exact ⟨h1, h2⟩
      ·exact ho e he)
     exact ⟨q1, by rw [q2, stp_cons]; simp [Xp.post]⟩
    ·rw [if_neg h2] at hs; cases hs
   ·rw [if_neg h1] at hs
    by_cases h2 : 0 < bindK t.op ∧ t.of = 0 ∧ t.name = ⟨#[]⟩
    ·rw [if_pos h2] at hs
     cases st with
     | nil => cases hs
     | cons b st =>
      cases st with
      | nil => cases hs
      | cons a r =>
       simp only at hs
       by_cases h3 : t.op = 5 ∧ b.role = false
       ·rw [if_pos h3] at hs; cases hs
       ·rw [if_neg h3] at hs
        simp only [Option.some.injEq] at hs
        subst hs
        obtain ⟨q1, q2⟩ := runX_ok l _ _ h (fun e he => by
         rcases List.mem_cons.1 he with rfl | he
         ·refine ⟨h2.1, fun h5 => ?_, ho a (by simp), ho b (by simp)⟩
          refine (role_iff b).1 ?_
          cases hr : b.role with
          | true => rfl
          | false => exact absurd ⟨h5, hr⟩ h3
         ·exact ho e (by simp [he]))
        refine ⟨q1, ?_⟩
        rw [q2, stp_cons, stp_cons, stp_cons]
        simp only [Xp.post, sgn_eta h2.2.1 h2.2.2]
        simp
    ·rw [if_neg h2] at hs; cases hs
def treeX (wr : Trm → Bool) (x : List Trm) : Option Xp := match runX wr x [] with
 | some [e] => some e
 | _ => none
theorem treeX_iff {wr : Trm → Bool} {x : List Trm} {e : Xp} : treeX wr x = some e ↔ e.okE wr ∧ x = e.post := by
 constructor
 ·intro h
  unfold treeX at h
  split at h
  ·next e' hr =>
   simp only [Option.some.injEq] at h
   subst h
   obtain ⟨q1, q2⟩ := runX_ok x [] _ hr (by simp)
   exact ⟨q1 _ (by simp), by rw [stp_cons] at q2; simpa [stp] using q2.symm⟩
  ·cases h
 ·rintro ⟨h, rfl⟩
  have := runX_post e [] [] h
  rw [List.append_nil] at this
  unfold treeX
  rw [this]
  rfl
abbrev Prt := Int × Int × Int
inductive Reps (x : List Trm) (l : List Prt) : Nat → Xp → Prop where
  | atm (i : Nat) (t : Trm) (p : Prt) : x[i]? = some t → l[i]? = some p → p.2.2 = 1 → Reps x l i (.atm t)
  | op (i j m : Nat) (k : Int) (a b : Xp) : x[i]? = some (sgn k) → l[i]? = some ((j : Int), (m : Int), (Xp.op k a b).deep) → j < i → m < i → Reps x l j a → Reps x l m b → Reps x l i (.op k a b)
theorem Reps.deep {x : List Trm} {l : List Prt} {i : Nat} {e : Xp} (h : Reps x l i e) : ∃ p, l[i]? = some p ∧ p.2.2 = e.deep := by
 cases h with
 | atm t p h1 h2 h3 => exact ⟨_, by assumption, by assumption⟩
 | op j m k a b h1 h2 h3 h4 h5 h6 => exact ⟨_, by assumption, rfl⟩
theorem Reps.set {x : List Trm} {l : List Prt} {q : Nat} {p : Prt} : ∀ {i : Nat} {e : Xp}, Reps x l i e → i < q → Reps x (l.set q p) i e
 | _, _, .atm i t p' h1 h2 h3, hi => .atm i t p' h1 (by rw [List.getElem?_set_ne (by omega)]; exact h2) h3
 | _, _, .op i j m k a b h1 h2 hj hm ha hb, hi => .op i j m k a b h1 (by rw [List.getElem?_set_ne (by omega)]; exact h2) hj hm (Reps.set ha (by omega)) (Reps.set hb (by omega))
theorem runX_snoc {wr : Trm → Bool} {t : Trm} : ∀ {l : List Trm} {st : List Xp}, runX wr (l ++ [t]) st = match runX wr l st with
  | none => none
  | some s => stepX wr t s
 | [], st => by
  simp only [List.nil_append, runX]
  cases stepX wr t st <;> rfl
 | u :: l, st => by
  simp only [List.cons_append, runX]
  cases stepX wr u st with
  | none => rfl
  | some s => exact runX_snoc
theorem deep_pos : ∀ e : Xp, 1 ≤ e.deep
 | .atm _ => Int.le_refl _
 | .op _ a b => by
  have := deep_pos a
  have := deep_pos b
  simp only [Xp.deep]
  split <;> omega
theorem deep_le : ∀ e : Xp, e.deep ≤ e.post.length
 | .atm _ => by simp [Xp.deep, Xp.post]
 | .op _ a b => by
  have := deep_le a
  have := deep_le b
  simp only [Xp.deep, Xp.post, List.length_append, List.length_cons, List.length_nil]
  split <;> omega
def isPar (t : Tok) : Bool := decide (t.kind = 6) || decide (t.kind = 7)
def others (l : List Tok) : List (Int × ByteArray × Int) := (l.filter fun t => !isPar t).map fun t => (t.kind, t.name, t.of)
def ctlE (M : Nat) : Nat → Bool → Nat → Bool → List Tok → (Nat × Int) ⊕ (Bool × Nat)
 | _, b, n, _, [] => .inr (b, n)
 | i, b, n, az, t :: l => match cstep M b n az t with
  | none => .inl (i, if b = false ∧ t.kind = 6 ∧ az = false then 3 else 2)
  | some (b', n') => ctlE M (i + 1) b' n' (decide (t.kind = 5)) l
theorem ctlE_ok {M : Nat} : ∀ (l : List Tok) (i : Nat) (b : Bool) (n : Nat) (az : Bool) (r : Bool × Nat), ctlE M i b n az l = .inr r ↔ ctl M b n az l = some r
 | [], i, b, n, az, r => by simp [ctlE, ctl]
 | t :: l, i, b, n, az, r => by
  simp only [ctlE, ctl]
  cases cstep M b n az t with
  | none => simp
  | some x => exact ctlE_ok l _ _ _ _ _
theorem ctlE_lt {M : Nat} : ∀ (l : List Tok) (i : Nat) (b : Bool) (n : Nat) (az : Bool) (j : Nat) (e : Int), ctlE M i b n az l = .inl (j, e) → i ≤ j ∧ j < i + l.length ∧ (e = 2 ∨ e = 3)
 | [], i, b, n, az, j, e, h => by simp [ctlE] at h
 | t :: l, i, b, n, az, j, e, h => by
  simp only [ctlE] at h
  rw [List.length_cons]
  cases hc : cstep M b n az t with
  | none =>
   rw [hc] at h
   simp only [Sum.inl.injEq, Prod.mk.injEq] at h
   obtain ⟨rfl, rfl⟩ := h
   refine ⟨Nat.le_refl _, by omega, ?_⟩
   split <;> simp
  | some x =>
   obtain ⟨b', n'⟩ := x
   rw [hc] at h
   have := ctlE_lt l _ _ _ _ _ _ h
   omega
def readR (wd : Tok → Bool) (l : List Tok) : List Trm × Nat × Int :=
 match l.findIdx? (fun t => !wd t) with
 | some i => ([], i, 2)
 | none => match ctlE 100 0 false 0 false l with
  | .inl (i, e) => ([], i, e)
  | .inr (b, n) => if b = false ∨ 0 < n then ([], l.length, 2) else if 200 < (readD l).length then ([], l.length, 3) else (readD l, 0, 0)
theorem readR_ok {wd : Tok → Bool} {l : List Tok} (h : (readR wd l).2.2 = 0) : (∀ t ∈ l, wd t = true) ∧ accT 100 l ∧ (readD l).length ≤ 200 ∧ readR wd l = (readD l, 0, 0) := by
 unfold readR at h ⊢
 cases hf : l.findIdx? (fun t => !wd t) with
 | some i => rw [hf] at h; cases h
 | none =>
  rw [hf] at h
  simp only at h ⊢
  have hw : ∀ t ∈ l, wd t = true := fun t ht => by
   have := List.findIdx?_eq_none_iff.1 hf t ht
   simpa using this
  cases hc : ctlE 100 0 false 0 false l with
  | inl x =>
   obtain ⟨i, e⟩ := x
   rw [hc] at h
   have := (ctlE_lt _ _ _ _ _ _ _ hc).2.2
   simp only at h
   omega
  | inr x =>
   obtain ⟨b, n⟩ := x
   rw [hc] at h
   simp only at h ⊢
   by_cases h1 : b = false ∨ 0 < n
   ·rw [if_pos h1] at h; cases h
   ·rw [if_neg h1] at h ⊢
    by_cases h2 : 200 < (readD l).length
    ·rw [if_pos h2] at h; cases h
    ·rw [if_neg h2]
     simp only [not_or, Bool.not_eq_false, Nat.not_lt, Nat.le_zero] at h1
     obtain ⟨rfl, rfl⟩ := h1
     exact ⟨hw, (ctlE_ok _ _ _ _ _ _).1 hc, by omega, rfl⟩
theorem readR_acc {wd : Tok → Bool} {l : List Tok} (hw : ∀ t ∈ l, wd t = true) : readR wd l = match ctlE 100 0 false 0 false l with
  | .inl (i, e) => ([], i, e)
  | .inr (b, n) => if b = false ∨ 0 < n then ([], l.length, 2) else if 200 < (readD l).length then ([], l.length, 3) else (readD l, 0, 0) := by
 unfold readR
 rw [List.findIdx?_eq_none_iff.2 (fun t ht => by simp [hw t ht])]
end Go.Proofs.YtedaffmkpljlnaaGreat
/- Expressions: the reader, token by token: it takes just what may stand there (plain). -/
namespace Go.Proofs.YtedaffmkpljlnaaGreat
open Go.RowKit Go.Lib

structure Rdr where
  out : List Trm
  w : List Int
  opn : Nat
  beh : Bool
def takeR (r : Rdr) (t : Tok) : Int ⊕ Rdr :=
 if r.beh = false then
  if t.kind = 1 then (if r.w.headD 0 = 5 ∧ t.of ≠ 5 then .inl 2 else .inr ⟨r.out ++ [leaf t], r.w, r.opn, true⟩)
  else if t.kind = 6 ∧ r.w.headD 0 ≠ 5 then (if r.opn = 100 then .inl 3 else .inr ⟨r.out, 6 :: r.w, r.opn + 1, false⟩)
  else .inl 2
 else if 0 < bindK t.kind then .inr ⟨r.out ++ (popL (bindK t.kind) r.w).map sgn, t.kind :: popR (bindK t.kind) r.w, r.opn, false⟩
 else if t.kind = 7 then (if r.opn = 0 then .inl 2 else .inr ⟨r.out ++ (popL 1 r.w).map sgn, (popR 1 r.w).tail, r.opn - 1, true⟩)
 else .inl 2
def rinv (az : Bool) (r : Rdr) : Prop := r.beh = false → (az = true ↔ r.w.headD 0 = 5)
theorem takeR_eq {az : Bool} {r : Rdr} {t : Tok} (h : rinv az r) : takeR r t = match cstep 100 r.beh r.opn az t with
  | none => .inl (if r.beh = false ∧ t.kind = 6 ∧ az = false then 3 else 2)
  | some (b', n') => .inr ⟨(sstep (r.out, r.w) t).1, (sstep (r.out, r.w) t).2, n', b'⟩ := by
 obtain ⟨out, w, n, b⟩ := r
 unfold takeR cstep sstep
 simp only at h ⊢
 cases b with
 | false =>
  have h := h rfl
  simp only at h
  by_cases k1 : t.kind = 1
  ·have k6 : ¬ t.kind = 6 := by omega
   by_cases ho : t.of = 5 <;> by_cases hw : w.headD 0 = 5 <;> cases az <;> simp_all
  ·by_cases k6 : t.kind = 6
   ·by_cases hw : w.headD 0 = 5 <;> by_cases hn : n = 100 <;> cases az <;> simp_all
   ·by_cases hw : w.headD 0 = 5 <;> cases az <;> simp_all
 | true =>
  by_cases kb : 0 < bindK t.kind
  ·obtain ⟨n1, n6, n7⟩ := bind_ne kb
   simp [kb, n1, n6, n7]
  ·by_cases k7 : t.kind = 7
   ·by_cases hn : n = 0
    ·simp [k7, hn, bind7]
    ·simp [k7, hn, bind7, Nat.pos_of_ne_zero hn]
   ·simp [kb, k7]
theorem rinv_step {az : Bool} {r : Rdr} {t : Tok} {b' : Bool} {n' : Nat} (h : cstep 100 r.beh r.opn az t = some (b', n')) : rinv (decide (t.kind = 5)) ⟨(sstep (r.out, r.w) t).1, (sstep (r.out, r.w) t).2, n', b'⟩ := by
 intro hb
 simp only at hb
 rcases cstep_cases h with ⟨_, k, _, rfl, _⟩ | ⟨_, k, _, _, rfl, _⟩ | ⟨_, k, _, rfl, _⟩ | ⟨_, k, rfl, _⟩
 ·cases hb
 ·simp [sstep, k]
 ·cases hb
 ·obtain ⟨n1, n6, n7⟩ := bind_ne k
  simp [sstep, n1, n6, n7]
def runR : Nat → Rdr → List Tok → (Nat × Int) ⊕ Rdr
 | _, r, [] => .inr r
 | i, r, t :: l => match takeR r t with
  | .inl e => .inl (i, e)
  | .inr r' => runR (i + 1) r' l
theorem runR_eq : ∀ (l : List Tok) (i : Nat) (az : Bool) (r : Rdr), rinv az r → runR i r l = match ctlE 100 i r.beh r.opn az l with
  | .inl x => .inl x
  | .inr (b, n) => .inr ⟨(srun l (r.out, r.w)).1, (srun l (r.out, r.w)).2, n, b⟩
 | [], i, az, r, h => rfl
 | t :: l, i, az, r, h => by
  simp only [runR, ctlE, takeR_eq h]
  cases hc : cstep 100 r.beh r.opn az t with
  | none => rfl
  | some x =>
   obtain ⟨b', n'⟩ := x
   simp only
   rw [runR_eq l (i + 1) _ _ (rinv_step hc)]
   rfl
def rcnt (r : Rdr) : Prop := r.w.count 6 = r.opn ∧ ∀ k ∈ r.w, k = 6 ∨ 0 < bindK k
theorem rcnt_take {r r' : Rdr} {t : Tok} (h : rcnt r) (ht : takeR r t = .inr r') : rcnt r' := by
 obtain ⟨out, w, n, b⟩ := r
 obtain ⟨h1, h2⟩ := h
 simp only at h1 h2
 unfold takeR at ht
 simp only at ht
 split at ht
 ·split at ht
  ·split at ht
   ·cases ht
   ·simp only [Sum.inr.injEq] at ht
    subst ht
    exact ⟨h1, h2⟩
  ·split at ht
   ·split at ht
    ·cases ht
    ·simp only [Sum.inr.injEq] at ht
     subst ht
     refine ⟨by simp [h1], fun k hk => ?_⟩
     rcases List.mem_cons.1 hk with rfl | hk
     ·exact .inl rfl
     ·exact h2 k hk
   ·cases ht
 ·split at ht
  ·next kb =>
   simp only [Sum.inr.injEq] at ht
   subst ht
   refine ⟨?_, fun k hk => ?_⟩
   ·show List.count 6 (t.kind :: popR (bindK t.kind) w) = n
    rw [List.count_cons, popR_count kb, if_neg (by simpa using (bind_ne kb).2.1)]; omega
   ·rcases List.mem_cons.1 hk with rfl | hk
    ·exact .inr kb
    ·exact h2 k (popR_mem hk)
  ·split at ht
   ·split at ht
    ·cases ht
    ·next hn =>
     simp only [Sum.inr.injEq] at ht
     subst ht
     obtain ⟨R, e1, e2⟩ := popR_close (P := w) (by omega) h2
     refine ⟨?_, fun k hk => ?_⟩
     ·show List.count 6 (popR 1 w).tail = n - 1
      rw [e1, List.tail_cons]; omega
     ·have hk : k ∈ (popR 1 w).tail := hk
      exact h2 k (popR_mem (q := 1) (List.mem_of_mem_tail hk))
   ·cases ht
end Go.Proofs.YtedaffmkpljlnaaGreat
