/- Texts of one proof, laid together: Ab14 Ak Az Aw FnD FnS Ab15 Ab16 Ab17 FnP Pw Sa Ra Po Pi Pj. -/
import Derived.Test.YtpiofcjkekpboaaMA9
import Derived.Test.YtpiofcjkekpboaaProg
import Derived.Test.YtpiofcjkekpboaaMA2
import Derived.Test.YtpiofcjkekpboaaMA7
set_option maxRecDepth 100000
set_option maxHeartbeats 16000000

set_option linter.unusedSimpArgs false
set_option linter.unusedVariables false
/- The abstract layer, fifteenth part: how code is walked. -/
namespace Go.Proofs.Ytpiofcjkekpboaa
open Go.RowKit Go.Lib

section
variable (P : Program)
theorem W_skip (fr : Fr) (h : Hp) (Q : Exit → Fr → Hp → Prop) : W P .skip fr h Q = Q .normal fr h := id rfl
theorem W_ops (l : List AStm) (fr : Fr) (h : Hp) (Q : Exit → Fr → Hp → Prop) : W P (.ops l) fr h Q = WOps P l fr h (Q .normal) := id rfl
theorem W_draw (v : List Nat) (l : List AStm) (fr : Fr) (h : Hp) (Q : Exit → Fr → Hp → Prop) : W P (.draw v l) fr h Q = VOps P l fr h (kdraw v Q) := id rfl
theorem W_seq (a b : ACode) (fr : Fr) (h : Hp) (Q : Exit → Fr → Hp → Prop) : W P (.seq a b) fr h Q = W P a fr h (kseq P b Q) := id rfl
theorem W_cond (c : Opd) (a b : ACode) (fr : Fr) (h : Hp) (Q : Exit → Fr → Hp → Prop) : W P (.cond c a b) fr h Q = match ev fr c with
  | some (.bool p) => (p = true → W P a fr h Q) ∧ (p = false → W P b fr h Q)
  | _ => False := id rfl
theorem W_block (i : Nat) (a : ACode) (fr : Fr) (h : Hp) (Q : Exit → Fr → Hp → Prop) : W P (.block i a) fr h Q = W P a fr h (kblock i Q) := id rfl
theorem W_exit (i : Nat) (fr : Fr) (h : Hp) (Q : Exit → Fr → Hp → Prop) : W P (.exit i) fr h Q = Q (.exit i) fr h := id rfl
theorem W_ret (fr : Fr) (h : Hp) (Q : Exit → Fr → Hp → Prop) : W P .ret fr h Q = Q .ret fr h := id rfl
theorem W_keep (l : List Nat) (a : ACode) (fr : Fr) (h : Hp) (Q : Exit → Fr → Hp → Prop) : W P (.keep l a) fr h Q = W P a (restr l fr) h Q := id rfl
theorem W_loop {P : Program} {vars : List Nat} {a : ACode} {fr : Fr} {h : Hp} {Q : Exit → Fr → Hp → Prop} (I : Nat → Fr → Hp → Prop) (n : Nat) (h0 : I n (restr vars fr) h) (hr : ∀ n fr h, I n fr h → W P a fr h (kloop vars I n Q)) : W P (.loop vars a) fr h Q := ⟨I, ⟨n, h0⟩, hr⟩
theorem kseq_normal (b : ACode) (Q : Exit → Fr → Hp → Prop) (fr : Fr) (h : Hp) : kseq P b Q .normal fr h = W P b fr h Q := id rfl
theorem kseq_exit (b : ACode) (Q : Exit → Fr → Hp → Prop) (i : Nat) (fr : Fr) (h : Hp) : kseq P b Q (.exit i) fr h = Q (.exit i) fr h := id rfl
theorem kseq_ret (b : ACode) (Q : Exit → Fr → Hp → Prop) (fr : Fr) (h : Hp) : kseq P b Q .ret fr h = Q .ret fr h := id rfl
theorem kblock_normal (i : Nat) (Q : Exit → Fr → Hp → Prop) (fr : Fr) (h : Hp) : kblock i Q .normal fr h = Q .normal fr h := id rfl
theorem kblock_exit (i j : Nat) (Q : Exit → Fr → Hp → Prop) (fr : Fr) (h : Hp) : kblock i Q (.exit j) fr h = if j = i then Q .normal fr h else Q (.exit j) fr h := id rfl
theorem kblock_ret (i : Nat) (Q : Exit → Fr → Hp → Prop) (fr : Fr) (h : Hp) : kblock i Q .ret fr h = Q .ret fr h := id rfl
theorem kloop_normal (v : List Nat) (I : Nat → Fr → Hp → Prop) (n : Nat) (Q : Exit → Fr → Hp → Prop) (fr : Fr) (h : Hp) : kloop v I n Q .normal fr h = ∃ m, m < n ∧ I m (restr v fr) h := id rfl
theorem kloop_exit (v : List Nat) (I : Nat → Fr → Hp → Prop) (n : Nat) (Q : Exit → Fr → Hp → Prop) (i : Nat) (fr : Fr) (h : Hp) : kloop v I n Q (.exit i) fr h = Q (.exit i) fr h := id rfl
theorem kloop_ret (v : List Nat) (I : Nat → Fr → Hp → Prop) (n : Nat) (Q : Exit → Fr → Hp → Prop) (fr : Fr) (h : Hp) : kloop v I n Q .ret fr h = Q .ret fr h := id rfl
theorem kret_normal (rs : List RV) (R : AV → Hp → Prop) (fr : Fr) (h : Hp) : kret rs R .normal fr h = resL fr h rs (res1 (fun a => R a h)) := id rfl
theorem kret_ret (rs : List RV) (R : AV → Hp → Prop) (fr : Fr) (h : Hp) : kret rs R .ret fr h = resL fr h rs (res1 (fun a => R a h)) := id rfl
theorem W_drax (v : List Nat) (a : List AStm) (d : Option Nat) (o : AOp) (b : List AStm) (fr : Fr) (h : Hp) (Q : Exit → Fr → Hp → Prop) : W P (.drax v a d o b) fr h Q = VOps P a fr h (kdrax P v d o b Q) := id rfl
theorem kdrax_eq (v : List Nat) (d : Option Nat) (o : AOp) (b : List AStm) (Q : Exit → Fr → Hp → Prop) (fr : Fr) (h : Hp) : kdrax P v d o b Q fr h = (fOk fr b ∧ wop P d o fr h (kvops P b (kdraw v Q))) := id rfl
theorem fOk_nil (fr : Fr) : fOk fr [] = True := id rfl
theorem fOk_fld (d : Option Nat) (i : Nat) (x : Opd) (r : List AStm) (fr : Fr) : fOk fr (⟨d, none, .fld i x, none⟩ :: r) = (match ev fr x with
  | some (.ptr _ _) => fOk fr r
  | _ => False) := id rfl
theorem fOk_mv (d : Option Nat) (x : Opd) (r : List AStm) (fr : Fr) : fOk fr (⟨d, none, .mv x, none⟩ :: r) = fOk fr r := id rfl
theorem fOk_ext (d : Option Nat) (i : Nat) (x : Opd) (r : List AStm) (fr : Fr) : fOk fr (⟨d, none, .ext i x, none⟩ :: r) = fOk fr r := id rfl
theorem fOk_store (d : Option Nat) (n : Nat) (a x : Opd) (r : List AStm) (fr : Fr) : fOk fr (⟨d, none, .store n a x, none⟩ :: r) = fOk fr r := id rfl
theorem kdraw_eq (v : List Nat) (Q : Exit → Fr → Hp → Prop) (fr : Fr) (h : Hp) : kdraw v Q fr h = Q .normal (restr v fr) h := id rfl
theorem kval_eq (d : Option Nat) (fr : Fr) (h : Hp) (K : Fr → Hp → Prop) (a : AV) : kval d fr h K a = K (put d a fr) h := id rfl
theorem kv_eq (h : Hp) (R : AV → Hp → Prop) (a : AV) : kv h R a = R a h := id rfl
theorem kput_eq (d : Option Nat) (o : AOp) (fr : Fr) (K : Fr → Hp → Prop) (a : AV) (h : Hp) : kput d o fr K a h = K (put d a (tk o fr)) h := id rfl
theorem kbox_eq (d : Option Nat) (fr : Fr) (h : Hp) (K : Fr → Hp → Prop) (l : List AV) : kbox d fr h K l = K (put d (.ptr h.length 0) fr) (h ++ [some (false, l)]) := id rfl
theorem kobj_eq (h : Hp) (R : AV → Hp → Prop) (l : List AV) : kobj h R l = R (.ptr h.length 0) (h ++ [some (false, l)]) := id rfl
theorem klst_eq (d : Option Nat) (e n : Nat) (fr : Fr) (h : Hp) (K : Fr → Hp → Prop) (l : List AV) : klst d e n fr h K l = K (put d (.lst (.own e) n l) fr) h := id rfl
theorem krow_eq (e n : Nat) (h : Hp) (R : AV → Hp → Prop) (l : List AV) : krow e n h R l = R (.lst (.own e) n l) h := id rfl
theorem kcall_eq (d : Option Nat) (fr : Fr) (K : Fr → Hp → Prop) (a : AV) (h : Hp) : kcall d fr K a h = K (put d a fr) h := id rfl
theorem put_some (k : Nat) (a : AV) (fr : Fr) : put (some k) a fr = (k, a) :: fr := id rfl
theorem put_none (a : AV) (fr : Fr) : put none a fr = fr := id rfl
theorem lk_nil (k : Nat) : lk [] k = none := id rfl
theorem restr_nil (fr : Fr) : restr [] fr = [] := id rfl
theorem restr_cons (k : Nat) (r : List Nat) (fr : Fr) : restr (k :: r) fr = match lk fr k with
  | some a => (k, a) :: restr r fr
  | none => restr r fr := id rfl
theorem ev_t (fr : Fr) (k : Nat) : ev fr (.t k) = (lk fr k).map deg := id rfl
theorem ev_c (fr : Fr) (a : AV) : ev fr (.c a) = some a := id rfl
theorem ev_f (fr : Fr) (i : FuncId) : ev fr (.f i) = some (.fn i []) := id rfl
theorem evs_nil (fr : Fr) : evs fr [] = some [] := id rfl
theorem evs_cons (fr : Fr) (x : Opd) (r : List Opd) : evs fr (x :: r) = match ev fr x, evs fr r with
  | some a, some l => some (a :: l)
  | _, _ => none := id rfl
theorem evD_none (fr : Fr) (d : AV) : evD fr d none = some d := id rfl
theorem evD_some (fr : Fr) (d : AV) (x : Opd) : evD fr d (some x) = ev fr x := id rfl
theorem degr_nil (k : Nat) : degr k [] = [] := id rfl
theorem degr_cons (k j : Nat) (a : AV) (r : Fr) : degr k ((j, a) :: r) = (j, if j = k then deg a else a) :: degr k r := id rfl
theorem args0_nil (k : Nat) : args0 k [] = [] := id rfl
theorem args0_cons (k : Nat) (a : AV) (l : List AV) : args0 k (a :: l) = (k, a) :: args0 (k + 1) l := id rfl
theorem buildK_nil (fr : Fr) (t : List AV) (K : List AV → Prop) : buildK fr t [] K = K t := id rfl
theorem buildK_cons (fr : Fr) (t : List AV) (o s : Nat) (x : Opd) (r : List (Nat × Nat × Opd)) (K : List AV → Prop) : buildK fr t ((o, s, x) :: r) K = match ev fr x with
  | some a => (isTup a = false ∧ (cellsOf a).length = s ∧ o + s ≤ t.length) ∧ buildK fr (splice t o (cellsOf a)) r K
  | none => False := id rfl
theorem upgK_nil (l : List AV) (K : List AV → Prop) : upgK [] l K = K l := id rfl
theorem upgK_cons (i e s : Nat) (r : List (Nat × Nat × Nat)) (l : List AV) (K : List AV → Prop) : upgK ((i, e, s) :: r) l K = match l[i]? with
  | some (.lst .clip n c) => c.length = n * s ∧ upgK r (l.set i (.lst (.own e) n c)) K
  | _ => False := id rfl
theorem resL_nil (fr : Fr) (h : Hp) (K : List AV → Prop) : resL fr h [] K = K [] := id rfl
theorem resL_t (fr : Fr) (h : Hp) (k : Nat) (r : List RV) (K : List AV → Prop) : resL fr h (.t k :: r) K = match ev fr (.t k) with
  | some a => resL fr h r (fun l => K (a :: l))
  | none => False := id rfl
theorem resL_c (fr : Fr) (h : Hp) (k : Nat) (s : Option Nat) (r : List RV) (K : List AV → Prop) : resL fr h (.c k s :: r) K = val fr h (.load s (.t k)) (fun a => resL fr h r (fun l => K (a :: l))) := id rfl
theorem res1_one (K : AV → Prop) (a : AV) : res1 K [a] = K a := id rfl
theorem res1_nil (K : AV → Prop) : res1 K [] = K (.tup []) := id rfl
theorem res1_two (K : AV → Prop) (a b : AV) (l : List AV) : res1 K (a :: b :: l) = K (.tup (a :: b :: l)) := id rfl
end

theorem lk_cons' (j k : Nat) (a : AV) (r : Fr) : lk ((j, a) :: r) k = if j = k then some a else lk r k := id rfl
theorem splice_nil' {α : Type} (l : List α) (o : Nat) : splice l o [] = l := id rfl
theorem splice_cons' {α : Type} (l : List α) (o : Nat) (v : α) (r : List α) : splice l o (v :: r) = splice (l.set o v) (o + 1) r := id rfl
theorem WOps_nil' (P : Program) (fr : Fr) (h : Hp) (K : Fr → Hp → Prop) : WOps P [] fr h K = K fr h := id rfl
theorem WOps_cons' (P : Program) (d : Option Nat) (o : AOp) (f : Option (FB × List Nat)) (r : List AStm) (fr : Fr) (h : Hp) (K : Fr → Hp → Prop) : WOps P (⟨d, none, o, f⟩ :: r) fr h K = wop P d o fr h (kops P r K) := id rfl
theorem WOps_gd' (P : Program) (d : Option Nat) (q : Nat) (want : Bool) (o : AOp) (f : Option (FB × List Nat)) (r : List AStm) (fr : Fr) (h : Hp) (K : Fr → Hp → Prop) : WOps P (⟨d, some (q, want), o, f⟩ :: r) fr h K = match lk fr q with
      | some (.bool p) => (p = want → wop P d o ((q, .bool want) :: fr) h (kops P r K)) ∧ (p = !want → WOps P r (put d (.tup []) ((q, .bool (!want)) :: fr)) h K)
      | some (.tup []) => WOps P r (put d (.tup []) fr) h K
      | _ => False := id rfl
theorem kops_eq' (P : Program) (r : List AStm) (K : Fr → Hp → Prop) (fr : Fr) (h : Hp) : kops P r K fr h = WOps P r fr h K := id rfl
theorem VOps_nil' (P : Program) (fr : Fr) (h : Hp) (K : Fr → Hp → Prop) : VOps P [] fr h K = K fr h := id rfl
theorem VOps_cons' (P : Program) (d : Option Nat) (o : AOp) (r : List AStm) (fr : Fr) (h : Hp) (K : Fr → Hp → Prop) : VOps P (⟨d, none, o, none⟩ :: r) fr h K = eff P o fr h (kput d o fr (kvops P r K)) := id rfl
theorem VOps_gd' (P : Program) (d : Option Nat) (q : Nat) (want : Bool) (o : AOp) (r : List AStm) (fr : Fr) (h : Hp) (K : Fr → Hp → Prop) : VOps P (⟨d, some (q, want), o, none⟩ :: r) fr h K = match lk fr q with
      | some (.bool p) => (p = want → eff P o ((q, .bool want) :: fr) h (kput d o ((q, .bool want) :: fr) (kvops P r K))) ∧ (p = !want → VOps P r (put d (.tup []) ((q, .bool (!want)) :: fr)) h K)
      | some (.tup []) => VOps P r (put d (.tup []) fr) h K
      | _ => False := id rfl
theorem VOps_ft' (P : Program) (d : Option Nat) (o : AOp) (b : FB) (ps : List Nat) (r : List AStm) (fr : Fr) (h : Hp) (K : Fr → Hp → Prop) : VOps P (⟨d, none, o, some (b, ps)⟩ :: r) fr h K = (apart fr (fbId b fr h) ps ∧ effF P b o fr h (kput d o fr (kvops P r K))) := id rfl
theorem VOps_gdft' (P : Program) (d : Option Nat) (q : Nat) (want : Bool) (o : AOp) (b : FB) (ps : List Nat) (r : List AStm) (fr : Fr) (h : Hp) (K : Fr → Hp → Prop) : VOps P (⟨d, some (q, want), o, some (b, ps)⟩ :: r) fr h K = match lk fr q with
      | some (.bool p) => (p = want → apart ((q, .bool want) :: fr) (fbId b ((q, .bool want) :: fr) h) ps ∧ effF P b o ((q, .bool want) :: fr) h (kput d o ((q, .bool want) :: fr) (kvops P r K))) ∧ (p = !want → VOps P r (put d (.tup []) ((q, .bool (!want)) :: fr)) h K)
      | some (.tup []) => VOps P r (put d (.tup []) fr) h K
      | _ => False := id rfl
theorem apart_nil (fr : Fr) (i : Option Nat) : apart fr i [] = True := id rfl
theorem apart_cons (fr : Fr) (i : Option Nat) (p : Nat) (r : List Nat) : apart fr i (p :: r) = ((match i, ptrId (lk fr p) with
  | some a, some b => a ≠ b
  | _, _ => False) ∧ apart fr i r) := id rfl
theorem ptrId_ptr (i o : Nat) : ptrId (some (.ptr i o)) = some i := id rfl
theorem ptrId_hs (i n : Nat) : ptrId (some (.hs i n)) = some i := id rfl
theorem sameId_eq (x : Option AV) (i : Option Nat) : sameId x i = (match ptrId x, i with
 | some a, some b => a = b
 | _, _ => False) := id rfl
theorem fbId_s (k : Nat) (fr : Fr) (h : Hp) : fbId (.s k) fr h = ptrId (lk fr k) := id rfl
theorem fbId_h (k : Nat) (fr : Fr) (h : Hp) : fbId (.h k) fr h = if k < h.length then some (h.length - 1 - k) else none := id rfl
theorem effF_load (P : Program) (b : FB) (s : Option Nat) (x : Opd) (fr : Fr) (h : Hp) (R : AV → Hp → Prop) : effF P b (.load s x) fr h R = (sameId (ev fr x) (fbId b fr h) ∧ eff P (.load s x) fr h R) := id rfl
theorem effF_loado (P : Program) (b : FB) (x : Opd) (fr : Fr) (h : Hp) (R : AV → Hp → Prop) : effF P b (.loado x) fr h R = (sameId (ev fr x) (fbId b fr h) ∧ eff P (.loado x) fr h R) := id rfl
theorem effF_store (P : Program) (b : FB) (n : Nat) (a x : Opd) (fr : Fr) (h : Hp) (R : AV → Hp → Prop) : effF P b (.store n a x) fr h R = (sameId (ev fr a) (fbId b fr h) ∧ eff P (.store n a x) fr h R) := id rfl
theorem effF_stores (P : Program) (b : FB) (n : Nat) (a x : Opd) (fr : Fr) (h : Hp) (R : AV → Hp → Prop) : effF P b (.stores n a x) fr h R = (sameId (ev fr a) (fbId b fr h) ∧ eff P (.stores n a x) fr h R) := id rfl
theorem effF_storeo (P : Program) (b : FB) (a : Opd) (k : Nat) (fr : Fr) (h : Hp) (R : AV → Hp → Prop) : effF P b (.storeo a k) fr h R = (sameId (ev fr a) (fbId b fr h) ∧ eff P (.storeo a k) fr h R) := id rfl
theorem effF_calli (P : Program) (b : FB) (f : Opd) (args : List Opd) (fr : Fr) (h : Hp) (R : AV → Hp → Prop) : effF P b (.calli f args) fr h R = (match ev fr f, evs fr args, fbId b fr h with
  | some (.fn f' caps), some l, some id => ∃ v l0 l1, h[id]? = some (some (false, l0)) ∧ (∀ h0 : Hp, h0[id]? = some (some (false, l0)) → ACalls P f' (l ++ caps) h0 (fun a h' => a = v ∧ h' = h0.set id (some (false, l1)))) ∧ R v (h.set id (some (false, l1)))
  | _, _, _ => False) := id rfl
theorem effF_new (P : Program) (b : FB) (l : List AV) (u : List (Nat × Nat × Nat)) (fr : Fr) (h : Hp) (R : AV → Hp → Prop) : effF P b (.new l u) fr h R = (match fbId b fr h with
  | some id => h[id]? = some none ∧ upgK u l (fun l' => R (.ptr id 0) (h.set id (some (false, l'))))
  | none => False) := id rfl
theorem effF_box (P : Program) (b : FB) (x : Opd) (u : List (Nat × Nat × Nat)) (fr : Fr) (h : Hp) (R : AV → Hp → Prop) : effF P b (.box x u) fr h R = (match fbId b fr h, ev fr x with
  | some id, some a => h[id]? = some none ∧ isTup a = false ∧ upgK u (cellsOf a) (fun l' => R (.ptr id 0) (h.set id (some (false, l'))))
  | _, _ => False) := id rfl
theorem effF_mkn (P : Program) (b : FB) (e s y : Nat) (z : List AV) (c : Opd) (fr : Fr) (h : Hp) (R : AV → Hp → Prop) : effF P b (.mkn e s y z c) fr h R = (match fbId b fr h, ev fr c with
  | some id, some (.int _ n) => h[id]? = some none ∧ (0 ≤ n ∧ y * n ≤ 140737488355328 ∧ n ≤ 9223372036854775807) ∧ R (.hs id n.toNat) (h.set id (some (false, (List.range (n.toNat * s)).map fun i => z.getD (i % s) .nilp)))
  | _, _ => False) := id rfl
theorem W_scope (P : Program) (a : ACode) (fr : Fr) (h : Hp) (Q : Exit → Fr → Hp → Prop) : W P (.scope a) fr h Q = W P a fr h (kscope Q) := id rfl
theorem W_dead (P : Program) (fr : Fr) (h : Hp) (Q : Exit → Fr → Hp → Prop) : W P .dead fr h Q = False := id rfl
theorem kscope_normal (Q : Exit → Fr → Hp → Prop) (fr : Fr) (h : Hp) : kscope Q .normal fr h = Q .normal fr h := id rfl
theorem kscope_exit (Q : Exit → Fr → Hp → Prop) (i : Nat) (fr : Fr) (h : Hp) : kscope Q (.exit i) fr h = Q (.exit i) fr h := id rfl
theorem kscope_ret (Q : Exit → Fr → Hp → Prop) (fr : Fr) (h : Hp) : kscope Q .ret fr h = Q .ret fr h := id rfl
theorem W_holes (P : Program) (m : Nat) (a : ACode) (fr : Fr) (h : Hp) (Q : Exit → Fr → Hp → Prop) : W P (.holes m a) fr h Q = W P a fr (h ++ List.replicate m none) Q := id rfl
theorem rep2 : List.replicate 2 (none : Option (Bool × List AV)) = [none, none] := id rfl
theorem rep3 : List.replicate 3 (none : Option (Bool × List AV)) = [none, none, none] := id rfl
theorem kvops_eq' (P : Program) (r : List AStm) (K : Fr → Hp → Prop) (fr : Fr) (h : Hp) : kvops P r K fr h = VOps P r fr h K := id rfl
theorem frees_str : ∀ l : List ByteArray, free.frees (l.map AV.str) = true
 | [] => rfl
 | _ :: l => by simp [free.frees, free, frees_str l]
theorem frees_u8 : ∀ l : List UInt8, free.frees (l.map fun b => AV.int .u8 b.toNat) = true
 | [] => rfl
 | _ :: l => by simp [free.frees, free, frees_u8 l]
theorem frees_u16 : ∀ l : List Nat, free.frees (l.map fun (b : Nat) => AV.int .u16 (b : Int)) = true
 | [] => rfl
 | _ :: l => by simp [free.frees, free, frees_u16 l]
theorem inR_of {z : Int} (h1 : -9223372036854775808 ≤ z) (h2 : z ≤ 9223372036854775807) : inR z := ⟨h1, h2⟩
theorem ACalls.use {P : Program} {f : FuncId} {args : List AV} {h : Hp} {R R' : AV → Hp → Prop} (hc : ACalls P f args h R) (hr : ∀ a h', R a h' → R' a h') : ACalls P f args h R' := hc.mono hr
theorem mixed : Try.prog.follows .mixedOrders = true := by kernel_rfl
def ro : AV → AV
 | .lst .clip n l => .lst .ro n l
 | a => a
theorem Rep.ro {g : Gh} {v : Value} {a : AV} (h : Rep g v a) : Rep g v (ro a) := by
 cases h with
 | lst b off n c f vs l h1 h2 h3 h4 h5 => cases f with
  | clip => exact .lst b off n c .ro vs l h1 h2 h3 (fun h => by cases h) h5
  | _ => exact .lst b off n c _ vs l h1 h2 h3 h4 h5
 | lst0 a c f h => cases f with
  | clip => exact .lst0 a c .ro (fun h => by cases h)
  | _ => exact .lst0 a c _ h
 | itr b s p => exact .itr _ _ _
 | omp b ks vs => exact .omp b ks vs
 | mp b => exact .mp b
 | fmp b obj ks vs h1 h2 => exact .fmp b obj ks vs h1 h2
 | stk a c e o l h1 h2 h3 => exact .stk a c e o l h1 h2 h3
 | raw a n c h1 h2 => exact .raw a n c h1 h2
 | rawp b i n c => exact .rawp b i n c
 | opq v h h' => exact .opq _ h h'
 | frn v Q S W0 h h' h3 h4 => exact .frn _ Q S W0 h h' h3 h4
 | _ => first | exact .bool _ | exact .int _ _ | exact .str _ | exact .nilp | (exact .ptr _ _ _ ‹_›) | (exact .fp _ _ _ _ ‹_› ‹_› ‹_›) | (exact .hs _ _ _ _ ‹_› ‹_›) | (exact .hsc _ _ _ _ ‹_› ‹_›) | (exact .agg _ _ ‹_› ‹_› ‹_›) | (exact .tup _ _ ‹_› ‹_›) | (exact .fn _ _ _ ‹_› ‹_›) | (exact .fnb _ _ _ ‹_› ‹_›) | exact .nilf
theorem RepL.ro {g : Gh} : ∀ {vs : List Value} {l : List AV}, RepL g vs l → RepL g vs (l.map ro)
 | _, _, .nil => .nil
 | _, _, .cons h hl => .cons h.ro (RepL.ro hl)
theorem plain_ro {a : AV} (h : plain a = true) : plain (ro a) = true := by
 cases a with
 | lst f n l => cases f <;> first | rfl | exact h
 | _ => exact h
def rod : AV → AV
 | .tup l => .tup (l.map ro)
 | a => ro a
theorem Rep.rod {g : Gh} {v : Value} {a : AV} (h : Rep g v a) : Rep g v (rod a) := by
 cases h with
 | tup vs l h1 h2 => exact .tup vs _ (fun a ha => by obtain ⟨b, hb, rfl⟩ := List.mem_map.1 ha; exact plain_ro (h1 b hb)) h2.ro
 | lst b off n c f vs l h1 h2 h3 h4 h5 => exact (Rep.lst b off n c f vs l h1 h2 h3 h4 h5).ro
 | lst0 a c f h => exact (Rep.lst0 a c f h).ro
 | itr b s p => exact .itr _ _ _
 | omp b ks vs => exact .omp b ks vs
 | mp b => exact .mp b
 | fmp b obj ks vs h1 h2 => exact .fmp b obj ks vs h1 h2
 | stk a c e o l h1 h2 h3 => exact .stk a c e o l h1 h2 h3
 | raw a n c h1 h2 => exact .raw a n c h1 h2
 | rawp b i n c => exact .rawp b i n c
 | opq v h h' => exact .opq _ h h'
 | frn v Q S W0 h h' h3 h4 => exact .frn _ Q S W0 h h' h3 h4
 | _ => first | exact .bool _ | exact .int _ _ | exact .str _ | exact .nilp | (exact .ptr _ _ _ ‹_›) | (exact .fp _ _ _ _ ‹_› ‹_› ‹_›) | (exact .hs _ _ _ _ ‹_› ‹_›) | (exact .hsc _ _ _ _ ‹_› ‹_›) | (exact .agg _ _ ‹_› ‹_› ‹_›) | (exact .fn _ _ _ ‹_› ‹_›) | (exact .fnb _ _ _ ‹_› ‹_›) | exact .nilf
theorem plain_rod {a : AV} (h : plain a = true) : plain (rod a) = true := by
 cases a with
 | lst f n l => exact plain_ro h
 | _ => first | rfl | exact h
theorem ACalls.weak {P : Program} {f : FuncId} {args : List AV} {h : Hp} {R : AV → Hp → Prop} (hc : ACalls P f args h (fun a h' => R (Go.Proofs.Ytpiofcjkekpboaa.rod a) h')) : ACalls P f args h R :=
 ⟨hc.1, fun g w vargs h1 h2 h3 h4 => (hc.2 g w vargs h1 h2 h3 h4).mono fun _ _ ⟨x, a, h', g', q1, q2, q3, q4, q5, q6, q7⟩ => ⟨x, _, h', g', q1, q2, q3, q4, q5.rod, plain_rod q6, q7⟩⟩
theorem rod_ro (n : Nat) (l : List AV) : rod (.lst .ro n l) = .lst .ro n l := id rfl
mutual
def rdp : AV → AV
  | .lst .clip n l => .lst .ro n (rdps l)
  | .lst f n l => .lst f n (rdps l)
  | .agg l => .agg (rdps l)
  | .tup l => .tup (rdps l)
  | .fp l => .fp (rdps l)
  | .fn f l => .fn f (rdps l)
  | .fnb f l => .fnb f (rdps l)
  | a => a
def rdps : List AV → List AV
  | [] => []
  | a :: l => rdp a :: rdps l
end
theorem plain_rdp (a : AV) (h : plain a = true) : plain (rdp a) = true := by
 cases a with
 | lst f n l => cases f <;> first | (simp [plain] at h; done) | simp [rdp, plain]
 | itr s p => simp [plain] at h
 | omp b ks vs => simp [plain] at h
 | stk e o l => simp [plain] at h
 | _ => simp [rdp, plain]
theorem plains_rdp : ∀ {l : List AV}, plains l → plains (rdps l)
 | [], _ => by intro a ha; simp [rdps] at ha
 | a :: l, h => by
  intro b hb
  simp only [rdps, List.mem_cons] at hb
  rcases hb with rfl | hb
  ·exact plain_rdp a (h a (by simp))
  ·exact plains_rdp (fun x hx => h x (by simp [hx])) b hb
mutual
theorem Rep.rdp {g : Gh} : ∀ {v : Value} {a : AV}, Rep g v a → Rep g v (rdp a)
  | _, _, .bool b => by simp only [Go.Proofs.Ytpiofcjkekpboaa.rdp]; exact .bool b
  | _, _, .int k n => by simp only [Go.Proofs.Ytpiofcjkekpboaa.rdp]; exact .int k n
  | _, _, .str s => by simp only [Go.Proofs.Ytpiofcjkekpboaa.rdp]; exact .str s
  | _, _, .nilp => by simp only [Go.Proofs.Ytpiofcjkekpboaa.rdp]; exact .nilp
  | _, _, .ptr id off b h => by simp only [Go.Proofs.Ytpiofcjkekpboaa.rdp]; exact .ptr id off b h
  | _, _, .fp b off vs l h hp hl => by simp only [Go.Proofs.Ytpiofcjkekpboaa.rdp]; exact .fp b off vs _ h (plains_rdp hp) (RepL.rdp hl)
  | _, _, .lst b off n c .clip vs l h hp h1 h2 hl => by simp only [Go.Proofs.Ytpiofcjkekpboaa.rdp]; exact .lst b off n c .ro vs _ h (plains_rdp hp) h1 (fun e => by cases e) (RepL.rdp hl)
  | _, _, .lst b off n c .ro vs l h hp h1 h2 hl => by simp only [Go.Proofs.Ytpiofcjkekpboaa.rdp]; exact .lst b off n c .ro vs _ h (plains_rdp hp) h1 (fun e => by cases e) (RepL.rdp hl)
  | _, _, .lst b off n c (.own e) vs l h hp h1 h2 hl => by simp only [Go.Proofs.Ytpiofcjkekpboaa.rdp]; exact .lst b off n c (.own e) vs _ h (plains_rdp hp) h1 (fun e => by cases e) (RepL.rdp hl)
  | _, _, .lst0 a c .clip h => by simp only [Go.Proofs.Ytpiofcjkekpboaa.rdp, rdps]; exact .lst0 a c .ro (fun e => by cases e)
  | _, _, .lst0 a c .ro h => by simp only [Go.Proofs.Ytpiofcjkekpboaa.rdp, rdps]; exact .lst0 a c .ro (fun e => by cases e)
  | _, _, .lst0 a c (.own e) h => by simp only [Go.Proofs.Ytpiofcjkekpboaa.rdp, rdps]; exact .lst0 a c (.own e) (fun e => by cases e)
  | _, _, .hs id b n c h h1 => by simp only [Go.Proofs.Ytpiofcjkekpboaa.rdp]; exact .hs id b n c h h1
  | _, _, .hsc id b n c h h1 => by simp only [Go.Proofs.Ytpiofcjkekpboaa.rdp]; exact .hsc id b n c h h1
  | _, _, .agg vs l h hp hl => by simp only [Go.Proofs.Ytpiofcjkekpboaa.rdp]; exact .agg vs _ h (plains_rdp hp) (RepL.rdp hl)
  | _, _, .tup vs l hp hl => by simp only [Go.Proofs.Ytpiofcjkekpboaa.rdp]; exact .tup vs _ (plains_rdp hp) (RepL.rdp hl)
  | _, _, .fn f vs l hp hl => by simp only [Go.Proofs.Ytpiofcjkekpboaa.rdp]; exact .fn f vs _ (plains_rdp hp) (RepL.rdp hl)
  | _, _, .fnb f vs l hp hl => by simp only [Go.Proofs.Ytpiofcjkekpboaa.rdp]; exact .fnb f vs _ (plains_rdp hp) (RepL.rdp hl)
  | _, _, .nilf => by simp only [Go.Proofs.Ytpiofcjkekpboaa.rdp]; exact .nilf
  | _, _, .opq v h h' => by simp only [Go.Proofs.Ytpiofcjkekpboaa.rdp]; exact .opq v h h'
  | _, _, .frn v Q S W0 h h' h3 h4 => by simp only [Go.Proofs.Ytpiofcjkekpboaa.rdp]; exact .frn v Q S W0 h h' h3 h4
  | _, _, .itr b s p => by simp only [Go.Proofs.Ytpiofcjkekpboaa.rdp]; exact .itr b s p
  | _, _, .omp b ks vs => by simp only [Go.Proofs.Ytpiofcjkekpboaa.rdp]; exact .omp b ks vs
  | _, _, .mp b => by simp only [Go.Proofs.Ytpiofcjkekpboaa.rdp]; exact .mp b
  | _, _, .fmp b obj ks vs h1 h2 => by simp only [Go.Proofs.Ytpiofcjkekpboaa.rdp]; exact .fmp b obj ks vs h1 h2
  | _, _, .stk a c e o l h1 h2 h3 => by simp only [Go.Proofs.Ytpiofcjkekpboaa.rdp]; exact .stk a c e o l h1 h2 h3
  | _, _, .raw a m c h1 h2 => by simp only [Go.Proofs.Ytpiofcjkekpboaa.rdp]; exact .raw a m c h1 h2
  | _, _, .rawp b i m c => by simp only [Go.Proofs.Ytpiofcjkekpboaa.rdp]; exact .rawp b i m c
theorem RepL.rdp {g : Gh} : ∀ {vs : List Value} {l : List AV}, RepL g vs l → RepL g vs (rdps l)
  | _, _, .nil => by simp only [rdps]; exact .nil
  | _, _, .cons h hl => by simp only [rdps]; exact .cons (Rep.rdp h) (RepL.rdp hl)
end
theorem ACalls.deep {P : Program} {f : FuncId} {args : List AV} {h : Hp} {R : AV → Hp → Prop} (hc : ACalls P f args h (fun a h' => R (rdp a) h')) : ACalls P f args h R :=
 ⟨hc.1, fun g w vargs h1 h2 h3 h4 => (hc.2 g w vargs h1 h2 h3 h4).mono fun _ _ ⟨x, a, h', g', q1, q2, q3, q4, q5, q6, q7⟩ => ⟨x, _, h', g', q1, q2, q3, q4, q5.rdp, plain_rdp _ q6, q7⟩⟩
theorem ACalls.argd {P : Program} {f : FuncId} {args : List AV} {h : Hp} {R : AV → Hp → Prop} (hc : ACalls P f (rdps args) h R) : ACalls P f args h R :=
 ⟨hc.1, fun g w vargs h1 h2 h3 h4 => hc.2 g w vargs h1 h2 h3.rdp (plains_rdp h4)⟩
mutual
theorem free_rdp : ∀ a : AV, free (rdp a) = free a
  | .lst .clip n l => by simp only [rdp, free, frees_rdp l]
  | .lst .ro n l => by simp only [rdp, free, frees_rdp l]
  | .lst (.own e) n l => by simp only [rdp, free, frees_rdp l]
  | .agg l => by simp only [rdp, free, frees_rdp l]
  | .tup l => by simp only [rdp, free, frees_rdp l]
  | .fp l => by simp only [rdp, free, frees_rdp l]
  | .fn f l => by simp only [rdp, free, frees_rdp l]
  | .fnb f l => by simp only [rdp, free, frees_rdp l]
  | .bool _ => by simp only [rdp]
  | .int _ _ => by simp only [rdp]
  | .str _ => by simp only [rdp]
  | .nilp => by simp only [rdp]
  | .ptr _ _ => by simp only [rdp]
  | .hs _ _ => by simp only [rdp]
  | .hsc _ _ _ => by simp only [rdp]
  | .nilf => by simp only [rdp]
  | .opq => by simp only [rdp]
  | .frn _ => by simp only [rdp]
  | .itr _ _ => by simp only [rdp]
  | .omp _ _ _ => by simp only [rdp]
  | .mp _ => by simp only [rdp]
  | .fmp _ _ => by simp only [rdp]
  | .stk _ _ _ => by simp only [rdp]
  | .raw _ _ => by simp only [rdp]
  | .rawp _ _ => by simp only [rdp]
theorem frees_rdp : ∀ l : List AV, free.frees (rdps l) = free.frees l
  | [] => rfl
  | a :: l => by simp only [rdps, free.frees, free_rdp a, frees_rdp l]
end
theorem PCalls.argd {P : Program} {f : FuncId} {args : List AV} {v : AV} (hc : PCalls P f (rdps args) v) : PCalls P f args v :=
 ⟨by rw [← frees_rdp]; exact hc.1, hc.2.1, ACalls.argd hc.2.2⟩
theorem rdps_nil : rdps [] = [] := by simp only [rdps]
theorem rdps_cons (a : AV) (l : List AV) : rdps (a :: l) = rdp a :: rdps l := by simp only [rdps]
theorem rdp_bool (b : Bool) : rdp (.bool b) = .bool b := by simp only [rdp]
theorem rdp_int (k : IntKind) (n : Int) : rdp (.int k n) = .int k n := by simp only [rdp]
theorem rdp_str (s : ByteArray) : rdp (.str s) = .str s := by simp only [rdp]
theorem rdp_nilp : rdp .nilp = .nilp := by simp only [rdp]
theorem rdp_hs (i n : Nat) : rdp (.hs i n) = .hs i n := by simp only [rdp]
theorem rdp_hsc (i n c : Nat) : rdp (.hsc i n c) = .hsc i n c := by simp only [rdp]
theorem rdp_ptr (i n : Nat) : rdp (.ptr i n) = .ptr i n := by simp only [rdp]
theorem rdp_ro (n : Nat) (l : List AV) : rdp (.lst .ro n l) = .lst .ro n (rdps l) := by simp only [rdp]
theorem rdp_clip (n : Nat) (l : List AV) : rdp (.lst .clip n l) = .lst .ro n (rdps l) := by simp only [rdp]
theorem rdp_agg (l : List AV) : rdp (.agg l) = .agg (rdps l) := by simp only [rdp]
theorem rdp_tup (l : List AV) : rdp (.tup l) = .tup (rdps l) := by simp only [rdp]
theorem rdps_str : ∀ l : List ByteArray, rdps (l.map .str) = l.map .str
 | [] => rdps_nil
 | a :: l => by simp only [List.map_cons, rdps_cons, rdp_str, rdps_str l]
theorem rdpw : type_of% (And.intro @rdps_nil (And.intro @rdps_cons (And.intro @rdp_bool (And.intro @rdp_int (And.intro @rdp_str (And.intro @rdp_nilp (And.intro @rdp_hs (And.intro @rdp_hsc (And.intro @rdp_ptr (And.intro @rdp_ro (And.intro @rdp_clip (And.intro @rdp_agg (And.intro @rdp_tup @rdps_str))))))))))))) :=
 And.intro @rdps_nil (And.intro @rdps_cons (And.intro @rdp_bool (And.intro @rdp_int (And.intro @rdp_str (And.intro @rdp_nilp (And.intro @rdp_hs (And.intro @rdp_hsc (And.intro @rdp_ptr (And.intro @rdp_ro (And.intro @rdp_clip (And.intro @rdp_agg (And.intro @rdp_tup @rdps_str))))))))))))
theorem valL (fr : Fr) (h : Hp) (s : Option Nat) (x : Opd) (K : AV → Prop) : val fr h (.load s x) K = (match ev fr x with
  | some (.ptr id off) => (match h[id]? with
   | some (some (_, l)) => loadK s (l.drop off) K
   | _ => False)
  | some (.fp l) => loadK s l K
  | _ => False) := id rfl
def low (n : Nat) : AV → Bool
 | .ptr i _ => decide (i < n)
 | .hs i _ => decide (i < n)
 | .hsc i _ _ => decide (i < n)
 | .fp l | .lst _ _ l | .agg l | .tup l | .fn _ l | .fnb _ l => lows l
 | _ => true
where lows : List AV → Bool
  | [] => true
  | a :: l => low n a && lows l
def Gh.cut (g : Gh) (n : Nat) : Gh := { g with io := fun i => if i < n then g.io i else none }
theorem cut_io {g : Gh} {n i b : Nat} (h : (g.cut n).io i = some b) : g.io i = some b ∧ i < n := by
 simp only [Gh.cut] at h
 split at h
 ·next hi => exact ⟨h, hi⟩
 ·cases h
theorem io_cut {g : Gh} {n i b : Nat} (h : g.io i = some b) (hi : i < n) : (g.cut n).io i = some b := by
 simp only [Gh.cut, if_pos hi]; exact h
mutual
theorem Rep.cut {g : Gh} (n : Nat) : ∀ {v : Value} {a : AV}, Rep g v a → low n a = true → Rep (g.cut n) v a
  | _, _, .bool b, _ => .bool b
  | _, _, .int k m, _ => .int k m
  | _, _, .str s, _ => .str s
  | _, _, .nilp, _ => .nilp
  | _, _, .ptr id off b h, hl => .ptr id off b (io_cut h (by simpa [low] using hl))
  | _, _, .fp b off vs l h hp hr, hl => .fp b off vs l h hp (RepL.cut n hr (by simpa [low] using hl))
  | _, _, .lst b off m c f vs l h hp h1 h2 hr, hl => .lst b off m c f vs l h hp h1 h2 (RepL.cut n hr (by simpa [low] using hl))
  | _, _, .lst0 a c f h, _ => .lst0 a c f h
  | _, _, .hs id b m c h h1, hl => .hs id b m c (io_cut h (by simpa [low] using hl)) h1
  | _, _, .hsc id b m c h h1, hl => .hsc id b m c (io_cut h (by simpa [low] using hl)) h1
  | _, _, .agg vs l h hp hr, hl => .agg vs l h hp (RepL.cut n hr (by simpa [low] using hl))
  | _, _, .tup vs l hp hr, hl => .tup vs l hp (RepL.cut n hr (by simpa [low] using hl))
  | _, _, .fn f vs l hp hr, hl => .fn f vs l hp (RepL.cut n hr (by simpa [low] using hl))
  | _, _, .fnb f vs l hp hr, hl => .fnb f vs l hp (RepL.cut n hr (by simpa [low] using hl))
  | _, _, .nilf, _ => .nilf
  | _, _, .opq v h h', _ => .opq v h h'
  | _, _, .itr b s p, _ => .itr b s p
  | _, _, .omp b ks vs, _ => .omp b ks vs
  | _, _, .mp b, _ => .mp b
  | _, _, .fmp b obj ks vs h1 h2, _ => .fmp b obj ks vs h1 h2
  | _, _, .stk a c e o l h1 h2 h3, _ => .stk a c e o l h1 h2 h3
  | _, _, .raw a m c h1 h2, _ => .raw a m c h1 h2
  | _, _, .rawp b i m c, _ => .rawp b i m c
  | _, _, .frn v Q S W0 h1 h2 h3 h4, _ => .frn v Q S W0 h1 h2 h3 h4
theorem RepL.cut {g : Gh} (n : Nat) : ∀ {vs : List Value} {l : List AV}, RepL g vs l → low.lows n l = true → RepL (g.cut n) vs l
  | _, _, .nil, _ => .nil
  | _, _, .cons h hr, hl => by
    simp only [low.lows, Bool.and_eq_true] at hl
    exact .cons (Rep.cut n h hl.1) (RepL.cut n hr hl.2)
end
mutual
theorem Rep.low {g : Gh} {n : Nat} (hd : ∀ i b, g.io i = some b → i < n) : ∀ {v : Value} {a : AV}, Rep g v a → low n a = true
  | _, _, .bool b => by simp [Go.Proofs.Ytpiofcjkekpboaa.low]
  | _, _, .int k m => by simp [Go.Proofs.Ytpiofcjkekpboaa.low]
  | _, _, .str s => by simp [Go.Proofs.Ytpiofcjkekpboaa.low]
  | _, _, .nilp => by simp [Go.Proofs.Ytpiofcjkekpboaa.low]
  | _, _, .ptr id off b h => by simpa [Go.Proofs.Ytpiofcjkekpboaa.low] using hd id b h
  | _, _, .fp b off vs l h hp hr => by simpa [Go.Proofs.Ytpiofcjkekpboaa.low] using RepL.low hd hr
  | _, _, .lst b off m c f vs l h hp h1 h2 hr => by simpa [Go.Proofs.Ytpiofcjkekpboaa.low] using RepL.low hd hr
  | _, _, .lst0 a c f h => by simp [Go.Proofs.Ytpiofcjkekpboaa.low, low.lows]
  | _, _, .hs id b m c h h1 => by simpa [Go.Proofs.Ytpiofcjkekpboaa.low] using hd id b h
  | _, _, .hsc id b m c h h1 => by simpa [Go.Proofs.Ytpiofcjkekpboaa.low] using hd id b h
  | _, _, .agg vs l h hp hr => by simpa [Go.Proofs.Ytpiofcjkekpboaa.low] using RepL.low hd hr
  | _, _, .tup vs l hp hr => by simpa [Go.Proofs.Ytpiofcjkekpboaa.low] using RepL.low hd hr
  | _, _, .fn f vs l hp hr => by simpa [Go.Proofs.Ytpiofcjkekpboaa.low] using RepL.low hd hr
  | _, _, .fnb f vs l hp hr => by simpa [Go.Proofs.Ytpiofcjkekpboaa.low] using RepL.low hd hr
  | _, _, .nilf => by simp [Go.Proofs.Ytpiofcjkekpboaa.low]
  | _, _, .opq v h h' => by simp [Go.Proofs.Ytpiofcjkekpboaa.low]
  | _, _, .itr b s p => by simp [Go.Proofs.Ytpiofcjkekpboaa.low]
  | _, _, .omp b ks vs => by simp [Go.Proofs.Ytpiofcjkekpboaa.low]
  | _, _, .mp b => by simp [Go.Proofs.Ytpiofcjkekpboaa.low]
  | _, _, .fmp b obj ks vs h1 h2 => by simp [Go.Proofs.Ytpiofcjkekpboaa.low]
  | _, _, .stk a c e o l h1 h2 h3 => by simp [Go.Proofs.Ytpiofcjkekpboaa.low]
  | _, _, .raw a m c h1 h2 => by simp [Go.Proofs.Ytpiofcjkekpboaa.low]
  | _, _, .rawp b i m c => by simp [Go.Proofs.Ytpiofcjkekpboaa.low]
  | _, _, .frn _ _ _ _ _ _ _ _ => by simp [Go.Proofs.Ytpiofcjkekpboaa.low]
theorem RepL.low {g : Gh} {n : Nat} (hd : ∀ i b, g.io i = some b → i < n) : ∀ {vs : List Value} {l : List AV}, RepL g vs l → low.lows n l = true
  | _, _, .nil => by simp [low.lows]
  | _, _, .cons h hr => by simp [low.lows, Rep.low hd h, RepL.low hd hr]
end
mutual
theorem low_free {n : Nat} : ∀ {a : AV}, free a = true → low n a = true
  | .bool _, _ => by simp [low]
  | .int _ _, _ => by simp [low]
  | .str _, _ => by simp [low]
  | .nilp, _ => by simp [low]
  | .nilf, _ => by simp [low]
  | .opq, _ => by simp [low]
  | .itr _ _, _ => by simp [low]
  | .omp _ _ _, _ => by simp [low]
  | .mp _, _ => by simp [low]
  | .fmp _ _, _ => by simp [low]
  | .stk _ _ _, _ => by simp [low]
  | .raw _ _, _ => by simp [low]
  | .rawp _ _, _ => by simp [low]
  | .frn _, _ => by simp [low]
  | .ptr _ _, h => by simp [free] at h
  | .hs _ _, h => by simp [free] at h
  | .hsc _ _ _, h => by simp [free] at h
  | .fp l, h => by simpa [low] using lows_free (l := l) (by simpa [free] using h)
  | .lst _ _ l, h => by simpa [low] using lows_free (l := l) (by simpa [free] using h)
  | .agg l, h => by simpa [low] using lows_free (l := l) (by simpa [free] using h)
  | .tup l, h => by simpa [low] using lows_free (l := l) (by simpa [free] using h)
  | .fn _ l, h => by simpa [low] using lows_free (l := l) (by simpa [free] using h)
  | .fnb _ l, h => by simpa [low] using lows_free (l := l) (by simpa [free] using h)
theorem lows_free {n : Nat} : ∀ {l : List AV}, free.frees l = true → low.lows n l = true
  | [], _ => by simp [low.lows]
  | a :: l, h => by
    simp only [free.frees, Bool.and_eq_true] at h
    simp [low.lows, low_free (n := n) h.1, lows_free (n := n) h.2]
end
theorem ACalls.trim {P : Program} {f : FuncId} {args : List AV} {h : Hp} {R : AV → Hp → Prop}
  (hc : ACalls P f args h (fun a h' => ∃ h2 ex, h' = h2 ++ ex ∧ h.length ≤ h2.length ∧ low h2.length a = true ∧ (∀ (j : Nat) s l, h2[j]? = some (some (s, l)) → (∃ s', h[j]? = some (some (s', l))) ∨ low.lows h2.length l = true) ∧ R a h2)) : ACalls P f args h R := by
 refine ⟨hc.1, fun g w vargs hs hns hr hpl => (hc.2 g w vargs hs hns hr hpl).mono ?_⟩
 rintro e w1 ⟨x, a, h', g', rfl, ev, hs', hns', hx, hpa, h2, ex, rfl, hlen, hlow, hcells, hR⟩
 refine ⟨x, a, h2, g'.cut h2.length, rfl, ?_, ?_, hns', hx.cut _ hlow, hpa, hR⟩
 ·refine ⟨⟨ev.le.C, fun i b hi => io_cut (ev.le.io i b hi) (by have := (hs.dom i b hi).1; omega), ev.le.X⟩, ev.F, fun b hb => ?_, ev.os, ev.tape, ev.output, ev.size, ev.Fx⟩
  obtain ⟨q1, q2, q3, q4⟩ := ev.Fb b hb
  exact ⟨q1, q2, q3, fun i hi => q4 i (cut_io hi).1⟩
 ·refine ⟨hs'.prot, fun id s l hl => ?_, fun i j b hi hj => hs'.inj i j b (cut_io hi).1 (cut_io hj).1, fun i b hi => ⟨(cut_io hi).2, (hs'.dom i b (cut_io hi).1).2⟩, hs'.flt, hs'.olt, fun i hi => ?_, fun b o hx => ⟨(hs'.fro b o hx).1, (hs'.fro b o hx).2.1, fun i hi => (hs'.fro b o hx).2.2 i (cut_io hi).1⟩⟩
  ·have hid : id < h2.length := (List.getElem?_eq_some_iff.1 hl).1
   obtain ⟨b, arr, e, p1, ⟨rest, p2⟩, p3, p4, p5, p6, p7, p8, p9⟩ := hs'.obj id s l (by rw [List.getElem?_append_left hid]; exact hl)
   have hlw : low.lows h2.length l = true := by
    rcases hcells id s l hl with ⟨s', h0⟩ | h0
    ·obtain ⟨_, _, _, _, _, r3, _⟩ := hs.obj id s' l h0
     exact RepL.low (fun i b hi => by have := (hs.dom i b hi).1; omega) r3
    ·exact h0
   refine ⟨b, arr, e, io_cut p1 hid, ⟨rest, p2⟩, p3.cut _ hlw, p4, fun i v a q1 q2 => (p5 i v a q1 q2).keep fun b' o1 o3 o4 => ⟨rfl, o1, fun _ => rfl, o3, fun j hj => o4 j (cut_io hj).1⟩, p6, p7, p8, p9⟩
  ·have hid : i < h2.length := (List.getElem?_eq_some_iff.1 hi).1
   simp only [Gh.cut, if_pos hid]
   exact hs'.hole i (by rw [List.getElem?_append_left hid]; exact hi)
mutual
def fz (h : Hp) : AV → AV
  | .hs id n => match h[id]? with
    | some (some (_, l)) => .lst .ro n (l.map deg)
    | _ => .hs id n
  | .hsc id n c => match h[id]? with
    | some (some (_, l)) => .lst .ro n (l.map deg)
    | _ => .hsc id n c
  | .agg l => .agg (fzs h l)
  | .tup l => .tup (fzs h l)
  | a => a
def fzs (h : Hp) : List AV → List AV
  | [] => []
  | a :: l => fz h a :: fzs h l
end
theorem plain_fz {h : Hp} (a : AV) (hp : plain a = true) : plain (fz h a) = true := by
 cases a with
 | hs id n =>
  simp only [fz]
  split <;> rfl
 | hsc id n c =>
  simp only [fz]
  split <;> rfl
 | lst f n l => simp only [fz]; exact hp
 | itr s p => simp [plain] at hp
 | omp b ks vs => simp [plain] at hp
 | stk e o l => simp [plain] at hp
 | _ => simp [fz, plain]
theorem plains_fz {h : Hp} : ∀ {l : List AV}, plains l → plains (fzs h l)
 | [], _ => by intro a ha; simp [fzs] at ha
 | a :: l, hp => by
  intro b hb
  simp only [fzs, List.mem_cons] at hb
  rcases hb with rfl | hb
  ·exact plain_fz a (hp a (by simp))
  ·exact plains_fz (fun x hx => hp x (by simp [hx])) b hb
open Classical in
noncomputable def Gh.ice (g : Gh) (h : Hp) (w : World) : Gh :=
  { g with io := fun _ => none, C := fun b o => match g.C b o with
    | some v => some v
    | none => if ∃ id s l, g.io id = some b ∧ h[id]? = some (some (s, l)) then (w.cell? ⟨b, o, none⟩).filter (fun v => v.oneCell') else none }
theorem ice_le {g : Gh} {h : Hp} {w : World} {b o : Nat} {v : Value} (hc : g.C b o = some v) : (g.ice h w).C b o = some v := by simp only [Gh.ice, hc]
theorem ice_obj {P : Program} {g : Gh} {h : Hp} {w : World} {id : Nat} {s : Bool} {l : List AV} (hs : Sim P g h w) (hl : h[id]? = some (some (s, l))) :
  ∃ b arr, g.io id = some b ∧ CellsAt (g.ice h w) b 0 arr ∧ RepL g arr l := by
 obtain ⟨b, arr, e, p1, ⟨rest, p2⟩, p3, p4, p5, p6, p7, p8, p9⟩ := hs.obj id s l hl
 refine ⟨b, arr.toList, p1, fun i v hv => ?_, p3⟩
 cases hC : g.C b (0 + i) with
 | some u =>
  have h1 := (hs.prot _ _ _ hC).1
  rw [Nat.zero_add, cell_of_row w b i (arr ++ rest) e (0, 0) p2] at h1
  have : v = u := by
   rw [get_app hv] at h1
   simpa using h1
  subst this
  exact ice_le hC
 | none =>
  simp only [Gh.ice, hC]
  rw [if_pos ⟨id, s, l, p1, hl⟩]
  simp only [Option.filter_eq_some_iff]
  refine ⟨?_, p4 v (List.mem_of_getElem? hv)⟩
  rw [Nat.zero_add, cell_of_row w b i (arr ++ rest) e (0, 0) p2]
  exact get_app hv
mutual
theorem Rep.ice {P : Program} {g : Gh} {h : Hp} {w : World} (hs : Sim P g h w) : ∀ {v : Value} {a : AV}, Rep g v a → free (fz h a) = true → Rep (g.ice h w) v (fz h a)
  | _, _, .bool b, _ => by simp only [fz]; exact .bool b
  | _, _, .int k m, _ => by simp only [fz]; exact .int k m
  | _, _, .str s, _ => by simp only [fz]; exact .str s
  | _, _, .nilp, _ => by simp only [fz]; exact .nilp
  | _, _, .ptr id off b hb, hf => by simp [fz, free] at hf
  | _, _, .fp b off vs l hc hp hr, hf => by
    simp only [fz] at hf ⊢
    exact Rep.free (g := g) (fun _ _ _ hc => ice_le hc) (fun _ _ h => h) (.fp b off vs l hc hp hr) hf
  | _, _, .lst b off m c f vs l hc hp h1 h2 hr, hf => by
    simp only [fz] at hf ⊢
    exact Rep.free (g := g) (fun _ _ _ hc => ice_le hc) (fun _ _ h => h) (.lst b off m c f vs l hc hp h1 h2 hr) hf
  | _, _, .lst0 a c f hc, _ => by simp only [fz]; exact .lst0 a c f hc
  | _, _, .hs id b m c hb h1, hf => by
    simp only [fz] at hf ⊢
    split at hf
    · next s l hl =>
      obtain ⟨b', arr, q1, q2, q3⟩ := ice_obj hs hl
      obtain rfl : b = b' := by rw [hb] at q1; simpa using q1
      simp only [free] at hf
      refine .lst b 0 m c .ro arr _ q2 (fun a ha => ?_) h1 (fun e => by cases e) (RepL.free (g := g) (fun _ _ _ hc => ice_le hc) (fun _ _ h => h) q3.deg hf)
      obtain ⟨a', _, rfl⟩ := List.mem_map.1 ha
      exact plain_deg a'
    · simp [free] at hf
  | _, _, .hsc id b m c hb h1, hf => by
    simp only [fz] at hf ⊢
    split at hf
    · next s l hl =>
      obtain ⟨b', arr, q1, q2, q3⟩ := ice_obj hs hl
      obtain rfl : b = b' := by rw [hb] at q1; simpa using q1
      simp only [free] at hf
      refine .lst b 0 m c .ro arr _ q2 (fun a ha => ?_) h1 (fun e => by cases e) (RepL.free (g := g) (fun _ _ _ hc => ice_le hc) (fun _ _ h => h) q3.deg hf)
      obtain ⟨a', _, rfl⟩ := List.mem_map.1 ha
      exact plain_deg a'
    · simp [free] at hf
  | _, _, .agg vs l h1 hp hr, hf => by
    simp only [fz, free] at hf ⊢
    exact .agg vs _ h1 (plains_fz hp) (RepL.ice hs hr hf)
  | _, _, .tup vs l hp hr, hf => by
    simp only [fz, free] at hf ⊢
    exact .tup vs _ (plains_fz hp) (RepL.ice hs hr hf)
  | _, _, .fn f vs l hp hr, hf => by
    simp only [fz] at hf ⊢
    exact Rep.free (g := g) (fun _ _ _ hc => ice_le hc) (fun _ _ h => h) (.fn f vs l hp hr) hf
  | _, _, .fnb f vs l hp hr, hf => by
    simp only [fz] at hf ⊢
    exact Rep.free (g := g) (fun _ _ _ hc => ice_le hc) (fun _ _ h => h) (.fnb f vs l hp hr) hf
  | _, _, .nilf, _ => by simp only [fz]; exact .nilf
  | _, _, .opq v h h', _ => by simp only [fz]; exact .opq v h h'
  | _, _, .itr b s p, _ => by simp only [fz]; exact .itr b s p
  | _, _, .omp b ks vs, _ => by simp only [fz]; exact .omp b ks vs
  | _, _, .mp b, _ => by simp only [fz]; exact .mp b
  | _, _, .fmp b obj ks vs h1 h2, _ => by simp only [fz]; exact .fmp b obj ks vs h1 h2
  | _, _, .stk a c e o l h1 h2 h3, _ => by simp only [fz]; exact .stk a c e o l h1 h2 h3
  | _, _, .raw a m c h1 h2, _ => by simp only [fz]; exact .raw a m c h1 h2
  | _, _, .rawp b i m c, _ => by simp only [fz]; exact .rawp b i m c
  | _, _, .frn v Q S W0 h1 h2 h3 h4, _ => by simp only [fz]; exact .frn v Q S W0 h1 h2 h3 h4
theorem RepL.ice {P : Program} {g : Gh} {h : Hp} {w : World} (hs : Sim P g h w) : ∀ {vs : List Value} {l : List AV}, RepL g vs l → free.frees (fzs h l) = true → RepL (g.ice h w) vs (fzs h l)
  | _, _, .nil, _ => by simp only [fzs]; exact .nil
  | _, _, .cons h0 hr, hf => by
    simp only [fzs, free.frees, Bool.and_eq_true] at hf ⊢
    exact .cons (Rep.ice hs h0 hf.1) (RepL.ice hs hr hf.2)
end
theorem pcalls_fz {P : Program} {f : FuncId} {args : List AV} {v : AV} (ha : free.frees args = true) (hv : free v = true) (hc : ACalls P f args [] (fun a h' => fz h' a = v)) : PCalls P f args v := by
 refine ⟨ha, hv, hc.1, fun g w vargs hs hns hr hpl => (hc.2 g w vargs hs hns hr hpl).mono ?_⟩
 rintro e w1 ⟨x, a, h1, g1, rfl, r1, r2, r3, r4, r5, rfl⟩
 refine ⟨x, _, [], g1.ice h1 w1, rfl, ⟨⟨fun b o u hu => ice_le (r1.le.C b o u hu), fun i b hi => absurd (hs.dom i b hi).1 (by simp), r1.le.X⟩, r1.F, fun b hb => ?_, r1.os, r1.tape, r1.output, r1.size, r1.Fx⟩, ?_, r3, Rep.ice r2 r4 hv, plain_fz _ r5, rfl, rfl⟩
 ·obtain ⟨q1, q2, q3, q4⟩ := r1.Fb b hb
  refine ⟨q1, fun o => ?_, q3, fun i hi => by cases hi⟩
  simp only [Gh.ice]
  split
  ·next u hu => rw [← q2 o]; exact hu.symm
  ·next hu =>
   rw [if_neg]
   ·rw [← q2 o]; exact hu.symm
   ·rintro ⟨id, s, l, k1, k2⟩
    obtain ⟨b', arr, e, p1, ⟨rest, p2⟩, p3, p4, p5, p6, p7, p8, p9⟩ := r2.obj id s l k2
    rw [k1] at p1
    simp only [Option.some.injEq] at p1
    subst p1
    exact p8 ((r1.F b).2 hb)
 ·refine ⟨fun b o u hu => ?_, (fun id s l hl => by simp at hl), (fun i j b hi => by cases hi), (fun i b hi => by cases hi), r2.flt, r2.olt, (fun i hi => by simp at hi), fun b o hx => ⟨(r2.fro b o hx).1, (r2.fro b o hx).2.1, fun i hi => by cases hi⟩⟩
  simp only [Gh.ice] at hu
  split at hu
  ·next u' hu' => simp only [Option.some.injEq] at hu; subst hu; exact r2.prot b o _ hu'
  ·split at hu
   ·simp only [Option.filter_eq_some_iff] at hu; exact hu
   ·cases hu
theorem fz_hs {h : Hp} {id n : Nat} {s : Bool} {l : List AV} (hl : h[id]? = some (some (s, l))) : fz h (.hs id n) = .lst .ro n (l.map deg) := by simp only [fz, hl]
theorem fz_int (h : Hp) (k : IntKind) (n : Int) : fz h (.int k n) = .int k n := by simp only [fz]
theorem fz_agg (h : Hp) (l : List AV) : fz h (.agg l) = .agg (fzs h l) := by simp only [fz]
theorem fz_tup (h : Hp) (l : List AV) : fz h (.tup l) = .tup (fzs h l) := by simp only [fz]
theorem fzs_nil (h : Hp) : fzs h [] = [] := by simp only [fzs]
theorem fzs_cons (h : Hp) (a : AV) (l : List AV) : fzs h (a :: l) = fz h a :: fzs h l := by simp only [fzs]
end Go.Proofs.Ytpiofcjkekpboaa
namespace Go.Proofs.Ytpiofcjkekpboaa
open Go.RowKit
def J_law21_RecordDoes_j1 : ACode :=
 .keep [2,5] (Zq [Zo 103 (.load (some 2) (.t 5)),Zo 104 (.load (some 2) (.t 2)),Zo 105 (.call (.f 19) [.t 103,.t 104]),Zm 4 105]
 .ret)
def J_law21_RecordDoes_j2 : ACode :=
 .keep [2,5,6,76,77] (.ops [Zo 102 (.bin .add (.t 77) (Zi 1)),Zm 77 102])
def J_law21_RecordDoes_j3 : ACode :=
 Zq [Zo 88 (.bin .lss (.t 87) (.t 86))] (.keep [2,5,6,12,76,77,86,87,88] (.seq (.cond (.t 88)
 .skip
 (.exit 2)) (.keep [2,5,6,12,76,77,86,87] (.seq (.block 3 (Zq [Zm 89 87,Zm 13 89] (.keep [2,5,6,12,13,76,77,86,87] (.ops [Zo 90 (.fld 1 (.t 6)),Zo 91 (.load none (.t 90)),Zm 92 12,Zo 93 (.idxa 3 (.t 91) (.t 92)),Zo 94 (.fld 1 (.t 93)),Zo 95 (.load none (.t 94)),Zm 96 13,Zo 97 (.idxa 2 (.t 95) (.t 96)),
 Zo 98 (.fld 1 (.t 97)),Zo 99 (.load none (.t 98)),Zo 100 (.idxa 1 (.t 99) (Zi 0)),⟨none,none,.store 1 (.t 100) (.c (.str ⟨#[63]⟩)),none⟩])))) (.keep [2,5,6,12,76,77,86,87] (.ops [Zo 101 (.bin .add (.t 87) (Zi 1)),Zm 87 101]))))))
def J_law21_RecordDoes_j4 : ACode :=
 Zq [Zo 78 (.bin .lss (.t 77) (.t 76))] (.keep [2,5,6,76,77,78] (.seq (.cond (.t 78)
 .skip
 (.exit 0)) (.keep [2,5,6,76,77] (.seq (.block 1 (Zq [Zm 79 77,Zm 12 79] (.keep [2,5,6,12,76,77] (Zq [Zo 80 (.fld 1 (.t 6)),Zo 81 (.load none (.t 80)),Zm 82 12,Zo 83 (.idxa 3 (.t 81) (.t 82)),Zo 84 (.fld 1 (.t 83)),Zo 85 (.load none (.t 84)),Zo 86 (.lenl (.t 85)),Zo 87 (.mv (Zi 0))] (.keep [2,5,6,12,76,77,86,87] (.block 2 (.loop [2,5,6,12,76,77,86,87] (J_law21_RecordDoes_j3)))))))) (J_law21_RecordDoes_j2)))))
def J_law21_RecordDoes : AFn :=
 ⟨106,[.t 4],Zq [Zo 2 (.box (.t 0) []),Zo 3 (.box (.t 1) []),Zo 4 (.mv (.c (.bool false)))] (.keep [2,3] (.seq (Zq [Zo 14 (.call (.f 13) []),Zo 15 (.not (.t 14))] (.keep [2,3,15] (.cond (.t 15) (Zq [Zo 4 (.mv (.c (.bool false)))]
 .ret)
 .skip))) (.keep [2,3] (.seq (Zq [Zo 16 (.load (some 2) (.t 2)),Zo 17 (.call (.f 14) [.t 16]),Zm 18 17,Zf 18 19 (.fld 3 (.t 3)),Zf 18 20 (.load (some 2) (.t 19)),Zf 18 21 (.call (.f 15) [.t 20]),Zo 22 (.pick (.t 18) (.c (.bool true)) (.t 21))] (.keep [2,3,22] (.cond (.t 22) (Zq [Zo 4 (.mv (.c (.bool true)))]
 .ret)
 .skip))) (.keep [2,3] (Zq [Zo 23 (.load (some 2) (.t 2)),Zo 24 (.call (.f 16) [.t 23]),Zo 5 (.new [(.int .i64 0),(.lst .clip 0 [])] [(1,71,3)]),⟨none,none,.stores 2 (.t 5) (.t 24),none⟩] (.keep [2,3,5] (Zq [Zo 26 (.load (some 2) (.t 5)),Zo 27 (.load (some 5) (.t 3)),Zo 28 (.call (.f 17) [.t 26,.t 27]),
 Zm 25 28,Zo 29 (.ext 0 (.t 25)),Zo 30 (.ext 1 (.t 25)),Zo 31 (.ext 2 (.t 25)),Zo 6 (.new [(.int .i64 0),(.lst .clip 0 [])] [(1,71,3)]),⟨none,none,.stores 2 (.t 6) (.t 29),none⟩,Zm 7 30,Zm 8 31] (.keep [2,3,5,6,7,8] (Zq [Zo 33 (.load (some 2) (.t 2)),Zo 34 (.load (some 5) (.t 3)),Zo 35 (.call (.f 18) [.t 33,.t 34]),
 Zm 32 35,Zo 36 (.ext 0 (.t 32)),Zo 37 (.ext 1 (.t 32)),Zo 38 (.ext 2 (.t 32)),Zo 9 (.new [(.int .i64 0),(.lst .clip 0 [])] [(1,71,3)]),⟨none,none,.stores 2 (.t 9) (.t 36),none⟩,Zm 10 37,Zm 11 38] (.keep [2,3,5,6,7,8,9,10,11] (.seq (.seq (.draw [2,5,6,73] [Zo 39 (.lds (some 2) (.t 6)),Zo 40 (.lds (some 2) (.t 9)),
 Zo 41 (.callr (.f 19) [.t 39,.t 40]),Zo 42 (.not (.t 41)),Zm 43 42,Zf 43 44 (.mv (.t 7)),Zf 43 45 (.mv (.t 10)),Zf 43 46 (.bin .neq (.t 44) (.t 45)),Zo 47 (.pick (.t 43) (.c (.bool true)) (.t 46)),Zm 48 47,Zf 48 49 (.mv (.t 8)),Zf 48 50 (.mv (.t 11)),Zf 48 51 (.bin .neq (.t 49) (.t 50)),Zo 52 (.pick (.t 48) (.c (.bool true)) (.t 51)),
 Zm 53 52,Zf 53 54 (.lds (some 2) (.t 5)),Zf 53 55 (.call (.f 20) [.t 54]),Zf 53 56 (.load (some 2) (.t 2)),Zf 53 57 (.call (.f 21) [.t 56]),Zf 53 58 (.bbin true (.t 55) (.t 57)),Zo 59 (.pick (.t 53) (.c (.bool true)) (.t 58)),Zm 60 59,Zf 60 61 (.load (some 5) (.t 3)),Zf 60 62 (.call (.f 22) [.t 61]),
 Zf 60 63 (.load (some 5) (.t 3)),Zf 60 64 (.call (.f 23) [.t 63]),Zf 60 65 (.bbin true (.t 62) (.t 64)),Zo 66 (.pick (.t 60) (.c (.bool true)) (.t 65)),Zm 67 66,Zf 67 68 (.load (some 5) (.t 3)),Zf 67 69 (.call (.f 24) [.t 68]),Zf 67 70 (.fld 1 (.t 3)),Zf 67 71 (.load none (.t 70)),Zf 67 72 (.bin .neq (.t 69) (.t 71)),
 Zo 73 (.pick (.t 67) (.c (.bool true)) (.t 72))]) (.keep [2,5,6,73] (.cond (.t 73) (Zq [Zo 4 (.mv (.c (.bool false)))]
 .ret)
 .skip))) (.keep [2,5,6] (.seq (Zq [Zo 74 (.fld 1 (.t 6)),Zo 75 (.load none (.t 74)),Zo 76 (.lenl (.t 75)),Zo 77 (.mv (Zi 0))] (.keep [2,5,6,76,77] (.block 0 (.loop [2,5,6,76,77] (J_law21_RecordDoes_j4))))) (J_law21_RecordDoes_j1)))))))))))))))⟩
theorem J_law21_RecordDoes_ok : chkFn Try.prog 4 J_law21_RecordDoes = true := by kernel_rfl
def J_law21_awake : AFn :=
 ⟨174,[.t 0],Zq [Zo 0 (.mv (.c (.bool false)))] (.keep [] (Zq [Zo 17 (.bsl 32 1 1 [(.int .u16 0)] [(0,1,(.c (.int .u16 8193)))]),Zo 18 (.call (.f 47) [.t 17]),Zo 19 (.bsl 72 1 1 [(.str ⟨#[]⟩)] [(0,1,(.t 18))]),Zo 20 (.build [(.int .i64 0),(.lst .clip 0 [])] [(0,1,(Zi 1)),(1,1,(.t 19))]),Zo 21 (.bsl 58 2 1 [(.int .i64 0),(.lst .clip 0 [])] [(0,2,(.t 20))]),
 Zo 22 (.build [(.int .i64 0),(.lst .clip 0 []),(.int .i64 0)] [(0,1,(Zi 5)),(1,1,(.t 21)),(2,1,(Zi 2))]),Zo 23 (.bsl 71 3 1 [(.int .i64 0),(.lst .clip 0 []),(.int .i64 0)] [(0,3,(.t 22))]),Zo 24 (.build [(.int .i64 0),(.lst .clip 0 [])] [(0,1,(Zi 3)),(1,1,(.t 23))]),Zo 1 (.new [(.int .i64 0),(.lst .clip 0 [])] [(1,71,3)]),⟨none,none,.stores 2 (.t 1) (.t 24),none⟩] (.keep [1] (Zq [Zo 26 (.load (some 2) (.t 1)),
 Zo 27 (.build [(.int .i64 0),(.int .i64 0),(.int .i64 0),(.int .i64 0),(.lst .clip 0 [])] [(1,1,(Zi 1)),(2,1,(Zi 3))]),Zo 28 (.call (.f 17) [.t 26,.t 27]),Zm 25 28,Zo 29 (.ext 0 (.t 25)),Zo 30 (.ext 1 (.t 25)),Zo 31 (.ext 2 (.t 25)),Zo 2 (.new [(.int .i64 0),(.lst .clip 0 [])] [(1,71,3)]),⟨none,none,.stores 2 (.t 2) (.t 29),none⟩,
 Zm 3 30,Zm 4 31] (.keep [1,2,3,4] (Zq [Zo 33 (.load (some 2) (.t 1)),Zo 34 (.build [(.int .i64 0),(.int .i64 0),(.int .i64 0),(.int .i64 0),(.lst .clip 0 [])] [(0,1,(Zi 1))]),Zo 35 (.call (.f 17) [.t 33,.t 34]),Zm 32 35,Zo 36 (.ext 0 (.t 32)),Zo 37 (.ext 1 (.t 32)),Zo 38 (.ext 2 (.t 32)),Zo 5 (.new [(.int .i64 0),(.lst .clip 0 [])] [(1,71,3)]),⟨none,none,.stores 2 (.t 5) (.t 36),none⟩,
 Zm 6 37,Zm 7 38] (.keep [1,2,3,4,7] (.seq (.draw [1,2,3,4,7,8,9,10] [Zo 40 (.lds (some 2) (.t 1)),Zo 41 (.fld 1 (.t 1)),Zo 42 (.lds none (.t 41)),Zo 43 (.idxa 3 (.t 42) (Zi 0)),Zo 44 (.fld 1 (.t 43)),Zo 45 (.load none (.t 44)),Zo 46 (.idxa 2 (.t 45) (Zi 0)),Zo 47 (.load (some 2) (.t 46)),Zo 48 (.build [(.int .i64 0),(.int .i64 0),(.int .i64 0),(.int .i64 0),(.lst .clip 0 [])] [(1,1,(Zi 3)),(3,2,(.t 47))]),
 Zo 49 (.call (.f 17) [.t 40,.t 48]),Zm 39 49,Zo 50 (.ext 0 (.t 39)),Zo 51 (.ext 1 (.t 39)),Zo 52 (.ext 2 (.t 39)),Zo 8 (.new [(.int .i64 0),(.lst .clip 0 [])] [(1,71,3)]),⟨none,none,.stores 2 (.t 8) (.t 50),none⟩,Zm 9 51,Zm 10 52]) (.keep [1,2,3,4,7,8,9,10] (Zq [Zo 54 (.load (some 2) (.t 1)),Zo 55 (.call (.f 48) [.t 54]),
 Zm 53 55,Zo 56 (.ext 0 (.t 53)),Zo 57 (.ext 1 (.t 53)),Zm 11 56,Zm 12 57] (.keep [1,2,3,4,7,8,9,10,11,12] (Zq [Zm 59 11,Zo 60 (.call (.f 49) [.t 59]),Zm 58 60,Zo 61 (.ext 0 (.t 58)),Zo 62 (.ext 1 (.t 58)),Zo 13 (.new [(.int .i64 0),(.lst .clip 0 [])] [(1,71,3)]),⟨none,none,.stores 2 (.t 13) (.t 61),none⟩,
 Zm 14 62] (.keep [1,2,3,4,7,8,9,10,11,12,13,14] (Zq [Zm 64 11,Zo 65 (.bin .add (.t 64) (.c (.str ⟨#[63]⟩))),Zo 66 (.call (.f 49) [.t 65]),Zm 63 66,Zo 67 (.ext 0 (.t 63)),Zo 68 (.ext 1 (.t 63)),Zo 15 (.new [(.int .i64 0),(.lst .clip 0 [])] [(1,71,3)]),⟨none,none,.stores 2 (.t 15) (.t 67),none⟩,Zm 16 68] (.keep [1,2,3,4,7,8,9,10,11,12,13,14,16] (Zq [Zm 69 4,
 Zo 70 (.bin .eql (.t 69) (Zi 0)),Zm 71 70,Zt 71 72 (.mv (.t 3)),Zt 71 73 (.bin .eql (.t 72) (Zi 8)),Zo 74 (.pick (.t 71) (.t 73) (.c (.bool false))),Zm 75 74,Zt 75 76 (.fld 1 (.t 2)),Zt 75 77 (.load none (.t 76)),Zt 75 78 (.lenl (.t 77)),Zt 75 79 (.bin .eql (.t 78) (Zi 1)),Zo 80 (.pick (.t 75) (.t 79) (.c (.bool false))),
 Zm 81 80,Zt 81 82 (.fld 1 (.t 2)),Zt 81 83 (.load none (.t 82)),Zt 81 84 (.idxa 3 (.t 83) (Zi 0)),Zt 81 85 (.fld 0 (.t 84)),Zt 81 86 (.load none (.t 85)),Zt 81 87 (.bin .eql (.t 86) (Zi 8)),Zo 88 (.pick (.t 81) (.t 87) (.c (.bool false))),Zm 89 88,Zt 89 90 (.mv (.t 7)),Zt 89 91 (.bin .eql (.t 90) (Zi 10)),
 Zo 92 (.pick (.t 89) (.t 91) (.c (.bool false))),Zm 93 92,Zt 93 94 (.mv (.t 10)),Zt 93 95 (.bin .eql (.t 94) (Zi 0)),Zo 96 (.pick (.t 93) (.t 95) (.c (.bool false))),Zm 97 96,Zt 97 98 (.mv (.t 9)),Zt 97 99 (.bin .eql (.t 98) (Zi 5)),Zo 100 (.pick (.t 97) (.t 99) (.c (.bool false))),Zm 101 100,Zt 101 102 (.fld 1 (.t 8)),
 Zt 101 103 (.load none (.t 102)),Zt 101 104 (.lenl (.t 103)),Zt 101 105 (.bin .eql (.t 104) (Zi 1)),Zo 106 (.pick (.t 101) (.t 105) (.c (.bool false))),Zm 107 106,Zt 107 108 (.fld 1 (.t 8)),Zt 107 109 (.load none (.t 108)),Zt 107 110 (.idxa 3 (.t 109) (Zi 0)),Zt 107 111 (.fld 1 (.t 110)),Zt 107 112 (.load none (.t 111)),
 Zt 107 113 (.lenl (.t 112)),Zt 107 114 (.bin .eql (.t 113) (Zi 0)),Zo 115 (.pick (.t 107) (.t 114) (.c (.bool false))),Zm 116 115,Zt 116 117 (.fld 1 (.t 8)),Zt 116 118 (.load none (.t 117)),Zt 116 119 (.idxa 3 (.t 118) (Zi 0)),Zt 116 120 (.fld 2 (.t 119)),Zt 116 121 (.load none (.t 120)),Zt 116 122 (.bin .eql (.t 121) (Zi 3)),
 Zo 123 (.pick (.t 116) (.t 122) (.c (.bool false))),Zm 124 123,Zt 124 125 (.mv (.t 11)),Zt 124 126 (.bin .eql (.t 125) (.c (.str ⟨#[3,1,5,2,1,1,1,1,32,1]⟩))),Zo 127 (.pick (.t 124) (.t 126) (.c (.bool false))),Zm 128 127,Zt 128 129 (.mv (.t 12)),Zt 128 130 (.bin .eql (.t 129) (Zi 0)),Zo 131 (.pick (.t 128) (.t 130) (.c (.bool false))),
 Zm 132 131,Zt 132 133 (.load (some 2) (.t 1)),Zt 132 134 (.load (some 2) (.t 13)),Zt 132 135 (.call (.f 50) [.t 133,.t 134]),Zo 136 (.pick (.t 132) (.t 135) (.c (.bool false))),Zm 137 136,Zt 137 138 (.load (some 2) (.t 1)),Zt 137 139 (.load (some 2) (.t 2)),Zt 137 140 (.call (.f 50) [.t 138,.t 139]),
 Zt 137 141 (.not (.t 140)),Zo 142 (.pick (.t 137) (.t 141) (.c (.bool false))),Zm 143 142,Zt 143 144 (.mv (.t 14)),Zt 143 145 (.bin .eql (.t 144) (Zi 0)),Zo 146 (.pick (.t 143) (.t 145) (.c (.bool false))),Zm 147 146,Zt 147 148 (.mv (.t 16)),Zt 147 149 (.bin .eql (.t 148) (Zi 2)),Zo 150 (.pick (.t 147) (.t 149) (.c (.bool false))),
 Zm 151 150,Zt 151 152 (.load (some 2) (.t 1)),Zt 151 153 (.call (.f 20) [.t 152]),Zo 154 (.pick (.t 151) (.t 153) (.c (.bool false))),Zm 155 154,Zt 155 156 (.build [(.int .i64 0),(.lst .clip 0 [])] [(0,1,(.c (.int .i64 (-1))))]),Zt 155 157 (.call (.f 20) [.t 156]),Zt 155 158 (.not (.t 157)),Zo 159 (.pick (.t 155) (.t 158) (.c (.bool false))),
 Zm 160 159,Zt 160 161 (.build [(.int .i64 0),(.int .i64 0),(.int .i64 0),(.int .i64 0),(.lst .clip 0 [])] []),Zt 160 162 (.call (.f 22) [.t 161]),Zo 163 (.pick (.t 160) (.t 162) (.c (.bool false))),Zm 164 163,Zt 164 165 (.build [(.int .i64 0),(.int .i64 0),(.int .i64 0),(.int .i64 0),(.lst .clip 0 [])] [(2,1,(Zi 1))]),
 Zt 164 166 (.call (.f 22) [.t 165]),Zt 164 167 (.not (.t 166)),Zo 168 (.pick (.t 164) (.t 167) (.c (.bool false))),Zm 169 168,Zt 169 170 (.build [(.int .i64 0),(.int .i64 0),(.int .i64 0),(.int .i64 0),(.lst .clip 0 [])] [(1,1,(Zi 2))]),Zt 169 171 (.call (.f 24) [.t 170]),Zt 169 172 (.bin .eql (.t 171) (Zi 2)),Zo 173 (.pick (.t 169) (.t 172) (.c (.bool false))),Zm 0 173]
 .ret))))))))))))))))⟩
theorem J_law21_awake_ok : chkFn Try.prog 13 J_law21_awake = true := by kernel_rfl
def J_law21_large_j1 : ACode :=
 .keep [] (Zq [Zo 2 (.mv (.c (.bool false)))]
 .ret)
def J_law21_large_j2 : ACode :=
 .keep [1,11,12] (.ops [Zo 44 (.bin .add (.t 12) (Zi 1)),Zm 12 44])
def J_law21_large_j3 : ACode :=
 Zq [Zo 31 (.bin .lss (.t 30) (.t 29))] (.keep [1,3,11,12,29,30,31] (.seq (.cond (.t 31)
 .skip
 (.exit 2)) (.keep [1,3,11,12,29,30] (.seq (.block 3 (Zq [Zm 32 30,Zm 4 32] (.keep [1,3,4,11,12,29,30] (Zq [Zo 33 (.fld 1 (.t 1)),Zo 34 (.load none (.t 33)),Zm 35 3,Zo 36 (.idxa 3 (.t 34) (.t 35)),Zo 37 (.fld 1 (.t 36)),Zo 38 (.load none (.t 37)),Zm 39 4,Zo 40 (.idxa 2 (.t 38) (.t 39)),Zo 41 (.load (some 2) (.t 40)),
 Zo 42 (.call (.f 15) [.t 41])] (.keep [1,3,11,12,29,30,42] (.cond (.t 42) (Zq [Zo 2 (.mv (.c (.bool true)))]
 .ret)
 .skip)))))) (.keep [1,3,11,12,29,30] (.ops [Zo 43 (.bin .add (.t 30) (Zi 1)),Zm 30 43]))))))
def J_law21_large_j4 : ACode :=
 Zq [Zo 13 (.bin .lss (.t 12) (.t 11))] (.keep [1,11,12,13] (.seq (.cond (.t 13)
 .skip
 (.exit 0)) (.keep [1,11,12] (.seq (.block 1 (Zq [Zm 14 12,Zm 3 14] (.keep [1,3,11,12] (.seq (Zq [Zo 15 (.fld 1 (.t 1)),Zo 16 (.load none (.t 15)),Zm 17 3,Zo 18 (.idxa 3 (.t 16) (.t 17)),Zo 19 (.fld 1 (.t 18)),Zo 20 (.load none (.t 19)),Zo 21 (.lenl (.t 20)),Zo 22 (.bin .gtr (.t 21) (Zi 30))] (.keep [1,3,11,12,22] (.cond (.t 22) (Zq [Zo 2 (.mv (.c (.bool true)))]
 .ret)
 .skip))) (.keep [1,3,11,12] (Zq [Zo 23 (.fld 1 (.t 1)),Zo 24 (.load none (.t 23)),Zm 25 3,Zo 26 (.idxa 3 (.t 24) (.t 25)),Zo 27 (.fld 1 (.t 26)),Zo 28 (.load none (.t 27)),Zo 29 (.lenl (.t 28)),Zo 30 (.mv (Zi 0))] (.keep [1,3,11,12,29,30] (.block 2 (.loop [1,3,11,12,29,30] (J_law21_large_j3)))))))))) (J_law21_large_j2)))))
def J_law21_large : AFn :=
 ⟨45,[.t 2],Zq [Zo 1 (.box (.t 0) []),Zo 2 (.mv (.c (.bool false)))] (.keep [1] (.seq (Zq [Zo 5 (.fld 1 (.t 1)),Zo 6 (.load none (.t 5)),Zo 7 (.lenl (.t 6)),Zo 8 (.bin .gtr (.t 7) (Zi 10))] (.keep [1,8] (.cond (.t 8) (Zq [Zo 2 (.mv (.c (.bool true)))]
 .ret)
 .skip))) (.keep [1] (.seq (Zq [Zo 9 (.fld 1 (.t 1)),Zo 10 (.load none (.t 9)),Zo 11 (.lenl (.t 10)),Zo 12 (.mv (Zi 0))] (.keep [1,11,12] (.block 0 (.loop [1,11,12] (J_law21_large_j4))))) (J_law21_large_j1)))))⟩
theorem J_law21_large_ok : chkFn Try.prog 14 J_law21_large = true := by kernel_rfl
def J_law21_wide_j1 : ACode :=
 .keep [] (Zq [Zo 2 (.mv (.c (.bool false)))]
 .ret)
def J_law21_wide_j2 : ACode :=
 Zq [Zo 12 (.bin .lss (.t 11) (.t 10))] (.keep [1,10,11,12] (.seq (.cond (.t 12)
 .skip
 (.exit 0)) (.keep [1,10,11] (.seq (.block 1 (Zq [Zm 13 11,Zm 3 13] (.keep [1,3,10,11] (Zq [Zo 14 (.fld 1 (.t 1)),Zo 15 (.load none (.t 14)),Zm 16 3,Zo 17 (.idxa 1 (.t 15) (.t 16)),Zo 18 (.load none (.t 17)),Zo 19 (.lens (.t 18)),Zo 20 (.bin .gtr (.t 19) (Zi 100))] (.keep [1,10,11,20] (.cond (.t 20) (Zq [Zo 2 (.mv (.c (.bool true)))]
 .ret)
 .skip)))))) (.keep [1,10,11] (.ops [Zo 21 (.bin .add (.t 11) (Zi 1)),Zm 11 21]))))))
def J_law21_wide : AFn :=
 ⟨22,[.t 2],Zq [Zo 1 (.box (.t 0) []),Zo 2 (.mv (.c (.bool false)))] (.keep [1] (.seq (Zq [Zo 4 (.fld 1 (.t 1)),Zo 5 (.load none (.t 4)),Zo 6 (.lenl (.t 5)),Zo 7 (.bin .gtr (.t 6) (Zi 30))] (.keep [1,7] (.cond (.t 7) (Zq [Zo 2 (.mv (.c (.bool true)))]
 .ret)
 .skip))) (.keep [1] (.seq (Zq [Zo 8 (.fld 1 (.t 1)),Zo 9 (.load none (.t 8)),Zo 10 (.lenl (.t 9)),Zo 11 (.mv (Zi 0))] (.keep [1,10,11] (.block 0 (.loop [1,10,11] (J_law21_wide_j2))))) (J_law21_wide_j1)))))⟩
theorem J_law21_wide_ok : chkFn Try.prog 15 J_law21_wide = true := by kernel_rfl
def J_ref21_Copied_j1 : ACode :=
 .keep [2,3] (Zq [Zo 69 (.load (some 2) (.t 3)),⟨none,none,.store 2 (.t 2) (.t 69),none⟩]
 .ret)
def J_ref21_Copied_j2 : ACode :=
 .keep [1,2,3,4] (.ops [Zm 16 4,Zo 17 (.bin .add (.t 16) (Zi 1)),Zm 4 17])
def J_ref21_Copied_j3 : ACode :=
 .keep [1,2,3,4,5] (.ops [Zo 63 (.fld 1 (.t 3)),Zo 64 (.load none (.t 63)),Zo 65 (.load (some 3) (.t 5)),Zo 66 (.bsl 71 3 1 [(.int .i64 0),(.lst .clip 0 []),(.int .i64 0)] [(0,3,(.t 65))]),Zo 67 (.apc 71 3 40 [(.int .i64 0),(.lst .clip 0 []),(.int .i64 0)] (.t 64) (.t 66)),Zo 68 (.fld 1 (.t 3)),⟨none,none,.store 1 (.t 68) (.t 67),none⟩])
def J_ref21_Copied_j4 : ACode :=
 .seq (Zq [Zm 31 6,Zo 32 (.fld 1 (.t 1)),Zo 33 (.load none (.t 32)),Zm 34 4,Zo 35 (.idxa 3 (.t 33) (.t 34)),Zo 36 (.fld 1 (.t 35)),Zo 37 (.load none (.t 36)),Zo 38 (.lenl (.t 37)),Zo 39 (.bin .lss (.t 31) (.t 38))] (.keep [1,2,3,4,5,6,39] (.cond (.t 39)
 .skip
 (.exit 2)))) (.keep [1,2,3,4,5,6] (.seq (.block 3 (Zq [Zo 42 (.fld 1 (.t 1)),Zo 43 (.load none (.t 42)),Zm 44 4,Zo 45 (.idxa 3 (.t 43) (.t 44)),Zo 46 (.fld 1 (.t 45)),Zo 47 (.load none (.t 46)),Zm 48 6,Zo 49 (.idxa 2 (.t 47) (.t 48)),Zo 50 (.load (some 2) (.t 49)),Zo 7 (.new [(.int .i64 0),(.lst .clip 0 [])] []),⟨none,none,.stores 2 (.t 7) (.t 50),none⟩] (.keep [1,2,3,4,5,6,7] (.draw [1,2,3,4,5,6] [Zo 51 (.fld 1 (.t 5)),
 Zo 52 (.loado (.t 51)),Zo 53 (.fld 0 (.t 7)),Zo 54 (.lds none (.t 53)),Zo 55 (.bsl 72 1 0 [] []),Zo 56 (.fld 1 (.t 7)),Zo 57 (.lds none (.t 56)),Zo 58 (.appo 72 1 16 55 (.t 57)),Zo 59 (.build [(.int .i64 0),(.lst .clip 0 [])] [(0,1,(.t 54)),(1,1,(.t 58))]),Zo 60 (.bsl 58 2 1 [(.int .i64 0),(.lst .clip 0 [])] [(0,2,(.t 59))]),
 Zo 61 (.appo 58 2 32 52 (.t 60)),Zo 62 (.fld 1 (.t 5)),⟨none,none,.storeo (.t 62) 61,none⟩])))) (.keep [1,2,3,4,5,6] (.ops [Zm 40 6,Zo 41 (.bin .add (.t 40) (Zi 1)),Zm 6 41]))))
def J_ref21_Copied_j5 : ACode :=
 .seq (Zq [Zm 11 4,Zo 12 (.fld 1 (.t 1)),Zo 13 (.load none (.t 12)),Zo 14 (.lenl (.t 13)),Zo 15 (.bin .lss (.t 11) (.t 14))] (.keep [1,2,3,4,15] (.cond (.t 15)
 .skip
 (.exit 0)))) (.keep [1,2,3,4] (.seq (.block 1 (.seq (.draw [1,2,3,4,5] [Zo 18 (.fld 1 (.t 1)),Zo 19 (.load none (.t 18)),Zm 20 4,Zo 21 (.idxa 3 (.t 19) (.t 20)),Zo 22 (.fld 0 (.t 21)),Zo 23 (.load none (.t 22)),Zo 24 (.fld 1 (.t 1)),Zo 25 (.load none (.t 24)),Zm 26 4,Zo 27 (.idxa 3 (.t 25) (.t 26)),
 Zo 28 (.fld 2 (.t 27)),Zo 29 (.load none (.t 28)),Zo 30 (.build [(.int .i64 0),(.lst .clip 0 []),(.int .i64 0)] [(0,1,(.t 23)),(2,1,(.t 29))]),Zo 5 (.new [(.int .i64 0),(.lst .clip 0 []),(.int .i64 0)] [(1,58,2)]),⟨none,none,.store 3 (.t 5) (.t 30),none⟩]) (.upg 5 1 58 2 (.keep [1,2,3,4,5] (.seq (Zq [Zo 6 (.mv (Zi 0))] (.keep [1,2,3,4,5,6] (.block 2 (.loop [1,2,3,4,5,6] (J_ref21_Copied_j4))))) (J_ref21_Copied_j3)))))) (J_ref21_Copied_j2)))
def J_ref21_Copied : AFn :=
 ⟨70,[.c 2 (some 2)],Zq [Zo 1 (.box (.t 0) []),Zo 2 (.new [(.int .i64 0),(.lst .clip 0 [])] [])] (.keep [1,2] (Zq [Zo 8 (.fld 0 (.t 1)),Zo 9 (.load none (.t 8)),Zo 10 (.build [(.int .i64 0),(.lst .clip 0 [])] [(0,1,(.t 9))]),Zo 3 (.new [(.int .i64 0),(.lst .clip 0 [])] []),⟨none,none,.store 2 (.t 3) (.t 10),none⟩] (.keep [1,2,3] (.seq (Zq [Zo 4 (.mv (Zi 0))] (.keep [1,2,3,4] (.block 0 (.loop [1,2,3,4] (J_ref21_Copied_j5))))) (J_ref21_Copied_j1)))))⟩
theorem J_ref21_Copied_ok : chkFn Try.prog 16 J_ref21_Copied = true := by kernel_rfl
def J_record_Do_j1 : ACode :=
 .keep [4,7,8,9] (.seq (Zq [Zm 66 9,Zo 67 (.bin .neq (.t 66) (Zi 0))] (.keep [4,7,8,9,67] (.cond (.t 67) (Zq [Zo 68 (.build [(.int .i64 0),(.lst .clip 0 [])] []),Zm 69 9,⟨none,none,.store 2 (.t 4) (.t 68),none⟩,Zo 5 (.mv (Zi 0)),Zm 6 69]
 .ret)
 .skip))) (.keep [4,7,8] (.seq (.draw [4,5,6] [Zo 70 (.lds (some 2) (.t 7)),Zm 71 8,Zo 72 (.nilck (.t 71)),Zo 73 (.fld 0 (.t 72)),⟨some 74,none,.load none (.t 73),(some (.s 8,[4]))⟩,⟨none,none,.store 2 (.t 4) (.t 70),(some (.s 4,[8]))⟩,Zm 5 74,Zo 6 (.mv (Zi 0))])
 .ret)))
def J_record_Do : AFn :=
 ⟨75,[.c 4 (some 2),.t 5,.t 6],Zq [Zo 2 (.box (.t 0) []),Zo 3 (.box (.t 1) []),Zo 4 (.new [(.int .i64 0),(.lst .clip 0 [])] [(1,71,3)]),Zo 5 (.mv (Zi 0)),Zo 6 (.mv (Zi 0))] (.keep [2,3,4] (.seq (Zq [Zo 10 (.load (some 2) (.t 2)),Zo 11 (.call (.f 20) [.t 10]),Zo 12 (.not (.t 11)),Zm 13 12,Zf 13 14 (.load (some 5) (.t 3)),
 Zf 13 15 (.call (.f 22) [.t 14]),Zf 13 16 (.not (.t 15)),Zo 17 (.pick (.t 13) (.c (.bool true)) (.t 16))] (.keep [2,3,4,17] (.cond (.t 17) (Zq [Zo 18 (.build [(.int .i64 0),(.lst .clip 0 [])] []),⟨none,none,.store 2 (.t 4) (.t 18),none⟩,Zo 5 (.mv (Zi 0)),Zo 6 (.mv (Zi 2))]
 .ret)
 .skip))) (.keep [2,3,4] (.seq (Zq [Zo 19 (.fld 0 (.t 3)),Zo 20 (.load none (.t 19)),Zo 21 (.fld 1 (.t 2)),Zo 22 (.load none (.t 21)),Zo 23 (.lenl (.t 22)),Zo 24 (.bin .geq (.t 20) (.t 23))] (.keep [2,3,4,24] (.cond (.t 24) (Zq [Zo 25 (.build [(.int .i64 0),(.lst .clip 0 [])] []),⟨none,none,.store 2 (.t 4) (.t 25),none⟩,Zo 5 (.mv (Zi 0)),Zo 6 (.mv (Zi 10))]
 .ret)
 .skip))) (.keep [2,3,4] (Zq [Zo 26 (.load (some 2) (.t 2)),Zo 27 (.call (.f 51) [.t 26]),Zo 7 (.new [(.int .i64 0),(.lst .clip 0 [])] [(1,71,3)]),⟨none,none,.stores 2 (.t 7) (.t 27),none⟩] (.keep [3,4,7] (Zq [Zo 28 (.fld 1 (.t 7)),Zo 29 (.load none (.t 28)),Zo 30 (.fld 0 (.t 3)),Zo 31 (.load none (.t 30)),
 Zo 32 (.idxa 3 (.t 29) (.t 31)),Zm 8 32] (.keep [3,4,7,8] (Zq [Zo 9 (.mv (Zi 0))] (.keep [3,4,7,8,9] (.seq (Zq [Zo 33 (.fld 1 (.t 3)),Zo 34 (.load none (.t 33))] (.keep [3,4,7,8,9,34] (.block 0 (Zq [Zo 36 (.bin .eql (.t 34) (Zi 1)),Zm 35 36] (.keep [3,4,7,8,9,34,35] (.cond (.t 35) (.seq (.draw [3,4,7,8,9,44] [Zm 37 8,
 Zo 38 (.nilck (.t 37)),Zo 39 (.fld 0 (.t 38)),Zo 40 (.load none (.t 39)),Zo 41 (.fld 2 (.t 3)),Zo 42 (.load none (.t 41)),Zo 43 (.bin .sub (Zi 4611686018427387904) (.t 42)),Zo 44 (.bin .gtr (.t 40) (.t 43))]) (.keep [3,4,7,8,9,44] (.cond (.t 44) (.ops [Zo 9 (.mv (Zi 5))]) (.draw [4,7,8,9] [Zm 45 8,Zo 46 (.nilck (.t 45)),
 Zo 47 (.fld 0 (.t 46)),Zo 48 (.load none (.t 47)),Zo 49 (.fld 2 (.t 3)),Zo 50 (.load none (.t 49)),Zo 51 (.bin .add (.t 48) (.t 50)),Zo 52 (.nilck (.t 45)),Zo 53 (.fld 0 (.t 52)),⟨none,none,.store 1 (.t 53) (.t 51),none⟩])))) (Zq [Zo 55 (.bin .eql (.t 34) (Zi 2)),Zm 54 55] (.keep [3,4,7,8,9,34,54] (.cond (.t 54) (.ops [Zm 56 8,
 Zo 57 (.fld 3 (.t 3)),Zo 58 (.load (some 2) (.t 57)),Zo 59 (.call (.f 52) [.t 56,.t 58,(.f 53)]),Zm 9 59]) (Zq [Zo 61 (.bin .eql (.t 34) (Zi 3)),Zm 60 61] (.keep [3,4,7,8,9,60] (.cond (.t 60) (.ops [Zm 62 8,Zo 63 (.fld 3 (.t 3)),Zo 64 (.load (some 2) (.t 63)),Zo 65 (.call (.f 52) [.t 62,.t 64,(.f 54)]),Zm 9 65])
 .skip)))))))))))) (J_record_Do_j1)))))))))))))⟩
theorem J_record_Do_ok : chkFn Try.prog 17 J_record_Do = true := by kernel_rfl
def J_ref21_Do_j1 : ACode :=
 .keep [3,4,8,9] (Zq [Zo 91 (.fld 1 (.t 8)),Zo 92 (.load none (.t 91)),Zo 93 (.fld 0 (.t 3)),Zo 94 (.load none (.t 93)),Zo 95 (.load (some 3) (.t 9)),Zo 96 (.idxa 3 (.t 92) (.t 94)),⟨none,none,.store 3 (.t 96) (.t 95),none⟩] (.keep [4,8,9] (.seq (.draw [4,5,6] [Zo 97 (.lds (some 2) (.t 8)),Zo 98 (.fld 0 (.t 9)),⟨some 99,none,.load none (.t 98),(some (.s 9,[4]))⟩,⟨none,none,.store 2 (.t 4) (.t 97),(some (.s 4,[9]))⟩,
 Zm 5 99,Zo 6 (.mv (Zi 0))])
 .ret)))
def J_ref21_Do_j2 : ACode :=
 .keep [3,4,7,8,9,10,12] (.seq (Zq [Zm 78 12,Zo 79 (.bin .neq (.t 78) (Zi 0))] (.keep [3,4,7,8,9,10,12,79] (.cond (.t 79) (Zq [Zo 80 (.load (some 2) (.t 7)),Zm 81 12,⟨none,none,.store 2 (.t 4) (.t 80),none⟩,Zo 5 (.mv (Zi 0)),Zm 6 81]
 .ret)
 .skip))) (.keep [3,4,8,9,10] (Zq [Zm 82 10,Zo 83 (.nilck (.t 82)),Zo 84 (.fld 0 (.t 83)),Zo 85 (.load none (.t 84)),Zo 86 (.fld 1 (.t 9)),⟨none,none,.store 1 (.t 86) (.t 85),none⟩] (.keep [3,4,8,9] (.ops [Zo 87 (.fld 2 (.t 9)),Zo 88 (.load none (.t 87)),Zo 89 (.bin .add (.t 88) (Zi 1)),Zo 90 (.fld 2 (.t 9)),⟨none,none,.store 1 (.t 90) (.t 89),none⟩])))))
def J_ref21_Do_j3 : ACode :=
 .keep [3,4,7,8,9] (.seq (Zq [Zo 54 (.fld 1 (.t 3)),Zo 55 (.load none (.t 54)),Zo 56 (.bin .geq (.t 55) (Zi 2))] (.keep [3,4,7,8,9,56] (.cond (.t 56) (.seq (Zq [Zo 57 (.fld 2 (.t 9)),Zo 58 (.load none (.t 57)),Zo 59 (.bin .eql (.t 58) (Zi 4611686018427387904))] (.keep [3,4,7,8,9,59] (.cond (.t 59) (Zq [Zo 60 (.load (some 2) (.t 7)),⟨none,none,.store 2 (.t 4) (.t 60),none⟩,
 Zo 5 (.mv (Zi 0)),Zo 6 (.mv (Zi 5))]
 .ret)
 .skip))) (.keep [3,4,7,8,9] (Zq [Zo 62 (.fld 1 (.t 9)),Zo 63 (.load none (.t 62)),Zo 64 (.call (.f 55) [.t 63]),Zm 61 64,Zo 65 (.ext 0 (.t 61)),Zo 66 (.ext 1 (.t 61)),Zm 10 65,Zm 11 66] (.keep [3,4,7,8,9,10] (Zq [Zo 12 (.mv (Zi 0))] (.keep [3,4,7,8,9,10] (.seq (Zq [Zo 67 (.fld 1 (.t 3)),Zo 68 (.load none (.t 67)),
 Zo 69 (.bin .eql (.t 68) (Zi 2))] (.keep [3,4,7,8,9,10,69] (.cond (.t 69) (.ops [Zm 70 10,Zo 71 (.fld 3 (.t 3)),Zo 72 (.load (some 2) (.t 71)),Zo 73 (.call (.f 56) [.t 70,.t 72]),Zm 12 73]) (.ops [Zm 74 10,Zo 75 (.fld 3 (.t 3)),Zo 76 (.load (some 2) (.t 75)),Zo 77 (.call (.f 57) [.t 74,.t 76]),Zm 12 77])))) (J_ref21_Do_j2))))))))
 .skip))) (J_ref21_Do_j1))
def J_ref21_Do : AFn :=
 ⟨100,[.c 4 (some 2),.t 5,.t 6],Zq [Zo 2 (.box (.t 0) []),Zo 3 (.box (.t 1) []),Zo 4 (.new [(.int .i64 0),(.lst .clip 0 [])] [(1,71,3)]),Zo 5 (.mv (Zi 0)),Zo 6 (.mv (Zi 0))] (.keep [2,3,4] (Zq [Zo 13 (.build [(.int .i64 0),(.lst .clip 0 [])] []),Zo 7 (.new [(.int .i64 0),(.lst .clip 0 [])] [(1,71,3)]),⟨none,none,.stores 2 (.t 7) (.t 13),none⟩] (.keep [2,3,4,7] (.seq (Zq [Zo 14 (.load (some 2) (.t 2)),
 Zo 15 (.call (.f 21) [.t 14]),Zo 16 (.not (.t 15)),Zm 17 16,Zf 17 18 (.load (some 5) (.t 3)),Zf 17 19 (.call (.f 23) [.t 18]),Zf 17 20 (.not (.t 19)),Zo 21 (.pick (.t 17) (.c (.bool true)) (.t 20))] (.keep [2,3,4,7,21] (.cond (.t 21) (Zq [Zo 22 (.load (some 2) (.t 7)),⟨none,none,.store 2 (.t 4) (.t 22),none⟩,Zo 5 (.mv (Zi 0)),Zo 6 (.mv (Zi 2))]
 .ret)
 .skip))) (.keep [2,3,4,7] (.seq (Zq [Zo 23 (.fld 0 (.t 3)),Zo 24 (.load none (.t 23)),Zo 25 (.fld 1 (.t 2)),Zo 26 (.load none (.t 25)),Zo 27 (.lenl (.t 26)),Zo 28 (.bin .geq (.t 24) (.t 27))] (.keep [2,3,4,7,28] (.cond (.t 28) (Zq [Zo 29 (.load (some 2) (.t 7)),⟨none,none,.store 2 (.t 4) (.t 29),none⟩,Zo 5 (.mv (Zi 0)),Zo 6 (.mv (Zi 10))]
 .ret)
 .skip))) (.keep [2,3,4,7] (Zq [Zo 30 (.load (some 2) (.t 2)),Zo 31 (.call (.f 16) [.t 30]),Zo 8 (.new [(.int .i64 0),(.lst .clip 0 [])] [(1,71,3)]),⟨none,none,.stores 2 (.t 8) (.t 31),none⟩] (.keep [3,4,7,8] (Zq [Zo 32 (.fld 1 (.t 8)),Zo 33 (.load none (.t 32)),Zo 34 (.fld 0 (.t 3)),Zo 35 (.load none (.t 34)),
 Zo 36 (.idxa 3 (.t 33) (.t 35)),Zo 37 (.load (some 3) (.t 36)),Zo 9 (.new [(.int .i64 0),(.lst .clip 0 []),(.int .i64 0)] [(1,58,2)]),⟨none,none,.store 3 (.t 9) (.t 37),none⟩] (.keep [3,4,7,8,9] (.seq (Zq [Zo 38 (.fld 1 (.t 3)),Zo 39 (.load none (.t 38)),Zo 40 (.bin .eql (.t 39) (Zi 1))] (.keep [3,4,7,8,9,40] (.cond (.t 40) (.seq (Zq [Zo 41 (.fld 0 (.t 9)),
 Zo 42 (.load none (.t 41)),Zo 43 (.fld 2 (.t 3)),Zo 44 (.load none (.t 43)),Zo 45 (.bin .sub (Zi 4611686018427387904) (.t 44)),Zo 46 (.bin .gtr (.t 42) (.t 45))] (.keep [3,4,7,8,9,46] (.cond (.t 46) (Zq [Zo 47 (.load (some 2) (.t 7)),⟨none,none,.store 2 (.t 4) (.t 47),none⟩,Zo 5 (.mv (Zi 0)),Zo 6 (.mv (Zi 5))]
 .ret)
 .skip))) (.keep [3,4,7,8,9] (.ops [Zo 48 (.fld 0 (.t 9)),Zo 49 (.load none (.t 48)),Zo 50 (.fld 2 (.t 3)),Zo 51 (.load none (.t 50)),Zo 52 (.bin .add (.t 49) (.t 51)),Zo 53 (.fld 0 (.t 9)),⟨none,none,.store 1 (.t 53) (.t 52),none⟩])))
 .skip))) (J_ref21_Do_j3)))))))))))))⟩
theorem J_ref21_Do_ok : chkFn Try.prog 18 J_ref21_Do = true := by kernel_rfl
def J_ref21_Same_j1 : ACode :=
 .keep [] (Zq [Zo 4 (.mv (.c (.bool true)))]
 .ret)
def J_ref21_Same_j2 : ACode :=
 .keep [2,3,5] (.ops [Zm 28 5,Zo 29 (.bin .add (.t 28) (Zi 1)),Zm 5 29])
def J_ref21_Same_j3 : ACode :=
 .seq (Zq [Zm 61 8,Zo 62 (.fld 1 (.t 6)),Zo 63 (.load none (.t 62)),Zo 64 (.lenl (.t 63)),Zo 65 (.bin .lss (.t 61) (.t 64))] (.keep [2,3,5,6,7,8,65] (.cond (.t 65)
 .skip
 (.exit 2)))) (.keep [2,3,5,6,7,8] (.seq (.block 3 (.seq (.draw [2,3,5,6,7,8,79] [Zo 68 (.fld 1 (.t 6)),Zo 69 (.lds none (.t 68)),Zm 70 8,Zo 71 (.idxa 2 (.t 69) (.t 70)),Zo 72 (.load (some 2) (.t 71)),Zo 73 (.fld 1 (.t 7)),Zo 74 (.lds none (.t 73)),Zm 75 8,Zo 76 (.idxa 2 (.t 74) (.t 75)),Zo 77 (.load (some 2) (.t 76)),
 Zo 78 (.call (.f 58) [.t 72,.t 77]),Zo 79 (.not (.t 78))]) (.keep [2,3,5,6,7,8,79] (.cond (.t 79) (Zq [Zo 4 (.mv (.c (.bool false)))]
 .ret)
 .skip)))) (.keep [2,3,5,6,7,8] (.ops [Zm 66 8,Zo 67 (.bin .add (.t 66) (Zi 1)),Zm 8 67]))))
def J_ref21_Same_j4 : ACode :=
 .seq (Zq [Zm 23 5,Zo 24 (.fld 1 (.t 2)),Zo 25 (.load none (.t 24)),Zo 26 (.lenl (.t 25)),Zo 27 (.bin .lss (.t 23) (.t 26))] (.keep [2,3,5,27] (.cond (.t 27)
 .skip
 (.exit 0)))) (.keep [2,3,5] (.seq (.block 1 (Zq [Zo 30 (.fld 1 (.t 2)),Zo 31 (.load none (.t 30)),Zm 32 5,Zo 33 (.idxa 3 (.t 31) (.t 32)),Zo 34 (.load (some 3) (.t 33)),Zo 6 (.new [(.int .i64 0),(.lst .clip 0 []),(.int .i64 0)] [(1,58,2)]),⟨none,none,.stores 3 (.t 6) (.t 34),none⟩] (.keep [2,3,5,6] (Zq [Zo 35 (.fld 1 (.t 3)),
 Zo 36 (.load none (.t 35)),Zm 37 5,Zo 38 (.idxa 3 (.t 36) (.t 37)),Zo 39 (.load (some 3) (.t 38)),Zo 7 (.new [(.int .i64 0),(.lst .clip 0 []),(.int .i64 0)] [(1,58,2)]),⟨none,none,.stores 3 (.t 7) (.t 39),none⟩] (.keep [2,3,5,6,7] (.seq (Zq [Zo 40 (.fld 0 (.t 6)),Zo 41 (.load none (.t 40)),Zo 42 (.fld 0 (.t 7)),
 Zo 43 (.load none (.t 42)),Zo 44 (.bin .neq (.t 41) (.t 43)),Zm 45 44,Zf 45 46 (.fld 2 (.t 6)),Zf 45 47 (.load none (.t 46)),Zf 45 48 (.fld 2 (.t 7)),Zf 45 49 (.load none (.t 48)),Zf 45 50 (.bin .neq (.t 47) (.t 49)),Zo 51 (.pick (.t 45) (.c (.bool true)) (.t 50)),Zm 52 51,Zf 52 53 (.fld 1 (.t 6)),Zf 52 54 (.load none (.t 53)),
 Zf 52 55 (.lenl (.t 54)),Zf 52 56 (.fld 1 (.t 7)),Zf 52 57 (.load none (.t 56)),Zf 52 58 (.lenl (.t 57)),Zf 52 59 (.bin .neq (.t 55) (.t 58)),Zo 60 (.pick (.t 52) (.c (.bool true)) (.t 59))] (.keep [2,3,5,6,7,60] (.cond (.t 60) (Zq [Zo 4 (.mv (.c (.bool false)))]
 .ret)
 .skip))) (.keep [2,3,5,6,7] (Zq [Zo 8 (.mv (Zi 0))] (.keep [2,3,5,6,7,8] (.block 2 (.loop [2,3,5,6,7,8] (J_ref21_Same_j3)))))))))))) (J_ref21_Same_j2)))
def J_ref21_Same : AFn :=
 ⟨80,[.t 4],Zq [Zo 2 (.box (.t 0) []),Zo 3 (.box (.t 1) []),Zo 4 (.mv (.c (.bool false)))] (.keep [2,3] (.seq (Zq [Zo 9 (.fld 0 (.t 2)),Zo 10 (.load none (.t 9)),Zo 11 (.fld 0 (.t 3)),Zo 12 (.load none (.t 11)),Zo 13 (.bin .neq (.t 10) (.t 12)),Zm 14 13,Zf 14 15 (.fld 1 (.t 2)),Zf 14 16 (.load none (.t 15)),
 Zf 14 17 (.lenl (.t 16)),Zf 14 18 (.fld 1 (.t 3)),Zf 14 19 (.load none (.t 18)),Zf 14 20 (.lenl (.t 19)),Zf 14 21 (.bin .neq (.t 17) (.t 20)),Zo 22 (.pick (.t 14) (.c (.bool true)) (.t 21))] (.keep [2,3,22] (.cond (.t 22) (Zq [Zo 4 (.mv (.c (.bool false)))]
 .ret)
 .skip))) (.keep [2,3] (.seq (Zq [Zo 5 (.mv (Zi 0))] (.keep [2,3,5] (.block 0 (.loop [2,3,5] (J_ref21_Same_j4))))) (J_ref21_Same_j1)))))⟩
theorem J_ref21_Same_ok : chkFn Try.prog 19 J_ref21_Same = true := by kernel_rfl
def J_record_May_j1 : ACode :=
 .keep [] (Zq [Zo 2 (.mv (.c (.bool true)))]
 .ret)
def J_record_May_j2 : ACode :=
 Zq [Zo 25 (.bin .lss (.t 24) (.t 23))] (.keep [22,23,24,25] (.seq (.cond (.t 25)
 .skip
 (.exit 0)) (.keep [22,23,24] (.seq (.block 1 (Zq [Zo 26 (.idxa 3 (.t 22) (.t 24)),Zo 27 (.load (some 3) (.t 26)),Zo 4 (.new [(.int .i64 0),(.lst .clip 0 []),(.int .i64 0)] [(1,58,2)]),⟨none,none,.stores 3 (.t 4) (.t 27),none⟩] (.keep [4,22,23,24] (.seq (Zq [Zo 28 (.fld 0 (.t 4)),Zo 29 (.load none (.t 28)),
 Zo 30 (.call (.f 59) [.t 29]),Zo 31 (.not (.t 30)),Zm 32 31,Zf 32 33 (.fld 2 (.t 4)),Zf 32 34 (.load none (.t 33)),Zf 32 35 (.call (.f 59) [.t 34]),Zf 32 36 (.not (.t 35)),Zo 37 (.pick (.t 32) (.c (.bool true)) (.t 36))] (.keep [4,22,23,24,37] (.cond (.t 37) (Zq [Zo 2 (.mv (.c (.bool false)))]
 .ret)
 .skip))) (.keep [4,22,23,24] (Zq [Zo 39 (.fld 1 (.t 4)),Zo 40 (.load none (.t 39)),Zo 41 (.call (.f 60) [.t 40]),Zm 38 41,Zo 42 (.ext 0 (.t 38)),Zo 43 (.ext 1 (.t 38)),Zm 5 42,Zm 6 43] (.keep [6,22,23,24] (Zq [Zm 44 6,Zo 45 (.bin .neq (.t 44) (Zi 0))] (.keep [22,23,24,45] (.cond (.t 45) (Zq [Zo 2 (.mv (.c (.bool false)))]
 .ret)
 .skip)))))))))) (.keep [22,23,24] (.ops [Zo 46 (.bin .add (.t 24) (Zi 1)),Zm 24 46]))))))
def J_record_May : AFn :=
 ⟨47,[.t 2],Zq [Zo 1 (.box (.t 0) []),Zo 2 (.mv (.c (.bool false)))] (.keep [1] (.seq (Zq [Zo 7 (.fld 0 (.t 1)),Zo 8 (.load none (.t 7)),Zo 9 (.bin .lss (.t 8) (Zi 0)),Zm 10 9,Zf 10 11 (.fld 0 (.t 1)),Zf 10 12 (.load none (.t 11)),Zf 10 13 (.bin .gtr (.t 12) (Zi 40)),Zo 14 (.pick (.t 10) (.c (.bool true)) (.t 13)),
 Zm 15 14,Zf 15 16 (.fld 1 (.t 1)),Zf 15 17 (.load none (.t 16)),Zf 15 18 (.lenl (.t 17)),Zf 15 19 (.bin .gtr (.t 18) (Zi 4)),Zo 20 (.pick (.t 15) (.c (.bool true)) (.t 19))] (.keep [1,20] (.cond (.t 20) (Zq [Zo 2 (.mv (.c (.bool false)))]
 .ret)
 .skip))) (.keep [1] (.seq (Zq [Zo 21 (.fld 1 (.t 1)),Zo 22 (.load none (.t 21)),Zo 23 (.lenl (.t 22)),Zo 24 (.mv (Zi 0))] (.keep [22,23,24] (.block 0 (.loop [22,23,24] (J_record_May_j2))))) (J_record_May_j1)))))⟩
theorem J_record_May_ok : chkFn Try.prog 20 J_record_May = true := by kernel_rfl
def J_ref21_May_j1 : ACode :=
 .keep [] (Zq [Zo 2 (.mv (.c (.bool true)))]
 .ret)
def J_ref21_May_j2 : ACode :=
 .seq (Zq [Zm 21 3,Zo 22 (.fld 1 (.t 1)),Zo 23 (.load none (.t 22)),Zo 24 (.lenl (.t 23)),Zo 25 (.bin .lss (.t 21) (.t 24))] (.keep [1,3,25] (.cond (.t 25)
 .skip
 (.exit 0)))) (.keep [1,3] (.seq (.block 1 (Zq [Zo 28 (.fld 1 (.t 1)),Zo 29 (.load none (.t 28)),Zm 30 3,Zo 31 (.idxa 3 (.t 29) (.t 30)),Zo 32 (.load (some 3) (.t 31)),Zo 4 (.new [(.int .i64 0),(.lst .clip 0 []),(.int .i64 0)] [(1,58,2)]),⟨none,none,.stores 3 (.t 4) (.t 32),none⟩] (.keep [1,3,4] (Zq [Zo 34 (.fld 1 (.t 4)),
 Zo 35 (.load none (.t 34)),Zo 36 (.call (.f 55) [.t 35]),Zm 33 36,Zo 37 (.ext 0 (.t 33)),Zo 38 (.ext 1 (.t 33)),Zm 5 37,Zm 6 38] (.keep [1,3,4,6] (Zq [Zo 39 (.fld 0 (.t 4)),Zo 40 (.load none (.t 39)),Zo 41 (.call (.f 61) [.t 40]),Zo 42 (.not (.t 41)),Zm 43 42,Zf 43 44 (.fld 2 (.t 4)),Zf 43 45 (.load none (.t 44)),
 Zf 43 46 (.call (.f 61) [.t 45]),Zf 43 47 (.not (.t 46)),Zo 48 (.pick (.t 43) (.c (.bool true)) (.t 47)),Zm 49 48,Zf 49 50 (.mv (.t 6)),Zf 49 51 (.bin .neq (.t 50) (Zi 0)),Zo 52 (.pick (.t 49) (.c (.bool true)) (.t 51))] (.keep [1,3,52] (.cond (.t 52) (Zq [Zo 2 (.mv (.c (.bool false)))]
 .ret)
 .skip)))))))) (.keep [1,3] (.ops [Zm 26 3,Zo 27 (.bin .add (.t 26) (Zi 1)),Zm 3 27]))))
def J_ref21_May : AFn :=
 ⟨53,[.t 2],Zq [Zo 1 (.box (.t 0) []),Zo 2 (.mv (.c (.bool false)))] (.keep [1] (.seq (Zq [Zo 7 (.fld 0 (.t 1)),Zo 8 (.load none (.t 7)),Zo 9 (.bin .lss (.t 8) (Zi 0)),Zm 10 9,Zf 10 11 (.fld 0 (.t 1)),Zf 10 12 (.load none (.t 11)),Zf 10 13 (.bin .gtr (.t 12) (Zi 40)),Zo 14 (.pick (.t 10) (.c (.bool true)) (.t 13)),
 Zm 15 14,Zf 15 16 (.fld 1 (.t 1)),Zf 15 17 (.load none (.t 16)),Zf 15 18 (.lenl (.t 17)),Zf 15 19 (.bin .gtr (.t 18) (Zi 4)),Zo 20 (.pick (.t 15) (.c (.bool true)) (.t 19))] (.keep [1,20] (.cond (.t 20) (Zq [Zo 2 (.mv (.c (.bool false)))]
 .ret)
 .skip))) (.keep [1] (.seq (Zq [Zo 3 (.mv (Zi 0))] (.keep [1,3] (.block 0 (.loop [1,3] (J_ref21_May_j2))))) (J_ref21_May_j1)))))⟩
theorem J_ref21_May_ok : chkFn Try.prog 21 J_ref21_May = true := by kernel_rfl
def J_record_Asks_j1 : ACode :=
 .keep [1,42] (.cond (.t 42) (Zq [Zo 45 (.fld 2 (.t 1)),Zo 46 (.load none (.t 45)),Zo 47 (.bin .eql (.t 46) (Zi 0)),Zm 48 47,Zt 48 49 (.fld 3 (.t 1)),Zt 48 50 (.fld 0 (.t 49)),Zt 48 51 (.load none (.t 50)),Zt 48 52 (.bin .geq (.t 51) (Zi 0)),Zo 53 (.pick (.t 48) (.t 52) (.c (.bool false))),Zm 54 53,Zt 54 55 (.fld 3 (.t 1)),
 Zt 54 56 (.fld 0 (.t 55)),Zt 54 57 (.load none (.t 56)),Zt 54 58 (.bin .lss (.t 57) (Zi 8)),Zo 59 (.pick (.t 54) (.t 58) (.c (.bool false))),Zm 60 59,Zt 60 61 (.fld 3 (.t 1)),Zt 60 62 (.fld 1 (.t 61)),Zt 60 63 (.load none (.t 62)),Zt 60 64 (.call (.f 31) [.t 63]),Zo 65 (.pick (.t 60) (.t 64) (.c (.bool false))),Zm 2 65]
 .ret)
 .skip)
def J_record_Asks : AFn :=
 ⟨66,[.t 2],Zq [Zo 1 (.box (.t 0) []),Zo 2 (.mv (.c (.bool false)))] (.keep [1] (.seq (Zq [Zo 4 (.fld 0 (.t 1)),Zo 5 (.load none (.t 4)),Zo 6 (.bin .lss (.t 5) (Zi 0)),Zm 7 6,Zf 7 8 (.fld 0 (.t 1)),Zf 7 9 (.load none (.t 8)),Zf 7 10 (.bin .geq (.t 9) (Zi 4)),Zo 11 (.pick (.t 7) (.c (.bool true)) (.t 10)),
 Zm 12 11,Zf 12 13 (.fld 2 (.t 1)),Zf 12 14 (.load none (.t 13)),Zf 12 15 (.call (.f 59) [.t 14]),Zf 12 16 (.not (.t 15)),Zo 17 (.pick (.t 12) (.c (.bool true)) (.t 16))] (.keep [1,17] (.cond (.t 17) (Zq [Zo 2 (.mv (.c (.bool false)))]
 .ret)
 .skip))) (.keep [1] (Zq [Zo 18 (.fld 3 (.t 1)),Zo 19 (.fld 0 (.t 18)),Zo 20 (.load none (.t 19)),Zo 21 (.bin .eql (.t 20) (Zi 0)),Zm 22 21,Zt 22 23 (.fld 3 (.t 1)),Zt 22 24 (.fld 1 (.t 23)),Zt 22 25 (.load none (.t 24)),Zt 22 26 (.lenl (.t 25)),Zt 22 27 (.bin .eql (.t 26) (Zi 0)),Zo 28 (.pick (.t 22) (.t 27) (.c (.bool false))),
 Zm 3 28] (.keep [1,3] (.seq (Zq [Zo 29 (.fld 1 (.t 1)),Zo 30 (.load none (.t 29))] (.keep [1,3,30] (.block 0 (Zq [Zo 32 (.bin .eql (.t 30) (Zi 0)),Zm 31 32] (.keep [1,3,30,31] (.cond (.t 31) (Zq [Zo 33 (.fld 2 (.t 1)),Zo 34 (.load none (.t 33)),Zo 35 (.bin .eql (.t 34) (Zi 0)),Zm 36 35,Zt 36 37 (.mv (.t 3)),Zo 38 (.pick (.t 36) (.t 37) (.c (.bool false))),Zm 2 38]
 .ret) (Zq [Zo 40 (.bin .eql (.t 30) (Zi 1)),Zm 39 40] (.keep [1,3,30,39] (.cond (.t 39) (Zq [Zm 41 3,Zm 2 41]
 .ret) (.seq (Zq [Zo 43 (.bin .eql (.t 30) (Zi 2)),Zm 42 43] (.keep [1,30,42] (.cond (.t 42)
 .skip
 (.ops [Zo 44 (.bin .eql (.t 30) (Zi 3)),Zm 42 44])))) (J_record_Asks_j1))))))))))) (.keep [] (Zq [Zo 2 (.mv (.c (.bool false)))]
 .ret))))))))⟩
theorem J_record_Asks_ok : chkFn Try.prog 22 J_record_Asks = true := by kernel_rfl
def J_ref21_Asks : AFn :=
 ⟨67,[.t 2],Zq [Zo 1 (.box (.t 0) []),Zo 2 (.mv (.c (.bool false)))] (.keep [1] (.seq (Zq [Zo 3 (.fld 0 (.t 1)),Zo 4 (.load none (.t 3)),Zo 5 (.bin .lss (.t 4) (Zi 0)),Zm 6 5,Zf 6 7 (.fld 0 (.t 1)),Zf 6 8 (.load none (.t 7)),Zf 6 9 (.bin .gtr (.t 8) (Zi 3)),Zo 10 (.pick (.t 6) (.c (.bool true)) (.t 9)),
 Zm 11 10,Zf 11 12 (.fld 1 (.t 1)),Zf 11 13 (.load none (.t 12)),Zf 11 14 (.bin .lss (.t 13) (Zi 0)),Zo 15 (.pick (.t 11) (.c (.bool true)) (.t 14)),Zm 16 15,Zf 16 17 (.fld 1 (.t 1)),Zf 16 18 (.load none (.t 17)),Zf 16 19 (.bin .gtr (.t 18) (Zi 3)),Zo 20 (.pick (.t 16) (.c (.bool true)) (.t 19)),Zm 21 20,
 Zf 21 22 (.fld 2 (.t 1)),Zf 21 23 (.load none (.t 22)),Zf 21 24 (.call (.f 61) [.t 23]),Zf 21 25 (.not (.t 24)),Zo 26 (.pick (.t 21) (.c (.bool true)) (.t 25)),Zm 27 26,Zf 27 28 (.fld 1 (.t 1)),Zf 27 29 (.load none (.t 28)),Zf 27 30 (.bin .neq (.t 29) (Zi 1)),Zf 27 31 (.mv (.t 30)),Zt 31 32 (.fld 2 (.t 1)),
 Zt 31 33 (.load none (.t 32)),Zt 31 34 (.bin .neq (.t 33) (Zi 0)),Zf 27 35 (.pick (.t 31) (.t 34) (.c (.bool false))),Zo 36 (.pick (.t 27) (.c (.bool true)) (.t 35))] (.keep [1,36] (.cond (.t 36) (Zq [Zo 2 (.mv (.c (.bool false)))]
 .ret)
 .skip))) (.keep [1] (.seq (Zq [Zo 37 (.fld 1 (.t 1)),Zo 38 (.load none (.t 37)),Zo 39 (.bin .lss (.t 38) (Zi 2))] (.keep [1,39] (.cond (.t 39) (Zq [Zo 40 (.fld 3 (.t 1)),Zo 41 (.fld 0 (.t 40)),Zo 42 (.load none (.t 41)),Zo 43 (.bin .eql (.t 42) (Zi 0)),Zm 44 43,Zt 44 45 (.fld 3 (.t 1)),Zt 44 46 (.fld 1 (.t 45)),
 Zt 44 47 (.load none (.t 46)),Zt 44 48 (.lenl (.t 47)),Zt 44 49 (.bin .eql (.t 48) (Zi 0)),Zo 50 (.pick (.t 44) (.t 49) (.c (.bool false))),Zm 2 50]
 .ret)
 .skip))) (.keep [1] (Zq [Zo 51 (.fld 3 (.t 1)),Zo 52 (.fld 0 (.t 51)),Zo 53 (.load none (.t 52)),Zo 54 (.bin .geq (.t 53) (Zi 0)),Zm 55 54,Zt 55 56 (.fld 3 (.t 1)),Zt 55 57 (.fld 0 (.t 56)),Zt 55 58 (.load none (.t 57)),Zt 55 59 (.bin .leq (.t 58) (Zi 7)),Zo 60 (.pick (.t 55) (.t 59) (.c (.bool false))),
 Zm 61 60,Zt 61 62 (.fld 3 (.t 1)),Zt 61 63 (.fld 1 (.t 62)),Zt 61 64 (.load none (.t 63)),Zt 61 65 (.call (.f 32) [.t 64]),Zo 66 (.pick (.t 61) (.t 65) (.c (.bool false))),Zm 2 66]
 .ret))))))⟩
theorem J_ref21_Asks_ok : chkFn Try.prog 23 J_ref21_Asks = true := by kernel_rfl
def J_record_Need : AFn :=
 ⟨5,[.t 2],Zq [Zo 1 (.box (.t 0) []),Zo 2 (.mv (Zi 0))] (.keep [1] (Zq [Zo 3 (.fld 1 (.t 1)),Zo 4 (.load none (.t 3)),Zm 2 4]
 .ret))⟩
theorem J_record_Need_ok : chkFn Try.prog 24 J_record_Need = true := by kernel_rfl
def J_record_Encode_j1 : ACode :=
 .keep [4] (Zq [Zo 51 (.call (.f 86) [.t 4]),Zo 52 (.ext 0 (.t 51)),Zo 53 (.ext 1 (.t 51)),Zm 2 52,Zm 3 53]
 .ret)
def J_record_Encode_j2 : ACode :=
 .keep [4,20,21,22] (.ops [Zo 50 (.bin .add (.t 22) (Zi 1)),Zm 22 50])
def J_record_Encode_j3 : ACode :=
 Zq [Zo 40 (.bin .lss (.t 39) (.t 38))] (.keep [4,20,21,22,37,38,39,40] (.seq (.cond (.t 40)
 .skip
 (.exit 2)) (.keep [4,20,21,22,37,38,39] (.seq (.block 3 (Zq [Zo 41 (.idxa 2 (.t 37) (.t 39)),Zo 42 (.load (some 2) (.t 41)),Zo 8 (.new [(.int .i64 0),(.lst .clip 0 [])] []),⟨none,none,.stores 2 (.t 8) (.t 42),none⟩] (.keep [4,8,20,21,22,37,38,39] (Zq [Zo 43 (.fld 0 (.t 8)),Zo 44 (.load none (.t 43)),
 Zo 45 (.call (.f 84) [.t 4,.t 44])] (.keep [4,8,20,21,22,37,38,39] (.ops [Zo 46 (.fld 1 (.t 8)),Zo 47 (.load none (.t 46)),Zo 48 (.call (.f 85) [.t 4,.t 47])])))))) (.keep [4,20,21,22,37,38,39] (.ops [Zo 49 (.bin .add (.t 39) (Zi 1)),Zm 39 49]))))))
def J_record_Encode_j4 : ACode :=
 Zq [Zo 23 (.bin .lss (.t 22) (.t 21))] (.keep [4,20,21,22,23] (.seq (.cond (.t 23)
 .skip
 (.exit 0)) (.keep [4,20,21,22] (.seq (.block 1 (Zq [Zo 24 (.idxa 3 (.t 20) (.t 22)),Zo 25 (.load (some 3) (.t 24)),Zo 6 (.new [(.int .i64 0),(.lst .clip 0 []),(.int .i64 0)] [(1,58,2)]),⟨none,none,.stores 3 (.t 6) (.t 25),none⟩] (.keep [4,6,20,21,22] (Zq [Zo 26 (.fld 0 (.t 6)),Zo 27 (.load none (.t 26)),
 Zo 28 (.call (.f 84) [.t 4,.t 27])] (.keep [4,6,20,21,22] (Zq [Zo 29 (.fld 2 (.t 6)),Zo 30 (.load none (.t 29)),Zo 31 (.call (.f 84) [.t 4,.t 30])] (.keep [4,6,20,21,22] (Zq [Zo 32 (.fld 1 (.t 6)),Zo 33 (.load none (.t 32)),Zo 34 (.lenl (.t 33)),Zo 35 (.call (.f 84) [.t 4,.t 34])] (.keep [4,6,20,21,22] (Zq [Zo 36 (.fld 1 (.t 6)),
 Zo 37 (.load none (.t 36)),Zo 38 (.lenl (.t 37)),Zo 39 (.mv (Zi 0))] (.keep [4,20,21,22,37,38,39] (.block 2 (.loop [4,20,21,22,37,38,39] (J_record_Encode_j3)))))))))))))) (J_record_Encode_j2)))))
def J_record_Encode : AFn :=
 ⟨54,[.t 2,.t 3],Zq [Zo 1 (.box (.t 0) []),Zo 2 (.mv (.c (.str ⟨#[]⟩))),Zo 3 (.mv (Zi 0))] (.keep [1] (.seq (Zq [Zo 9 (.load (some 2) (.t 1)),Zo 10 (.call (.f 20) [.t 9]),Zo 11 (.not (.t 10))] (.keep [1,11] (.cond (.t 11) (Zq [Zo 2 (.mv (.c (.str ⟨#[]⟩))),Zo 3 (.mv (Zi 2))]
 .ret)
 .skip))) (.keep [1] (Zq [Zo 4 (.new [(.int .i64 0),(.lst .clip 0 [])] [(1,5,1)])] (.keep [1,4] (Zq [Zo 12 (.fld 0 (.t 1)),Zo 13 (.load none (.t 12)),Zo 14 (.call (.f 84) [.t 4,.t 13])] (.keep [1,4] (Zq [Zo 15 (.fld 1 (.t 1)),Zo 16 (.load none (.t 15)),Zo 17 (.lenl (.t 16)),Zo 18 (.call (.f 84) [.t 4,.t 17])] (.keep [1,4] (.seq (Zq [Zo 19 (.fld 1 (.t 1)),
 Zo 20 (.load none (.t 19)),Zo 21 (.lenl (.t 20)),Zo 22 (.mv (Zi 0))] (.keep [4,20,21,22] (.block 0 (.loop [4,20,21,22] (J_record_Encode_j4))))) (J_record_Encode_j1)))))))))))⟩
theorem J_record_Encode_ok : chkFn Try.prog 48 J_record_Encode = true := by kernel_rfl
def J_record_Decode_j1 : ACode :=
 .keep [2,4,5] (.seq (Zq [Zm 43 4,Zo 44 (.call (.f 90) [.t 43]),Zo 45 (.bin .neq (.t 44) (Zi 0)),Zm 46 45,Zf 46 47 (.load (some 2) (.t 5)),Zf 46 48 (.call (.f 20) [.t 47]),Zf 46 49 (.not (.t 48)),Zo 50 (.pick (.t 46) (.c (.bool true)) (.t 49))] (.keep [2,5,50] (.cond (.t 50) (Zq [Zo 51 (.build [(.int .i64 0),(.lst .clip 0 [])] []),⟨none,none,.store 2 (.t 2) (.t 51),none⟩,Zo 3 (.mv (Zi 2))]
 .ret)
 .skip))) (.keep [2,5] (Zq [Zo 52 (.load (some 2) (.t 5)),⟨none,none,.store 2 (.t 2) (.t 52),none⟩,Zo 3 (.mv (Zi 0))]
 .ret)))
def J_record_Decode_j2 : ACode :=
 .keep [2,4,5,13,14] (.ops [Zo 42 (.bin .add (.t 14) (Zi 1)),Zm 14 42])
def J_record_Decode_j3 : ACode :=
 .keep [2,4,5,6,13,14] (.ops [Zo 36 (.fld 1 (.t 5)),Zo 37 (.loado (.t 36)),Zo 38 (.load (some 3) (.t 6)),Zo 39 (.bsl 71 3 1 [(.int .i64 0),(.lst .clip 0 []),(.int .i64 0)] [(0,3,(.t 38))]),Zo 40 (.appo 71 3 40 37 (.t 39)),Zo 41 (.fld 1 (.t 5)),⟨none,none,.storeo (.t 41) 40,none⟩])
def J_record_Decode_j4 : ACode :=
 Zq [Zo 24 (.bin .lss (.t 23) (.t 22))] (.keep [2,4,5,6,13,14,22,23,24] (.seq (.cond (.t 24)
 .skip
 (.exit 2)) (.keep [2,4,5,6,13,14,22,23] (.seq (.block 3 (.draw [2,4,5,6,13,14,22,23] [Zo 25 (.fld 1 (.t 6)),⟨some 26,none,.loado (.t 25),(some (.s 6,[4]))⟩,Zm 27 4,⟨some 28,none,.calli (.f 88) [.t 27,(Zi 7)],(some (.s 4,[6]))⟩,Zm 29 4,⟨some 30,none,.calli (.f 89) [.t 29],(some (.s 4,[6]))⟩,Zo 31 (.build [(.int .i64 0),(.lst .clip 0 [])] [(0,1,(.t 28)),(1,1,(.t 30))]),
 Zo 32 (.bsl 58 2 1 [(.int .i64 0),(.lst .clip 0 [])] [(0,2,(.t 31))]),Zo 33 (.appo 58 2 32 26 (.t 32)),Zo 34 (.fld 1 (.t 6)),⟨none,none,.storeo (.t 34) 33,none⟩])) (.keep [2,4,5,6,13,14,22,23] (.ops [Zo 35 (.bin .add (.t 23) (Zi 1)),Zm 23 35]))))))
def J_record_Decode_j5 : ACode :=
 Zq [Zo 15 (.bin .lss (.t 14) (.t 13))] (.keep [2,4,5,13,14,15] (.seq (.cond (.t 15)
 .skip
 (.exit 0)) (.keep [2,4,5,13,14] (.seq (.block 1 (Zq [Zm 16 4,Zo 17 (.call (.f 88) [.t 16,(Zi 4611686018427387904)]),Zm 18 4,Zo 19 (.call (.f 88) [.t 18,(Zi 4611686018427387904)]),Zo 20 (.build [(.int .i64 0),(.lst .clip 0 []),(.int .i64 0)] [(0,1,(.t 17)),(2,1,(.t 19))]),Zo 6 (.new [(.int .i64 0),(.lst .clip 0 []),(.int .i64 0)] [(1,58,2)]),⟨none,none,.storeu 3 [(1,58,2)] (.t 6) (.t 20),none⟩] (.keep [2,4,5,6,13,14] (.seq (Zq [Zm 21 4,
 Zo 22 (.call (.f 88) [.t 21,(Zi 12)]),Zo 23 (.mv (Zi 0))] (.keep [2,4,5,6,13,14,22,23] (.block 2 (.loop [2,4,5,6,13,14,22,23] (J_record_Decode_j4))))) (J_record_Decode_j3))))) (J_record_Decode_j2)))))
def J_record_Decode : AFn :=
 ⟨53,[.c 2 (some 2),.t 3],Zq [Zo 2 (.new [(.int .i64 0),(.lst .clip 0 [])] [(1,71,3)]),Zo 3 (.mv (Zi 0))] (.keep [0,2] (Zq [Zm 7 0,Zo 8 (.call (.f 87) [.t 7]),Zm 4 8] (.keep [2,4] (Zq [Zm 9 4,Zo 10 (.call (.f 88) [.t 9,(Zi 40)]),Zo 11 (.build [(.int .i64 0),(.lst .clip 0 [])] [(0,1,(.t 10))]),Zo 5 (.new [(.int .i64 0),(.lst .clip 0 [])] [(1,71,3)]),⟨none,none,.storeu 2 [(1,71,3)] (.t 5) (.t 11),none⟩] (.keep [2,4,5] (.seq (Zq [Zm 12 4,
 Zo 13 (.call (.f 88) [.t 12,(Zi 4)]),Zo 14 (.mv (Zi 0))] (.keep [2,4,5,13,14] (.block 0 (.loop [2,4,5,13,14] (J_record_Decode_j5))))) (J_record_Decode_j1)))))))⟩
theorem J_record_Decode_ok : chkFn Try.prog 49 J_record_Decode = true := by kernel_rfl
def J_record_Same_j1 : ACode :=
 .keep [] (Zq [Zo 4 (.mv (.c (.bool true)))]
 .ret)
def J_record_Same_j2 : ACode :=
 .keep [3,25,26,27] (.ops [Zo 75 (.bin .add (.t 27) (Zi 1)),Zm 27 75])
def J_record_Same_j3 : ACode :=
 Zq [Zo 62 (.bin .lss (.t 61) (.t 60))] (.keep [3,7,25,26,27,59,60,61,62] (.seq (.cond (.t 62)
 .skip
 (.exit 2)) (.keep [3,7,25,26,27,59,60,61] (.seq (.block 3 (Zq [Zm 63 61,Zo 64 (.idxa 2 (.t 59) (.t 61)),Zo 65 (.load (some 2) (.t 64)),Zo 9 (.new [(.int .i64 0),(.lst .clip 0 [])] []),Zm 8 63,⟨none,none,.stores 2 (.t 9) (.t 65),none⟩] (.keep [3,7,8,9,25,26,27,59,60,61] (.seq (.draw [3,7,25,26,27,59,60,61,73] [Zo 66 (.lds (some 2) (.t 9)),
 Zo 67 (.fld 1 (.t 7)),Zo 68 (.lds none (.t 67)),Zm 69 8,Zo 70 (.idxa 2 (.t 68) (.t 69)),Zo 71 (.load (some 2) (.t 70)),Zo 72 (.call (.f 91) [.t 66,.t 71]),Zo 73 (.not (.t 72))]) (.keep [3,7,25,26,27,59,60,61,73] (.cond (.t 73) (Zq [Zo 4 (.mv (.c (.bool false)))]
 .ret)
 .skip)))))) (.keep [3,7,25,26,27,59,60,61] (.ops [Zo 74 (.bin .add (.t 61) (Zi 1)),Zm 61 74]))))))
def J_record_Same_j4 : ACode :=
 Zq [Zo 28 (.bin .lss (.t 27) (.t 26))] (.keep [3,25,26,27,28] (.seq (.cond (.t 28)
 .skip
 (.exit 0)) (.keep [3,25,26,27] (.seq (.block 1 (Zq [Zm 29 27,Zo 30 (.idxa 3 (.t 25) (.t 27)),Zo 31 (.load (some 3) (.t 30)),Zo 6 (.new [(.int .i64 0),(.lst .clip 0 []),(.int .i64 0)] [(1,58,2)]),Zm 5 29,⟨none,none,.stores 3 (.t 6) (.t 31),none⟩] (.keep [3,5,6,25,26,27] (Zq [Zo 32 (.fld 1 (.t 3)),Zo 33 (.load none (.t 32)),
 Zm 34 5,Zo 35 (.idxa 3 (.t 33) (.t 34)),Zo 36 (.load (some 3) (.t 35)),Zo 7 (.new [(.int .i64 0),(.lst .clip 0 []),(.int .i64 0)] [(1,58,2)]),⟨none,none,.stores 3 (.t 7) (.t 36),none⟩] (.keep [3,6,7,25,26,27] (.seq (Zq [Zo 37 (.fld 0 (.t 6)),Zo 38 (.load none (.t 37)),Zo 39 (.fld 0 (.t 7)),Zo 40 (.load none (.t 39)),
 Zo 41 (.bin .neq (.t 38) (.t 40)),Zm 42 41,Zf 42 43 (.fld 2 (.t 6)),Zf 42 44 (.load none (.t 43)),Zf 42 45 (.fld 2 (.t 7)),Zf 42 46 (.load none (.t 45)),Zf 42 47 (.bin .neq (.t 44) (.t 46)),Zo 48 (.pick (.t 42) (.c (.bool true)) (.t 47)),Zm 49 48,Zf 49 50 (.fld 1 (.t 6)),Zf 49 51 (.load none (.t 50)),
 Zf 49 52 (.lenl (.t 51)),Zf 49 53 (.fld 1 (.t 7)),Zf 49 54 (.load none (.t 53)),Zf 49 55 (.lenl (.t 54)),Zf 49 56 (.bin .neq (.t 52) (.t 55)),Zo 57 (.pick (.t 49) (.c (.bool true)) (.t 56))] (.keep [3,6,7,25,26,27,57] (.cond (.t 57) (Zq [Zo 4 (.mv (.c (.bool false)))]
 .ret)
 .skip))) (.keep [3,6,7,25,26,27] (Zq [Zo 58 (.fld 1 (.t 6)),Zo 59 (.load none (.t 58)),Zo 60 (.lenl (.t 59)),Zo 61 (.mv (Zi 0))] (.keep [3,7,25,26,27,59,60,61] (.block 2 (.loop [3,7,25,26,27,59,60,61] (J_record_Same_j3)))))))))))) (J_record_Same_j2)))))
def J_record_Same : AFn :=
 ⟨76,[.t 4],Zq [Zo 2 (.box (.t 0) []),Zo 3 (.box (.t 1) []),Zo 4 (.mv (.c (.bool false)))] (.keep [2,3] (.seq (Zq [Zo 10 (.fld 0 (.t 2)),Zo 11 (.load none (.t 10)),Zo 12 (.fld 0 (.t 3)),Zo 13 (.load none (.t 12)),Zo 14 (.bin .neq (.t 11) (.t 13)),Zm 15 14,Zf 15 16 (.fld 1 (.t 2)),Zf 15 17 (.load none (.t 16)),
 Zf 15 18 (.lenl (.t 17)),Zf 15 19 (.fld 1 (.t 3)),Zf 15 20 (.load none (.t 19)),Zf 15 21 (.lenl (.t 20)),Zf 15 22 (.bin .neq (.t 18) (.t 21)),Zo 23 (.pick (.t 15) (.c (.bool true)) (.t 22))] (.keep [2,3,23] (.cond (.t 23) (Zq [Zo 4 (.mv (.c (.bool false)))]
 .ret)
 .skip))) (.keep [2,3] (.seq (Zq [Zo 24 (.fld 1 (.t 2)),Zo 25 (.load none (.t 24)),Zo 26 (.lenl (.t 25)),Zo 27 (.mv (Zi 0))] (.keep [3,25,26,27] (.block 0 (.loop [3,25,26,27] (J_record_Same_j4))))) (J_record_Same_j1)))))⟩
theorem J_record_Same_ok : chkFn Try.prog 50 J_record_Same = true := by kernel_rfl
def J_record_copied_j1 : ACode :=
 .keep [2,3] (Zq [Zo 31 (.load (some 2) (.t 3)),⟨none,none,.store 2 (.t 2) (.t 31),none⟩]
 .ret)
def J_record_copied_j2 : ACode :=
 Zq [Zo 17 (.bin .lss (.t 16) (.t 15))] (.keep [2,3,14,15,16,17] (.seq (.cond (.t 17)
 .skip
 (.exit 0)) (.keep [2,3,14,15,16] (.seq (.block 1 (Zq [Zm 18 16,Zo 19 (.idxa 3 (.t 14) (.t 16)),Zo 20 (.load (some 3) (.t 19)),Zo 5 (.new [(.int .i64 0),(.lst .clip 0 []),(.int .i64 0)] [(1,58,2)]),Zm 4 18,⟨none,none,.store 3 (.t 5) (.t 20),none⟩] (.keep [2,3,4,5,14,15,16] (Zq [Zo 21 (.fld 1 (.t 5)),
 Zo 22 (.load none (.t 21)),Zo 23 (.call (.f 92) [.t 22]),Zo 24 (.fld 1 (.t 5)),⟨none,none,.store 1 (.t 24) (.t 23),none⟩] (.keep [2,3,4,5,14,15,16] (.ops [Zo 25 (.fld 1 (.t 3)),Zo 26 (.load none (.t 25)),Zm 27 4,Zo 28 (.load (some 3) (.t 5)),Zo 29 (.idxa 3 (.t 26) (.t 27)),⟨none,none,.store 3 (.t 29) (.t 28),none⟩])))))) (.keep [2,3,14,15,16] (.ops [Zo 30 (.bin .add (.t 16) (Zi 1)),
 Zm 16 30]))))))
def J_record_copied : AFn :=
 ⟨32,[.c 2 (some 2)],Zq [Zo 1 (.box (.t 0) []),Zo 2 (.new [(.int .i64 0),(.lst .clip 0 [])] [(1,71,3)])] (.keep [1,2] (.seq (.holes 2 (.draw [1,2,3] [Zo 6 (.fld 0 (.t 1)),Zo 7 (.load none (.t 6)),Zo 8 (.fld 1 (.t 1)),Zo 9 (.load none (.t 8)),Zo 10 (.lenl (.t 9)),⟨some 11,none,.mkn 71 3 40 [(.int .i64 0),(.lst .clip 0 []),(.int .i64 0)] (.t 10),(some (.h 1,[]))⟩,
 Zo 12 (.build [(.int .i64 0),(.lst .clip 0 [])] [(0,1,(.t 7)),(1,1,(.t 11))]),⟨some 3,none,.new [(.int .i64 0),(.lst .clip 0 [])] [(1,71,3)],(some (.h 0,[]))⟩,⟨none,none,.stores 2 (.t 3) (.t 12),(some (.h 0,[]))⟩])) (.keep [1,2,3] (.seq (Zq [Zo 13 (.fld 1 (.t 1)),Zo 14 (.load none (.t 13)),Zo 15 (.lenl (.t 14)),
 Zo 16 (.mv (Zi 0))] (.keep [2,3,14,15,16] (.block 0 (.loop [2,3,14,15,16] (J_record_copied_j2))))) (J_record_copied_j1)))))⟩
theorem J_record_copied_ok : chkFn Try.prog 51 J_record_copied = true := by kernel_rfl
def J_record_turn : AFn :=
 ⟨46,[.t 6],Zq [Zo 4 (.box (.t 1) []),Zo 6 (.mv (Zi 0))] (.keep [0,2,4] (.seq (Zq [Zm 10 0,Zo 11 (.nilck (.t 10)),Zo 12 (.fld 2 (.t 11)),Zo 13 (.load none (.t 12)),Zo 14 (.bin .geq (.t 13) (Zi 4611686018427387904))] (.keep [0,2,4,14] (.cond (.t 14) (Zq [Zo 6 (.mv (Zi 5))]
 .ret)
 .skip))) (.keep [0,2,4] (Zq [Zm 16 0,Zo 17 (.nilck (.t 16)),Zo 18 (.fld 1 (.t 17)),Zo 19 (.load none (.t 18)),Zo 20 (.call (.f 60) [.t 19]),Zm 15 20,Zo 21 (.ext 0 (.t 15)),Zo 22 (.ext 1 (.t 15)),Zm 7 21,Zm 8 22] (.keep [0,2,4,7,8] (.seq (Zq [Zm 23 8,Zo 24 (.bin .neq (.t 23) (Zi 0))] (.keep [0,2,4,7,8,24] (.cond (.t 24) (Zq [Zm 25 8,Zm 6 25]
 .ret)
 .skip))) (.keep [0,2,4,7] (.seq (Zq [Zm 26 2,Zm 27 7,Zo 28 (.load (some 2) (.t 4)),Zo 29 (.call (.t 26) [.t 27,.t 28]),Zm 9 29] (.keep [0,7,9] (Zq [Zm 30 9,Zo 31 (.bin .neq (.t 30) (Zi 0))] (.keep [0,7,9,31] (.cond (.t 31) (Zq [Zm 32 9,Zm 6 32]
 .ret)
 .skip))))) (.keep [0,7] (Zq [Zm 33 0,Zm 34 7,Zo 35 (.call (.f 93) [.t 34]),Zo 36 (.call (.f 92) [.t 35]),Zo 37 (.nilck (.t 33)),Zo 38 (.fld 1 (.t 37)),⟨none,none,.store 1 (.t 38) (.t 36),none⟩] (.keep [0] (Zq [Zm 39 0,Zo 40 (.nilck (.t 39)),Zo 41 (.fld 2 (.t 40)),Zo 42 (.load none (.t 41)),Zo 43 (.bin .add (.t 42) (Zi 1)),
 Zo 44 (.nilck (.t 39)),Zo 45 (.fld 2 (.t 44)),⟨none,none,.store 1 (.t 45) (.t 43),none⟩] (.keep [] (Zq [Zo 6 (.mv (Zi 0))]
 .ret))))))))))))))⟩
theorem J_record_turn_ok : chkFn Try.prog 52 J_record_turn = true := by kernel_rfl
def J_acl_List_Add : AFn :=
 ⟨44,[.t 4],Zq [Zo 3 (.box (.t 1) []),Zo 4 (.mv (Zi 0))] (.keep [0,3] (Zq [Zm 6 0,Zo 7 (.nilck (.t 6)),Zo 8 (.fld 0 (.t 7)),Zo 9 (.load none (.t 8)),Zo 10 (.lenl (.t 9)),Zm 5 10] (.keep [0,3,5] (.seq (.block 0 (Zq [Zo 12 (.load (some 2) (.t 3)),Zo 13 (.call (.f 94) [.t 12]),Zo 14 (.not (.t 13)),Zm 11 14] (.keep [0,3,5,11] (.cond (.t 11) (Zq [Zo 4 (.mv (Zi 2))]
 .ret) (Zq [Zm 16 0,Zo 17 (.load (some 2) (.t 3)),Zo 18 (.call (.f 95) [.t 16,.t 17]),Zo 19 (.bin .geq (.t 18) (Zi 0)),Zm 15 19] (.keep [0,3,5,15] (.cond (.t 15) (Zq [Zo 4 (.mv (Zi 11))]
 .ret) (Zq [Zm 21 5,Zo 22 (.bin .geq (.t 21) (Zi 12)),Zm 20 22] (.keep [0,3,5,20] (.cond (.t 20) (Zq [Zo 4 (.mv (Zi 3))]
 .ret)
 .skip)))))))))) (.keep [0,3,5] (.seq (.draw [0] [Zm 23 0,Zm 24 0,Zo 25 (.nilck (.t 24)),Zo 26 (.fld 0 (.t 25)),Zo 27 (.load none (.t 26)),Zm 28 5,Zm 29 5,Zo 30 (.slcl 2 (.t 27) none (some (.t 28)) (some (.t 29))),Zo 31 (.load (some 2) (.t 3)),Zo 32 (.call (.f 96) [.t 31]),Zo 33 (.bsl 58 2 1 [(.int .i64 0),(.lst .clip 0 [])] [(0,2,(.t 32))]),
 Zo 34 (.app 58 2 32 (.t 30) (.t 33)),Zo 35 (.nilck (.t 23)),Zo 36 (.fld 0 (.t 35)),⟨none,none,.storeo (.t 36) 34,none⟩]) (.keep [0] (Zq [Zm 37 0,Zo 38 (.nilck (.t 37)),Zo 39 (.fld 1 (.t 38)),Zo 40 (.load none (.t 39)),Zo 41 (.bin .add (.t 40) (Zi 1)),Zo 42 (.nilck (.t 37)),Zo 43 (.fld 1 (.t 42)),⟨none,none,.store 1 (.t 43) (.t 41),none⟩] (.keep [] (Zq [Zo 4 (.mv (Zi 0))]
 .ret))))))))))⟩
theorem J_acl_List_Add_ok : chkFn Try.prog 53 J_acl_List_Add = true := by kernel_rfl
def J_acl_List_Remove : AFn :=
 ⟨39,[.t 4],Zq [Zo 3 (.box (.t 1) []),Zo 4 (.mv (Zi 0))] (.keep [0,3] (.seq (Zq [Zo 6 (.load (some 2) (.t 3)),Zo 7 (.call (.f 94) [.t 6]),Zo 8 (.not (.t 7))] (.keep [0,3,8] (.cond (.t 8) (Zq [Zo 4 (.mv (Zi 2))]
 .ret)
 .skip))) (.keep [0,3] (Zq [Zm 9 0,Zo 10 (.load (some 2) (.t 3)),Zo 11 (.call (.f 95) [.t 9,.t 10]),Zm 5 11] (.keep [0,5] (.seq (Zq [Zm 12 5,Zo 13 (.bin .lss (.t 12) (Zi 0))] (.keep [0,5,13] (.cond (.t 13) (Zq [Zo 4 (.mv (Zi 10))]
 .ret)
 .skip))) (.keep [0,5] (.seq (.draw [0] [Zm 14 0,Zm 15 0,Zo 16 (.nilck (.t 15)),Zo 17 (.fld 0 (.t 16)),Zo 18 (.load none (.t 17)),Zm 19 5,Zm 20 5,Zo 21 (.slcl 2 (.t 18) none (some (.t 19)) (some (.t 20))),Zm 22 0,Zo 23 (.nilck (.t 22)),Zo 24 (.fld 0 (.t 23)),Zo 25 (.load none (.t 24)),Zm 26 5,Zo 27 (.bin .add (.t 26) (Zi 1)),
 Zo 28 (.slcl 2 (.t 25) (some (.t 27)) none none),Zo 29 (.app 58 2 32 (.t 21) (.t 28)),Zo 30 (.nilck (.t 14)),Zo 31 (.fld 0 (.t 30)),⟨none,none,.storeo (.t 31) 29,none⟩]) (.keep [0] (Zq [Zm 32 0,Zo 33 (.nilck (.t 32)),Zo 34 (.fld 1 (.t 33)),Zo 35 (.load none (.t 34)),Zo 36 (.bin .add (.t 35) (Zi 1)),
 Zo 37 (.nilck (.t 32)),Zo 38 (.fld 1 (.t 37)),⟨none,none,.store 1 (.t 38) (.t 36),none⟩] (.keep [] (Zq [Zo 4 (.mv (Zi 0))]
 .ret))))))))))))⟩
theorem J_acl_List_Remove_ok : chkFn Try.prog 54 J_acl_List_Remove = true := by kernel_rfl
def J_ref16_New_j1 : ACode :=
 .keep [4] (Zq [Zm 24 4,Zo 25 (.nilck (.t 24)),Zo 26 (.fld 1 (.t 25)),⟨none,none,.store 1 (.t 26) (Zi 0),none⟩] (.keep [4] (Zq [Zm 27 4,Zm 2 27,Zo 3 (.mv (Zi 0))]
 .ret)))
def J_ref16_New_j2 : ACode :=
 .seq (Zq [Zm 9 5,Zm 10 0,Zo 11 (.lenl (.t 10)),Zo 12 (.bin .lss (.t 9) (.t 11))] (.keep [0,4,5,12] (.cond (.t 12)
 .skip
 (.exit 0)))) (.keep [0,4,5] (.seq (.block 1 (Zq [Zm 15 4,Zm 16 0,Zm 17 5,Zo 18 (.idxa 2 (.t 16) (.t 17)),Zo 19 (.load (some 2) (.t 18)),Zo 20 (.call (.f 56) [.t 15,.t 19]),Zm 6 20] (.keep [0,4,5,6] (Zq [Zm 21 6,Zo 22 (.bin .neq (.t 21) (Zi 0))] (.keep [0,4,5,6,22] (.cond (.t 22) (Zq [Zm 23 6,Zo 2 (.mv (.c .nilp)),Zm 3 23]
 .ret)
 .skip)))))) (.keep [0,4,5] (.ops [Zm 13 5,Zo 14 (.bin .add (.t 13) (Zi 1)),Zm 5 14]))))
def J_ref16_New : AFn :=
 ⟨28,[.t 2,.t 3],Zq [Zo 2 (.mv (.c .nilp)),Zo 3 (.mv (Zi 0))] (.keep [0] (Zq [Zo 7 (.build [(.lst .clip 0 []),(.int .i64 0)] []),Zo 8 (.box (.t 7) []),Zm 4 8] (.keep [0,4] (.seq (Zq [Zo 5 (.mv (Zi 0))] (.keep [0,4,5] (.block 0 (.loop [0,4,5] (J_ref16_New_j2))))) (J_ref16_New_j1)))))⟩
theorem J_ref16_New_ok : chkFn Try.prog 55 J_ref16_New = true := by kernel_rfl
def J_ref16_List_Add_j1 : ACode :=
 .keep [0,3] (.seq (Zq [Zm 27 0,Zo 28 (.nilck (.t 27)),Zo 29 (.fld 0 (.t 28)),Zo 30 (.load none (.t 29)),Zo 31 (.lenl (.t 30)),Zo 32 (.bin .geq (.t 31) (Zi 12))] (.keep [0,3,32] (.cond (.t 32) (Zq [Zo 4 (.mv (Zi 3))]
 .ret)
 .skip))) (.keep [0,3] (Zq [Zo 33 (.bsl 72 1 0 [] []),Zo 34 (.fld 1 (.t 3)),Zo 35 (.load none (.t 34)),Zo 36 (.appo 72 1 16 33 (.t 35)),Zo 37 (.fld 1 (.t 3)),⟨none,none,.storeo (.t 37) 36,none⟩] (.keep [0,3] (.seq (.draw [0] [Zm 38 0,Zo 39 (.bsl 58 2 0 [] []),Zm 40 0,Zo 41 (.nilck (.t 40)),Zo 42 (.fld 0 (.t 41)),
 Zo 43 (.load none (.t 42)),Zo 44 (.appo 58 2 32 39 (.t 43)),Zo 45 (.load (some 2) (.t 3)),Zo 46 (.bsl 58 2 1 [(.int .i64 0),(.lst .clip 0 [])] [(0,2,(.t 45))]),Zo 47 (.appo 58 2 32 44 (.t 46)),Zo 48 (.nilck (.t 38)),Zo 49 (.fld 0 (.t 48)),⟨none,none,.storeo (.t 49) 47,none⟩]) (.keep [0] (Zq [Zm 50 0,
 Zo 51 (.nilck (.t 50)),Zo 52 (.fld 1 (.t 51)),Zo 53 (.load none (.t 52)),Zo 54 (.bin .add (.t 53) (Zi 1)),Zo 55 (.nilck (.t 50)),Zo 56 (.fld 1 (.t 55)),⟨none,none,.store 1 (.t 56) (.t 54),none⟩] (.keep [] (Zq [Zo 4 (.mv (Zi 0))]
 .ret)))))))))
def J_ref16_List_Add_j2 : ACode :=
 .seq (Zq [Zm 9 5,Zm 10 0,Zo 11 (.nilck (.t 10)),Zo 12 (.fld 0 (.t 11)),Zo 13 (.load none (.t 12)),Zo 14 (.lenl (.t 13)),Zo 15 (.bin .lss (.t 9) (.t 14))] (.keep [0,3,5,15] (.cond (.t 15)
 .skip
 (.exit 0)))) (.keep [0,3,5] (.seq (.block 1 (.seq (.draw [0,3,5,26] [Zm 18 0,Zo 19 (.nilck (.t 18)),Zo 20 (.fld 0 (.t 19)),Zo 21 (.load none (.t 20)),Zm 22 5,Zo 23 (.idxa 2 (.t 21) (.t 22)),Zo 24 (.load (some 2) (.t 23)),Zo 25 (.load (some 2) (.t 3)),Zo 26 (.call (.f 58) [.t 24,.t 25])]) (.keep [0,3,5,26] (.cond (.t 26) (Zq [Zo 4 (.mv (Zi 11))]
 .ret)
 .skip)))) (.keep [0,3,5] (.ops [Zm 16 5,Zo 17 (.bin .add (.t 16) (Zi 1)),Zm 5 17]))))
def J_ref16_List_Add : AFn :=
 ⟨57,[.t 4],Zq [Zo 3 (.box (.t 1) []),Zo 4 (.mv (Zi 0))] (.keep [0,3] (.seq (Zq [Zo 6 (.load (some 2) (.t 3)),Zo 7 (.call (.f 97) [.t 6]),Zo 8 (.not (.t 7))] (.keep [0,3,8] (.cond (.t 8) (Zq [Zo 4 (.mv (Zi 2))]
 .ret)
 .skip))) (.keep [0,3] (.seq (Zq [Zo 5 (.mv (Zi 0))] (.keep [0,3,5] (.block 0 (.loop [0,3,5] (J_ref16_List_Add_j2))))) (J_ref16_List_Add_j1)))))⟩
theorem J_ref16_List_Add_ok : chkFn Try.prog 56 J_ref16_List_Add = true := by kernel_rfl
def J_ref16_List_Remove_j1 : ACode :=
 .keep [0,5] (.seq (Zq [Zm 40 5,Zo 41 (.lenl (.t 40)),Zm 42 0,Zo 43 (.nilck (.t 42)),Zo 44 (.fld 0 (.t 43)),Zo 45 (.load none (.t 44)),Zo 46 (.lenl (.t 45)),Zo 47 (.bin .eql (.t 41) (.t 46))] (.keep [0,5,47] (.cond (.t 47) (Zq [Zo 4 (.mv (Zi 10))]
 .ret)
 .skip))) (.keep [0,5] (Zq [Zm 48 0,Zm 49 5,Zo 50 (.nilck (.t 48)),Zo 51 (.fld 0 (.t 50)),⟨none,none,.store 1 (.t 51) (.t 49),none⟩] (.keep [0] (Zq [Zm 52 0,Zo 53 (.nilck (.t 52)),Zo 54 (.fld 1 (.t 53)),Zo 55 (.load none (.t 54)),Zo 56 (.bin .add (.t 55) (Zi 1)),Zo 57 (.nilck (.t 52)),Zo 58 (.fld 1 (.t 57)),⟨none,none,.store 1 (.t 58) (.t 56),none⟩] (.keep [] (Zq [Zo 4 (.mv (Zi 0))]
 .ret)))))))
def J_ref16_List_Remove_j2 : ACode :=
 .keep [0,3,5,6] (.ops [Zm 18 6,Zo 19 (.bin .add (.t 18) (Zi 1)),Zm 6 19])
def J_ref16_List_Remove_j3 : ACode :=
 .seq (Zq [Zm 11 6,Zm 12 0,Zo 13 (.nilck (.t 12)),Zo 14 (.fld 0 (.t 13)),Zo 15 (.load none (.t 14)),Zo 16 (.lenl (.t 15)),Zo 17 (.bin .lss (.t 11) (.t 16))] (.keep [0,3,5,6,17] (.cond (.t 17)
 .skip
 (.exit 0)))) (.keep [0,3,5,6] (.seq (.block 1 (.seq (.draw [0,3,5,6,29] [Zm 20 0,Zo 21 (.nilck (.t 20)),Zo 22 (.fld 0 (.t 21)),Zo 23 (.load none (.t 22)),Zm 24 6,Zo 25 (.idxa 2 (.t 23) (.t 24)),Zo 26 (.load (some 2) (.t 25)),Zo 27 (.load (some 2) (.t 3)),Zo 28 (.call (.f 58) [.t 26,.t 27]),Zo 29 (.not (.t 28))]) (.keep [0,3,5,6,29] (.cond (.t 29) (.ops [Zo 30 (.mvo 5),
 Zm 31 0,Zo 32 (.nilck (.t 31)),Zo 33 (.fld 0 (.t 32)),Zo 34 (.load none (.t 33)),Zm 35 6,Zo 36 (.idxa 2 (.t 34) (.t 35)),Zo 37 (.load (some 2) (.t 36)),Zo 38 (.bsl 58 2 1 [(.int .i64 0),(.lst .clip 0 [])] [(0,2,(.t 37))]),Zo 39 (.appo 58 2 32 30 (.t 38)),Zo 5 (.mvo 39)])
 .skip)))) (J_ref16_List_Remove_j2)))
def J_ref16_List_Remove : AFn :=
 ⟨59,[.t 4],Zq [Zo 3 (.box (.t 1) []),Zo 4 (.mv (Zi 0))] (.keep [0,3] (.seq (Zq [Zo 7 (.load (some 2) (.t 3)),Zo 8 (.call (.f 97) [.t 7]),Zo 9 (.not (.t 8))] (.keep [0,3,9] (.cond (.t 9) (Zq [Zo 4 (.mv (Zi 2))]
 .ret)
 .skip))) (.keep [0,3] (Zq [Zo 10 (.bsl 58 2 0 [] []),Zo 5 (.mvo 10)] (.keep [0,3,5] (.seq (Zq [Zo 6 (.mv (Zi 0))] (.keep [0,3,5,6] (.block 0 (.loop [0,3,5,6] (J_ref16_List_Remove_j3))))) (J_ref16_List_Remove_j1)))))))⟩
theorem J_ref16_List_Remove_ok : chkFn Try.prog 57 J_ref16_List_Remove = true := by kernel_rfl
def J_ref16_Same : AFn :=
 ⟨17,[.t 4],Zq [Zo 2 (.box (.t 0) []),Zo 3 (.box (.t 1) []),Zo 4 (.mv (.c (.bool false)))] (.keep [2,3] (Zq [Zo 5 (.fld 0 (.t 2)),Zo 6 (.load none (.t 5)),Zo 7 (.fld 0 (.t 3)),Zo 8 (.load none (.t 7)),Zo 9 (.bin .eql (.t 6) (.t 8)),Zm 10 9,Zt 10 11 (.fld 1 (.t 2)),Zt 10 12 (.load none (.t 11)),Zt 10 13 (.fld 1 (.t 3)),
 Zt 10 14 (.load none (.t 13)),Zt 10 15 (.call (.f 30) [.t 12,.t 14]),Zo 16 (.pick (.t 10) (.t 15) (.c (.bool false))),Zm 4 16]
 .ret))⟩
theorem J_ref16_Same_ok : chkFn Try.prog 58 J_ref16_Same = true := by kernel_rfl
def J_record_number : AFn :=
 ⟨9,[.t 2],Zq [Zo 2 (.mv (.c (.bool false)))] (.keep [0] (Zq [Zm 3 0,Zo 4 (.bin .geq (.t 3) (Zi 0)),Zm 5 4,Zt 5 6 (.mv (.t 0)),Zt 5 7 (.bin .leq (.t 6) (Zi 4611686018427387904)),Zo 8 (.pick (.t 5) (.t 7) (.c (.bool false))),Zm 2 8]
 .ret))⟩
theorem J_record_number_ok : chkFn Try.prog 59 J_record_number = true := by kernel_rfl
def J_acl_New_j1 : ACode :=
 .keep [4] (Zq [Zm 23 4,Zo 24 (.nilck (.t 23)),Zo 25 (.fld 1 (.t 24)),⟨none,none,.store 1 (.t 25) (Zi 0),none⟩] (.keep [4] (Zq [Zm 26 4,Zm 2 26,Zo 3 (.mv (Zi 0))]
 .ret)))
def J_acl_New_j2 : ACode :=
 Zq [Zo 13 (.bin .lss (.t 12) (.t 11))] (.keep [4,10,11,12,13] (.seq (.cond (.t 13)
 .skip
 (.exit 0)) (.keep [4,10,11,12] (.seq (.block 1 (Zq [Zo 14 (.idxa 2 (.t 10) (.t 12)),Zo 15 (.load (some 2) (.t 14)),Zo 6 (.new [(.int .i64 0),(.lst .clip 0 [])] []),⟨none,none,.stores 2 (.t 6) (.t 15),none⟩] (.keep [4,6,10,11,12] (Zq [Zm 16 4,Zo 17 (.load (some 2) (.t 6)),Zo 18 (.call (.f 53) [.t 16,.t 17]),
 Zm 7 18] (.keep [4,7,10,11,12] (Zq [Zm 19 7,Zo 20 (.bin .neq (.t 19) (Zi 0))] (.keep [4,7,10,11,12,20] (.cond (.t 20) (Zq [Zm 21 7,Zo 2 (.mv (.c .nilp)),Zm 3 21]
 .ret)
 .skip)))))))) (.keep [4,10,11,12] (.ops [Zo 22 (.bin .add (.t 12) (Zi 1)),Zm 12 22]))))))
def J_acl_New : AFn :=
 ⟨27,[.t 2,.t 3],Zq [Zo 2 (.mv (.c .nilp)),Zo 3 (.mv (Zi 0))] (.keep [0] (Zq [Zo 8 (.build [(.lst .clip 0 []),(.int .i64 0)] []),Zo 9 (.box (.t 8) []),Zm 4 9] (.keep [0,4] (.seq (Zq [Zm 10 0,Zo 11 (.lenl (.t 10)),Zo 12 (.mv (Zi 0))] (.keep [4,10,11,12] (.block 0 (.loop [4,10,11,12] (J_acl_New_j2))))) (J_acl_New_j1)))))⟩
theorem J_acl_New_ok : chkFn Try.prog 60 J_acl_New = true := by kernel_rfl
def J_ref21_num : AFn :=
 ⟨9,[.t 2],Zq [Zo 2 (.mv (.c (.bool false)))] (.keep [0] (Zq [Zm 3 0,Zo 4 (.bin .geq (.t 3) (Zi 0)),Zm 5 4,Zt 5 6 (.mv (.t 0)),Zt 5 7 (.bin .leq (.t 6) (Zi 4611686018427387904)),Zo 8 (.pick (.t 5) (.t 7) (.c (.bool false))),Zm 2 8]
 .ret))⟩
theorem J_ref21_num_ok : chkFn Try.prog 61 J_ref21_num = true := by kernel_rfl
def J_acl_Same : AFn :=
 ⟨17,[.t 4],Zq [Zo 2 (.box (.t 0) []),Zo 3 (.box (.t 1) []),Zo 4 (.mv (.c (.bool false)))] (.keep [2,3] (Zq [Zo 5 (.fld 0 (.t 2)),Zo 6 (.load none (.t 5)),Zo 7 (.fld 0 (.t 3)),Zo 8 (.load none (.t 7)),Zo 9 (.bin .eql (.t 6) (.t 8)),Zm 10 9,Zt 10 11 (.fld 1 (.t 2)),Zt 10 12 (.load none (.t 11)),Zt 10 13 (.fld 1 (.t 3)),
 Zt 10 14 (.load none (.t 13)),Zt 10 15 (.call (.f 112) [.t 12,.t 14]),Zo 16 (.pick (.t 10) (.t 15) (.c (.bool false))),Zm 4 16]
 .ret))⟩
theorem J_acl_Same_ok : chkFn Try.prog 91 J_acl_Same = true := by kernel_rfl
def J_record_entries_j1 : ACode :=
 .keep [3] (Zq [Zm 26 3,Zm 2 26]
 .ret)
def J_record_entries_j2 : ACode :=
 Zq [Zo 12 (.bin .lss (.t 11) (.t 10))] (.keep [3,9,10,11,12] (.seq (.cond (.t 12)
 .skip
 (.exit 0)) (.keep [3,9,10,11] (.seq (.block 1 (Zq [Zm 13 11,Zo 14 (.idxa 2 (.t 9) (.t 11)),Zo 15 (.load (some 2) (.t 14)),Zo 5 (.new [(.int .i64 0),(.lst .clip 0 [])] []),Zm 4 13,⟨none,none,.stores 2 (.t 5) (.t 15),none⟩] (.keep [3,4,5,9,10,11] (.draw [3,9,10,11] [Zm 16 3,Zm 17 4,Zo 18 (.fld 0 (.t 5)),
 Zo 19 (.lds none (.t 18)),Zo 20 (.fld 1 (.t 5)),Zo 21 (.lds none (.t 20)),Zo 22 (.app 72 1 16 (.c (.lst .clip 0 [])) (.t 21)),Zo 23 (.build [(.int .i64 0),(.lst .clip 0 [])] [(0,1,(.t 19)),(1,1,(.t 22))]),Zo 24 (.idxa 2 (.t 16) (.t 17)),⟨none,none,.store 2 (.t 24) (.t 23),none⟩])))) (.keep [3,9,10,11] (.ops [Zo 25 (.bin .add (.t 11) (Zi 1)),Zm 11 25]))))))
def J_record_entries : AFn :=
 ⟨27,[.t 2],Zq [Zo 2 (.mv (.c (.lst .clip 0 [])))] (.keep [0] (Zq [Zm 6 0,Zo 7 (.lenl (.t 6)),Zo 8 (.mkn 58 2 32 [(.int .i64 0),(.lst .clip 0 [])] (.t 7)),Zm 3 8] (.keep [0,3] (.seq (Zq [Zm 9 0,Zo 10 (.lenl (.t 9)),Zo 11 (.mv (Zi 0))] (.keep [3,9,10,11] (.block 0 (.loop [3,9,10,11] (J_record_entries_j2))))) (J_record_entries_j1)))))⟩
theorem J_record_entries_ok : chkFn Try.prog 92 J_record_entries = true := by kernel_rfl
def J_acl_List_All_j1 : ACode :=
 .keep [3] (Zq [Zm 21 3,Zm 2 21]
 .ret)
def J_acl_List_All_j2 : ACode :=
 Zq [Zo 12 (.bin .lss (.t 11) (.t 10))] (.keep [3,9,10,11,12] (.seq (.cond (.t 12)
 .skip
 (.exit 0)) (.keep [3,9,10,11] (.seq (.block 1 (Zq [Zo 13 (.idxa 2 (.t 9) (.t 11)),Zo 14 (.load (some 2) (.t 13)),Zo 5 (.new [(.int .i64 0),(.lst .clip 0 [])] []),⟨none,none,.stores 2 (.t 5) (.t 14),none⟩] (.keep [3,5,9,10,11] (.ops [Zo 15 (.mvo 3),Zo 16 (.load (some 2) (.t 5)),Zo 17 (.call (.f 96) [.t 16]),
 Zo 18 (.bsl 58 2 1 [(.int .i64 0),(.lst .clip 0 [])] [(0,2,(.t 17))]),Zo 19 (.appo 58 2 32 15 (.t 18)),Zo 3 (.mvo 19)])))) (.keep [3,9,10,11] (.ops [Zo 20 (.bin .add (.t 11) (Zi 1)),Zm 11 20]))))))
def J_acl_List_All : AFn :=
 ⟨22,[.t 2],Zq [Zo 2 (.mv (.c (.lst .clip 0 [])))] (.keep [0] (Zq [Zo 3 (.mvu 58 2 (.c (.lst .clip 0 [])))] (.keep [0,3] (.seq (Zq [Zm 6 0,Zo 7 (.nilck (.t 6)),Zo 8 (.fld 0 (.t 7)),Zo 9 (.load none (.t 8)),Zo 10 (.lenl (.t 9)),Zo 11 (.mv (Zi 0))] (.keep [3,9,10,11] (.block 0 (.loop [3,9,10,11] (J_acl_List_All_j2))))) (J_acl_List_All_j1)))))⟩
theorem J_acl_List_All_ok : chkFn Try.prog 93 J_acl_List_All = true := by kernel_rfl
def J_acl_may : AFn :=
 ⟨16,[.t 2],Zq [Zo 1 (.box (.t 0) []),Zo 2 (.mv (.c (.bool false)))] (.keep [1] (Zq [Zo 3 (.fld 0 (.t 1)),Zo 4 (.load none (.t 3)),Zo 5 (.bin .geq (.t 4) (Zi 0)),Zm 6 5,Zt 6 7 (.fld 0 (.t 1)),Zt 6 8 (.load none (.t 7)),Zt 6 9 (.bin .lss (.t 8) (Zi 8)),Zo 10 (.pick (.t 6) (.t 9) (.c (.bool false))),Zm 11 10,
 Zt 11 12 (.fld 1 (.t 1)),Zt 11 13 (.load none (.t 12)),Zt 11 14 (.call (.f 31) [.t 13]),Zo 15 (.pick (.t 11) (.t 14) (.c (.bool false))),Zm 2 15]
 .ret))⟩
theorem J_acl_may_ok : chkFn Try.prog 94 J_acl_may = true := by kernel_rfl
def J_acl_List_find : AFn :=
 ⟨11,[.t 4],Zq [Zo 3 (.box (.t 1) []),Zo 4 (.mv (Zi 0))] (.keep [0,3] (Zq [Zm 5 0,Zo 6 (.nilck (.t 5)),Zo 7 (.fld 0 (.t 6)),Zo 8 (.load none (.t 7)),Zo 9 (.mkfn 114 [.t 3]),Zo 10 (.call (.f 113) [.t 8,.t 9]),Zm 4 10]
 .ret))⟩
theorem J_acl_List_find_ok : chkFn Try.prog 95 J_acl_List_find = true := by kernel_rfl
def J_acl_clone : AFn :=
 ⟨8,[.c 2 (some 2)],Zq [Zo 1 (.box (.t 0) []),Zo 2 (.new [(.int .i64 0),(.lst .clip 0 [])] [])] (.keep [1,2] (Zq [Zo 3 (.fld 1 (.t 1)),Zo 4 (.load none (.t 3)),Zo 5 (.call (.f 115) [.t 4]),Zo 6 (.fld 1 (.t 1)),⟨none,none,.store 1 (.t 6) (.t 5),none⟩] (.keep [1,2] (Zq [Zo 7 (.load (some 2) (.t 1)),⟨none,none,.store 2 (.t 2) (.t 7),none⟩]
 .ret))))⟩
theorem J_acl_clone_ok : chkFn Try.prog 96 J_acl_clone = true := by kernel_rfl
def J_ref16_may : AFn :=
 ⟨16,[.t 2],Zq [Zo 1 (.box (.t 0) []),Zo 2 (.mv (.c (.bool false)))] (.keep [1] (Zq [Zo 3 (.fld 0 (.t 1)),Zo 4 (.load none (.t 3)),Zo 5 (.bin .geq (.t 4) (Zi 0)),Zm 6 5,Zt 6 7 (.fld 0 (.t 1)),Zt 6 8 (.load none (.t 7)),Zt 6 9 (.bin .leq (.t 8) (Zi 7)),Zo 10 (.pick (.t 6) (.t 9) (.c (.bool false))),Zm 11 10,
 Zt 11 12 (.fld 1 (.t 1)),Zt 11 13 (.load none (.t 12)),Zt 11 14 (.call (.f 32) [.t 13]),Zo 15 (.pick (.t 11) (.t 14) (.c (.bool false))),Zm 2 15]
 .ret))⟩
theorem J_ref16_may_ok : chkFn Try.prog 97 J_ref16_may = true := by kernel_rfl
def J_acl_List_find_1 : AFn :=
 ⟨7,[.t 3],Zq [Zo 2 (.box (.t 0) []),Zo 3 (.mv (.c (.bool false)))] (.keep [1,2] (Zq [Zo 4 (.load (some 2) (.t 1)),Zo 5 (.load (some 2) (.t 2)),Zo 6 (.call (.f 91) [.t 4,.t 5]),Zm 3 6]
 .ret))⟩
theorem J_acl_List_find_1_ok : chkFn Try.prog 114 J_acl_List_find_1 = true := by kernel_rfl
def J_slices_Equal_api_Set_api_Word_j1 : ACode :=
 .keep [] (Zq [Zo 4 (.mv (.c (.bool true)))]
 .ret)
def J_slices_Equal_api_Set_api_Word_j2 : ACode :=
 Zq [Zo 14 (.bin .lss (.t 13) (.t 12))] (.keep [0,1,12,13,14] (.seq (.cond (.t 14)
 .skip
 (.exit 0)) (.keep [0,1,12,13] (.seq (.block 1 (Zq [Zm 15 13,Zm 5 15] (.keep [0,1,5,12,13] (.seq (.draw [0,1,12,13,24] [Zm 16 0,Zm 17 5,Zo 18 (.idxa 1 (.t 16) (.t 17)),Zo 19 (.load none (.t 18)),Zm 20 1,Zm 21 5,Zo 22 (.idxa 1 (.t 20) (.t 21)),Zo 23 (.load none (.t 22)),Zo 24 (.bin .neq (.t 19) (.t 23))]) (.keep [0,1,12,13,24] (.cond (.t 24) (Zq [Zo 4 (.mv (.c (.bool false)))]
 .ret)
 .skip)))))) (.keep [0,1,12,13] (.ops [Zo 25 (.bin .add (.t 13) (Zi 1)),Zm 13 25]))))))
def J_slices_Equal_api_Set_api_Word : AFn :=
 ⟨26,[.t 4],Zq [Zo 4 (.mv (.c (.bool false)))] (.keep [0,1] (.seq (Zq [Zm 6 0,Zo 7 (.lenl (.t 6)),Zm 8 1,Zo 9 (.lenl (.t 8)),Zo 10 (.bin .neq (.t 7) (.t 9))] (.keep [0,1,10] (.cond (.t 10) (Zq [Zo 4 (.mv (.c (.bool false)))]
 .ret)
 .skip))) (.keep [0,1] (.seq (Zq [Zm 11 0,Zo 12 (.lenl (.t 11)),Zo 13 (.mv (Zi 0))] (.keep [0,1,12,13] (.block 0 (.loop [0,1,12,13] (J_slices_Equal_api_Set_api_Word_j2))))) (J_slices_Equal_api_Set_api_Word_j1)))))⟩
theorem J_slices_Equal_api_Set_api_Word_ok : chkFn Try.prog 112 J_slices_Equal_api_Set_api_Word = true := by kernel_rfl
def J_slices_IndexFunc_api_Entry_api_Entry_j1 : ACode :=
 .keep [] (Zq [Zo 4 (.mv (.c (.int .i64 (-1))))]
 .ret)
def J_slices_IndexFunc_api_Entry_api_Entry_j2 : ACode :=
 Zq [Zo 9 (.bin .lss (.t 8) (.t 7))] (.keep [0,1,7,8,9] (.seq (.cond (.t 9)
 .skip
 (.exit 0)) (.keep [0,1,7,8] (.seq (.block 1 (Zq [Zm 10 8,Zm 5 10] (.keep [0,1,5,7,8] (Zq [Zm 11 1,Zm 12 0,Zm 13 5,Zo 14 (.idxa 2 (.t 12) (.t 13)),Zo 15 (.load (some 2) (.t 14)),Zo 16 (.call (.t 11) [.t 15])] (.keep [0,1,5,7,8,16] (.cond (.t 16) (Zq [Zm 17 5,Zm 4 17]
 .ret)
 .skip)))))) (.keep [0,1,7,8] (.ops [Zo 18 (.bin .add (.t 8) (Zi 1)),Zm 8 18]))))))
def J_slices_IndexFunc_api_Entry_api_Entry : AFn :=
 ⟨19,[.t 4],Zq [Zo 4 (.mv (Zi 0))] (.keep [0,1] (.seq (Zq [Zm 6 0,Zo 7 (.lenl (.t 6)),Zo 8 (.mv (Zi 0))] (.keep [0,1,7,8] (.block 0 (.loop [0,1,7,8] (J_slices_IndexFunc_api_Entry_api_Entry_j2))))) (J_slices_IndexFunc_api_Entry_api_Entry_j1)))⟩
theorem J_slices_IndexFunc_api_Entry_api_Entry_ok : chkFn Try.prog 113 J_slices_IndexFunc_api_Entry_api_Entry = true := by kernel_rfl
def J_slices_Clone_api_Set_api_Word : AFn :=
 ⟨8,[.t 2],Zq [Zo 2 (.mv (.c (.lst .clip 0 [])))] (.keep [0] (.seq (Zq [Zm 3 0,Zo 4 (.snil false (.t 3))] (.keep [0,4] (.cond (.t 4) (Zq [Zo 2 (.mv (.c (.lst .clip 0 [])))]
 .ret)
 .skip))) (.keep [0] (Zq [Zo 5 (.bsl 72 1 0 [] []),Zm 6 0,Zo 7 (.appo 72 1 16 5 (.t 6)),Zo 2 (.mvo 7)]
 .ret))))⟩
theorem J_slices_Clone_api_Set_api_Word_ok : chkFn Try.prog 115 J_slices_Clone_api_Set_api_Word = true := by kernel_rfl
end Go.Proofs.Ytpiofcjkekpboaa
/- The abstract layer, sixteenth part: one law an operation, for the walk (written by genlem.py). -/
namespace Go.Proofs.Ytpiofcjkekpboaa
open Go.RowKit Go.Lib

section
variable (P : Program)
theorem wop_mv (d : Option Nat) (x : Opd) (fr : Fr) (h : Hp) (K : Fr → Hp → Prop) : wop P d (.mv x) fr h K = (match ev fr x with
  | some a => K (put d a fr) h
  | none => False) := id rfl
theorem eff_mv (x : Opd) (fr : Fr) (h : Hp) (R : AV → Hp → Prop) : eff P (.mv x) fr h R = (match ev fr x with
  | some a => R a h
  | none => False) := id rfl
theorem wop_pick (d : Option Nat) (c x y : Opd) (fr : Fr) (h : Hp) (K : Fr → Hp → Prop) : wop P d (.pick c x y) fr h K = (match ev fr c with
  | some (.bool p) => (p = true → match ev fr x with
   | some a => K (put d a fr) h
   | none => False) ∧ (p = false → match ev fr y with
   | some a => K (put d a fr) h
   | none => False)
  | _ => False) := id rfl
theorem eff_pick (c x y : Opd) (fr : Fr) (h : Hp) (R : AV → Hp → Prop) : eff P (.pick c x y) fr h R = (match ev fr c with
  | some (.bool p) => (p = true → match ev fr x with
   | some a => R a h
   | none => False) ∧ (p = false → match ev fr y with
   | some a => R a h
   | none => False)
  | _ => False) := id rfl
theorem wop_build (d : Option Nat) (t : List AV) (ps : List (Nat × Nat × Opd)) (fr : Fr) (h : Hp) (K : Fr → Hp → Prop) : wop P d (.build t ps) fr h K = (buildK fr t ps (fun l => K (put d (.agg l) fr) h)) := id rfl
theorem eff_build (t : List AV) (ps : List (Nat × Nat × Opd)) (fr : Fr) (h : Hp) (R : AV → Hp → Prop) : eff P (.build t ps) fr h R = (buildK fr t ps (fun l => R (.agg l) h)) := id rfl
theorem wop_load (d : Option Nat) (s : Option Nat) (x : Opd) (fr : Fr) (h : Hp) (K : Fr → Hp → Prop) : wop P d (.load s x) fr h K = (match ev fr x with
  | some (.ptr id off) => (match h[id]? with
   | some (some (_, l)) => loadK s (l.drop off) (kval d fr h K)
   | _ => False)
  | some (.fp l) => loadK s l (kval d fr h K)
  | _ => False) := id rfl
theorem eff_load (s : Option Nat) (x : Opd) (fr : Fr) (h : Hp) (R : AV → Hp → Prop) : eff P (.load s x) fr h R = (match ev fr x with
  | some (.ptr id off) => (match h[id]? with
   | some (some (_, l)) => loadK s (l.drop off) (kv h R)
   | _ => False)
  | some (.fp l) => loadK s l (kv h R)
  | _ => False) := id rfl
theorem wop_lds (d : Option Nat) (s : Option Nat) (x : Opd) (fr : Fr) (h : Hp) (K : Fr → Hp → Prop) : wop P d (.lds s x) fr h K = (match ev fr x with
  | some (.ptr id off) => (match h[id]? with
   | some (some (true, l)) => loadK s (l.drop off) (kval d fr h K)
   | _ => False)
  | some (.fp l) => loadK s l (kval d fr h K)
  | _ => False) := id rfl
theorem eff_lds (s : Option Nat) (x : Opd) (fr : Fr) (h : Hp) (R : AV → Hp → Prop) : eff P (.lds s x) fr h R = (match ev fr x with
  | some (.ptr id off) => (match h[id]? with
   | some (some (true, l)) => loadK s (l.drop off) (kv h R)
   | _ => False)
  | some (.fp l) => loadK s l (kv h R)
  | _ => False) := id rfl
theorem wop_nilck (d : Option Nat) (x : Opd) (fr : Fr) (h : Hp) (K : Fr → Hp → Prop) : wop P d (.nilck x) fr h K = (match ev fr x with
  | some (.ptr id off) => K (put d (.ptr id off) fr) h
  | some (.fp l) => K (put d (.fp l) fr) h
  | some (.fn f l) => K (put d (.fn f l) fr) h
  | some (.frn Q) => K (put d (.frn Q) fr) h
  | _ => False) := id rfl
theorem eff_nilck (x : Opd) (fr : Fr) (h : Hp) (R : AV → Hp → Prop) : eff P (.nilck x) fr h R = (match ev fr x with
  | some (.ptr id off) => R (.ptr id off) h
  | some (.fp l) => R (.fp l) h
  | some (.fn f l) => R (.fn f l) h
  | some (.frn Q) => R (.frn Q) h
  | _ => False) := id rfl
theorem wop_bin (d : Option Nat) (op : BinOp) (x y : Opd) (fr : Fr) (h : Hp) (K : Fr → Hp → Prop) : wop P d (.bin op x y) fr h K = (match ev fr x, ev fr y with
  | some a, some b => bin2 op a b (kval d fr h K)
  | _, _ => False) := id rfl
theorem eff_bin (op : BinOp) (x y : Opd) (fr : Fr) (h : Hp) (R : AV → Hp → Prop) : eff P (.bin op x y) fr h R = (match ev fr x, ev fr y with
  | some a, some b => bin2 op a b (kv h R)
  | _, _ => False) := id rfl
theorem wop_pnil (d : Option Nat) (n : Bool) (x : Opd) (fr : Fr) (h : Hp) (K : Fr → Hp → Prop) : wop P d (.pnil n x) fr h K = (match ev fr x with
  | some .nilp => K (put d (.bool (!n)) fr) h
  | some (.ptr _ _) => K (put d (.bool n) fr) h
  | some (.fp _) => K (put d (.bool n) fr) h
  | some (.frn _) => K (put d (.bool n) fr) h
  | _ => False) := id rfl
theorem eff_pnil (n : Bool) (x : Opd) (fr : Fr) (h : Hp) (R : AV → Hp → Prop) : eff P (.pnil n x) fr h R = (match ev fr x with
  | some .nilp => R (.bool (!n)) h
  | some (.ptr _ _) => R (.bool n) h
  | some (.fp _) => R (.bool n) h
  | some (.frn _) => R (.bool n) h
  | _ => False) := id rfl
theorem wop_bbin (d : Option Nat) (n : Bool) (x y : Opd) (fr : Fr) (h : Hp) (K : Fr → Hp → Prop) : wop P d (.bbin n x y) fr h K = (match ev fr x, ev fr y with
  | some (.bool a), some (.bool b) => K (put d (.bool (if n then decide (a ≠ b) else decide (a = b))) fr) h
  | _, _ => False) := id rfl
theorem eff_bbin (n : Bool) (x y : Opd) (fr : Fr) (h : Hp) (R : AV → Hp → Prop) : eff P (.bbin n x y) fr h R = (match ev fr x, ev fr y with
  | some (.bool a), some (.bool b) => R (.bool (if n then decide (a ≠ b) else decide (a = b))) h
  | _, _ => False) := id rfl
theorem wop_not (d : Option Nat) (x : Opd) (fr : Fr) (h : Hp) (K : Fr → Hp → Prop) : wop P d (.not x) fr h K = (match ev fr x with
  | some (.bool p) => K (put d (.bool (!p)) fr) h
  | _ => False) := id rfl
theorem eff_not (x : Opd) (fr : Fr) (h : Hp) (R : AV → Hp → Prop) : eff P (.not x) fr h R = (match ev fr x with
  | some (.bool p) => R (.bool (!p)) h
  | _ => False) := id rfl
theorem wop_conv (d : Option Nat) (i : IntKind) (x : Opd) (fr : Fr) (h : Hp) (K : Fr → Hp → Prop) : wop P d (.conv i x) fr h K = (match ev fr x with
  | some (.int _ n) => K (put d (.int i (i.wrap n)) fr) h
  | _ => False) := id rfl
theorem eff_conv (i : IntKind) (x : Opd) (fr : Fr) (h : Hp) (R : AV → Hp → Prop) : eff P (.conv i x) fr h R = (match ev fr x with
  | some (.int _ n) => R (.int i (i.wrap n)) h
  | _ => False) := id rfl
theorem wop_cstr (d : Option Nat) (x : Opd) (fr : Fr) (h : Hp) (K : Fr → Hp → Prop) : wop P d (.cstr x) fr h K = (match ev fr x with
  | some (.str s) => K (put d (.str s) fr) h
  | _ => False) := id rfl
theorem eff_cstr (x : Opd) (fr : Fr) (h : Hp) (R : AV → Hp → Prop) : eff P (.cstr x) fr h R = (match ev fr x with
  | some (.str s) => R (.str s) h
  | _ => False) := id rfl
theorem wop_b2s (d : Option Nat) (x : Opd) (fr : Fr) (h : Hp) (K : Fr → Hp → Prop) : wop P d (.b2s x) fr h K = (match ev fr x with
  | some (.lst _ n l) => ∃ bs : List UInt8, l = bs.map (fun b => AV.int .u8 b.toNat) ∧ n = bs.length ∧ K (put d (.str ⟨bs.toArray⟩) fr) h
  | _ => False) := id rfl
theorem eff_b2s (x : Opd) (fr : Fr) (h : Hp) (R : AV → Hp → Prop) : eff P (.b2s x) fr h R = (match ev fr x with
  | some (.lst _ n l) => ∃ bs : List UInt8, l = bs.map (fun b => AV.int .u8 b.toNat) ∧ n = bs.length ∧ R (.str ⟨bs.toArray⟩) h
  | _ => False) := id rfl
theorem wop_fld (d : Option Nat) (o : Nat) (x : Opd) (fr : Fr) (h : Hp) (K : Fr → Hp → Prop) : wop P d (.fld o x) fr h K = (match ev fr x with
  | some (.ptr id q) => K (put d (.ptr id (q + o)) fr) h
  | some (.fp l) => K (put d (.fp (l.drop o)) fr) h
  | some (.frn Q) => o = 0 ∧ K (put d (.frn Q) fr) h
  | _ => False) := id rfl
theorem eff_fld (o : Nat) (x : Opd) (fr : Fr) (h : Hp) (R : AV → Hp → Prop) : eff P (.fld o x) fr h R = (match ev fr x with
  | some (.ptr id q) => R (.ptr id (q + o)) h
  | some (.fp l) => R (.fp (l.drop o)) h
  | some (.frn Q) => o = 0 ∧ R (.frn Q) h
  | _ => False) := id rfl
theorem wop_idxa (d : Option Nat) (s : Nat) (x y : Opd) (fr : Fr) (h : Hp) (K : Fr → Hp → Prop) : wop P d (.idxa s x y) fr h K = (match ev fr x, ev fr y with
  | some (.lst _ n l), some (.int _ i) => (0 ≤ i ∧ i < n) ∧ K (put d (.fp (l.drop (i.toNat * s))) fr) h
  | some (.hs id n), some (.int _ i) => (0 ≤ i ∧ i < n) ∧ K (put d (.ptr id (i.toNat * s)) fr) h
  | some (.hsc id n c), some (.int _ i) => (0 ≤ i ∧ i < n) ∧ K (put d (.ptr id (i.toNat * s)) fr) h
  | _, _ => False) := id rfl
theorem eff_idxa (s : Nat) (x y : Opd) (fr : Fr) (h : Hp) (R : AV → Hp → Prop) : eff P (.idxa s x y) fr h R = (match ev fr x, ev fr y with
  | some (.lst _ n l), some (.int _ i) => (0 ≤ i ∧ i < n) ∧ R (.fp (l.drop (i.toNat * s))) h
  | some (.hs id n), some (.int _ i) => (0 ≤ i ∧ i < n) ∧ R (.ptr id (i.toNat * s)) h
  | some (.hsc id n c), some (.int _ i) => (0 ≤ i ∧ i < n) ∧ R (.ptr id (i.toNat * s)) h
  | _, _ => False) := id rfl
theorem wop_idxs (d : Option Nat) (x y : Opd) (fr : Fr) (h : Hp) (K : Fr → Hp → Prop) : wop P d (.idxs x y) fr h K = (match ev fr x, ev fr y with
  | some (.str s), some (.int _ i) => (0 ≤ i ∧ i < s.size) ∧ K (put d (.int .u8 (byteAt s i.toNat)) fr) h
  | _, _ => False) := id rfl
theorem eff_idxs (x y : Opd) (fr : Fr) (h : Hp) (R : AV → Hp → Prop) : eff P (.idxs x y) fr h R = (match ev fr x, ev fr y with
  | some (.str s), some (.int _ i) => (0 ≤ i ∧ i < s.size) ∧ R (.int .u8 (byteAt s i.toNat)) h
  | _, _ => False) := id rfl
theorem wop_slcs (d : Option Nat) (x : Opd) (lo hi : Option Opd) (fr : Fr) (h : Hp) (K : Fr → Hp → Prop) : wop P d (.slcs x lo hi) fr h K = (match ev fr x with
  | some (.str s) => (match evD fr (.int .i64 0) lo, evD fr (.int .i64 s.size) hi with
   | some (.int _ l), some (.int _ u) => (0 ≤ l ∧ l ≤ u ∧ u ≤ s.size) ∧ K (put d (.str (s.extract l.toNat u.toNat)) fr) h
   | _, _ => False)
  | _ => False) := id rfl
theorem eff_slcs (x : Opd) (lo hi : Option Opd) (fr : Fr) (h : Hp) (R : AV → Hp → Prop) : eff P (.slcs x lo hi) fr h R = (match ev fr x with
  | some (.str s) => (match evD fr (.int .i64 0) lo, evD fr (.int .i64 s.size) hi with
   | some (.int _ l), some (.int _ u) => (0 ≤ l ∧ l ≤ u ∧ u ≤ s.size) ∧ R (.str (s.extract l.toNat u.toNat)) h
   | _, _ => False)
  | _ => False) := id rfl
theorem wop_slcl (d : Option Nat) (s : Nat) (x : Opd) (lo hi mx : Option Opd) (fr : Fr) (h : Hp) (K : Fr → Hp → Prop) : wop P d (.slcl s x lo hi mx) fr h K = (match ev fr x with
  | some (.lst _ n l) => (match evD fr (.int .i64 0) lo, evD fr (.int .i64 n) hi with
   | some (.int _ i), some (.int _ j) => (0 ≤ i ∧ i ≤ j ∧ j ≤ n ∧ l.length = n * s) ∧ (match mx with
    | none => K (put d (.lst .ro (j.toNat - i.toNat) ((l.drop (i.toNat * s)).take ((j.toNat - i.toNat) * s))) fr) h
    | some m => match ev fr m with
     | some (.int _ m) => m = j ∧ K (put d (.lst .clip (j.toNat - i.toNat) ((l.drop (i.toNat * s)).take ((j.toNat - i.toNat) * s))) fr) h
     | _ => False)
   | _, _ => False)
  | _ => False) := id rfl
theorem eff_slcl (s : Nat) (x : Opd) (lo hi mx : Option Opd) (fr : Fr) (h : Hp) (R : AV → Hp → Prop) : eff P (.slcl s x lo hi mx) fr h R = (match ev fr x with
  | some (.lst _ n l) => (match evD fr (.int .i64 0) lo, evD fr (.int .i64 n) hi with
   | some (.int _ i), some (.int _ j) => (0 ≤ i ∧ i ≤ j ∧ j ≤ n ∧ l.length = n * s) ∧ (match mx with
    | none => R (.lst .ro (j.toNat - i.toNat) ((l.drop (i.toNat * s)).take ((j.toNat - i.toNat) * s))) h
    | some m => match ev fr m with
     | some (.int _ m) => m = j ∧ R (.lst .clip (j.toNat - i.toNat) ((l.drop (i.toNat * s)).take ((j.toNat - i.toNat) * s))) h
     | _ => False)
   | _, _ => False)
  | _ => False) := id rfl
theorem wop_ext (d : Option Nat) (i : Nat) (x : Opd) (fr : Fr) (h : Hp) (K : Fr → Hp → Prop) : wop P d (.ext i x) fr h K = (match ev fr x with
  | some (.tup l) => (match l[i]? with
   | some a => K (put d a fr) h
   | none => False)
  | _ => False) := id rfl
theorem eff_ext (i : Nat) (x : Opd) (fr : Fr) (h : Hp) (R : AV → Hp → Prop) : eff P (.ext i x) fr h R = (match ev fr x with
  | some (.tup l) => (match l[i]? with
   | some a => R a h
   | none => False)
  | _ => False) := id rfl
theorem wop_lens (d : Option Nat) (x : Opd) (fr : Fr) (h : Hp) (K : Fr → Hp → Prop) : wop P d (.lens x) fr h K = (match ev fr x with
  | some (.str s) => K (put d (.int .i64 s.size) fr) h
  | _ => False) := id rfl
theorem eff_lens (x : Opd) (fr : Fr) (h : Hp) (R : AV → Hp → Prop) : eff P (.lens x) fr h R = (match ev fr x with
  | some (.str s) => R (.int .i64 s.size) h
  | _ => False) := id rfl
theorem wop_lenl (d : Option Nat) (x : Opd) (fr : Fr) (h : Hp) (K : Fr → Hp → Prop) : wop P d (.lenl x) fr h K = (match ev fr x with
  | some (.lst _ n _) => K (put d (.int .i64 n) fr) h
  | some (.hs _ n) => K (put d (.int .i64 n) fr) h
  | some (.hsc _ n _) => K (put d (.int .i64 n) fr) h
  | _ => False) := id rfl
theorem eff_lenl (x : Opd) (fr : Fr) (h : Hp) (R : AV → Hp → Prop) : eff P (.lenl x) fr h R = (match ev fr x with
  | some (.lst _ n _) => R (.int .i64 n) h
  | some (.hs _ n) => R (.int .i64 n) h
  | some (.hsc _ n _) => R (.int .i64 n) h
  | _ => False) := id rfl
theorem wop_mn (d : Option Nat) (x y : Opd) (fr : Fr) (h : Hp) (K : Fr → Hp → Prop) : wop P d (.mn x y) fr h K = (match ev fr x, ev fr y with
  | some (.int i a), some (.int _ b) => K (put d (.int i (if b < a then b else a)) fr) h
  | _, _ => False) := id rfl
theorem eff_mn (x y : Opd) (fr : Fr) (h : Hp) (R : AV → Hp → Prop) : eff P (.mn x y) fr h R = (match ev fr x, ev fr y with
  | some (.int i a), some (.int _ b) => R (.int i (if b < a then b else a)) h
  | _, _ => False) := id rfl
theorem wop_mx (d : Option Nat) (x y : Opd) (fr : Fr) (h : Hp) (K : Fr → Hp → Prop) : wop P d (.mx x y) fr h K = (match ev fr x, ev fr y with
  | some (.int i a), some (.int _ b) => K (put d (.int i (if a < b then b else a)) fr) h
  | _, _ => False) := id rfl
theorem eff_mx (x y : Opd) (fr : Fr) (h : Hp) (R : AV → Hp → Prop) : eff P (.mx x y) fr h R = (match ev fr x, ev fr y with
  | some (.int i a), some (.int _ b) => R (.int i (if a < b then b else a)) h
  | _, _ => False) := id rfl
theorem wop_ex (d : Option Nat) (e : Ex) (xs : List Opd) (fr : Fr) (h : Hp) (K : Fr → Hp → Prop) : wop P d (.ex e xs) fr h K = (match evs fr xs with
  | some l => (match exF e l with
   | some a => K (put d a fr) h
   | none => False)
  | none => False) := id rfl
theorem eff_ex (e : Ex) (xs : List Opd) (fr : Fr) (h : Hp) (R : AV → Hp → Prop) : eff P (.ex e xs) fr h R = (match evs fr xs with
  | some l => (match exF e l with
   | some a => R a h
   | none => False)
  | none => False) := id rfl
theorem wop_mkfn (d : Option Nat) (f : FuncId) (c : List Opd) (fr : Fr) (h : Hp) (K : Fr → Hp → Prop) : wop P d (.mkfn f c) fr h K = (match evs fr c with
  | some l => K (put d (.fn f l) fr) h
  | none => False) := id rfl
theorem eff_mkfn (f : FuncId) (c : List Opd) (fr : Fr) (h : Hp) (R : AV → Hp → Prop) : eff P (.mkfn f c) fr h R = (match evs fr c with
  | some l => R (.fn f l) h
  | none => False) := id rfl
theorem wop_mvu (d : Option Nat) (e s : Nat) (x : Opd) (fr : Fr) (h : Hp) (K : Fr → Hp → Prop) : wop P d (.mvu e s x) fr h K = (match ev fr x with
  | some (.lst .clip n l) => l.length = n * s ∧ K (put d (.lst (.own e) n l) fr) h
  | _ => False) := id rfl
theorem eff_mvu (e s : Nat) (x : Opd) (fr : Fr) (h : Hp) (R : AV → Hp → Prop) : eff P (.mvu e s x) fr h R = (match ev fr x with
  | some (.lst .clip n l) => l.length = n * s ∧ R (.lst (.own e) n l) h
  | _ => False) := id rfl
theorem wop_mvo (d : Option Nat) (q : Nat) (fr : Fr) (h : Hp) (K : Fr → Hp → Prop) : wop P d (.mvo q) fr h K = (match lk fr q with
  | some (.lst (.own e) n l) => K (put d (.lst (.own e) n l) (degr q fr)) h
  | _ => False) := id rfl
theorem eff_mvo (q : Nat) (fr : Fr) (h : Hp) (R : AV → Hp → Prop) : eff P (.mvo q) fr h R = (match lk fr q with
  | some (.lst (.own e) n l) => R (.lst (.own e) n l) h
  | _ => False) := id rfl
theorem wop_new (d : Option Nat) (l : List AV) (u : List (Nat × Nat × Nat)) (fr : Fr) (h : Hp) (K : Fr → Hp → Prop) : wop P d (.new l u) fr h K = (upgK u l (fun l' => K (put d (.ptr h.length 0) fr) (h ++ [some (false, l')]))) := id rfl
theorem eff_new (l : List AV) (u : List (Nat × Nat × Nat)) (fr : Fr) (h : Hp) (R : AV → Hp → Prop) : eff P (.new l u) fr h R = (upgK u l (fun l' => R (.ptr h.length 0) (h ++ [some (false, l')]))) := id rfl
theorem wop_box (d : Option Nat) (x : Opd) (u : List (Nat × Nat × Nat)) (fr : Fr) (h : Hp) (K : Fr → Hp → Prop) : wop P d (.box x u) fr h K = (match ev fr x with
  | some a => isTup a = false ∧ upgK u (cellsOf a) (fun l' => K (put d (.ptr h.length 0) fr) (h ++ [some (false, l')]))
  | none => False) := id rfl
theorem eff_box (x : Opd) (u : List (Nat × Nat × Nat)) (fr : Fr) (h : Hp) (R : AV → Hp → Prop) : eff P (.box x u) fr h R = (match ev fr x with
  | some a => isTup a = false ∧ upgK u (cellsOf a) (fun l' => R (.ptr h.length 0) (h ++ [some (false, l')]))
  | none => False) := id rfl
theorem wop_bsl (d : Option Nat) (e s n : Nat) (t : List AV) (ps : List (Nat × Nat × Opd)) (fr : Fr) (h : Hp) (K : Fr → Hp → Prop) : wop P d (.bsl e s n t ps) fr h K = (buildK fr t ps (fun l => K (put d (.lst (.own e) n l) fr) h)) := id rfl
theorem eff_bsl (e s n : Nat) (t : List AV) (ps : List (Nat × Nat × Opd)) (fr : Fr) (h : Hp) (R : AV → Hp → Prop) : eff P (.bsl e s n t ps) fr h R = (buildK fr t ps (fun l => R (.lst (.own e) n l) h)) := id rfl
theorem wop_mk0 (d : Option Nat) (e s b : Nat) (c : Opd) (fr : Fr) (h : Hp) (K : Fr → Hp → Prop) : wop P d (.mk0 e s b c) fr h K = (match ev fr c with
  | some (.int _ n) => (0 ≤ n ∧ b * n ≤ 140737488355328 ∧ n ≤ 9223372036854775807) ∧ K (put d (.lst (.own e) 0 []) fr) h
  | _ => False) := id rfl
theorem eff_mk0 (e s b : Nat) (c : Opd) (fr : Fr) (h : Hp) (R : AV → Hp → Prop) : eff P (.mk0 e s b c) fr h R = (match ev fr c with
  | some (.int _ n) => (0 ≤ n ∧ b * n ≤ 140737488355328 ∧ n ≤ 9223372036854775807) ∧ R (.lst (.own e) 0 []) h
  | _ => False) := id rfl
theorem wop_mkn (d : Option Nat) (e s b : Nat) (z : List AV) (c : Opd) (fr : Fr) (h : Hp) (K : Fr → Hp → Prop) : wop P d (.mkn e s b z c) fr h K = (match ev fr c with
  | some (.int _ n) => (0 ≤ n ∧ b * n ≤ 140737488355328 ∧ n ≤ 9223372036854775807) ∧ K (put d (.hs h.length n.toNat) fr) (h ++ [some (false, (List.range (n.toNat * s)).map fun i => z.getD (i % s) .nilp)])
  | _ => False) := id rfl
theorem eff_mkn (e s b : Nat) (z : List AV) (c : Opd) (fr : Fr) (h : Hp) (R : AV → Hp → Prop) : eff P (.mkn e s b z c) fr h R = (match ev fr c with
  | some (.int _ n) => (0 ≤ n ∧ b * n ≤ 140737488355328 ∧ n ≤ 9223372036854775807) ∧ R (.hs h.length n.toNat) (h ++ [some (false, (List.range (n.toNat * s)).map fun i => z.getD (i % s) .nilp)])
  | _ => False) := id rfl
theorem wop_apz (d : Option Nat) (e s b : Nat) (z : List AV) (y : Opd) (fr : Fr) (h : Hp) (K : Fr → Hp → Prop) : wop P d (.apz e s b z y) fr h K = (match ev fr y with
  | some (.lst _ m l') => (l'.length = m * s ∧ m ≤ 9223372036854775807 ∧ m * b ≤ 140737488355328) ∧ K (put d (if m = 0 then .lst .clip 0 [] else .hs h.length m) fr) (h ++ [if m = 0 then none else some (false, l')])
  | _ => False) := id rfl
theorem eff_apz (e s b : Nat) (z : List AV) (y : Opd) (fr : Fr) (h : Hp) (R : AV → Hp → Prop) : eff P (.apz e s b z y) fr h R = (match ev fr y with
  | some (.lst _ m l') => (l'.length = m * s ∧ m ≤ 9223372036854775807 ∧ m * b ≤ 140737488355328) ∧ R (if m = 0 then .lst .clip 0 [] else .hs h.length m) (h ++ [if m = 0 then none else some (false, l')])
  | _ => False) := id rfl
theorem wop_loado (d : Option Nat) (x : Opd) (fr : Fr) (h : Hp) (K : Fr → Hp → Prop) : wop P d (.loado x) fr h K = (match ev fr x with
  | some (.ptr id off) => (match h[id]? with
   | some (some (false, l)) => (match l[off]? with
    | some (.lst (.own e) n c) => K (put d (.lst (.own e) n c) fr) (h.set id (some (false, l.set off (.lst .ro n c))))
    | _ => False)
   | _ => False)
  | _ => False) := id rfl
theorem eff_loado (x : Opd) (fr : Fr) (h : Hp) (R : AV → Hp → Prop) : eff P (.loado x) fr h R = (match ev fr x with
  | some (.ptr id off) => (match h[id]? with
   | some (some (false, l)) => (match l[off]? with
    | some (.lst (.own e) n c) => R (.lst (.own e) n c) (h.set id (some (false, l.set off (.lst .ro n c))))
    | _ => False)
   | _ => False)
  | _ => False) := id rfl
theorem wop_app (d : Option Nat) (e s b : Nat) (x y : Opd) (fr : Fr) (h : Hp) (K : Fr → Hp → Prop) : wop P d (.app e s b x y) fr h K = (match ev fr x, ev fr y with
  | some (.lst .clip n l), some (.lst _ m l') => (l.length = n * s ∧ l'.length = m * s ∧ n + m ≤ 9223372036854775807 ∧ (n + m) * b ≤ 140737488355328) ∧ K (put d (.lst (.own e) (n + m) (l ++ l')) fr) h
  | _, _ => False) := id rfl
theorem eff_app (e s b : Nat) (x y : Opd) (fr : Fr) (h : Hp) (R : AV → Hp → Prop) : eff P (.app e s b x y) fr h R = (match ev fr x, ev fr y with
  | some (.lst .clip n l), some (.lst _ m l') => (l.length = n * s ∧ l'.length = m * s ∧ n + m ≤ 9223372036854775807 ∧ (n + m) * b ≤ 140737488355328) ∧ R (.lst (.own e) (n + m) (l ++ l')) h
  | _, _ => False) := id rfl
theorem wop_appo (d : Option Nat) (e s b q : Nat) (y : Opd) (fr : Fr) (h : Hp) (K : Fr → Hp → Prop) : wop P d (.appo e s b q y) fr h K = (match lk fr q, ev fr y with
  | some (.lst (.own e') n l), some (.lst _ m l') => (e' = e ∧ l'.length = m * s ∧ n + m ≤ 9223372036854775807 ∧ (n + m) * b ≤ 140737488355328) ∧ K (put d (.lst (.own e) (n + m) (l ++ l')) (degr q fr)) h
  | _, _ => False) := id rfl
theorem eff_appo (e s b q : Nat) (y : Opd) (fr : Fr) (h : Hp) (R : AV → Hp → Prop) : eff P (.appo e s b q y) fr h R = (match lk fr q, ev fr y with
  | some (.lst (.own e') n l), some (.lst _ m l') => (e' = e ∧ l'.length = m * s ∧ n + m ≤ 9223372036854775807 ∧ (n + m) * b ≤ 140737488355328) ∧ R (.lst (.own e) (n + m) (l ++ l')) h
  | _, _ => False) := id rfl
theorem wop_appso (d : Option Nat) (e q : Nat) (y : Opd) (fr : Fr) (h : Hp) (K : Fr → Hp → Prop) : wop P d (.appso e q y) fr h K = (match lk fr q, ev fr y with
  | some (.lst (.own e') n l), some (.str s) => (e' = e ∧ n + s.size ≤ 140737488355328) ∧ K (put d (.lst (.own e) (n + s.size) (l ++ s.data.toList.map fun b => AV.int .u8 b.toNat)) (degr q fr)) h
  | _, _ => False) := id rfl
theorem eff_appso (e q : Nat) (y : Opd) (fr : Fr) (h : Hp) (R : AV → Hp → Prop) : eff P (.appso e q y) fr h R = (match lk fr q, ev fr y with
  | some (.lst (.own e') n l), some (.str s) => (e' = e ∧ n + s.size ≤ 140737488355328) ∧ R (.lst (.own e) (n + s.size) (l ++ s.data.toList.map fun b => AV.int .u8 b.toNat)) h
  | _, _ => False) := id rfl
theorem wop_bar (d : Option Nat) (s : Nat) (t : List AV) (ps : List (Nat × Nat × Opd)) (fr : Fr) (h : Hp) (K : Fr → Hp → Prop) : wop P d (.bar s t ps) fr h K = (buildK fr t ps (fun l => K (put d (.agg l) fr) h)) := id rfl
theorem wop_bslc (d : Option Nat) (e s n : Nat) (t : List AV) (ps : List (Nat × Nat × Opd)) (fr : Fr) (h : Hp) (K : Fr → Hp → Prop) : wop P d (.bslc e s n t ps) fr h K = (buildK fr t ps (fun l => K (put d (.lst .clip n l) fr) h)) := id rfl
theorem wop_b2h (d : Option Nat) (x : Opd) (fr : Fr) (h : Hp) (K : Fr → Hp → Prop) : wop P d (.b2h x) fr h K = (match (ev fr x).bind (rowB h) with
  | some (n, l) => ∃ bs : List UInt8, l = bs.map (fun b => AV.int .u8 b.toNat) ∧ n = bs.length ∧ K (put d (.str ⟨bs.toArray⟩) fr) h
  | _ => False) := id rfl
theorem rowB_lst (h : Hp) (f : Fl) (m : Nat) (l : List AV) : rowB h (.lst f m l) = some (m, l) := id rfl
theorem rowB_hsc (h : Hp) (i' m c : Nat) : rowB h (.hsc i' m c) = (match h[i']? with
  | some (some (_, l)) => if m ≤ l.length then some (m, l.take m) else none
  | _ => none) := id rfl
theorem wop_bsh (d : Option Nat) (e s n : Nat) (t : List AV) (ps : List (Nat × Nat × Opd)) (fr : Fr) (h : Hp) (K : Fr → Hp → Prop) : wop P d (.bsh e s n t ps) fr h K = (buildK fr t ps (fun l => K (put d (.hs h.length n) fr) (h ++ [some (false, l)]))) := id rfl
theorem wop_store (d : Option Nat) (n : Nat) (a x : Opd) (fr : Fr) (h : Hp) (K : Fr → Hp → Prop) : wop P d (.store n a x) fr h K = (match ev fr a, ev fr x with
  | some (.ptr id off), some v => (match h[id]? with
   | some (some (false, l)) => (isTup v = false ∧ (cellsOf v).length = n ∧ off + n ≤ l.length) ∧ K fr (h.set id (some (false, splice l off (cellsOf v))))
   | _ => False)
  | _, _ => False) := id rfl
theorem wop_storeo (d : Option Nat) (a : Opd) (q : Nat) (fr : Fr) (h : Hp) (K : Fr → Hp → Prop) : wop P d (.storeo a q) fr h K = (match ev fr a, lk fr q with
  | some (.ptr id off), some (.lst (.own e) n c) => (match h[id]? with
   | some (some (false, l)) => off < l.length ∧ K (degr q fr) (h.set id (some (false, l.set off (.lst (.own e) n c))))
   | _ => False)
  | _, _ => False) := id rfl
theorem wop_stores (d : Option Nat) (n : Nat) (a x : Opd) (fr : Fr) (h : Hp) (K : Fr → Hp → Prop) : wop P d (.stores n a x) fr h K = (match ev fr a, ev fr x with
  | some (.ptr id off), some v => (match h[id]? with
   | some (some (false, l)) => (isTup v = false ∧ (cellsOf v).length = n ∧ off + n ≤ l.length) ∧ K fr (h.set id (some (true, splice l off (cellsOf v))))
   | _ => False)
  | _, _ => False) := id rfl
theorem eff_store (n : Nat) (a x : Opd) (fr : Fr) (h : Hp) (R : AV → Hp → Prop) : eff P (.store n a x) fr h R = (match ev fr a, ev fr x with
  | some (.ptr id off), some v => (match h[id]? with
   | some (some (false, l)) => (isTup v = false ∧ (cellsOf v).length = n ∧ off + n ≤ l.length) ∧ R .nilp (h.set id (some (false, splice l off (cellsOf v))))
   | _ => False)
  | _, _ => False) := id rfl
theorem eff_storeo (a : Opd) (q : Nat) (fr : Fr) (h : Hp) (R : AV → Hp → Prop) : eff P (.storeo a q) fr h R = (match ev fr a, lk fr q with
  | some (.ptr id off), some (.lst (.own e) n c) => (match h[id]? with
   | some (some (false, l)) => off < l.length ∧ R .nilp (h.set id (some (false, l.set off (.lst (.own e) n c))))
   | _ => False)
  | _, _ => False) := id rfl
theorem eff_stores (n : Nat) (a x : Opd) (fr : Fr) (h : Hp) (R : AV → Hp → Prop) : eff P (.stores n a x) fr h R = (match ev fr a, ev fr x with
  | some (.ptr id off), some v => (match h[id]? with
   | some (some (false, l)) => (isTup v = false ∧ (cellsOf v).length = n ∧ off + n ≤ l.length) ∧ R .nilp (h.set id (some (true, splice l off (cellsOf v))))
   | _ => False)
  | _, _ => False) := id rfl
theorem wop_call (d : Option Nat) (f : Opd) (l : List Opd) (fr : Fr) (h : Hp) (K : Fr → Hp → Prop) : wop P d (.call f l) fr h K = (match ev fr f, evs fr l with
  | some (.fn f' caps), some l => ACalls P f' (l ++ caps) h (kcall d fr K)
  | some (.fnb f' bnd), some l => ACalls P f' (bnd ++ l) h (kcall d fr K)
  | _, _ => False) := id rfl
theorem eff_call (f : Opd) (l : List Opd) (fr : Fr) (h : Hp) (R : AV → Hp → Prop) : eff P (.call f l) fr h R = (match ev fr f, evs fr l with
  | some (.fn f' caps), some l => ∃ v, PCalls P f' (l ++ caps) v ∧ R v h
  | _, _ => False) := id rfl
theorem wop_calli (d : Option Nat) (f : Opd) (l : List Opd) (fr : Fr) (h : Hp) (K : Fr → Hp → Prop) : wop P d (.calli f l) fr h K = (match ev fr f, evs fr l with
  | some (.fn f' caps), some l => ACalls P f' (l ++ caps) h (kcall d fr K)
  | _, _ => False) := id rfl
theorem eff_calli (f : Opd) (l : List Opd) (fr : Fr) (h : Hp) (R : AV → Hp → Prop) : eff P (.calli f l) fr h R = (match ev fr f, evs fr l with
  | some (.fn f' caps), some l => ∃ v hv, ACalls P f' (l ++ caps) h (fun a h' => a = v ∧ h' = hv) ∧ SealEq h hv ∧ R v hv
  | _, _ => False) := id rfl
theorem wop_snil (d : Option Nat) (n : Bool) (x : Opd) (fr : Fr) (h : Hp) (K : Fr → Hp → Prop) : wop P d (.snil n x) fr h K = (match ev fr x with
  | some (.lst _ m _) => K (put d (.bool n) fr) h ∧ (m = 0 → K (put d (.bool (!n)) fr) h)
  | some (.hs _ _) => K (put d (.bool n) fr) h
  | some (.hsc _ _ _) => K (put d (.bool n) fr) h
  | _ => False) := id rfl
theorem eff_snil (n : Bool) (x : Opd) (fr : Fr) (h : Hp) (R : AV → Hp → Prop) : eff P (.snil n x) fr h R = (match ev fr x with
  | some (.lst _ m _) => m ≠ 0 ∧ R (.bool n) h
  | some (.hs _ _) => R (.bool n) h
  | some (.hsc _ _ _) => R (.bool n) h
  | _ => False) := id rfl
theorem wop_storeu (d : Option Nat) (n : Nat) (u : List (Nat × Nat × Nat)) (a x : Opd) (fr : Fr) (h : Hp) (K : Fr → Hp → Prop) : wop P d (.storeu n u a x) fr h K = (match ev fr a, ev fr x with
  | some (.ptr id 0), some v => (match h[id]? with
   | some (some (false, l)) => (isTup v = false ∧ (cellsOf v).length = n ∧ n ≤ l.length) ∧ upgK u (cellsOf v) (fun l' => K fr (h.set id (some (false, splice l 0 l'))))
   | _ => False)
  | _, _ => False) := id rfl
theorem wop_rngs (d : Option Nat) (x : Opd) (fr : Fr) (h : Hp) (K : Fr → Hp → Prop) : wop P d (.rngs x) fr h K = (match ev fr x with
  | some (.str s) => K (put d (.itr s 0) fr) h
  | _ => False) := id rfl
theorem wop_nxt (d : Option Nat) (k : Nat) (fr : Fr) (h : Hp) (K : Fr → Hp → Prop) : wop P d (.nxt k) fr h K = (match lk fr k with
  | some (.itr s pos) => if pos < s.size then K (put d (.tup [.bool true, .int .i64 pos, .int .i32 (Utf8.decode s pos).1]) ((k, .itr s (pos + (Utf8.decode s pos).2)) :: fr)) h else K (put d (.tup [.bool false]) fr) h
  | _ => False) := id rfl
theorem tk_mv (x : Opd) (fr : Fr) : tk (.mv x) fr = fr := id rfl
theorem tk_pick (c x y : Opd) (fr : Fr) : tk (.pick c x y) fr = fr := id rfl
theorem tk_build (t : List AV) (ps : List (Nat × Nat × Opd)) (fr : Fr) : tk (.build t ps) fr = fr := id rfl
theorem tk_load (s : Option Nat) (x : Opd) (fr : Fr) : tk (.load s x) fr = fr := id rfl
theorem tk_lds (s : Option Nat) (x : Opd) (fr : Fr) : tk (.lds s x) fr = fr := id rfl
theorem tk_nilck (x : Opd) (fr : Fr) : tk (.nilck x) fr = fr := id rfl
theorem tk_bin (op : BinOp) (x y : Opd) (fr : Fr) : tk (.bin op x y) fr = fr := id rfl
theorem tk_pnil (n : Bool) (x : Opd) (fr : Fr) : tk (.pnil n x) fr = fr := id rfl
theorem tk_bbin (n : Bool) (x y : Opd) (fr : Fr) : tk (.bbin n x y) fr = fr := id rfl
theorem tk_not (x : Opd) (fr : Fr) : tk (.not x) fr = fr := id rfl
theorem tk_conv (i : IntKind) (x : Opd) (fr : Fr) : tk (.conv i x) fr = fr := id rfl
theorem tk_cstr (x : Opd) (fr : Fr) : tk (.cstr x) fr = fr := id rfl
theorem tk_b2s (x : Opd) (fr : Fr) : tk (.b2s x) fr = fr := id rfl
theorem tk_fld (o : Nat) (x : Opd) (fr : Fr) : tk (.fld o x) fr = fr := id rfl
theorem tk_idxa (s : Nat) (x y : Opd) (fr : Fr) : tk (.idxa s x y) fr = fr := id rfl
theorem tk_idxs (x y : Opd) (fr : Fr) : tk (.idxs x y) fr = fr := id rfl
theorem tk_slcs (x : Opd) (lo hi : Option Opd) (fr : Fr) : tk (.slcs x lo hi) fr = fr := id rfl
theorem tk_slcl (s : Nat) (x : Opd) (lo hi mx : Option Opd) (fr : Fr) : tk (.slcl s x lo hi mx) fr = fr := id rfl
theorem tk_ext (i : Nat) (x : Opd) (fr : Fr) : tk (.ext i x) fr = fr := id rfl
theorem tk_lens (x : Opd) (fr : Fr) : tk (.lens x) fr = fr := id rfl
theorem tk_lenl (x : Opd) (fr : Fr) : tk (.lenl x) fr = fr := id rfl
theorem tk_mn (x y : Opd) (fr : Fr) : tk (.mn x y) fr = fr := id rfl
theorem tk_mx (x y : Opd) (fr : Fr) : tk (.mx x y) fr = fr := id rfl
theorem tk_ex (e : Ex) (xs : List Opd) (fr : Fr) : tk (.ex e xs) fr = fr := id rfl
theorem tk_mkfn (f : FuncId) (c : List Opd) (fr : Fr) : tk (.mkfn f c) fr = fr := id rfl
theorem tk_mvu (e s : Nat) (x : Opd) (fr : Fr) : tk (.mvu e s x) fr = fr := id rfl
theorem tk_mvo (q : Nat) (fr : Fr) : tk (.mvo q) fr = degr q fr := id rfl
theorem tk_new (l : List AV) (u : List (Nat × Nat × Nat)) (fr : Fr) : tk (.new l u) fr = fr := id rfl
theorem tk_box (x : Opd) (u : List (Nat × Nat × Nat)) (fr : Fr) : tk (.box x u) fr = fr := id rfl
theorem tk_bsl (e s n : Nat) (t : List AV) (ps : List (Nat × Nat × Opd)) (fr : Fr) : tk (.bsl e s n t ps) fr = fr := id rfl
theorem tk_mk0 (e s b : Nat) (c : Opd) (fr : Fr) : tk (.mk0 e s b c) fr = fr := id rfl
theorem tk_mkn (e s b : Nat) (z : List AV) (c : Opd) (fr : Fr) : tk (.mkn e s b z c) fr = fr := id rfl
theorem tk_apz (e s b : Nat) (z : List AV) (y : Opd) (fr : Fr) : tk (.apz e s b z y) fr = fr := id rfl
theorem tk_loado (x : Opd) (fr : Fr) : tk (.loado x) fr = fr := id rfl
theorem tk_app (e s b : Nat) (x y : Opd) (fr : Fr) : tk (.app e s b x y) fr = fr := id rfl
theorem tk_appo (e s b q : Nat) (y : Opd) (fr : Fr) : tk (.appo e s b q y) fr = degr q fr := id rfl
theorem tk_appso (e q : Nat) (y : Opd) (fr : Fr) : tk (.appso e q y) fr = degr q fr := id rfl
theorem tk_store (n : Nat) (a x : Opd) (fr : Fr) : tk (.store n a x) fr = fr := id rfl
theorem tk_storeo (a : Opd) (q : Nat) (fr : Fr) : tk (.storeo a q) fr = degr q fr := id rfl
theorem tk_call (f : Opd) (l : List Opd) (fr : Fr) : tk (.call f l) fr = fr := id rfl
theorem tk_stores (n : Nat) (a x : Opd) (fr : Fr) : tk (.stores n a x) fr = fr := id rfl
theorem tk_calli (f : Opd) (l : List Opd) (fr : Fr) : tk (.calli f l) fr = fr := id rfl
theorem tk_snil (n : Bool) (x : Opd) (fr : Fr) : tk (.snil n x) fr = fr := id rfl
theorem ex_wadd (k : IntKind) (x y : Int) : exF (.binw .add) [.int k x, .int k y] = some (.int k (k.wrap (x + y))) := by simp [exF, exF0]
theorem ex_wsub (k : IntKind) (x y : Int) : exF (.binw .sub) [.int k x, .int k y] = some (.int k (k.wrap (x - y))) := by simp [exF, exF0]
theorem ex_wmul (k : IntKind) (x y : Int) : exF (.binw .mul) [.int k x, .int k y] = some (.int k (k.wrap (x * y))) := by simp [exF, exF0]
theorem ex_aeq (n : Bool) (ks : List Nat) (l m : List AV) : exF (.aeq n ks) [.agg l, .agg m] = (eqCells ks l m).map (fun r => .bool (if n then !r else r)) := id rfl
theorem ex_r2s (k : IntKind) (n : Int) : exF .r2s [.int k n] = some (.str (Utf8.encode n)) := id rfl
theorem ex_ibs (s : ByteArray) (c : Int) : exF .ibs [.str s, .int .u8 c] = some (.int .i64 (indexByte s.data.toList c.toNat.toUInt8)) := id rfl
theorem ex_mkb (f : FuncId) (l : List AV) : exF (.mkb f) l = some (.fnb f l) := id rfl
theorem deg_itr (s : ByteArray) (p : Nat) : deg (.itr s p) = .opq := id rfl
theorem wop_mmk (d : Option Nat) (fr : Fr) (h : Hp) (K : Fr → Hp → Prop) : wop P d .mmk fr h K = (∀ b, K (put d (.omp b [] []) fr) h) := id rfl
theorem wop_mup (d : Option Nat) (st : Bool) (k : Nat) (m x y : Opd) (fr : Fr) (h : Hp) (K : Fr → Hp → Prop) : wop P d (.mup st k m x y) fr h K = (match lk fr k, ev fr m, ev fr x, ev fr y with
  | some (.omp q ks vs), some (.mp q'), some a, some b => (q' = q ∧ (isKey st a && ks.all (kSame a) && (pv b).isSome) = true) ∧ K ((k, .omp q (mKeys a ks) (mVals a b ks vs)) :: fr) h
  | _, _, _, _ => False) := id rfl
theorem wop_mfz (d : Option Nat) (q : Nat) (fr : Fr) (h : Hp) (K : Fr → Hp → Prop) : wop P d (.mfz q) fr h K = (match lk fr q with
  | some (.omp _ ks vs) => K (put d (.fmp ks vs) (degr q fr)) h
  | _ => False) := id rfl
theorem wop_mmv (d : Option Nat) (q : Nat) (fr : Fr) (h : Hp) (K : Fr → Hp → Prop) : wop P d (.mmv q) fr h K = (match lk fr q with
  | some (.omp b ks vs) => K (put d (.omp b ks vs) (degr q fr)) h
  | _ => False) := id rfl
theorem wop_mra (d : Option Nat) (q : Nat) (fr : Fr) (h : Hp) (K : Fr → Hp → Prop) : wop P d (.mra q) fr h K = (match lk fr q with
  | some (.omp b _ _) => K (put d (.mp b) fr) h
  | _ => False) := id rfl
theorem wop_cpy (d : Option Nat) (sz : Nat) (x y : Opd) (fr : Fr) (h : Hp) (K : Fr → Hp → Prop) : wop P d (.cpy sz x y) fr h K = (match ev fr x, ev fr y with
  | some (.hs id n), some (.lst _ m l') => (match h[id]? with
   | some (some (false, l)) => (l'.length = m * sz ∧ n * sz ≤ l.length) ∧ K (put d (.int .i64 (min m n : Nat)) fr) (h.set id (some (false, splice l 0 (l'.take (min m n * sz)))))
   | _ => False)
  | _, _ => False) := id rfl
theorem eff_cpy (sz : Nat) (x y : Opd) (fr : Fr) (h : Hp) (R : AV → Hp → Prop) : eff P (.cpy sz x y) fr h R = (match ev fr x, ev fr y with
  | some (.hs id n), some (.lst _ m l') => (match h[id]? with
   | some (some (false, l)) => (l'.length = m * sz ∧ n * sz ≤ l.length) ∧ R (.int .i64 (min m n : Nat)) (h.set id (some (false, splice l 0 (l'.take (min m n * sz)))))
   | _ => False)
  | _, _ => False) := id rfl
theorem tk_cpy (sz : Nat) (x y : Opd) (fr : Fr) : tk (.cpy sz x y) fr = fr := id rfl
theorem ex_zag (z : List AV) : exF (.zag z) [] = some (.agg z) := id rfl
theorem wop_apc (d : Option Nat) (e sz bytes : Nat) (zero : List AV) (x y : Opd) (fr : Fr) (h : Hp) (K : Fr → Hp → Prop) : wop P d (.apc e sz bytes zero x y) fr h K = (match ev fr x, (ev fr y).bind (rowA h sz) with
  | some (.lst .clip n l), some (m, l') => (l.length = n * sz ∧ l'.length = m * sz ∧ n + m ≤ 9223372036854775807 ∧ (n + m) * bytes ≤ 140737488355328) ∧ (m = 0 → K (put d (.lst .clip n l) fr) h) ∧ (0 < m → ∀ k : Nat, K (put d (.hsc h.length (n + m) (n + m + k)) fr) (h ++ [some (false, (l ++ l') ++ zrow zero sz (k * sz))]))
  | some (.hsc id n c), some (m, l') => (match h[id]?, isLst (ev fr y) with
   | some (some (false, l)), true => (l.length = c * sz ∧ l'.length = m * sz ∧ 0 < m ∧ n ≤ c ∧ n + m ≤ 9223372036854775807 ∧ (n + m) * bytes ≤ 140737488355328) ∧ (n + m ≤ c → K (put d (.hsc id (n + m) c) fr) (h.set id (some (false, splice l (n * sz) l')))) ∧ (c < n + m → ∀ k : Nat, K (put d (.hsc h.length (n + m) (n + m + k)) fr) (h ++ [some (false, ((l.take (n * sz)).map deg ++ l') ++ zrow zero sz (k * sz))]))
   | _, _ => False)
  | _, _ => False) := id rfl
theorem obind (a : AV) (f : AV → Option (Nat × List AV)) : (some a).bind f = f a := id rfl
theorem rowA_lst (h : Hp) (sz : Nat) (f : Fl) (m : Nat) (l : List AV) : rowA h sz (.lst f m l) = some (m, l) := id rfl
theorem isLst_lst (f : Fl) (m : Nat) (l : List AV) : isLst (some (.lst f m l)) = true := id rfl
theorem rowA_hs (h : Hp) (sz i' m : Nat) : rowA h sz (.hs i' m) = (match h[i']? with
  | some (some (_, l)) => if m * sz ≤ l.length then some (m, (l.take (m * sz)).map deg) else none
  | _ => none) := id rfl
theorem wop_slch (d : Option Nat) (sz : Nat) (x j : Opd) (fr : Fr) (h : Hp) (K : Fr → Hp → Prop) : wop P d (.slch sz x j) fr h K = (match ev fr x, ev fr j with
  | some (.hsc id n c), some (.int _ j) => (0 ≤ j ∧ j ≤ n) ∧ K (put d (.hsc id j.toNat c) fr) h
  | _, _ => False) := id rfl
theorem wop_aph (d : Option Nat) (e sz bytes : Nat) (x y : Opd) (fr : Fr) (h : Hp) (K : Fr → Hp → Prop) : wop P d (.aph e sz bytes x y) fr h K = (match ev fr x, ev fr y with
  | some (.lst .clip n l), some (.hs id m) => (match h[id]? with
   | some (some (_, l')) => (l.length = n * sz ∧ m * sz ≤ l'.length ∧ n + m ≤ 9223372036854775807 ∧ (n + m) * bytes ≤ 140737488355328) ∧ K (put d (.lst (.own e) (n + m) (l ++ (l'.take (m * sz)).map deg)) fr) h
   | _ => False)
  | _, _ => False) := id rfl
theorem ex_mlk (st ag : Bool) (z : List AV) (ok : Bool) (l : List AV) : exF (.mlk st ag z ok) l = mlkF st ag z ok l := id rfl
theorem ex_idp (sz n : Nat) (l : List AV) : exF (.idp sz n) l = idpF sz n l := id rfl
theorem ex_sla (n : Nat) (l : List AV) : exF (.sla n) l = slaF n l := id rfl
theorem deg_omp (b : Nat) (ks vs : List AV) : deg (.omp b ks vs) = .mp b := id rfl
theorem deg_mp (b : Nat) : deg (.mp b) = .mp b := id rfl
theorem isTup_mp (b : Nat) : isTup (.mp b) = false := id rfl
theorem cellsOf_mp (b : Nat) : cellsOf (.mp b) = [.mp b] := id rfl
theorem deg_fmp (ks vs : List AV) : deg (.fmp ks vs) = .fmp ks vs := id rfl
theorem isTup_fmp (ks vs : List AV) : isTup (.fmp ks vs) = false := id rfl
theorem cellsOf_fmp (ks vs : List AV) : cellsOf (.fmp ks vs) = [.fmp ks vs] := id rfl
theorem int_add (i j : IntKind) (x y : Int) (K : AV → Prop) : bin2 .add (.int i x) (.int j y) K = (i = j ∧ arith i (x + y) K) := id rfl
theorem int_sub (i j : IntKind) (x y : Int) (K : AV → Prop) : bin2 .sub (.int i x) (.int j y) K = (i = j ∧ arith i (x - y) K) := id rfl
theorem int_mul (i j : IntKind) (x y : Int) (K : AV → Prop) : bin2 .mul (.int i x) (.int j y) K = (i = j ∧ arith i (x * y) K) := id rfl
theorem int_quo (i j : IntKind) (x y : Int) (K : AV → Prop) : bin2 .quo (.int i x) (.int j y) K = (i = j ∧ y ≠ 0 ∧ arith i (x.tdiv y) K) := id rfl
theorem int_rem (i j : IntKind) (x y : Int) (K : AV → Prop) : bin2 .rem (.int i x) (.int j y) K = (i = j ∧ y ≠ 0 ∧ K (.int i (x.tmod y))) := id rfl
theorem int_and (i j : IntKind) (x y : Int) (K : AV → Prop) : bin2 .and (.int i x) (.int j y) K = (i = j ∧ K (.int i (bitV .and i x y))) := id rfl
theorem int_andNot (i j : IntKind) (x y : Int) (K : AV → Prop) : bin2 .andNot (.int i x) (.int j y) K = (i = j ∧ K (.int i (bitV .andNot i x y))) := id rfl
theorem int_or (i j : IntKind) (x y : Int) (K : AV → Prop) : bin2 .or (.int i x) (.int j y) K = (i = j ∧ K (.int i (bitV .or i x y))) := id rfl
theorem int_xor (i j : IntKind) (x y : Int) (K : AV → Prop) : bin2 .xor (.int i x) (.int j y) K = (i = j ∧ K (.int i (bitV .xor i x y))) := id rfl
theorem int_eql (i j : IntKind) (x y : Int) (K : AV → Prop) : bin2 .eql (.int i x) (.int j y) K = (i = j ∧ K (.bool (decide (x = y)))) := id rfl
theorem int_neq (i j : IntKind) (x y : Int) (K : AV → Prop) : bin2 .neq (.int i x) (.int j y) K = (i = j ∧ K (.bool (decide (x ≠ y)))) := id rfl
theorem int_lss (i j : IntKind) (x y : Int) (K : AV → Prop) : bin2 .lss (.int i x) (.int j y) K = (i = j ∧ K (.bool (decide (x < y)))) := id rfl
theorem int_leq (i j : IntKind) (x y : Int) (K : AV → Prop) : bin2 .leq (.int i x) (.int j y) K = (i = j ∧ K (.bool (decide (x ≤ y)))) := id rfl
theorem int_gtr (i j : IntKind) (x y : Int) (K : AV → Prop) : bin2 .gtr (.int i x) (.int j y) K = (i = j ∧ K (.bool (decide (y < x)))) := id rfl
theorem int_geq (i j : IntKind) (x y : Int) (K : AV → Prop) : bin2 .geq (.int i x) (.int j y) K = (i = j ∧ K (.bool (decide (y ≤ x)))) := id rfl
theorem int_shl (i j : IntKind) (x y : Int) (K : AV → Prop) : bin2 .shl (.int i x) (.int j y) K = (0 ≤ y ∧ K (.int i (i.wrap (x * 2 ^ (min y.toNat i.bits))))) := id rfl
theorem int_shr (i j : IntKind) (x y : Int) (K : AV → Prop) : bin2 .shr (.int i x) (.int j y) K = (0 ≤ y ∧ K (.int i (x.fdiv (2 ^ (min y.toNat i.bits))))) := id rfl
theorem str_add (x y : ByteArray) (K : AV → Prop) : bin2 .add (.str x) (.str y) K = (x.size + y.size ≤ 9223372036854775807 ∧ K (.str (x ++ y))) := id rfl
theorem str_eql (x y : ByteArray) (K : AV → Prop) : bin2 .eql (.str x) (.str y) K = (K (.bool (decide (x = y)))) := id rfl
theorem str_neq (x y : ByteArray) (K : AV → Prop) : bin2 .neq (.str x) (.str y) K = (K (.bool (decide (x ≠ y)))) := id rfl
theorem str_lss (x y : ByteArray) (K : AV → Prop) : bin2 .lss (.str x) (.str y) K = (K (.bool (Op.bytesLess x.toList y.toList))) := id rfl
theorem arith_i8 (z : Int) (K : AV → Prop) : arith .i8 z K = K (.int .i8 (IntKind.i8.wrap z)) := id rfl
theorem arith_i16 (z : Int) (K : AV → Prop) : arith .i16 z K = K (.int .i16 (IntKind.i16.wrap z)) := id rfl
theorem arith_i32 (z : Int) (K : AV → Prop) : arith .i32 z K = K (.int .i32 (IntKind.i32.wrap z)) := id rfl
theorem arith_u8 (z : Int) (K : AV → Prop) : arith .u8 z K = K (.int .u8 (IntKind.u8.wrap z)) := id rfl
theorem arith_u16 (z : Int) (K : AV → Prop) : arith .u16 z K = K (.int .u16 (IntKind.u16.wrap z)) := id rfl
theorem arith_u32 (z : Int) (K : AV → Prop) : arith .u32 z K = K (.int .u32 (IntKind.u32.wrap z)) := id rfl
theorem arith_u64 (z : Int) (K : AV → Prop) : arith .u64 z K = K (.int .u64 (IntKind.u64.wrap z)) := id rfl
theorem arith_i64 (z : Int) (K : AV → Prop) : arith .i64 z K = (inR z ∧ K (.int .i64 z)) := id rfl
theorem loadK_none (a : AV) (l : List AV) (K : AV → Prop) : loadK none (a :: l) K = K (deg a) := id rfl
theorem loadK_some (n : Nat) (l : List AV) (K : AV → Prop) : loadK (some n) l K = (n ≤ l.length ∧ K (.agg ((l.take n).map deg))) := id rfl
theorem deg_bool (b : Bool) : deg (.bool b) = (.bool b) := id rfl
theorem isTup_bool (b : Bool) : isTup (.bool b) = false := id rfl
theorem cellsOf_bool (b : Bool) : cellsOf (.bool b) = [.bool b] := id rfl
theorem deg_int (i : IntKind) (n : Int) : deg (.int i n) = (.int i n) := id rfl
theorem isTup_int (i : IntKind) (n : Int) : isTup (.int i n) = false := id rfl
theorem cellsOf_int (i : IntKind) (n : Int) : cellsOf (.int i n) = [.int i n] := id rfl
theorem deg_str (s : ByteArray) : deg (.str s) = (.str s) := id rfl
theorem isTup_str (s : ByteArray) : isTup (.str s) = false := id rfl
theorem cellsOf_str (s : ByteArray) : cellsOf (.str s) = [.str s] := id rfl
theorem deg_nilp  : deg .nilp = .nilp := id rfl
theorem isTup_nilp  : isTup .nilp = false := id rfl
theorem cellsOf_nilp  : cellsOf .nilp = [.nilp] := id rfl
theorem deg_ptr (i o : Nat) : deg (.ptr i o) = (.ptr i o) := id rfl
theorem isTup_ptr (i o : Nat) : isTup (.ptr i o) = false := id rfl
theorem cellsOf_ptr (i o : Nat) : cellsOf (.ptr i o) = [.ptr i o] := id rfl
theorem deg_fp (l : List AV) : deg (.fp l) = (.fp l) := id rfl
theorem isTup_fp (l : List AV) : isTup (.fp l) = false := id rfl
theorem cellsOf_fp (l : List AV) : cellsOf (.fp l) = [.fp l] := id rfl
theorem deg_hs (i n : Nat) : deg (.hs i n) = (.hs i n) := id rfl
theorem isTup_hs (i n : Nat) : isTup (.hs i n) = false := id rfl
theorem cellsOf_hs (i n : Nat) : cellsOf (.hs i n) = [.hs i n] := id rfl
theorem deg_hsc (i n c : Nat) : deg (.hsc i n c) = (.hsc i n c) := id rfl
theorem isTup_hsc (i n c : Nat) : isTup (.hsc i n c) = false := id rfl
theorem cellsOf_hsc (i n c : Nat) : cellsOf (.hsc i n c) = [.hsc i n c] := id rfl
theorem deg_agg (l : List AV) : deg (.agg l) = (.agg l) := id rfl
theorem isTup_agg (l : List AV) : isTup (.agg l) = false := id rfl
theorem cellsOf_agg (l : List AV) : cellsOf (.agg l) = l := id rfl
theorem deg_tup (l : List AV) : deg (.tup l) = (.tup l) := id rfl
theorem isTup_tup (l : List AV) : isTup (.tup l) = true := id rfl
theorem cellsOf_tup (l : List AV) : cellsOf (.tup l) = [.tup l] := id rfl
theorem deg_fn (f : FuncId) (l : List AV) : deg (.fn f l) = (.fn f l) := id rfl
theorem isTup_fn (f : FuncId) (l : List AV) : isTup (.fn f l) = false := id rfl
theorem cellsOf_fn (f : FuncId) (l : List AV) : cellsOf (.fn f l) = [.fn f l] := id rfl
theorem deg_fnb (f : FuncId) (l : List AV) : deg (.fnb f l) = (.fnb f l) := id rfl
theorem isTup_fnb (f : FuncId) (l : List AV) : isTup (.fnb f l) = false := id rfl
theorem cellsOf_fnb (f : FuncId) (l : List AV) : cellsOf (.fnb f l) = [.fnb f l] := id rfl
theorem deg_nilf  : deg .nilf = .nilf := id rfl
theorem isTup_nilf  : isTup .nilf = false := id rfl
theorem cellsOf_nilf  : cellsOf .nilf = [.nilf] := id rfl
theorem deg_opq  : deg .opq = .opq := id rfl
theorem isTup_opq  : isTup .opq = false := id rfl
theorem cellsOf_opq  : cellsOf .opq = [.opq] := id rfl
theorem deg_frn (Q : World → Value → Prop) : deg (.frn Q) = (.frn Q) := id rfl
theorem isTup_frn (Q : World → Value → Prop) : isTup (.frn Q) = false := id rfl
theorem cellsOf_frn (Q : World → Value → Prop) : cellsOf (.frn Q) = [.frn Q] := id rfl
theorem deg_ro (n : Nat) (l : List AV) : deg (.lst .ro n l) = .lst .ro n l := id rfl
theorem deg_clip (n : Nat) (l : List AV) : deg (.lst .clip n l) = .lst .clip n l := id rfl
theorem deg_own (e : TypeId) (n : Nat) (l : List AV) : deg (.lst (.own e) n l) = .lst .ro n l := id rfl
theorem isTup_lst (f : Fl) (n : Nat) (l : List AV) : isTup (.lst f n l) = false := id rfl
theorem cellsOf_lst (f : Fl) (n : Nat) (l : List AV) : cellsOf (.lst f n l) = [.lst f n l] := id rfl
end
theorem sel (p : Bool) (A B : Prop) : ((p = true → A) ∧ (p = false → B)) = (if p = true then A else B) := by cases p <;> simp
theorem selg (p want : Bool) (A B : Prop) : ((p = want → A) ∧ (p = !want → B)) = (if p = want then A else B) := by cases p <;> cases want <;> simp
theorem ite_and (c : Prop) [Decidable c] (A B : Prop) : (if c then A else B) = ((c → A) ∧ (¬ c → B)) := by
 by_cases h : c <;> simp [h]
theorem end_get (h : Hp) (x : Option (Bool × List AV)) : (h ++ [x])[h.length]? = some x := by simp
theorem end_set (h : Hp) (x y : Option (Bool × List AV)) : (h ++ [x]).set h.length y = h ++ [y] := by simp
section
variable (P : Program)
theorem W_cond2 (c : Opd) (a b : ACode) (fr : Fr) (h : Hp) (Q : Exit → Fr → Hp → Prop) : W P (.cond c a b) fr h Q = match ev fr c with
  | some (.bool p) => (if p = true then W P a fr h Q else W P b fr h Q)
  | _ => False := by
 rw [W_cond]
 simp only [sel] <;> rfl
theorem WOps_gd2 (d : Option Nat) (q : Nat) (want : Bool) (o : AOp) (f : Option (FB × List Nat)) (r : List AStm) (fr : Fr) (h : Hp) (K : Fr → Hp → Prop) : WOps P (⟨d, some (q, want), o, f⟩ :: r) fr h K = match lk fr q with
      | some (.bool p) => (if p = want then wop P d o ((q, .bool want) :: fr) h (kops P r K) else WOps P r (put d (.tup []) ((q, .bool (!want)) :: fr)) h K)
      | some (.tup []) => WOps P r (put d (.tup []) fr) h K
      | _ => False := by
  rw [WOps_gd']
  simp only [selg] <;> rfl
theorem VOps_gd2 (d : Option Nat) (q : Nat) (want : Bool) (o : AOp) (r : List AStm) (fr : Fr) (h : Hp) (K : Fr → Hp → Prop) : VOps P (⟨d, some (q, want), o, none⟩ :: r) fr h K = match lk fr q with
      | some (.bool p) => (if p = want then eff P o ((q, .bool want) :: fr) h (kput d o ((q, .bool want) :: fr) (kvops P r K)) else VOps P r (put d (.tup []) ((q, .bool (!want)) :: fr)) h K)
      | some (.tup []) => VOps P r (put d (.tup []) fr) h K
      | _ => False := by
  rw [VOps_gd']
  simp only [selg] <;> rfl
theorem VOps_gdft2 (d : Option Nat) (q : Nat) (want : Bool) (o : AOp) (b : FB) (ps : List Nat) (r : List AStm) (fr : Fr) (h : Hp) (K : Fr → Hp → Prop) : VOps P (⟨d, some (q, want), o, some (b, ps)⟩ :: r) fr h K = match lk fr q with
      | some (.bool p) => (if p = want then (apart ((q, .bool want) :: fr) (fbId b ((q, .bool want) :: fr) h) ps ∧ effF P b o ((q, .bool want) :: fr) h (kput d o ((q, .bool want) :: fr) (kvops P r K))) else VOps P r (put d (.tup []) ((q, .bool (!want)) :: fr)) h K)
      | some (.tup []) => VOps P r (put d (.tup []) fr) h K
      | _ => False := by
  rw [VOps_gdft']
  simp only [selg] <;> rfl
theorem wop_pick2 (d : Option Nat) (c x y : Opd) (fr : Fr) (h : Hp) (K : Fr → Hp → Prop) : wop P d (.pick c x y) fr h K = (match ev fr c with
  | some (.bool p) => (if p = true then (match ev fr x with
   | some a => K (put d a fr) h
   | none => False) else (match ev fr y with
   | some a => K (put d a fr) h
   | none => False))
  | _ => False) := by
 rw [wop_pick]
 simp only [sel] <;> rfl
theorem eff_pick2 (c x y : Opd) (fr : Fr) (h : Hp) (R : AV → Hp → Prop) : eff P (.pick c x y) fr h R = (match ev fr c with
  | some (.bool p) => (if p = true then (match ev fr x with
   | some a => R a h
   | none => False) else (match ev fr y with
   | some a => R a h
   | none => False))
  | _ => False) := by
 rw [eff_pick]
 simp only [sel] <;> rfl
end
theorem wk : type_of% (z (z (z (z (z (z (z (z (z (@W_skip) (z (@W_scope) (@W_dead))) (z (@kscope_normal) (z (@kscope_exit) (@kscope_ret)))) (z (z (@W_ops) (z (@W_draw) (@W_drax))) (z (@kdrax_eq) (z (@fOk_nil) (@fOk_fld))))) (z (z (z (@fOk_mv) (z (@fOk_ext) (@fOk_store))) (z (@W_seq) (z (@W_cond2) (@W_block)))) (z (z (@W_exit) (z (@W_ret) (@W_keep))) (z (z (@kseq_normal) (@kseq_exit)) (z (@kseq_ret) (@kblock_normal)))))) (z (z (z (z (@kblock_exit) (z (@kblock_ret) (@kloop_normal))) (z (@kloop_exit) (z (@kloop_ret) (@kret_normal)))) (z (z (@kret_ret) (z (@kdraw_eq) (@kval_eq))) (z (@kv_eq) (z (@kput_eq) (@kbox_eq))))) (z (z (z (@kobj_eq) (z (@klst_eq) (@krow_eq))) (z (@kcall_eq) (z (@put_some) (@put_none)))) (z (z (@lk_cons') (z (@lk_nil) (@restr_nil))) (z (z (@restr_cons) (@ev_t)) (z (@ev_c) (@ev_f))))))) (z (z (z (z (z (@evs_nil) (z (@evs_cons) (@evD_none))) (z (@evD_some) (z (@degr_nil) (@degr_cons)))) (z (z (@args0_nil) (z (@args0_cons) (@buildK_nil))) (z (@buildK_cons) (z (@upgK_nil) (@upgK_cons))))) (z (z (z (@resL_nil) (z (@resL_t) (@resL_c))) (z (@res1_one) (z (@res1_nil) (@res1_two)))) (z (z (@WOps_nil') (z (@WOps_cons') (@WOps_gd2))) (z (z (@kops_eq') (@VOps_nil')) (z (@VOps_cons') (@VOps_gd2)))))) (z (z (z (z (@VOps_ft') (z (@VOps_gdft2) (@apart_nil))) (z (@apart_cons) (z (@ptrId_ptr) (@ptrId_hs)))) (z (z (@sameId_eq) (z (@fbId_s) (@fbId_h))) (z (@effF_load) (z (@effF_loado) (@effF_store))))) (z (z (z (@effF_stores) (z (@effF_storeo) (@effF_calli))) (z (@effF_new) (z (@effF_box) (@effF_mkn)))) (z (z (@W_holes) (z (@rep2) (@rep3))) (z (z (@kvops_eq') (@splice_cons')) (z (@splice_nil') (@wop_mv)))))))) (z (z (z (z (z (z (@eff_mv) (z (@wop_pick2) (@eff_pick2))) (z (@wop_build) (z (@eff_build) (@wop_load)))) (z (z (@eff_load) (z (@wop_lds) (@eff_lds))) (z (@wop_nilck) (z (@eff_nilck) (@wop_bin))))) (z (z (z (@eff_bin) (z (@wop_pnil) (@eff_pnil))) (z (@wop_bbin) (z (@eff_bbin) (@wop_not)))) (z (z (@eff_not) (z (@wop_conv) (@eff_conv))) (z (z (@wop_cstr) (@eff_cstr)) (z (@wop_b2s) (@eff_b2s)))))) (z (z (z (z (@wop_fld) (z (@eff_fld) (@wop_idxa))) (z (@eff_idxa) (z (@wop_idxs) (@eff_idxs)))) (z (z (@wop_slcs) (z (@eff_slcs) (@wop_slcl))) (z (@eff_slcl) (z (@wop_ext) (@eff_ext))))) (z (z (z (@wop_lens) (z (@eff_lens) (@wop_lenl))) (z (@eff_lenl) (z (@wop_mn) (@eff_mn)))) (z (z (@wop_mx) (z (@eff_mx) (@wop_ex))) (z (z (@eff_ex) (@wop_mkfn)) (z (@eff_mkfn) (@wop_mvu))))))) (z (z (z (z (z (@eff_mvu) (z (@wop_mvo) (@eff_mvo))) (z (@wop_new) (z (@eff_new) (@wop_box)))) (z (z (@eff_box) (z (@wop_bsl) (@eff_bsl))) (z (@wop_mk0) (z (@eff_mk0) (@wop_mkn))))) (z (z (z (@eff_mkn) (z (@wop_apz) (@eff_apz))) (z (@wop_loado) (z (@eff_loado) (@wop_app)))) (z (z (@eff_app) (z (@wop_appo) (@eff_appo))) (z (z (@wop_appso) (@eff_appso)) (z (@wop_bar) (@wop_bslc)))))) (z (z (z (z (@wop_b2h) (z (@rowB_lst) (@rowB_hsc))) (z (@wop_bsh) (z (@wop_store) (@wop_storeo)))) (z (z (@wop_stores) (z (@eff_store) (@eff_storeo))) (z (z (@eff_stores) (@wop_rngs)) (z (@wop_nxt) (@wop_call))))) (z (z (z (@eff_call) (z (@wop_calli) (@eff_calli))) (z (@wop_snil) (z (@eff_snil) (@wop_storeu)))) (z (z (@tk_mv) (z (@tk_pick) (@tk_build))) (z (z (@tk_load) (@tk_lds)) (z (@tk_nilck) (@tk_bin))))))))) (z (z (z (z (z (z (z (@tk_pnil) (z (@tk_bbin) (@tk_not))) (z (@tk_conv) (z (@tk_cstr) (@tk_b2s)))) (z (z (@tk_fld) (z (@tk_idxa) (@tk_idxs))) (z (@tk_slcs) (z (@tk_slcl) (@tk_ext))))) (z (z (z (@tk_lens) (z (@tk_lenl) (@tk_mn))) (z (@tk_mx) (z (@tk_ex) (@tk_mkfn)))) (z (z (@tk_mvu) (z (@tk_mvo) (@tk_new))) (z (z (@tk_box) (@tk_bsl)) (z (@tk_mk0) (@tk_mkn)))))) (z (z (z (z (@tk_apz) (z (@tk_loado) (@tk_app))) (z (@tk_appo) (z (@tk_appso) (@tk_store)))) (z (z (@tk_storeo) (z (@tk_call) (@tk_stores))) (z (@tk_calli) (z (@tk_snil) (@ex_wadd))))) (z (z (z (@ex_wsub) (z (@ex_wmul) (@ex_aeq))) (z (@ex_r2s) (z (@ex_ibs) (@ex_mkb)))) (z (z (@deg_itr) (z (@ex_zag) (@wop_apc))) (z (z (@obind) (@rowA_lst)) (z (@isLst_lst) (@rowA_hs))))))) (z (z (z (z (z (@wop_slch) (z (@wop_aph) (@wop_mmv))) (z (@wop_mra) (z (@wop_cpy) (@eff_cpy)))) (z (z (@tk_cpy) (z (@deg_omp) (@deg_mp))) (z (@isTup_mp) (z (@cellsOf_mp) (@deg_fmp))))) (z (z (z (@isTup_fmp) (z (@cellsOf_fmp) (@wop_mmk))) (z (@wop_mup) (z (@wop_mfz) (@ex_mlk)))) (z (z (@ex_idp) (z (@ex_sla) (@int_add))) (z (z (@int_sub) (@int_mul)) (z (@int_quo) (@int_rem)))))) (z (z (z (z (@int_and) (z (@int_andNot) (@int_or))) (z (@int_xor) (z (@int_eql) (@int_neq)))) (z (z (@int_lss) (z (@int_leq) (@int_gtr))) (z (z (@int_geq) (@int_shl)) (z (@int_shr) (@str_add))))) (z (z (z (@str_eql) (z (@str_neq) (@str_lss))) (z (@arith_i8) (z (@arith_i16) (@arith_i32)))) (z (z (@arith_u8) (z (@arith_u16) (@arith_u32))) (z (z (@arith_u64) (@arith_i64)) (z (@loadK_none) (@loadK_some)))))))) (z (z (z (z (z (z (@deg_bool) (z (@isTup_bool) (@cellsOf_bool))) (z (@deg_int) (z (@isTup_int) (@cellsOf_int)))) (z (z (@deg_str) (z (@isTup_str) (@cellsOf_str))) (z (@deg_nilp) (z (@isTup_nilp) (@cellsOf_nilp))))) (z (z (z (@deg_ptr) (z (@isTup_ptr) (@cellsOf_ptr))) (z (@deg_fp) (z (@isTup_fp) (@cellsOf_fp)))) (z (z (@deg_hs) (z (@isTup_hs) (@cellsOf_hs))) (z (z (@deg_hsc) (@isTup_hsc)) (z (@cellsOf_hsc) (@deg_agg)))))) (z (z (z (z (@isTup_agg) (z (@cellsOf_agg) (@deg_tup))) (z (@isTup_tup) (z (@cellsOf_tup) (@deg_fn)))) (z (z (@isTup_fn) (z (@cellsOf_fn) (@deg_fnb))) (z (@isTup_fnb) (z (@cellsOf_fnb) (@deg_nilf))))) (z (z (z (@isTup_nilf) (z (@cellsOf_nilf) (@deg_opq))) (z (@isTup_opq) (z (@cellsOf_opq) (@deg_frn)))) (z (z (@isTup_frn) (z (@cellsOf_frn) (@deg_ro))) (z (z (@deg_clip) (@deg_own)) (z (@isTup_lst) (@cellsOf_lst))))))) (z (z (z (z (z (@Option.map_some.{0, 0}) (z (@Option.map_none.{0, 0}) (@Nat.zero_mul))) (z (@Nat.add_zero) (z (@Nat.zero_add) (@Nat.mul_one)))) (z (z (@Nat.succ_ne_self) (z (@Nat.one_ne_zero) (@Nat.zero_ne_one))) (z (@List.length_cons.{0}) (z (@List.length_nil.{0}) (@List.set_cons_zero.{0}))))) (z (z (z (@List.set_cons_succ.{0}) (z (@List.getElem?_cons_zero.{0}) (@List.getElem?_cons_succ.{0}))) (z (@List.getElem?_nil.{0}) (z (@List.drop_zero.{0}) (@List.drop_succ_cons.{0})))) (z (z (@List.take_succ_cons.{0}) (z (@List.take_zero.{0}) (@List.map_cons.{0, 0}))) (z (z (@List.map_nil.{0, 0}) (@List.nil_append.{0})) (z (@List.append_nil.{0}) (@List.cons_append.{0})))))) (z (z (z (z (@Bool.not_true) (z (@Bool.not_false) (@Bool.true_eq_false))) (z (@Bool.false_eq_true) (z (@true_and) (@and_true)))) (z (z (@and_self) (z (@true_implies) (@false_implies))) (z (z (@Bool.not_eq_true') (@Bool.not_eq_false')) (z (@Bool.not_eq_eq_eq_not) (@decide_eq_true_eq))))) (z (z (z (@decide_eq_false_iff_not) (z (@Int.toNat_zero) (@not_true_eq_false))) (z (@not_false_eq_true) (z (@List.set_set.{0}) (@end_get)))) (z (z (@end_set) (z (@ite_and) (@decide_true))) (z (z (@decide_false) (@Bool.not_eq_true)) (z (@Bool.not_eq_false) (@Decidable.not_not)))))))))) (z (z (@Zm_eq) (z (@Zo_eq) (@Zq_eq))) (z (z (@Zt_eq) (z (@Zf_eq) (@eq_self.{1}))) (z (@Zi_eq) (z (@Zj_eq) (@Zu_eq)))))) :=
 z (z (z (z (z (z (z (z (z (@W_skip) (z (@W_scope) (@W_dead))) (z (@kscope_normal) (z (@kscope_exit) (@kscope_ret)))) (z (z (@W_ops) (z (@W_draw) (@W_drax))) (z (@kdrax_eq) (z (@fOk_nil) (@fOk_fld))))) (z (z (z (@fOk_mv) (z (@fOk_ext) (@fOk_store))) (z (@W_seq) (z (@W_cond2) (@W_block)))) (z (z (@W_exit) (z (@W_ret) (@W_keep))) (z (z (@kseq_normal) (@kseq_exit)) (z (@kseq_ret) (@kblock_normal)))))) (z (z (z (z (@kblock_exit) (z (@kblock_ret) (@kloop_normal))) (z (@kloop_exit) (z (@kloop_ret) (@kret_normal)))) (z (z (@kret_ret) (z (@kdraw_eq) (@kval_eq))) (z (@kv_eq) (z (@kput_eq) (@kbox_eq))))) (z (z (z (@kobj_eq) (z (@klst_eq) (@krow_eq))) (z (@kcall_eq) (z (@put_some) (@put_none)))) (z (z (@lk_cons') (z (@lk_nil) (@restr_nil))) (z (z (@restr_cons) (@ev_t)) (z (@ev_c) (@ev_f))))))) (z (z (z (z (z (@evs_nil) (z (@evs_cons) (@evD_none))) (z (@evD_some) (z (@degr_nil) (@degr_cons)))) (z (z (@args0_nil) (z (@args0_cons) (@buildK_nil))) (z (@buildK_cons) (z (@upgK_nil) (@upgK_cons))))) (z (z (z (@resL_nil) (z (@resL_t) (@resL_c))) (z (@res1_one) (z (@res1_nil) (@res1_two)))) (z (z (@WOps_nil') (z (@WOps_cons') (@WOps_gd2))) (z (z (@kops_eq') (@VOps_nil')) (z (@VOps_cons') (@VOps_gd2)))))) (z (z (z (z (@VOps_ft') (z (@VOps_gdft2) (@apart_nil))) (z (@apart_cons) (z (@ptrId_ptr) (@ptrId_hs)))) (z (z (@sameId_eq) (z (@fbId_s) (@fbId_h))) (z (@effF_load) (z (@effF_loado) (@effF_store))))) (z (z (z (@effF_stores) (z (@effF_storeo) (@effF_calli))) (z (@effF_new) (z (@effF_box) (@effF_mkn)))) (z (z (@W_holes) (z (@rep2) (@rep3))) (z (z (@kvops_eq') (@splice_cons')) (z (@splice_nil') (@wop_mv)))))))) (z (z (z (z (z (z (@eff_mv) (z (@wop_pick2) (@eff_pick2))) (z (@wop_build) (z (@eff_build) (@wop_load)))) (z (z (@eff_load) (z (@wop_lds) (@eff_lds))) (z (@wop_nilck) (z (@eff_nilck) (@wop_bin))))) (z (z (z (@eff_bin) (z (@wop_pnil) (@eff_pnil))) (z (@wop_bbin) (z (@eff_bbin) (@wop_not)))) (z (z (@eff_not) (z (@wop_conv) (@eff_conv))) (z (z (@wop_cstr) (@eff_cstr)) (z (@wop_b2s) (@eff_b2s)))))) (z (z (z (z (@wop_fld) (z (@eff_fld) (@wop_idxa))) (z (@eff_idxa) (z (@wop_idxs) (@eff_idxs)))) (z (z (@wop_slcs) (z (@eff_slcs) (@wop_slcl))) (z (@eff_slcl) (z (@wop_ext) (@eff_ext))))) (z (z (z (@wop_lens) (z (@eff_lens) (@wop_lenl))) (z (@eff_lenl) (z (@wop_mn) (@eff_mn)))) (z (z (@wop_mx) (z (@eff_mx) (@wop_ex))) (z (z (@eff_ex) (@wop_mkfn)) (z (@eff_mkfn) (@wop_mvu))))))) (z (z (z (z (z (@eff_mvu) (z (@wop_mvo) (@eff_mvo))) (z (@wop_new) (z (@eff_new) (@wop_box)))) (z (z (@eff_box) (z (@wop_bsl) (@eff_bsl))) (z (@wop_mk0) (z (@eff_mk0) (@wop_mkn))))) (z (z (z (@eff_mkn) (z (@wop_apz) (@eff_apz))) (z (@wop_loado) (z (@eff_loado) (@wop_app)))) (z (z (@eff_app) (z (@wop_appo) (@eff_appo))) (z (z (@wop_appso) (@eff_appso)) (z (@wop_bar) (@wop_bslc)))))) (z (z (z (z (@wop_b2h) (z (@rowB_lst) (@rowB_hsc))) (z (@wop_bsh) (z (@wop_store) (@wop_storeo)))) (z (z (@wop_stores) (z (@eff_store) (@eff_storeo))) (z (z (@eff_stores) (@wop_rngs)) (z (@wop_nxt) (@wop_call))))) (z (z (z (@eff_call) (z (@wop_calli) (@eff_calli))) (z (@wop_snil) (z (@eff_snil) (@wop_storeu)))) (z (z (@tk_mv) (z (@tk_pick) (@tk_build))) (z (z (@tk_load) (@tk_lds)) (z (@tk_nilck) (@tk_bin))))))))) (z (z (z (z (z (z (z (@tk_pnil) (z (@tk_bbin) (@tk_not))) (z (@tk_conv) (z (@tk_cstr) (@tk_b2s)))) (z (z (@tk_fld) (z (@tk_idxa) (@tk_idxs))) (z (@tk_slcs) (z (@tk_slcl) (@tk_ext))))) (z (z (z (@tk_lens) (z (@tk_lenl) (@tk_mn))) (z (@tk_mx) (z (@tk_ex) (@tk_mkfn)))) (z (z (@tk_mvu) (z (@tk_mvo) (@tk_new))) (z (z (@tk_box) (@tk_bsl)) (z (@tk_mk0) (@tk_mkn)))))) (z (z (z (z (@tk_apz) (z (@tk_loado) (@tk_app))) (z (@tk_appo) (z (@tk_appso) (@tk_store)))) (z (z (@tk_storeo) (z (@tk_call) (@tk_stores))) (z (@tk_calli) (z (@tk_snil) (@ex_wadd))))) (z (z (z (@ex_wsub) (z (@ex_wmul) (@ex_aeq))) (z (@ex_r2s) (z (@ex_ibs) (@ex_mkb)))) (z (z (@deg_itr) (z (@ex_zag) (@wop_apc))) (z (z (@obind) (@rowA_lst)) (z (@isLst_lst) (@rowA_hs))))))) (z (z (z (z (z (@wop_slch) (z (@wop_aph) (@wop_mmv))) (z (@wop_mra) (z (@wop_cpy) (@eff_cpy)))) (z (z (@tk_cpy) (z (@deg_omp) (@deg_mp))) (z (@isTup_mp) (z (@cellsOf_mp) (@deg_fmp))))) (z (z (z (@isTup_fmp) (z (@cellsOf_fmp) (@wop_mmk))) (z (@wop_mup) (z (@wop_mfz) (@ex_mlk)))) (z (z (@ex_idp) (z (@ex_sla) (@int_add))) (z (z (@int_sub) (@int_mul)) (z (@int_quo) (@int_rem)))))) (z (z (z (z (@int_and) (z (@int_andNot) (@int_or))) (z (@int_xor) (z (@int_eql) (@int_neq)))) (z (z (@int_lss) (z (@int_leq) (@int_gtr))) (z (z (@int_geq) (@int_shl)) (z (@int_shr) (@str_add))))) (z (z (z (@str_eql) (z (@str_neq) (@str_lss))) (z (@arith_i8) (z (@arith_i16) (@arith_i32)))) (z (z (@arith_u8) (z (@arith_u16) (@arith_u32))) (z (z (@arith_u64) (@arith_i64)) (z (@loadK_none) (@loadK_some)))))))) (z (z (z (z (z (z (@deg_bool) (z (@isTup_bool) (@cellsOf_bool))) (z (@deg_int) (z (@isTup_int) (@cellsOf_int)))) (z (z (@deg_str) (z (@isTup_str) (@cellsOf_str))) (z (@deg_nilp) (z (@isTup_nilp) (@cellsOf_nilp))))) (z (z (z (@deg_ptr) (z (@isTup_ptr) (@cellsOf_ptr))) (z (@deg_fp) (z (@isTup_fp) (@cellsOf_fp)))) (z (z (@deg_hs) (z (@isTup_hs) (@cellsOf_hs))) (z (z (@deg_hsc) (@isTup_hsc)) (z (@cellsOf_hsc) (@deg_agg)))))) (z (z (z (z (@isTup_agg) (z (@cellsOf_agg) (@deg_tup))) (z (@isTup_tup) (z (@cellsOf_tup) (@deg_fn)))) (z (z (@isTup_fn) (z (@cellsOf_fn) (@deg_fnb))) (z (@isTup_fnb) (z (@cellsOf_fnb) (@deg_nilf))))) (z (z (z (@isTup_nilf) (z (@cellsOf_nilf) (@deg_opq))) (z (@isTup_opq) (z (@cellsOf_opq) (@deg_frn)))) (z (z (@isTup_frn) (z (@cellsOf_frn) (@deg_ro))) (z (z (@deg_clip) (@deg_own)) (z (@isTup_lst) (@cellsOf_lst))))))) (z (z (z (z (z (@Option.map_some.{0, 0}) (z (@Option.map_none.{0, 0}) (@Nat.zero_mul))) (z (@Nat.add_zero) (z (@Nat.zero_add) (@Nat.mul_one)))) (z (z (@Nat.succ_ne_self) (z (@Nat.one_ne_zero) (@Nat.zero_ne_one))) (z (@List.length_cons.{0}) (z (@List.length_nil.{0}) (@List.set_cons_zero.{0}))))) (z (z (z (@List.set_cons_succ.{0}) (z (@List.getElem?_cons_zero.{0}) (@List.getElem?_cons_succ.{0}))) (z (@List.getElem?_nil.{0}) (z (@List.drop_zero.{0}) (@List.drop_succ_cons.{0})))) (z (z (@List.take_succ_cons.{0}) (z (@List.take_zero.{0}) (@List.map_cons.{0, 0}))) (z (z (@List.map_nil.{0, 0}) (@List.nil_append.{0})) (z (@List.append_nil.{0}) (@List.cons_append.{0})))))) (z (z (z (z (@Bool.not_true) (z (@Bool.not_false) (@Bool.true_eq_false))) (z (@Bool.false_eq_true) (z (@true_and) (@and_true)))) (z (z (@and_self) (z (@true_implies) (@false_implies))) (z (z (@Bool.not_eq_true') (@Bool.not_eq_false')) (z (@Bool.not_eq_eq_eq_not) (@decide_eq_true_eq))))) (z (z (z (@decide_eq_false_iff_not) (z (@Int.toNat_zero) (@not_true_eq_false))) (z (@not_false_eq_true) (z (@List.set_set.{0}) (@end_get)))) (z (z (@end_set) (z (@ite_and) (@decide_true))) (z (z (@decide_false) (@Bool.not_eq_true)) (z (@Bool.not_eq_false) (@Decidable.not_not)))))))))) (z (z (@Zm_eq) (z (@Zo_eq) (@Zq_eq))) (z (z (@Zt_eq) (z (@Zf_eq) (@eq_self.{1}))) (z (@Zi_eq) (z (@Zj_eq) (@Zu_eq)))))
end Go.Proofs.Ytpiofcjkekpboaa
namespace Go.Proofs.Ytpiofcjkekpboaa
open Go.RowKit
def F_ref03_Equal : AFn :=
 ⟨26,[.t 4],Zq [Zo 4 (.mv (.c (.bool false)))] (.keep [0,1] (.seq (Zq [Zm 6 0,Zo 7 (.lenl (.t 6)),Zm 8 1,Zo 9 (.lenl (.t 8)),Zo 10 (.bin .neq (.t 7) (.t 9))] (.keep [0,1,10] (.cond (.t 10) (Zq [Zo 4 (.mv (.c (.bool false)))]
 .ret)
 .skip))) (.keep [0,1] (.seq (Zq [Zo 5 (.mv (Zi 0))] (.keep [0,1,5] (.block 0 (.loop [0,1,5] (.seq (Zq [Zm 11 5,Zm 12 0,Zo 13 (.lenl (.t 12)),Zo 14 (.bin .lss (.t 11) (.t 13))] (.keep [0,1,5,14] (.cond (.t 14)
 .skip
 (.exit 0)))) (.keep [0,1,5] (.seq (.block 1 (.seq (.draw [0,1,5,25] [Zm 17 0,Zm 18 5,Zo 19 (.idxa 1 (.t 17) (.t 18)),Zo 20 (.load none (.t 19)),Zm 21 1,Zm 22 5,Zo 23 (.idxa 1 (.t 21) (.t 22)),Zo 24 (.load none (.t 23)),Zo 25 (.bin .neq (.t 20) (.t 24))]) (.keep [0,1,5,25] (.cond (.t 25) (Zq [Zo 4 (.mv (.c (.bool false)))]
 .ret)
 .skip)))) (.keep [0,1,5] (.ops [Zm 15 5,Zo 16 (.bin .add (.t 15) (Zi 1)),Zm 5 16]))))))))) (.keep [] (Zq [Zo 4 (.mv (.c (.bool true)))]
 .ret))))))⟩
theorem F_ref03_Equal_ok : chkFn Try.prog 30 F_ref03_Equal = true := by kernel_rfl
def F_set_May : AFn :=
 ⟨36,[.t 2],Zq [Zo 2 (.mv (.c (.bool false)))] (.keep [0] (.seq (Zq [Zm 5 0,Zo 6 (.lenl (.t 5)),Zo 7 (.bin .lss (.t 6) (Zi 1)),Zm 8 7,Zf 8 9 (.mv (.t 0)),Zf 8 10 (.lenl (.t 9)),Zf 8 11 (.bin .gtr (.t 10) (Zi 16)),Zo 12 (.pick (.t 8) (.c (.bool true)) (.t 11))] (.keep [0,12] (.cond (.t 12) (Zq [Zo 2 (.mv (.c (.bool false)))]
 .ret)
 .skip))) (.keep [0] (.seq (Zq [Zm 13 0,Zo 14 (.lenl (.t 13)),Zo 15 (.mv (Zi 0))] (.keep [0,13,14,15] (.block 0 (.loop [0,13,14,15] (Zq [Zo 16 (.bin .lss (.t 15) (.t 14))] (.keep [0,13,14,15,16] (.seq (.cond (.t 16)
 .skip
 (.exit 0)) (.keep [0,13,14,15] (.seq (.block 1 (Zq [Zm 17 15,Zo 18 (.idxa 1 (.t 13) (.t 15)),Zo 19 (.load none (.t 18)),Zm 3 17,Zm 4 19] (.keep [0,3,4,13,14,15] (.seq (Zq [Zm 20 4,Zo 21 (.call (.f 66) [.t 20]),Zo 22 (.not (.t 21))] (.keep [0,3,4,13,14,15,22] (.cond (.t 22) (Zq [Zo 2 (.mv (.c (.bool false)))]
 .ret)
 .skip))) (.keep [0,3,4,13,14,15] (Zq [Zm 23 3,Zo 24 (.bin .gtr (.t 23) (Zi 0)),Zm 25 24,Zt 25 26 (.mv (.t 0)),Zt 25 27 (.mv (.t 3)),Zt 25 28 (.bin .sub (.t 27) (Zi 1)),Zt 25 29 (.idxa 1 (.t 26) (.t 28)),Zt 25 30 (.load none (.t 29)),Zt 25 31 (.mv (.t 4)),Zt 25 32 (.call (.f 75) [.t 30,.t 31]),Zt 25 33 (.not (.t 32)),
 Zo 34 (.pick (.t 25) (.t 33) (.c (.bool false)))] (.keep [0,13,14,15,34] (.cond (.t 34) (Zq [Zo 2 (.mv (.c (.bool false)))]
 .ret)
 .skip)))))))) (.keep [0,13,14,15] (.ops [Zo 35 (.bin .add (.t 15) (Zi 1)),Zm 15 35]))))))))))) (.keep [] (Zq [Zo 2 (.mv (.c (.bool true)))]
 .ret))))))⟩
theorem F_set_May_ok : chkFn Try.prog 31 F_set_May = true := by kernel_rfl
def F_ref03_May : AFn :=
 ⟨41,[.t 2],Zq [Zo 2 (.mv (.c (.bool false)))] (.keep [0] (.seq (Zq [Zm 4 0,Zo 5 (.lenl (.t 4)),Zo 6 (.bin .lss (.t 5) (Zi 1)),Zm 7 6,Zf 7 8 (.mv (.t 0)),Zf 7 9 (.lenl (.t 8)),Zf 7 10 (.bin .gtr (.t 9) (Zi 16)),Zo 11 (.pick (.t 7) (.c (.bool true)) (.t 10))] (.keep [0,11] (.cond (.t 11) (Zq [Zo 2 (.mv (.c (.bool false)))]
 .ret)
 .skip))) (.keep [0] (.seq (Zq [Zo 3 (.mv (Zi 0))] (.keep [0,3] (.block 0 (.loop [0,3] (.seq (Zq [Zm 12 3,Zm 13 0,Zo 14 (.lenl (.t 13)),Zo 15 (.bin .lss (.t 12) (.t 14))] (.keep [0,3,15] (.cond (.t 15)
 .skip
 (.exit 0)))) (.keep [0,3] (.seq (.block 1 (.seq (.draw [0,3,40] [Zm 18 0,Zm 19 3,Zo 20 (.idxa 1 (.t 18) (.t 19)),Zo 21 (.load none (.t 20)),Zo 22 (.call (.f 72) [.t 21]),Zo 23 (.not (.t 22)),Zm 24 23,Zf 24 25 (.mv (.t 3)),Zf 24 26 (.bin .gtr (.t 25) (Zi 0)),Zf 24 27 (.mv (.t 26)),Zt 27 28 (.mv (.t 0)),
 Zt 27 29 (.mv (.t 3)),Zt 27 30 (.bin .sub (.t 29) (Zi 1)),Zt 27 31 (.idxa 1 (.t 28) (.t 30)),Zt 27 32 (.load none (.t 31)),Zt 27 33 (.mv (.t 0)),Zt 27 34 (.mv (.t 3)),Zt 27 35 (.idxa 1 (.t 33) (.t 34)),Zt 27 36 (.load none (.t 35)),Zt 27 37 (.call (.f 76) [.t 32,.t 36]),Zt 27 38 (.not (.t 37)),Zf 24 39 (.pick (.t 27) (.t 38) (.c (.bool false))),
 Zo 40 (.pick (.t 24) (.c (.bool true)) (.t 39))]) (.keep [0,3,40] (.cond (.t 40) (Zq [Zo 2 (.mv (.c (.bool false)))]
 .ret)
 .skip)))) (.keep [0,3] (.ops [Zm 16 3,Zo 17 (.bin .add (.t 16) (Zi 1)),Zm 3 17]))))))))) (.keep [] (Zq [Zo 2 (.mv (.c (.bool true)))]
 .ret))))))⟩
theorem F_ref03_May_ok : chkFn Try.prog 32 F_ref03_May = true := by kernel_rfl
def F_ref02_Of : AFn :=
 ⟨29,[.t 2],Zq [Zo 2 (.mv (.c (.str ⟨#[]⟩)))] (.keep [0] (Zq [Zo 5 (.bsl 5 1 0 [] []),Zo 3 (.mvo 5)] (.keep [0,3] (.seq (Zq [Zo 4 (.mv (Zi 0))] (.keep [0,3,4] (.block 0 (.loop [0,3,4] (.seq (Zq [Zm 6 4,Zm 7 0,Zo 8 (.lenl (.t 7)),Zo 9 (.bin .lss (.t 6) (.t 8))] (.keep [0,3,4,9] (.cond (.t 9)
 .skip
 (.exit 0)))) (.keep [0,3,4] (.seq (.block 1 (.draw [0,3,4] [Zo 12 (.mvo 3),Zm 13 0,Zm 14 4,Zo 15 (.idxa 1 (.t 13) (.t 14)),Zo 16 (.load none (.t 15)),Zo 17 (.bin .quo (.t 16) (.c (.int .u16 256))),Zo 18 (.conv .u8 (.t 17)),Zm 19 0,Zm 20 4,Zo 21 (.idxa 1 (.t 19) (.t 20)),Zo 22 (.load none (.t 21)),Zo 23 (.bin .rem (.t 22) (.c (.int .u16 256))),
 Zo 24 (.conv .u8 (.t 23)),Zo 25 (.bsl 5 1 2 [(.int .u8 0),(.int .u8 0)] [(0,1,(.t 18)),(1,1,(.t 24))]),Zo 26 (.appo 5 1 1 12 (.t 25)),Zo 3 (.mvo 26)])) (.keep [0,3,4] (.ops [Zm 10 4,Zo 11 (.bin .add (.t 10) (Zi 1)),Zm 4 11]))))))))) (.keep [3] (Zq [Zm 27 3,Zo 28 (.b2s (.t 27)),Zm 2 28]
 .ret))))))⟩
theorem F_ref02_Of_ok : chkFn Try.prog 47 F_ref02_Of = true := by kernel_rfl
def F_word_May : AFn :=
 ⟨26,[.t 2],Zq [Zo 2 (.mv (.c (.bool false)))] (.keep [0] (.seq (Zq [Zm 4 0,Zo 5 (.call (.f 99) [.t 4]),Zm 6 5,Zf 6 7 (.mv (.t 0)),Zf 6 8 (.call (.f 80) [.t 7]),Zf 6 9 (.bin .lss (.t 8) (Zi 1)),Zo 10 (.pick (.t 6) (.c (.bool true)) (.t 9)),Zm 11 10,Zf 11 12 (.mv (.t 0)),Zf 11 13 (.call (.f 80) [.t 12]),
 Zf 11 14 (.bin .gtr (.t 13) (Zi 8)),Zo 15 (.pick (.t 11) (.c (.bool true)) (.t 14))] (.keep [0,15] (.cond (.t 15) (Zq [Zo 2 (.mv (.c (.bool false)))]
 .ret)
 .skip))) (.keep [0] (.seq (Zq [Zm 16 0,Zo 17 (.call (.f 80) [.t 16]),Zo 18 (.mv (Zi 0))] (.keep [0,17,18] (.block 0 (.loop [0,17,18] (Zq [Zo 19 (.bin .lss (.t 18) (.t 17))] (.keep [0,17,18,19] (.seq (.cond (.t 19)
 .skip
 (.exit 0)) (.keep [0,17,18] (.seq (.block 1 (Zq [Zm 20 18,Zm 3 20] (.keep [0,3,17,18] (Zq [Zm 21 0,Zm 22 3,Zo 23 (.call (.f 100) [.t 21,.t 22]),Zo 24 (.bin .eql (.t 23) (.c (.int .u16 0)))] (.keep [0,17,18,24] (.cond (.t 24) (Zq [Zo 2 (.mv (.c (.bool false)))]
 .ret)
 .skip)))))) (.keep [0,17,18] (.ops [Zo 25 (.bin .add (.t 18) (Zi 1)),Zm 18 25]))))))))))) (.keep [] (Zq [Zo 2 (.mv (.c (.bool true)))]
 .ret))))))⟩
theorem F_word_May_ok : chkFn Try.prog 66 F_word_May = true := by kernel_rfl
def F_ref02_May : AFn :=
 ⟨32,[.t 2],Zq [Zo 2 (.mv (.c (.bool false)))] (.keep [0] (Zq [Zm 5 0,Zo 6 (.call (.f 103) [.t 5]),Zm 3 6] (.keep [0,3] (.seq (Zq [Zo 4 (.mv (Zi 0))] (.keep [0,3,4] (.block 0 (.loop [0,3,4] (.seq (Zq [Zm 7 4,Zm 8 3,Zo 9 (.lenl (.t 8)),Zo 10 (.bin .lss (.t 7) (.t 9))] (.keep [0,3,4,10] (.cond (.t 10)
 .skip
 (.exit 0)))) (.keep [0,3,4] (.seq (.block 1 (Zq [Zm 13 3,Zm 14 4,Zo 15 (.idxa 1 (.t 13) (.t 14)),Zo 16 (.load none (.t 15)),Zo 17 (.bin .eql (.t 16) (.c (.int .u16 0)))] (.keep [0,3,4,17] (.cond (.t 17) (Zq [Zo 2 (.mv (.c (.bool false)))]
 .ret)
 .skip)))) (.keep [0,3,4] (.ops [Zm 11 4,Zo 12 (.bin .add (.t 11) (Zi 1)),Zm 4 12]))))))))) (.keep [0,3] (Zq [Zm 18 0,Zo 19 (.lens (.t 18)),Zo 20 (.bin .rem (.t 19) (Zi 2)),Zo 21 (.bin .eql (.t 20) (Zi 0)),Zm 22 21,Zt 22 23 (.mv (.t 3)),Zt 22 24 (.lenl (.t 23)),Zt 22 25 (.bin .geq (.t 24) (Zi 1)),Zo 26 (.pick (.t 22) (.t 25) (.c (.bool false))),
 Zm 27 26,Zt 27 28 (.mv (.t 3)),Zt 27 29 (.lenl (.t 28)),Zt 27 30 (.bin .leq (.t 29) (Zi 8)),Zo 31 (.pick (.t 27) (.t 30) (.c (.bool false))),Zm 2 31]
 .ret))))))⟩
theorem F_ref02_May_ok : chkFn Try.prog 72 F_ref02_May = true := by kernel_rfl
def F_word_Less : AFn :=
 ⟨18,[.t 4],Zq [Zo 4 (.mv (.c (.bool false)))] (.keep [0,1] (.seq (Zq [Zm 5 0,Zo 6 (.lens (.t 5)),Zm 7 1,Zo 8 (.lens (.t 7)),Zo 9 (.bin .neq (.t 6) (.t 8))] (.keep [0,1,9] (.cond (.t 9) (Zq [Zm 10 0,Zo 11 (.lens (.t 10)),Zm 12 1,Zo 13 (.lens (.t 12)),Zo 14 (.bin .lss (.t 11) (.t 13)),Zm 4 14]
 .ret)
 .skip))) (.keep [0,1] (Zq [Zm 15 0,Zm 16 1,Zo 17 (.bin .lss (.t 15) (.t 16)),Zm 4 17]
 .ret))))⟩
theorem F_word_Less_ok : chkFn Try.prog 75 F_word_Less = true := by kernel_rfl
def F_ref02_Less : AFn :=
 ⟨36,[.t 4],Zq [Zo 4 (.mv (.c (.bool false)))] (.keep [0,1] (.seq (Zq [Zm 6 0,Zo 7 (.lens (.t 6)),Zm 8 1,Zo 9 (.lens (.t 8)),Zo 10 (.bin .neq (.t 7) (.t 9))] (.keep [0,1,10] (.cond (.t 10) (Zq [Zm 11 0,Zo 12 (.lens (.t 11)),Zm 13 1,Zo 14 (.lens (.t 13)),Zo 15 (.bin .lss (.t 12) (.t 14)),Zm 4 15]
 .ret)
 .skip))) (.keep [0,1] (.seq (Zq [Zo 5 (.mv (Zi 0))] (.keep [0,1,5] (.block 0 (.loop [0,1,5] (.seq (Zq [Zm 16 5,Zm 17 0,Zo 18 (.lens (.t 17)),Zo 19 (.bin .lss (.t 16) (.t 18))] (.keep [0,1,5,19] (.cond (.t 19)
 .skip
 (.exit 0)))) (.keep [0,1,5] (.seq (.block 1 (.seq (.draw [0,1,5,28] [Zm 22 0,Zm 23 5,Zo 24 (.idxs (.t 22) (.t 23)),Zm 25 1,Zm 26 5,Zo 27 (.idxs (.t 25) (.t 26)),Zo 28 (.bin .neq (.t 24) (.t 27))]) (.keep [0,1,5,28] (.cond (.t 28) (.seq (.draw [4] [Zm 29 0,Zm 30 5,Zo 31 (.idxs (.t 29) (.t 30)),Zm 32 1,Zm 33 5,Zo 34 (.idxs (.t 32) (.t 33)),Zo 35 (.bin .lss (.t 31) (.t 34)),Zm 4 35])
 .ret)
 .skip)))) (.keep [0,1,5] (.ops [Zm 20 5,Zo 21 (.bin .add (.t 20) (Zi 1)),Zm 5 21]))))))))) (.keep [] (Zq [Zo 4 (.mv (.c (.bool false)))]
 .ret))))))⟩
theorem F_ref02_Less_ok : chkFn Try.prog 76 F_ref02_Less = true := by kernel_rfl
def F_word_Len : AFn :=
 ⟨6,[.t 2],Zq [Zo 2 (.mv (Zi 0))] (.keep [0] (Zq [Zm 3 0,Zo 4 (.lens (.t 3)),Zo 5 (.bin .quo (.t 4) (Zi 2)),Zm 2 5]
 .ret))⟩
theorem F_word_Len_ok : chkFn Try.prog 80 F_word_Len = true := by kernel_rfl
def F_pack_Out_Num : AFn :=
 ⟨46,[],.seq (Zq [Zm 4 1,Zo 5 (.bin .lss (.t 4) (Zi 0)),Zm 6 5,Zf 6 7 (.mv (.t 1)),Zf 6 8 (.bin .gtr (.t 7) (Zi 4611686018427387904)),Zo 9 (.pick (.t 6) (.c (.bool true)) (.t 8))] (.keep [0,1,9] (.cond (.t 9) (.ops [Zm 10 0,Zo 11 (.nilck (.t 10)),Zo 12 (.fld 0 (.t 11)),Zo 13 (.call (.f 105) [.t 12])])
 .skip))) (.keep [0,1] (.seq (Zq [Zm 14 0,Zo 15 (.nilck (.t 14)),Zo 16 (.fld 0 (.t 15)),Zo 17 (.call (.f 106) [.t 16]),Zo 18 (.not (.t 17))] (.keep [0,1,18] (.cond (.t 18)
 .ret
 .skip))) (.keep [0,1] (.seq (.block 0 (.loop [0,1] (.seq (Zq [Zm 19 1,Zo 20 (.bin .geq (.t 19) (Zi 128))] (.keep [0,1,20] (.cond (.t 20)
 .skip
 (.exit 0)))) (.keep [0,1] (.block 1 (Zq [Zm 21 0,Zm 22 0,Zo 23 (.nilck (.t 22)),Zo 24 (.fld 1 (.t 23)),Zo 25 (.loado (.t 24)),Zm 26 1,Zo 27 (.conv .u8 (.t 26)),Zo 28 (.bin .or (.t 27) (Zu 128)),Zo 29 (.bsl 5 1 1 [(.int .u8 0)] [(0,1,(.t 28))]),Zo 30 (.appo 5 1 1 25 (.t 29)),Zo 31 (.nilck (.t 21)),Zo 32 (.fld 1 (.t 31)),⟨none,none,.storeo (.t 32) 30,none⟩] (.keep [0,1] (.ops [Zm 33 1,
 Zo 34 (.bin .shr (.t 33) (.c (.int .u64 7))),Zm 1 34])))))))) (.keep [0,1] (.ops [Zm 35 0,Zm 36 0,Zo 37 (.nilck (.t 36)),Zo 38 (.fld 1 (.t 37)),Zo 39 (.loado (.t 38)),Zm 40 1,Zo 41 (.conv .u8 (.t 40)),Zo 42 (.bsl 5 1 1 [(.int .u8 0)] [(0,1,(.t 41))]),Zo 43 (.appo 5 1 1 39 (.t 42)),Zo 44 (.nilck (.t 35)),Zo 45 (.fld 1 (.t 44)),⟨none,none,.storeo (.t 45) 43,none⟩]))))))⟩
theorem F_pack_Out_Num_ok : chkFn Try.prog 84 F_pack_Out_Num = true := by kernel_rfl
def F_pack_Out_Set : AFn :=
 ⟨40,[],.seq (Zq [Zm 6 1,Zo 7 (.call (.f 31) [.t 6]),Zo 8 (.not (.t 7))] (.keep [0,1,8] (.cond (.t 8) (.ops [Zm 9 0,Zo 10 (.nilck (.t 9)),Zo 11 (.fld 0 (.t 10)),Zo 12 (.call (.f 105) [.t 11])])
 .skip))) (.keep [0,1] (.seq (Zq [Zm 13 0,Zo 14 (.nilck (.t 13)),Zo 15 (.fld 0 (.t 14)),Zo 16 (.call (.f 106) [.t 15]),Zo 17 (.not (.t 16))] (.keep [0,1,17] (.cond (.t 17)
 .ret
 .skip))) (.keep [0,1] (Zq [Zm 18 0,Zm 19 0,Zo 20 (.nilck (.t 19)),Zo 21 (.fld 1 (.t 20)),Zo 22 (.loado (.t 21)),Zm 23 1,Zo 24 (.lenl (.t 23)),Zo 25 (.conv .u8 (.t 24)),Zo 26 (.bsl 5 1 1 [(.int .u8 0)] [(0,1,(.t 25))]),Zo 27 (.appo 5 1 1 22 (.t 26)),Zo 28 (.nilck (.t 18)),Zo 29 (.fld 1 (.t 28)),⟨none,none,.storeo (.t 29) 27,none⟩] (.keep [0,1] (Zq [Zm 30 1,
 Zo 31 (.lenl (.t 30)),Zo 32 (.mv (Zi 0))] (.keep [0,30,31,32] (.block 0 (.loop [0,30,31,32] (Zq [Zo 33 (.bin .lss (.t 32) (.t 31))] (.keep [0,30,31,32,33] (.seq (.cond (.t 33)
 .skip
 (.exit 0)) (.keep [0,30,31,32] (.seq (.block 1 (Zq [Zo 34 (.idxa 1 (.t 30) (.t 32)),Zo 35 (.load none (.t 34)),Zm 5 35] (.keep [0,5,30,31,32] (.ops [Zm 36 0,Zm 37 5,Zo 38 (.call (.f 107) [.t 36,.t 37])])))) (.keep [0,30,31,32] (.ops [Zo 39 (.bin .add (.t 32) (Zi 1)),Zm 32 39]))))))))))))))))⟩
theorem F_pack_Out_Set_ok : chkFn Try.prog 85 F_pack_Out_Set = true := by kernel_rfl
def F_pack_Out_Done : AFn :=
 ⟨19,[.t 2,.t 3],Zq [Zo 2 (.mv (.c (.str ⟨#[]⟩))),Zo 3 (.mv (Zi 0))] (.keep [0] (.seq (Zq [Zm 4 0,Zo 5 (.nilck (.t 4)),Zo 6 (.fld 0 (.t 5)),Zo 7 (.call (.f 106) [.t 6]),Zo 8 (.not (.t 7))] (.keep [0,8] (.cond (.t 8) (.seq (.draw [2,3] [Zm 9 0,Zo 10 (.nilck (.t 9)),Zo 11 (.fld 0 (.t 10)),Zo 12 (.fld 0 (.t 11)),Zo 13 (.load none (.t 12)),Zo 2 (.mv (.c (.str ⟨#[]⟩))),Zm 3 13])
 .ret)
 .skip))) (.keep [0] (Zq [Zm 14 0,Zo 15 (.nilck (.t 14)),Zo 16 (.fld 1 (.t 15)),Zo 17 (.load none (.t 16)),Zo 18 (.b2s (.t 17)),Zm 2 18,Zo 3 (.mv (Zi 0))]
 .ret))))⟩
theorem F_pack_Out_Done_ok : chkFn Try.prog 86 F_pack_Out_Done = true := by kernel_rfl
def F_pack_From : AFn :=
 ⟨6,[.t 2],Zq [Zo 2 (.mv (.c .nilp))] (.keep [0] (Zq [Zm 3 0,Zo 4 (.build [(.int .i64 0),(.str ⟨#[]⟩),(.int .i64 0)] [(1,1,(.t 3))]),Zo 5 (.box (.t 4) []),Zm 2 5]
 .ret))⟩
theorem F_pack_From_ok : chkFn Try.prog 87 F_pack_From = true := by kernel_rfl
def F_pack_In_Num : AFn :=
 ⟨45,[.t 4],Zq [Zo 4 (.mv (Zi 0))] (.keep [0,1] (.seq (Zq [Zm 7 0,Zo 8 (.nilck (.t 7)),Zo 9 (.fld 0 (.t 8)),Zo 10 (.call (.f 106) [.t 9]),Zo 11 (.not (.t 10))] (.keep [0,1,11] (.cond (.t 11) (Zq [Zo 4 (.mv (Zi 0))]
 .ret)
 .skip))) (.keep [0,1] (.seq (.draw [0,1,5,6] [Zm 13 0,Zo 14 (.nilck (.t 13)),Zo 15 (.fld 1 (.t 14)),Zo 16 (.load none (.t 15)),Zm 17 0,Zo 18 (.nilck (.t 17)),Zo 19 (.fld 2 (.t 18)),Zo 20 (.load none (.t 19)),Zo 21 (.slcs (.t 16) (some (.t 20)) none),Zo 22 (.call (.f 108) [.t 21]),Zm 12 22,Zo 23 (.ext 0 (.t 12)),
 Zo 24 (.ext 1 (.t 12)),Zm 5 23,Zm 6 24]) (.keep [0,1,5,6] (.seq (Zq [Zm 25 6,Zo 26 (.bin .eql (.t 25) (Zi 0)),Zm 27 26,Zf 27 28 (.mv (.t 5)),Zf 27 29 (.mv (.t 1)),Zf 27 30 (.bin .gtr (.t 28) (.t 29)),Zo 31 (.pick (.t 27) (.c (.bool true)) (.t 30))] (.keep [0,5,6,31] (.cond (.t 31) (Zq [Zm 32 0,Zo 33 (.nilck (.t 32)),
 Zo 34 (.fld 0 (.t 33)),Zo 35 (.call (.f 105) [.t 34])] (.keep [] (Zq [Zo 4 (.mv (Zi 0))]
 .ret)))
 .skip))) (.keep [0,5,6] (Zq [Zm 36 0,Zo 37 (.nilck (.t 36)),Zo 38 (.fld 2 (.t 37)),Zo 39 (.load none (.t 38)),Zm 40 6,Zo 41 (.bin .add (.t 39) (.t 40)),Zo 42 (.nilck (.t 36)),Zo 43 (.fld 2 (.t 42)),⟨none,none,.store 1 (.t 43) (.t 41),none⟩] (.keep [5] (Zq [Zm 44 5,Zm 4 44]
 .ret))))))))))⟩
theorem F_pack_In_Num_ok : chkFn Try.prog 88 F_pack_In_Num = true := by kernel_rfl
def F_pack_In_Set : AFn :=
 ⟨33,[.t 2],Zq [Zo 2 (.mv (.c (.lst .clip 0 [])))] (.keep [0] (Zq [Zm 5 0,Zo 6 (.call (.f 109) [.t 5,(Zi 16)]),Zm 3 6] (.keep [0,3] (Zq [Zm 7 3,Zo 8 (.mk0 72 1 16 (.t 7)),Zo 4 (.mvo 8)] (.keep [0,3,4] (.seq (Zq [Zm 9 3,Zo 10 (.mv (Zi 0))] (.keep [0,4,9,10] (.block 0 (.loop [0,4,9,10] (Zq [Zo 11 (.bin .lss (.t 10) (.t 9))] (.keep [0,4,9,10,11] (.seq (.cond (.t 11)
 .skip
 (.exit 0)) (.keep [0,4,9,10] (.seq (.block 1 (.ops [Zo 12 (.mvo 4),Zm 13 0,Zo 14 (.call (.f 110) [.t 13]),Zo 15 (.bsl 72 1 1 [(.str ⟨#[]⟩)] [(0,1,(.t 14))]),Zo 16 (.appo 72 1 16 12 (.t 15)),Zo 4 (.mvo 16)])) (.keep [0,4,9,10] (.ops [Zo 17 (.bin .add (.t 10) (Zi 1)),Zm 10 17]))))))))))) (.keep [0,4] (.seq (Zq [Zm 18 0,
 Zo 19 (.nilck (.t 18)),Zo 20 (.fld 0 (.t 19)),Zo 21 (.call (.f 106) [.t 20]),Zo 22 (.not (.t 21)),Zm 23 22,Zf 23 24 (.mv (.t 4)),Zf 23 25 (.call (.f 31) [.t 24]),Zf 23 26 (.not (.t 25)),Zo 27 (.pick (.t 23) (.c (.bool true)) (.t 26))] (.keep [0,4,27] (.cond (.t 27) (Zq [Zm 28 0,Zo 29 (.nilck (.t 28)),
 Zo 30 (.fld 0 (.t 29)),Zo 31 (.call (.f 105) [.t 30])] (.keep [] (Zq [Zo 2 (.mv (.c (.lst .clip 0 [])))]
 .ret)))
 .skip))) (.keep [4] (Zq [Zm 32 4,Zm 2 32]
 .ret))))))))))⟩
theorem F_pack_In_Set_ok : chkFn Try.prog 89 F_pack_In_Set = true := by kernel_rfl
def F_pack_In_Done : AFn :=
 ⟨15,[.t 2],Zq [Zo 2 (.mv (Zi 0))] (.keep [0] (.seq (Zq [Zm 3 0,Zo 4 (.call (.f 111) [.t 3]),Zo 5 (.bin .gtr (.t 4) (Zi 0))] (.keep [0,5] (.cond (.t 5) (.ops [Zm 6 0,Zo 7 (.nilck (.t 6)),Zo 8 (.fld 0 (.t 7)),Zo 9 (.call (.f 105) [.t 8])])
 .skip))) (.keep [0] (Zq [Zm 10 0,Zo 11 (.nilck (.t 10)),Zo 12 (.fld 0 (.t 11)),Zo 13 (.fld 0 (.t 12)),Zo 14 (.load none (.t 13)),Zm 2 14]
 .ret))))⟩
theorem F_pack_In_Done_ok : chkFn Try.prog 90 F_pack_In_Done = true := by kernel_rfl
def F_word_odd : AFn :=
 ⟨7,[.t 2],Zq [Zo 2 (.mv (.c (.bool false)))] (.keep [0] (Zq [Zm 3 0,Zo 4 (.lens (.t 3)),Zo 5 (.bin .rem (.t 4) (Zi 2)),Zo 6 (.bin .neq (.t 5) (Zi 0)),Zm 2 6]
 .ret))⟩
theorem F_word_odd_ok : chkFn Try.prog 99 F_word_odd = true := by kernel_rfl
def F_word_At : AFn :=
 ⟨26,[.t 4],Zq [Zo 4 (.mv (.c (.int .u16 0)))] (.keep [0,1] (.seq (Zq [Zm 5 1,Zo 6 (.bin .lss (.t 5) (Zi 0)),Zm 7 6,Zf 7 8 (.mv (.t 1)),Zf 7 9 (.mv (.t 0)),Zf 7 10 (.call (.f 80) [.t 9]),Zf 7 11 (.bin .geq (.t 8) (.t 10)),Zo 12 (.pick (.t 7) (.c (.bool true)) (.t 11))] (.keep [0,1,12] (.cond (.t 12) (Zq [Zo 4 (.mv (.c (.int .u16 0)))]
 .ret)
 .skip))) (.keep [0,1] (.seq (.draw [4] [Zm 13 0,Zm 14 1,Zo 15 (.bin .mul (Zi 2) (.t 14)),Zo 16 (.idxs (.t 13) (.t 15)),Zo 17 (.conv .u16 (.t 16)),Zo 18 (.bin .shl (.t 17) (.c (.int .u64 8))),Zm 19 0,Zm 20 1,Zo 21 (.bin .mul (Zi 2) (.t 20)),Zo 22 (.bin .add (.t 21) (Zi 1)),Zo 23 (.idxs (.t 19) (.t 22)),Zo 24 (.conv .u16 (.t 23)),Zo 25 (.bin .or (.t 18) (.t 24)),Zm 4 25])
 .ret))))⟩
theorem F_word_At_ok : chkFn Try.prog 100 F_word_At = true := by kernel_rfl
def F_ref02_Atoms : AFn :=
 ⟨28,[.t 2],Zq [Zo 2 (.mv (.c (.lst .clip 0 [])))] (.keep [0] (Zq [Zo 5 (.bsl 32 1 0 [] []),Zo 3 (.mvo 5)] (.keep [0,3] (.seq (Zq [Zo 4 (.mv (Zi 0))] (.keep [0,3,4] (.block 0 (.loop [0,3,4] (.seq (Zq [Zm 6 4,Zo 7 (.bin .add (.t 6) (Zi 1)),Zm 8 0,Zo 9 (.lens (.t 8)),Zo 10 (.bin .lss (.t 7) (.t 9))] (.keep [0,3,4,10] (.cond (.t 10)
 .skip
 (.exit 0)))) (.keep [0,3,4] (.seq (.block 1 (.draw [0,3,4] [Zo 13 (.mvo 3),Zm 14 0,Zm 15 4,Zo 16 (.idxs (.t 14) (.t 15)),Zo 17 (.conv .u16 (.t 16)),Zo 18 (.bin .mul (.t 17) (.c (.int .u16 256))),Zm 19 0,Zm 20 4,Zo 21 (.bin .add (.t 20) (Zi 1)),Zo 22 (.idxs (.t 19) (.t 21)),Zo 23 (.conv .u16 (.t 22)),
 Zo 24 (.bin .add (.t 18) (.t 23)),Zo 25 (.bsl 32 1 1 [(.int .u16 0)] [(0,1,(.t 24))]),Zo 26 (.appo 32 1 2 13 (.t 25)),Zo 3 (.mvo 26)])) (.keep [0,3,4] (.ops [Zm 11 4,Zo 12 (.bin .add (.t 11) (Zi 2)),Zm 4 12]))))))))) (.keep [3] (Zq [Zm 27 3,Zm 2 27]
 .ret))))))⟩
theorem F_ref02_Atoms_ok : chkFn Try.prog 103 F_ref02_Atoms = true := by kernel_rfl
def F_pack_met_fail : AFn :=
 ⟨7,[],Zq [Zm 2 0,Zo 3 (.call (.f 106) [.t 2])] (.keep [0,3] (.cond (.t 3) (.ops [Zm 4 0,Zo 5 (.nilck (.t 4)),Zo 6 (.fld 0 (.t 5)),⟨none,none,.store 1 (.t 6) (Zi 2),none⟩])
 .skip))⟩
theorem F_pack_met_fail_ok : chkFn Try.prog 105 F_pack_met_fail = true := by kernel_rfl
def F_pack_met_well : AFn :=
 ⟨8,[.t 2],Zq [Zo 2 (.mv (.c (.bool false)))] (.keep [0] (Zq [Zm 3 0,Zo 4 (.nilck (.t 3)),Zo 5 (.fld 0 (.t 4)),Zo 6 (.load none (.t 5)),Zo 7 (.bin .eql (.t 6) (Zi 0)),Zm 2 7]
 .ret))⟩
theorem F_pack_met_well_ok : chkFn Try.prog 106 F_pack_met_well = true := by kernel_rfl
def F_pack_Out_Word : AFn :=
 ⟨36,[],.seq (Zq [Zm 4 1,Zo 5 (.call (.f 66) [.t 4]),Zo 6 (.not (.t 5))] (.keep [0,1,6] (.cond (.t 6) (.ops [Zm 7 0,Zo 8 (.nilck (.t 7)),Zo 9 (.fld 0 (.t 8)),Zo 10 (.call (.f 105) [.t 9])])
 .skip))) (.keep [0,1] (Zq [Zm 11 0,Zo 12 (.nilck (.t 11)),Zo 13 (.fld 0 (.t 12)),Zo 14 (.call (.f 106) [.t 13])] (.keep [0,1,14] (.cond (.t 14) (.seq (.draw [0,1] [Zm 15 0,Zm 16 0,Zo 17 (.nilck (.t 16)),Zo 18 (.fld 1 (.t 17)),Zo 19 (.loado (.t 18)),Zm 20 1,Zo 21 (.call (.f 80) [.t 20]),Zo 22 (.conv .u8 (.t 21)),
 Zo 23 (.bsl 5 1 1 [(.int .u8 0)] [(0,1,(.t 22))]),Zo 24 (.appo 5 1 1 19 (.t 23)),Zo 25 (.nilck (.t 15)),Zo 26 (.fld 1 (.t 25)),⟨none,none,.storeo (.t 26) 24,none⟩]) (.keep [0,1] (.ops [Zm 27 0,Zm 28 0,Zo 29 (.nilck (.t 28)),Zo 30 (.fld 1 (.t 29)),Zo 31 (.loado (.t 30)),Zm 32 1,Zo 33 (.appso 5 31 (.t 32)),Zo 34 (.nilck (.t 27)),Zo 35 (.fld 1 (.t 34)),⟨none,none,.storeo (.t 35) 33,none⟩])))
 .skip))))⟩
theorem F_pack_Out_Word_ok : chkFn Try.prog 107 F_pack_Out_Word = true := by kernel_rfl
def F_pack_number : AFn :=
 ⟨44,[.t 2,.t 3],Zq [Zo 2 (.mv (Zi 0)),Zo 3 (.mv (Zi 0))] (.keep [0] (Zq [Zo 4 (.mv (.c (.int .u64 0)))] (.keep [0,4] (.seq (Zq [Zo 5 (.mv (Zi 0))] (.keep [0,4,5] (.block 0 (.loop [0,4,5] (.seq (Zq [Zm 7 5,Zm 8 0,Zo 9 (.lens (.t 8)),Zo 10 (.bin .lss (.t 7) (.t 9)),Zm 11 10,Zt 11 12 (.mv (.t 5)),Zt 11 13 (.bin .lss (.t 12) (Zi 9)),
 Zo 14 (.pick (.t 11) (.t 13) (.c (.bool false)))] (.keep [0,4,5,14] (.cond (.t 14)
 .skip
 (.exit 0)))) (.keep [0,4,5] (.seq (.block 1 (Zq [Zm 17 0,Zm 18 5,Zo 19 (.idxs (.t 17) (.t 18)),Zm 6 19] (.keep [0,4,5,6] (Zq [Zm 20 4,Zm 21 6,Zo 22 (.bin .and (.t 21) (Zu 127)),Zo 23 (.conv .u64 (.t 22)),Zm 24 5,Zo 25 (.bin .mul (Zi 7) (.t 24)),Zo 26 (.bin .shl (.t 23) (.t 25)),Zo 27 (.bin .or (.t 20) (.t 26)),
 Zm 4 27] (.keep [0,4,5,6] (.seq (Zq [Zm 28 6,Zo 29 (.bin .geq (.t 28) (Zu 128))] (.keep [0,4,5,6,29] (.cond (.t 29) (.exit 1)
 .skip))) (.keep [4,5,6] (.seq (Zq [Zm 30 5,Zo 31 (.bin .gtr (.t 30) (Zi 0)),Zm 32 31,Zt 32 33 (.mv (.t 6)),Zt 32 34 (.bin .eql (.t 33) (Zu 0)),Zo 35 (.pick (.t 32) (.t 34) (.c (.bool false))),Zm 36 35,Zf 36 37 (.mv (.t 4)),Zf 36 38 (.bin .gtr (.t 37) (.c (.int .u64 4611686018427387904))),Zo 39 (.pick (.t 36) (.c (.bool true)) (.t 38))] (.keep [4,5,39] (.cond (.t 39) (Zq [Zo 2 (.mv (Zi 0)),
 Zo 3 (.mv (Zi 0))]
 .ret)
 .skip))) (.keep [4,5] (Zq [Zm 40 4,Zo 41 (.conv .i64 (.t 40)),Zm 42 5,Zo 43 (.bin .add (.t 42) (Zi 1)),Zm 2 41,Zm 3 43]
 .ret)))))))))) (.keep [0,4,5] (.ops [Zm 15 5,Zo 16 (.bin .add (.t 15) (Zi 1)),Zm 5 16]))))))))) (.keep [] (Zq [Zo 2 (.mv (Zi 0)),Zo 3 (.mv (Zi 0))]
 .ret))))))⟩
theorem F_pack_number_ok : chkFn Try.prog 108 F_pack_number = true := by kernel_rfl
def F_pack_In_count : AFn :=
 ⟨29,[.t 4],Zq [Zo 4 (.mv (Zi 0))] (.keep [0,1] (Zq [Zm 7 0,Zo 8 (.call (.f 127) [.t 7,(Zi 1)]),Zm 5 8] (.keep [0,1,5] (.seq (Zq [Zm 9 0,Zo 10 (.nilck (.t 9)),Zo 11 (.fld 0 (.t 10)),Zo 12 (.call (.f 106) [.t 11]),Zo 13 (.not (.t 12))] (.keep [0,1,5,13] (.cond (.t 13) (Zq [Zo 4 (.mv (Zi 0))]
 .ret)
 .skip))) (.keep [0,1,5] (Zq [Zm 14 5,Zo 15 (.idxs (.t 14) (Zi 0)),Zo 16 (.conv .i64 (.t 15)),Zm 6 16] (.keep [0,1,6] (.seq (Zq [Zm 17 6,Zo 18 (.bin .lss (.t 17) (Zi 1)),Zm 19 18,Zf 19 20 (.mv (.t 6)),Zf 19 21 (.mv (.t 1)),Zf 19 22 (.bin .gtr (.t 20) (.t 21)),Zo 23 (.pick (.t 19) (.c (.bool true)) (.t 22))] (.keep [0,6,23] (.cond (.t 23) (Zq [Zm 24 0,
 Zo 25 (.nilck (.t 24)),Zo 26 (.fld 0 (.t 25)),Zo 27 (.call (.f 105) [.t 26])] (.keep [] (Zq [Zo 4 (.mv (Zi 0))]
 .ret)))
 .skip))) (.keep [6] (Zq [Zm 28 6,Zm 4 28]
 .ret))))))))))⟩
theorem F_pack_In_count_ok : chkFn Try.prog 109 F_pack_In_count = true := by kernel_rfl
def F_pack_In_Word : AFn :=
 ⟨17,[.t 2],Zq [Zo 2 (.mv (.c (.str ⟨#[]⟩)))] (.keep [0] (Zq [Zm 4 0,Zm 5 0,Zo 6 (.call (.f 109) [.t 5,(Zi 8)]),Zo 7 (.bin .mul (Zi 2) (.t 6)),Zo 8 (.call (.f 127) [.t 4,.t 7]),Zm 3 8] (.keep [0,3] (.seq (Zq [Zm 9 3,Zo 10 (.call (.f 66) [.t 9]),Zo 11 (.not (.t 10))] (.keep [0,3,11] (.cond (.t 11) (Zq [Zm 12 0,
 Zo 13 (.nilck (.t 12)),Zo 14 (.fld 0 (.t 13)),Zo 15 (.call (.f 105) [.t 14])] (.keep [] (Zq [Zo 2 (.mv (.c (.str ⟨#[]⟩)))]
 .ret)))
 .skip))) (.keep [3] (Zq [Zm 16 3,Zm 2 16]
 .ret))))))⟩
theorem F_pack_In_Word_ok : chkFn Try.prog 110 F_pack_In_Word = true := by kernel_rfl
def F_pack_In_Left : AFn :=
 ⟨18,[.t 2],Zq [Zo 2 (.mv (Zi 0))] (.keep [0] (.seq (Zq [Zm 3 0,Zo 4 (.nilck (.t 3)),Zo 5 (.fld 0 (.t 4)),Zo 6 (.call (.f 106) [.t 5]),Zo 7 (.not (.t 6))] (.keep [0,7] (.cond (.t 7) (Zq [Zo 2 (.mv (Zi 0))]
 .ret)
 .skip))) (.keep [0] (.seq (.draw [2] [Zm 8 0,Zo 9 (.nilck (.t 8)),Zo 10 (.fld 1 (.t 9)),Zo 11 (.load none (.t 10)),Zo 12 (.lens (.t 11)),Zm 13 0,Zo 14 (.nilck (.t 13)),Zo 15 (.fld 2 (.t 14)),Zo 16 (.load none (.t 15)),Zo 17 (.bin .sub (.t 12) (.t 16)),Zm 2 17])
 .ret))))⟩
theorem F_pack_In_Left_ok : chkFn Try.prog 111 F_pack_In_Left = true := by kernel_rfl
def F_pack_In_take : AFn :=
 ⟨57,[.t 4],Zq [Zo 4 (.mv (.c (.str ⟨#[]⟩)))] (.keep [0,1] (.seq (.seq (.draw [0,1,23] [Zm 6 0,Zo 7 (.nilck (.t 6)),Zo 8 (.fld 0 (.t 7)),Zo 9 (.calli (.f 106) [.t 8]),Zm 10 9,Zt 10 11 (.mv (.t 1)),Zt 10 12 (.mv (.t 0)),Zt 10 13 (.nilck (.t 12)),Zt 10 14 (.fld 1 (.t 13)),Zt 10 15 (.load none (.t 14)),
 Zt 10 16 (.lens (.t 15)),Zt 10 17 (.mv (.t 0)),Zt 10 18 (.nilck (.t 17)),Zt 10 19 (.fld 2 (.t 18)),Zt 10 20 (.load none (.t 19)),Zt 10 21 (.bin .sub (.t 16) (.t 20)),Zt 10 22 (.bin .gtr (.t 11) (.t 21)),Zo 23 (.pick (.t 10) (.t 22) (.c (.bool false)))]) (.keep [0,1,23] (.cond (.t 23) (.ops [Zm 24 0,Zo 25 (.nilck (.t 24)),Zo 26 (.fld 0 (.t 25)),Zo 27 (.call (.f 105) [.t 26])])
 .skip))) (.keep [0,1] (.seq (Zq [Zm 28 0,Zo 29 (.nilck (.t 28)),Zo 30 (.fld 0 (.t 29)),Zo 31 (.call (.f 106) [.t 30]),Zo 32 (.not (.t 31))] (.keep [0,1,32] (.cond (.t 32) (Zq [Zo 4 (.mv (.c (.str ⟨#[]⟩)))]
 .ret)
 .skip))) (.keep [0,1] (.seq (.draw [0,1,5] [Zm 33 0,Zo 34 (.nilck (.t 33)),Zo 35 (.fld 1 (.t 34)),Zo 36 (.load none (.t 35)),Zm 37 0,Zo 38 (.nilck (.t 37)),Zo 39 (.fld 2 (.t 38)),Zo 40 (.load none (.t 39)),Zm 41 0,Zo 42 (.nilck (.t 41)),Zo 43 (.fld 2 (.t 42)),Zo 44 (.load none (.t 43)),Zm 45 1,Zo 46 (.bin .add (.t 44) (.t 45)),
 Zo 47 (.slcs (.t 36) (some (.t 40)) (some (.t 46))),Zm 5 47]) (.keep [0,1,5] (Zq [Zm 48 0,Zo 49 (.nilck (.t 48)),Zo 50 (.fld 2 (.t 49)),Zo 51 (.load none (.t 50)),Zm 52 1,Zo 53 (.bin .add (.t 51) (.t 52)),Zo 54 (.nilck (.t 48)),Zo 55 (.fld 2 (.t 54)),⟨none,none,.store 1 (.t 55) (.t 53),none⟩] (.keep [5] (Zq [Zm 56 5,Zm 4 56]
 .ret))))))))))⟩
theorem F_pack_In_take_ok : chkFn Try.prog 127 F_pack_In_take = true := by kernel_rfl
end Go.Proofs.Ytpiofcjkekpboaa
/- What the functions of packages word and set tell, over the abstract code. -/
namespace Go.Proofs.Ytpiofcjkekpboaa
open Go.RowKit Go.Lib

theorem bool_eq {p q : Bool} (h : p = q) : AV.bool p = .bool q := by rw [h]
theorem int_eq {k : IntKind} {a b : Int} (h : a = b) : AV.int k a = .int k b := by rw [h]
theorem byteAt_eq {s : ByteArray} {i : Nat} (h : i < s.size) : byteAt s i = s[i].toNat := by
 have : i < s.data.toList.length := by simpa using h
 simp only [byteAt, List.getElem?_eq_getElem this]; rfl

theorem p_wlen (s : ByteArray) (hs : s.size ≤ 9223372036854775807) : PCalls Try.prog 80 [.str s] (.int .i64 ((s.size / 2 : Nat) : Int)) := by
 refine pcalls_of (by first | rfl | simp [free, free.frees, frees_str, frees_u8, frees_u16]) (by first | rfl | simp [free, free.frees, frees_str, frees_u8, frees_u16]) (acalls_of mixed F_word_Len_ok (Nat.le_of_ble_eq_true rfl) ?_); simp only [F_word_Len, wk,ne_eq,eq_self,Int.reduceEq,reduceCtorEq,↓reduceIte]
 rw [Int.tdiv_eq_ediv_of_nonneg (by omega)]
 exact ⟨inR_of (by omega) (by omega), rfl⟩
theorem p_wodd (s : ByteArray) : PCalls Try.prog 99 [.str s] (.bool (decide (s.size % 2 ≠ 0))) := by
 refine pcalls_of (by first | rfl | simp [free, free.frees, frees_str, frees_u8, frees_u16]) (by first | rfl | simp [free, free.frees, frees_str, frees_u8, frees_u16]) (acalls_of mixed F_word_odd_ok (Nat.le_of_ble_eq_true rfl) ?_); simp only [F_word_odd, wk,ne_eq,eq_self,Int.reduceEq,reduceCtorEq,↓reduceIte]
 rw [Int.tmod_eq_emod_of_nonneg (by omega)]
 refine bool_eq ?_
 rw [Bool.eq_iff_iff]; simp; omega
theorem or_word' (x y : Nat) (hx : x < 256) (hy : y < 256) : bitV .or .u16 (IntKind.u16.wrap (IntKind.u16.wrap (x : Int) * 2 ^ (min 8 IntKind.u16.bits))) (IntKind.u16.wrap (y : Int)) = ((x * 256 + y : Nat) : Int) := by
 have e1 : IntKind.u16.wrap (x : Int) = x := by rw [IntKind.wrap_u16]; omega
 have e2 : IntKind.u16.wrap (y : Int) = y := by rw [IntKind.wrap_u16]; omega
 have e3 : IntKind.u16.wrap ((x : Int) * 2 ^ (min 8 IntKind.u16.bits)) = ((x * 256 : Nat) : Int) := by
  rw [show (min 8 IntKind.u16.bits) = 8 by decide, IntKind.wrap_u16]; omega
 rw [e1, e2, e3]
 show bits .or .u16 _ _ = _
 rw [u16_or_nat _ _ (by omega) (by omega), nat_join 8 _ _ (by omega) (by omega)]
theorem p_wat (s : ByteArray) (i : Nat) (hs : s.size ≤ 9223372036854775807) (hi : 2 * i + 1 < s.size) : PCalls Try.prog 100 [.str s, .int .i64 i] (.int .u16 (atomAt s i)) := by
 refine pcalls_of (by first | rfl | simp [free, free.frees, frees_str, frees_u8, frees_u16]) (by first | rfl | simp [free, free.frees, frees_str, frees_u8, frees_u16]) (acalls_of mixed F_word_At_ok (Nat.le_of_ble_eq_true rfl) ?_); simp only [F_word_At, wk,Nat.reduceEqDiff,Nat.reduceAdd,reduceCtorEq,↓reduceIte]
 refine ⟨fun _ => ?_, fun h => by omega⟩
 refine PCalls.use (p_wlen s hs) ?_; simp only [wk,Nat.reduceEqDiff,Int.reduceLE,reduceCtorEq,Int.reduceToNat,↓reduceIte]
 refine ⟨fun h => by omega, fun _ => ?_⟩
 (repeat (refine And.intro (by first | omega | exact inR_of (by omega) (by omega) | exact ⟨by omega, by omega⟩ | exact ⟨by omega, by omega, by omega⟩ | rfl) ?_))
 refine int_eq ?_
 rw [show (2 * (i : Int)).toNat = 2 * i by omega, show (2 * (i : Int) + 1).toNat = 2 * i + 1 by omega, byteAt_eq (by omega), byteAt_eq hi, or_word' _ _ s[2 * i].toNat_lt s[2 * i + 1].toNat_lt]
 simp [atomAt, hi]
theorem p_wless (a b : ByteArray) : PCalls Try.prog 75 [.str a, .str b] (.bool (wless a b)) := by
 refine pcalls_of (by first | rfl | simp [free, free.frees, frees_str, frees_u8, frees_u16]) (by first | rfl | simp [free, free.frees, frees_str, frees_u8, frees_u16]) (acalls_of mixed F_word_Less_ok (Nat.le_of_ble_eq_true rfl) ?_); simp only [F_word_Less, wk,ne_eq,eq_self,Nat.reduceEqDiff,Nat.reduceAdd,reduceCtorEq,↓reduceIte]
 refine ⟨fun h => bool_eq ?_, fun h => bool_eq ?_⟩
 ·unfold wless; rw [if_neg (by omega)]; simp
 ·unfold wless; rw [if_pos (by omega)]
theorem p_wmay (s : ByteArray) (hs : s.size ≤ 9223372036854775807) : PCalls Try.prog 66 [.str s] (.bool (wordMay s)) := by
 refine pcalls_of (by first | rfl | simp [free, free.frees, frees_str, frees_u8, frees_u16]) (by first | rfl | simp [free, free.frees, frees_str, frees_u8, frees_u16]) (acalls_of mixed F_word_May_ok (Nat.le_of_ble_eq_true rfl) ?_); simp only [F_word_May, wk,reduceCtorEq,↓reduceIte]
 refine PCalls.use (p_wodd s) ?_; simp only [wk,ne_eq,eq_self,Nat.reduceEqDiff,reduceCtorEq,↓reduceIte]
 refine ⟨fun ho => ?_, fun ho => bool_eq ?_⟩
 rotate_left
 ·simp only [wordMay]; symm; rw [decide_eq_false_iff_not]; omega
 refine PCalls.use (p_wlen s hs) ?_; simp only [wk,Nat.reduceEqDiff,reduceCtorEq,↓reduceIte]
 refine ⟨fun h1 => ?_, fun h1 => bool_eq ?_⟩
 rotate_left
 ·simp only [wordMay]; symm; rw [decide_eq_false_iff_not]; omega
 refine PCalls.use (p_wlen s hs) ?_; simp only [wk,Nat.reduceEqDiff,reduceCtorEq,↓reduceIte]
 refine ⟨fun h2 => bool_eq ?_, fun h2 => ?_⟩
 ·simp only [wordMay]; symm; rw [decide_eq_false_iff_not]; omega
 refine PCalls.use (p_wlen s hs) ?_; simp only [wk,reduceCtorEq,↓reduceIte]
 refine W_loop (fun n fr h => ∃ i : Nat, i ≤ s.size / 2 ∧ n = s.size / 2 - i ∧ fr = [(0, .str s), (17, .int .i64 ((s.size / 2 : Nat) : Int)), (18, .int .i64 i)] ∧ (∀ j, j < i → atomAt s j ≠ 0)) (s.size / 2) ⟨0, by omega, by omega, rfl, fun j hj => by omega⟩ ?_
 rintro n fr h ⟨i, hi, rfl, rfl, hall⟩
 simp only [wk,ne_eq,eq_self,Nat.reduceEqDiff,reduceCtorEq,↓reduceIte]
 refine ⟨fun hlt => ?_, fun hge => bool_eq ?_⟩
 ·refine PCalls.use (p_wat s i hs (by omega)) ?_; simp only [wk,Nat.reduceEqDiff,reduceCtorEq,↓reduceIte]
  refine ⟨fun h0 => bool_eq ?_, fun h0 => ⟨inR_of (by omega) (by omega), s.size / 2 - (i + 1), by omega, i + 1, by omega, rfl, rfl, fun j hj => ?_⟩⟩
  ·simp only [wordMay]; symm; rw [decide_eq_false_iff_not]; rintro ⟨_, _, _, h4⟩; exact h4 i (by omega) (by omega)
  ·by_cases e : j = i
   ·subst e; omega
   ·exact hall j (by omega)
 ·simp only [wordMay]; symm; rw [decide_eq_true_eq]; exact ⟨by omega, by omega, by omega, fun j hj => hall j (by omega)⟩

theorem drop_str {l : List ByteArray} {i : Nat} (h : i < l.length) : (l.map AV.str).drop i = AV.str l[i] :: (l.map AV.str).drop (i + 1) := by
 rw [List.drop_eq_getElem_cons (by simpa using h)]; simp
theorem p_smay (l : List ByteArray) (hl : l.length ≤ 9223372036854775807) (hs : ∀ x ∈ l, x.size ≤ 9223372036854775807) : PCalls Try.prog 31 [.lst .ro l.length (l.map .str)] (.bool (setMay l)) := by
 refine pcalls_of (by first | rfl | simp [free, free.frees, frees_str]) (by first | rfl | simp [free, free.frees, frees_str, frees_u8, frees_u16]) (acalls_of mixed F_set_May_ok (Nat.le_of_ble_eq_true rfl) ?_); simp only [F_set_May, wk,Nat.reduceEqDiff,reduceCtorEq,↓reduceIte]
 refine ⟨fun h1 => ?_, fun h1 => bool_eq (setMay_len (by omega)).symm⟩
 refine ⟨fun h2 => bool_eq (setMay_len (by omega)).symm, fun h2 => ?_⟩
 refine W_loop (fun n fr h => ∃ i : Nat, i ≤ l.length ∧ n = l.length - i ∧ fr = [(0, .lst .ro l.length (l.map .str)), (13, .lst .ro l.length (l.map .str)), (14, .int .i64 l.length), (15, .int .i64 i)] ∧ risingTo l i = true) l.length ⟨0, by omega, by omega, rfl, risingTo_zero l⟩ ?_
 rintro n fr h ⟨i, hi, rfl, rfl, hris⟩
 simp only [wk,Nat.reduceEqDiff,reduceCtorEq,↓reduceIte]
 refine ⟨fun hlt => ?_, fun hge => bool_eq ?_⟩
 ·have hil : i < l.length := by omega
  have hget : l[i]? = some l[i] := by simp [hil]
  refine ⟨⟨by omega, hlt⟩, ?_⟩
  rw [show (i : Int).toNat = i by omega, drop_str hil]
  simp only [wk,Nat.reduceEqDiff,reduceCtorEq,↓reduceIte]
  refine PCalls.use (p_wmay l[i] (hs _ (List.getElem_mem hil))) ?_; simp only [wk,Nat.reduceEqDiff,reduceCtorEq,↓reduceIte]
  refine ⟨fun hw => bool_eq ?_, fun hw => ⟨fun h0 => ?_, fun h0 => ?_⟩⟩
  ·symm
   refine setMay_no (k := i + 1) (by omega) ?_
   cases hi0 : i with
   | zero => subst hi0; rw [risingTo_one hget, hw]
   | succ m => subst hi0; rw [risingTo_succ (x := l[m]'(by omega)) (List.getElem?_eq_getElem (by omega)) hget, hw]; simp
  ·obtain ⟨m, rfl⟩ : ∃ m, i = m + 1 := ⟨i - 1, by omega⟩
   (repeat (refine And.intro (by first | omega | exact inR_of (by omega) (by omega) | exact ⟨by omega, by omega⟩ | exact ⟨by omega, by omega, by omega⟩ | rfl) ?_))
   rw [show (((m + 1 : Nat) : Int) - 1).toNat = m by omega, drop_str (show m < l.length by omega)]
   simp only [wk,Nat.reduceEqDiff,reduceCtorEq,↓reduceIte]
   refine PCalls.use (p_wless l[m] l[m + 1]) ?_; simp only [wk,Nat.reduceEqDiff,reduceCtorEq,↓reduceIte]
   refine ⟨fun hw2 => bool_eq ?_, fun hw2 => ⟨inR_of (by omega) (by omega), l.length - (m + 2), by omega, m + 2, by omega, rfl, rfl, ?_⟩⟩
   ·symm
    refine setMay_no (k := m + 2) (by omega) ?_
    rw [risingTo_succ (x := l[m]) (List.getElem?_eq_getElem (by omega)) hget, hw2]; simp
   ·rw [risingTo_succ (x := l[m]) (List.getElem?_eq_getElem (by omega)) hget, hw2, hw, hris]; rfl
  ·have hi0 : i = 0 := by omega
   subst hi0
   refine ⟨inR_of (by omega) (by omega), l.length - 1, by omega, 1, by omega, rfl, rfl, ?_⟩
   rw [risingTo_one hget, hw]
 ·rw [setMay_eq l (by omega) (by omega), show l.length = i by omega, hris]

def atomsL (s : ByteArray) (k : Nat) : List AV := (List.range k).map fun i => AV.int .u16 (atomAt s i)
theorem atomsL_succ (s : ByteArray) (k : Nat) : atomsL s (k + 1) = atomsL s k ++ [.int .u16 (atomAt s k)] := by simp [atomsL, List.range_succ]
theorem atomsL_len (s : ByteArray) (k : Nat) : (atomsL s k).length = k := by simp [atomsL]
theorem atomsL_drop {s : ByteArray} {k i : Nat} (h : i < k) : (atomsL s k).drop i = .int .u16 (atomAt s i) :: (atomsL s k).drop (i + 1) := by
 rw [List.drop_eq_getElem_cons (by rw [atomsL_len]; exact h)]; simp [atomsL]
theorem frees_atoms (s : ByteArray) (k : Nat) : free.frees (atomsL s k) = true := by
 have : atomsL s k = ((List.range k).map (atomAt s)).map fun (b : Nat) => AV.int .u16 (b : Int) := by simp [atomsL]
 rw [this, frees_u16]
theorem p_ratoms (s : ByteArray) (hs : s.size ≤ 140737488355328) : PCalls Try.prog 103 [.str s] (.lst .ro (s.size / 2) (atomsL s (s.size / 2))) := by
 refine pcalls_of rfl (by simp [free, frees_atoms]) (acalls_of mixed F_ref02_Atoms_ok (Nat.le_of_ble_eq_true rfl) ?_); simp only [F_ref02_Atoms, wk,reduceCtorEq,↓reduceIte]
 refine W_loop (fun n fr h => ∃ k : Nat, k ≤ s.size / 2 ∧ n = s.size / 2 - k ∧ fr = [(0, .str s), (3, .lst (.own 32) k (atomsL s k)), (4, .int .i64 (2 * (k : Int)))]) (s.size / 2) ⟨0, by omega, by omega, rfl⟩ ?_
 rintro n fr h ⟨k, hk, rfl, rfl⟩
 simp only [wk,Nat.reduceEqDiff,Nat.reduceLeDiff,reduceCtorEq,↓reduceIte]
 refine ⟨inR_of (by omega) (by omega), fun hlt => ?_, fun hge => ?_⟩
 ·(repeat (refine And.intro (by first | omega | exact inR_of (by omega) (by omega) | exact ⟨by omega, by omega⟩ | exact ⟨by omega, by omega, by omega⟩ | rfl) ?_))
  refine ⟨s.size / 2 - (k + 1), by omega, k + 1, by omega, rfl, ?_⟩
  have hin : 2 * k + 1 < s.size := by omega
  have hx : s[2 * k].toNat < 256 := s[2 * k].toNat_lt
  have hy : s[2 * k + 1].toNat < 256 := s[2 * k + 1].toNat_lt
  have e1 : (2 * (k : Int)).toNat = 2 * k := by omega
  have e2 : (2 * (k : Int) + 1).toNat = 2 * k + 1 := by omega
  rw [e1, e2, byteAt_eq (by omega), byteAt_eq hin, atomsL_succ]
  have e3 : IntKind.u16.wrap (IntKind.u16.wrap (IntKind.u16.wrap ((s[2 * k].toNat : Nat) : Int) * 256) + IntKind.u16.wrap ((s[2 * k + 1].toNat : Nat) : Int)) = ((atomAt s k : Nat) : Int) := by
   simp only [atomAt, hin, dif_pos, IntKind.wrap_u16]; omega
  rw [e3]
  have e4 : (2 * ((k + 1 : Nat) : Int)) = 2 * (k : Int) + 2 := by omega
  rw [e4]
 ·obtain rfl : k = s.size / 2 := by omega
  rfl
theorem p_rwless (a b : ByteArray) (ha : a.size ≤ 9223372036854775807) : PCalls Try.prog 76 [.str a, .str b] (.bool (wless a b)) := by
 refine pcalls_of (by first | rfl | simp [free, free.frees, frees_str, frees_u8, frees_u16]) (by first | rfl | simp [free, free.frees, frees_str, frees_u8, frees_u16]) (acalls_of mixed F_ref02_Less_ok (Nat.le_of_ble_eq_true rfl) ?_); simp only [F_ref02_Less, wk,ne_eq,eq_self,Nat.reduceEqDiff,Nat.reduceAdd,reduceCtorEq,↓reduceIte]
 refine ⟨fun h => bool_eq ?_, fun h => ?_⟩
 ·unfold wless; rw [if_neg (by omega)]; simp
 have hsz : a.size = b.size := by omega
 refine W_loop (fun n fr h => ∃ i : Nat, i ≤ a.size ∧ n = a.size - i ∧ fr = [(0, .str a), (1, .str b), (5, .int .i64 i)] ∧ ∀ j, (h1 : j < a.size) → j < i → a[j] = b[j]'(by omega)) a.size ⟨0, by omega, by omega, rfl, fun j _ hj => by omega⟩ ?_
 rintro n fr h ⟨i, hi, rfl, rfl, hall⟩
 simp only [wk,ne_eq,eq_self,Nat.reduceEqDiff,reduceCtorEq,↓reduceIte]
 refine ⟨fun hlt => ?_, fun hge => bool_eq ?_⟩
 ·have hia : i < a.size := by omega
  have hib : i < b.size := by omega
  (repeat (refine And.intro (by first | omega | exact inR_of (by omega) (by omega) | exact ⟨by omega, by omega⟩ | exact ⟨by omega, by omega, by omega⟩ | rfl) ?_))
  rw [show (i : Int).toNat = i by omega, byteAt_eq hia, byteAt_eq hib]
  refine ⟨fun hne => ?_, fun he => ?_⟩
  ·(repeat (refine And.intro (by first | omega | exact inR_of (by omega) (by omega) | exact ⟨by omega, by omega⟩ | exact ⟨by omega, by omega, by omega⟩ | rfl) ?_))
   refine bool_eq ?_
   have hne' : a[i] ≠ b[i] := fun e => hne (by rw [e])
   rw [wless_at hsz hia (fun j h1 h2 => hall j h1 h2) hne']
   simp
  ·refine ⟨inR_of (by omega) (by omega), a.size - (i + 1), by omega, i + 1, by omega, rfl, rfl, fun j h1 hj => ?_⟩
   by_cases e : j = i
   ·subst e; exact UInt8.toNat_inj.1 (by omega)
   ·exact hall j h1 (by omega)
 ·rw [wless_same hsz (fun j h1 => hall j h1 (by omega))]
theorem p_rwmay (s : ByteArray) (hs : s.size ≤ 140737488355328) : PCalls Try.prog 72 [.str s] (.bool (wordMay s)) := by
 refine pcalls_of (by first | rfl | simp [free, free.frees, frees_str, frees_u8, frees_u16]) (by first | rfl | simp [free, free.frees, frees_str, frees_u8, frees_u16]) (acalls_of mixed F_ref02_May_ok (Nat.le_of_ble_eq_true rfl) ?_); simp only [F_ref02_May, wk,reduceCtorEq,↓reduceIte]
 refine PCalls.use (p_ratoms s hs) ?_; simp only [wk,reduceCtorEq,↓reduceIte]
 refine W_loop (fun n fr h => ∃ i : Nat, i ≤ s.size / 2 ∧ n = s.size / 2 - i ∧ fr = [(0, .str s), (3, .lst .ro (s.size / 2) (atomsL s (s.size / 2))), (4, .int .i64 i)] ∧ (∀ j, j < i → atomAt s j ≠ 0)) (s.size / 2) ⟨0, by omega, by omega, rfl, fun j hj => by omega⟩ ?_
 rintro n fr h ⟨i, hi, rfl, rfl, hall⟩
 simp only [wk,ne_eq,eq_self,Nat.reduceEqDiff,Int.reduceEq,reduceCtorEq,↓reduceIte]
 refine ⟨fun hlt => ?_, fun hge => ?_⟩
 ·(repeat (refine And.intro (by first | omega | exact inR_of (by omega) (by omega) | exact ⟨by omega, by omega⟩ | exact ⟨by omega, by omega, by omega⟩ | rfl) ?_))
  rw [show (i : Int).toNat = i by omega, atomsL_drop (by omega)]
  simp only [wk,Nat.reduceEqDiff,reduceCtorEq,↓reduceIte]
  refine ⟨fun h0 => bool_eq ?_, fun h0 => ⟨inR_of (by omega) (by omega), s.size / 2 - (i + 1), by omega, i + 1, by omega, rfl, rfl, fun j hj => ?_⟩⟩
  ·simp only [wordMay]; symm; rw [decide_eq_false_iff_not]; rintro ⟨_, _, _, h4⟩; exact h4 i (by omega) (by omega)
  ·by_cases e : j = i
   ·subst e; omega
   ·exact hall j (by omega)
 ·rw [Int.tmod_eq_emod_of_nonneg (by omega)]
  have hall' : ∀ j, j < s.size / 2 → atomAt s j ≠ 0 := fun j hj => hall j (by omega)
  refine ⟨fun h1 => ⟨fun h2 => bool_eq ?_, fun h2 => bool_eq ?_⟩, fun h1 => bool_eq ?_⟩
  ·simp only [wordMay]; rw [Bool.eq_iff_iff, decide_eq_true_eq, decide_eq_true_eq]
   exact ⟨fun h3 => ⟨by omega, by omega, by omega, hall'⟩, fun h3 => by omega⟩
  ·simp only [wordMay]; symm; rw [decide_eq_false_iff_not]; omega
  ·simp only [wordMay]; symm; rw [decide_eq_false_iff_not]; omega
theorem p_rsmay (l : List ByteArray) (hl : l.length ≤ 9223372036854775807) (hs : ∀ x ∈ l, x.size ≤ 140737488355328) : PCalls Try.prog 32 [.lst .ro l.length (l.map .str)] (.bool (setMay l)) := by
 refine pcalls_of (by first | rfl | simp [free, free.frees, frees_str]) (by first | rfl | simp [free, free.frees, frees_str, frees_u8, frees_u16]) (acalls_of mixed F_ref03_May_ok (Nat.le_of_ble_eq_true rfl) ?_); simp only [F_ref03_May, wk,Nat.reduceEqDiff,reduceCtorEq,↓reduceIte]
 refine ⟨fun h1 => ?_, fun h1 => bool_eq (setMay_len (by omega)).symm⟩
 refine ⟨fun h2 => bool_eq (setMay_len (by omega)).symm, fun h2 => ?_⟩
 refine W_loop (fun n fr h => ∃ i : Nat, i ≤ l.length ∧ n = l.length - i ∧ fr = [(0, .lst .ro l.length (l.map .str)), (3, .int .i64 i)] ∧ risingTo l i = true) l.length ⟨0, by omega, by omega, rfl, risingTo_zero l⟩ ?_
 rintro n fr h ⟨i, hi, rfl, rfl, hris⟩
 simp only [wk,Nat.reduceEqDiff,reduceCtorEq,↓reduceIte]
 refine ⟨fun hlt => ?_, fun hge => bool_eq ?_⟩
 ·have hil : i < l.length := by omega
  have hget : l[i]? = some l[i] := by simp [hil]
  (repeat (refine And.intro (by first | omega | exact inR_of (by omega) (by omega) | exact ⟨by omega, by omega⟩ | exact ⟨by omega, by omega, by omega⟩ | rfl) ?_))
  rw [show (i : Int).toNat = i by omega, drop_str hil]
  simp only [wk,Nat.reduceEqDiff,reduceCtorEq,↓reduceIte]
  refine ⟨_, p_rwmay l[i] (hs _ (List.getElem_mem hil)), ?_⟩; simp only [wk]
  refine ⟨fun hw => ⟨fun h0 => ?_, fun h0 => ?_⟩, fun hw => bool_eq ?_⟩
  ·obtain ⟨m, rfl⟩ : ∃ m, i = m + 1 := ⟨i - 1, by omega⟩
   (repeat (refine And.intro (by first | omega | exact inR_of (by omega) (by omega) | exact ⟨by omega, by omega⟩ | exact ⟨by omega, by omega, by omega⟩ | rfl) ?_))
   rw [show (((m + 1 : Nat) : Int) - 1).toNat = m by omega, drop_str (show m < l.length by omega)]
   simp only [wk,Nat.reduceEqDiff,reduceCtorEq,↓reduceIte]
   (repeat (refine And.intro (by first | omega | exact inR_of (by omega) (by omega) | exact ⟨by omega, by omega⟩ | exact ⟨by omega, by omega, by omega⟩ | rfl) ?_))
   rw [show ((m + 1 : Nat) : Int).toNat = m + 1 by omega, drop_str hil]
   simp only [wk,Nat.reduceEqDiff,reduceCtorEq,↓reduceIte]
   refine ⟨_, p_rwless l[m] l[m + 1] (by have := hs l[m] (List.getElem_mem (by omega)); omega), ?_⟩; simp only [wk]
   refine ⟨fun hw2 => bool_eq ?_, fun hw2 => ⟨inR_of (by omega) (by omega), l.length - (m + 2), by omega, m + 2, by omega, rfl, rfl, ?_⟩⟩
   ·symm
    refine setMay_no (k := m + 2) (by omega) ?_
    rw [risingTo_succ (x := l[m]) (List.getElem?_eq_getElem (by omega)) hget, hw2]; simp
   ·rw [risingTo_succ (x := l[m]) (List.getElem?_eq_getElem (by omega)) hget, hw2, hw, hris]; rfl
  ·have hi0 : i = 0 := by omega
   subst hi0
   refine ⟨inR_of (by omega) (by omega), l.length - 1, by omega, 1, by omega, rfl, rfl, ?_⟩
   rw [risingTo_one hget, hw]
  ·symm
   refine setMay_no (k := i + 1) (by omega) ?_
   cases hi0 : i with
   | zero => subst hi0; rw [risingTo_one hget, hw]
   | succ m => subst hi0; rw [risingTo_succ (x := l[m]'(by omega)) (List.getElem?_eq_getElem (by omega)) hget, hw]; simp
 ·rw [setMay_eq l (by omega) (by omega), show l.length = i by omega, hris]
theorem p_requal (a b : List ByteArray) (ha : a.length ≤ 9223372036854775807) : PCalls Try.prog 30 [.lst .ro a.length (a.map .str), .lst .ro b.length (b.map .str)] (.bool (decide (a = b))) := by
 refine pcalls_of (by first | rfl | simp [free, free.frees, frees_str]) (by first | rfl | simp [free, free.frees, frees_str, frees_u8, frees_u16]) (acalls_of mixed F_ref03_Equal_ok (Nat.le_of_ble_eq_true rfl) ?_); simp only [F_ref03_Equal, wk,ne_eq,eq_self,Nat.reduceEqDiff,Nat.reduceAdd,reduceCtorEq,↓reduceIte]
 refine ⟨fun h => bool_eq ?_, fun h => ?_⟩
 ·symm; rw [decide_eq_false_iff_not]; intro e; rw [e] at h; exact h rfl
 have hab : a.length = b.length := by omega
 refine W_loop (fun n fr h => ∃ i : Nat, i ≤ a.length ∧ n = a.length - i ∧ fr = [(0, .lst .ro a.length (a.map .str)), (1, .lst .ro b.length (b.map .str)), (5, .int .i64 i)] ∧ a.take i = b.take i) a.length ⟨0, by omega, by omega, rfl, rfl⟩ ?_
 rintro n fr h ⟨i, hi, rfl, rfl, hall⟩
 simp only [wk,Nat.reduceEqDiff,reduceCtorEq,↓reduceIte]
 refine ⟨fun hlt => ?_, fun hge => bool_eq ?_⟩
 ·have hia : i < a.length := by omega
  have hib : i < b.length := by omega
  (repeat (refine And.intro (by first | omega | exact inR_of (by omega) (by omega) | exact ⟨by omega, by omega⟩ | exact ⟨by omega, by omega, by omega⟩ | rfl) ?_))
  rw [show (i : Int).toNat = i by omega, drop_str hia]
  simp only [wk,Nat.reduceEqDiff,reduceCtorEq,↓reduceIte]
  (repeat (refine And.intro (by first | omega | exact inR_of (by omega) (by omega) | exact ⟨by omega, by omega⟩ | exact ⟨by omega, by omega, by omega⟩ | rfl) ?_))
  rw [show (i : Int).toNat = i by omega, drop_str hib]
  simp only [wk,ne_eq,eq_self,Nat.reduceEqDiff,reduceCtorEq,↓reduceIte]
  refine ⟨fun hne => bool_eq ?_, fun he => ?_⟩
  ·symm; rw [decide_eq_false_iff_not]; intro e; subst e; exact hne rfl
  ·refine ⟨inR_of (by omega) (by omega), a.length - (i + 1), by omega, i + 1, by omega, rfl, rfl, ?_⟩
   rw [List.take_succ_eq_append_getElem hia, List.take_succ_eq_append_getElem hib, hall, he]
 ·symm; rw [decide_eq_true_eq]
  rw [List.take_of_length_le (by omega), List.take_of_length_le (by omega)] at hall
  exact hall

abbrev u8s (l : List UInt8) : List AV := l.map fun b => AV.int .u8 b.toNat
theorem u8s_app (l m : List UInt8) : u8s l ++ u8s m = u8s (l ++ m) := by simp [u8s]
def atomBytes (l : List Nat) : List UInt8 := l.flatMap fun a => [UInt8.ofNat (a / 256), UInt8.ofNat (a % 256)]
abbrev u16s (l : List Nat) : List AV := l.map fun (b : Nat) => AV.int .u16 (b : Int)
theorem u16s_drop {l : List Nat} {i : Nat} (h : i < l.length) : (u16s l).drop i = .int .u16 ((l[i] : Nat) : Int) :: (u16s l).drop (i + 1) := by
 rw [List.drop_eq_getElem_cons (by simpa using h)]; simp
theorem p_rof (l : List Nat) (hl : l.length ≤ 70368744177664) (ha : ∀ a ∈ l, a < 65536) : PCalls Try.prog 47 [.lst .ro l.length (u16s l)] (.str ⟨(atomBytes l).toArray⟩) := by
 refine pcalls_of (by first | rfl | simp [free, free.frees, frees_u16]) (by first | rfl | simp [free, free.frees, frees_str, frees_u8, frees_u16]) (acalls_of mixed F_ref02_Of_ok (Nat.le_of_ble_eq_true rfl) ?_); simp only [F_ref02_Of, wk,reduceCtorEq,↓reduceIte]
 refine W_loop (fun n fr h => ∃ i : Nat, i ≤ l.length ∧ n = l.length - i ∧ fr = [(0, .lst .ro l.length (u16s l)), (3, .lst (.own 5) (2 * i) (u8s (atomBytes (l.take i)))), (4, .int .i64 i)]) l.length ⟨0, by omega, by omega, rfl⟩ ?_
 rintro n fr h ⟨i, hi, rfl, rfl⟩
 simp only [wk,Nat.reduceEqDiff,reduceCtorEq,↓reduceIte]
 refine ⟨fun hlt => ?_, fun hge => ?_⟩
 ·have hil : i < l.length := by omega
  have h16 := ha l[i] (List.getElem_mem hil)
  (repeat (refine And.intro (by first | omega | exact inR_of (by omega) (by omega) | exact ⟨by omega, by omega⟩ | exact ⟨by omega, by omega, by omega⟩ | rfl) ?_))
  rw [show (i : Int).toNat = i by omega, u16s_drop hil]
  simp only [wk,ne_eq,eq_self,Nat.reduceEqDiff,Int.reduceEq,reduceCtorEq,↓reduceIte]
  refine ⟨⟨by omega, by omega⟩, ?_⟩
  rw [show (i : Int).toNat = i by omega, u16s_drop hil]
  simp only [wk,ne_eq,eq_self,Nat.reduceEqDiff,Nat.reduceAdd,Nat.reduceLeDiff,Int.reduceEq,reduceCtorEq,↓reduceIte]
  (repeat (refine And.intro (by first | omega | exact inR_of (by omega) (by omega) | exact ⟨by omega, by omega⟩ | exact ⟨by omega, by omega, by omega⟩ | rfl) ?_))
  refine ⟨l.length - (i + 1), by omega, i + 1, by omega, rfl, ?_⟩
  have e1 : IntKind.u8.wrap (IntKind.u16.wrap ((l[i] : Int).tdiv 256)) = ((UInt8.ofNat (l[i] / 256)).toNat : Int) := by
   rw [Int.tdiv_eq_ediv_of_nonneg (by omega), IntKind.wrap_u16, IntKind.wrap_u8]; simp only [UInt8.toNat_ofNat']; omega
  have e2 : IntKind.u8.wrap ((l[i] : Int).tmod 256) = ((UInt8.ofNat (l[i] % 256)).toNat : Int) := by
   rw [Int.tmod_eq_emod_of_nonneg (by omega), IntKind.wrap_u8]; simp only [UInt8.toNat_ofNat']; omega
  have e3 : atomBytes (l.take (i + 1)) = atomBytes (l.take i) ++ [UInt8.ofNat (l[i] / 256), UInt8.ofNat (l[i] % 256)] := by rw [List.take_succ_eq_append_getElem hil, atomBytes, List.flatMap_append]; rfl
  rw [e1, e2, e3, ← u8s_app]
  rfl
 ·have : i = l.length := by omega
  subst this
  refine ⟨atomBytes l, by rw [List.take_length], ?_, rfl⟩
  have : ∀ l : List Nat, (atomBytes l).length = 2 * l.length := by
   intro l; induction l with
   | nil => rfl
   | cons a l ih => simp only [atomBytes, List.flatMap_cons, List.length_append, List.length_cons, List.length_nil] at ih ⊢; omega
  rw [this]
theorem take_mem_succ {α : Type} {x : α} {l : List α} {i : Nat} (h : i < l.length) : x ∈ l.take (i + 1) ↔ x ∈ l.take i ∨ x = l[i] := by
 rw [List.take_succ_eq_append_getElem h, List.mem_append]; simp
theorem p_sequal (a b : List ByteArray) (ha : a.length ≤ 9223372036854775807) : PCalls Try.prog 112 [.lst .ro a.length (a.map .str), .lst .ro b.length (b.map .str)] (.bool (decide (a = b))) := by
 refine pcalls_of (by first | rfl | simp [free, free.frees, frees_str]) (by first | rfl | simp [free, free.frees, frees_str, frees_u8, frees_u16]) (acalls_of mixed J_slices_Equal_api_Set_api_Word_ok (Nat.le_of_ble_eq_true rfl) ?_); simp only [J_slices_Equal_api_Set_api_Word, wk,ne_eq,eq_self,Nat.reduceEqDiff,Nat.reduceAdd,reduceCtorEq,↓reduceIte]
 refine ⟨fun h => bool_eq ?_, fun h => ?_⟩
 ·symm; rw [decide_eq_false_iff_not]; intro e; rw [e] at h; exact h rfl
 have hab : a.length = b.length := by omega
 refine W_loop (fun n fr h => ∃ i : Nat, i ≤ a.length ∧ n = a.length - i ∧ fr = [(0, .lst .ro a.length (a.map .str)), (1, .lst .ro b.length (b.map .str)), (12, .int .i64 a.length), (13, .int .i64 i)] ∧ a.take i = b.take i) a.length ⟨0, by omega, by omega, rfl, rfl⟩ ?_
 rintro n fr h ⟨i, hi, rfl, rfl, hall⟩
 simp only [J_slices_Equal_api_Set_api_Word_j2, J_slices_Equal_api_Set_api_Word_j1, wk,Nat.reduceEqDiff,reduceCtorEq,↓reduceIte]
 refine ⟨fun hlt => ?_, fun hge => bool_eq ?_⟩
 ·have hia : i < a.length := by omega
  have hib : i < b.length := by omega
  (repeat (refine And.intro (by first | omega | exact inR_of (by omega) (by omega) | exact ⟨by omega, by omega⟩ | exact ⟨by omega, by omega, by omega⟩ | rfl) ?_))
  rw [show (i : Int).toNat = i by omega, drop_str hia]
  simp only [wk,Nat.reduceEqDiff,reduceCtorEq,↓reduceIte]
  (repeat (refine And.intro (by first | omega | exact inR_of (by omega) (by omega) | exact ⟨by omega, by omega⟩ | exact ⟨by omega, by omega, by omega⟩ | rfl) ?_))
  rw [show (i : Int).toNat = i by omega, drop_str hib]
  simp only [wk,ne_eq,eq_self,Nat.reduceEqDiff,reduceCtorEq,↓reduceIte]
  refine ⟨fun hne => bool_eq ?_, fun he => ?_⟩
  ·symm; rw [decide_eq_false_iff_not]; intro e; subst e; exact hne rfl
  ·refine ⟨inR_of (by omega) (by omega), a.length - (i + 1), by omega, i + 1, by omega, rfl, rfl, ?_⟩
   rw [List.take_succ_eq_append_getElem hia, List.take_succ_eq_append_getElem hib, hall, he]
 ·symm; rw [decide_eq_true_eq]
  rw [List.take_of_length_le (by omega), List.take_of_length_le (by omega)] at hall
  exact hall
structure Ent where
  op : Int
  who : List ByteArray
def eC (x : Ent) : List AV := [.int .i64 x.op, .lst .ro x.who.length (x.who.map .str)]
def vE (x : Ent) : AV := .agg (eC x)
def smallE (x : Ent) : Prop := x.who.length ≤ 1000 ∧ ∀ w ∈ x.who, w.size ≤ 1000
theorem frees_eC (x : Ent) : free.frees (eC x) = true := by unfold eC; simp [free, free.frees, frees_str]
theorem free_vE (x : Ent) : free (vE x) = true := by unfold vE; simp only [free]; exact frees_eC x
def sameEnt (a b : Ent) : Bool := decide (a.op = b.op ∧ a.who = b.who)
theorem p_esame (a b : Ent) (h : a.who.length ≤ 9223372036854775807) : PCalls Try.prog 91 [vE a, vE b] (.bool (sameEnt a b)) := by
 refine pcalls_of (by simp [free.frees, free_vE]) rfl (acalls_of mixed J_acl_Same_ok (Nat.le_of_ble_eq_true rfl) ?_); simp only [J_acl_Same, vE, eC, wk,Nat.reduceEqDiff,Nat.reduceAdd,↓reduceIte]
 refine ⟨fun e => ?_, fun e => ?_⟩
 ·refine PCalls.use (p_sequal a.who b.who h) ?_; simp only [wk,Nat.reduceEqDiff,↓reduceIte]
  congr 1
  simp [sameEnt, e]
 ·congr 1
  simp [sameEnt, e]
theorem p_resame (a b : Ent) (h : a.who.length ≤ 9223372036854775807) : PCalls Try.prog 58 [vE a, vE b] (.bool (sameEnt a b)) := by
 refine pcalls_of (by simp [free.frees, free_vE]) rfl (acalls_of mixed J_ref16_Same_ok (Nat.le_of_ble_eq_true rfl) ?_); simp only [J_ref16_Same, vE, eC, wk,Nat.reduceEqDiff,Nat.reduceAdd,↓reduceIte]
 refine ⟨fun e => ?_, fun e => ?_⟩
 ·refine PCalls.use (p_requal a.who b.who h) ?_; simp only [wk,Nat.reduceEqDiff,↓reduceIte]
  congr 1
  simp [sameEnt, e]
 ·congr 1
  simp [sameEnt, e]
def mayEnt (x : Ent) : Bool := decide (0 ≤ x.op) && (decide (x.op < 8) && setMay x.who)
theorem p_emay (x : Ent) (h : smallE x) : PCalls Try.prog 94 [vE x] (.bool (mayEnt x)) := by
 refine pcalls_of (by simp [free.frees, free_vE]) rfl (acalls_of mixed J_acl_may_ok (Nat.le_of_ble_eq_true rfl) ?_); simp only [J_acl_may, vE, eC, wk,Nat.reduceEqDiff,↓reduceIte]
 refine ⟨fun e => ⟨fun e2 => ?_, fun e2 => ?_⟩, fun e => ?_⟩
 ·refine PCalls.use (p_smay x.who (by have := h.1; omega) (fun w hw => by have := h.2 w hw; omega)) ?_; simp only [wk,Nat.reduceEqDiff,↓reduceIte]
  congr 1
  simp [mayEnt, e, e2]
 ·congr 1
  simp [mayEnt, e2]
 ·congr 1
  simp [mayEnt, e]
theorem p_remay (x : Ent) (h : smallE x) : PCalls Try.prog 97 [vE x] (.bool (mayEnt x)) := by
 refine pcalls_of (by simp [free.frees, free_vE]) rfl (acalls_of mixed J_ref16_may_ok (Nat.le_of_ble_eq_true rfl) ?_); simp only [J_ref16_may, vE, eC, wk,Nat.reduceEqDiff,↓reduceIte]
 refine ⟨fun e => ⟨fun e2 => ?_, fun e2 => ?_⟩, fun e => ?_⟩
 ·refine PCalls.use (p_rsmay x.who (by have := h.1; omega) (fun w hw => by have := h.2 w hw; omega)) ?_; simp only [wk,Nat.reduceEqDiff,↓reduceIte]
  congr 1
  simp [mayEnt, e, show x.op < 8 by omega]
 ·congr 1
  simp [mayEnt, show ¬ x.op < 8 by omega]
 ·congr 1
  simp [mayEnt, e]
theorem p_sclone (l : List ByteArray) (h : l.length ≤ 1000000) : PCalls Try.prog 115 [.lst .ro l.length (l.map .str)] (.lst .ro l.length (l.map .str)) := by
 refine pcalls_of (by simp [free, free.frees, frees_str]) (by simp [free, frees_str]) (ACalls.weak (acalls_of mixed J_slices_Clone_api_Set_api_Word_ok (Nat.le_of_ble_eq_true rfl) ?_)); simp only [J_slices_Clone_api_Set_api_Word, wk,Nat.reduceEqDiff,reduceCtorEq,↓reduceIte]
 refine ⟨⟨⟨by simp, by omega, by omega⟩, ?_⟩, fun h0 => ?_⟩
 ·simp only [rod_ro]
 ·have : l = [] := List.eq_nil_of_length_eq_zero h0
  subst this
  rfl
theorem p_clone (x : Ent) (h : smallE x) : PCalls Try.prog 96 [vE x] (vE x) := by
 refine pcalls_of (by simp [free.frees, free_vE]) (free_vE x) (acalls_of mixed J_acl_clone_ok (Nat.le_of_ble_eq_true rfl) ?_); simp only [J_acl_clone, vE, eC, wk,↓reduceIte]
 refine PCalls.use (p_sclone x.who (by have := h.1; omega)) ?_; simp only [wk,Nat.reduceEqDiff,Nat.reduceAdd,Nat.reduceLeDiff,↓reduceIte]
 simp only [valL, wk,Nat.reduceEqDiff,Nat.reduceAdd,Nat.reduceLeDiff,↓reduceIte]
def numOk (n : Int) : Bool := decide (0 ≤ n ∧ n ≤ 4611686018427387904)
theorem p_recnum (n : Int) : PCalls Try.prog 59 [.int .i64 n] (.bool (numOk n)) := by
 refine pcalls_of (by first | rfl | simp [free, free.frees, frees_str, frees_u8, frees_u16]) (by first | rfl | simp [free, free.frees, frees_str, frees_u8, frees_u16]) (acalls_of mixed J_record_number_ok (Nat.le_of_ble_eq_true rfl) ?_); simp only [J_record_number, wk,Nat.reduceEqDiff,reduceCtorEq,↓reduceIte]
 refine ⟨fun e => ?_, fun e => ?_⟩
 ·congr 1; simp [numOk, e]
 ·congr 1; simp [numOk, e]
theorem p_rrecnum (n : Int) : PCalls Try.prog 61 [.int .i64 n] (.bool (numOk n)) := by
 refine pcalls_of (by first | rfl | simp [free, free.frees, frees_str, frees_u8, frees_u16]) (by first | rfl | simp [free, free.frees, frees_str, frees_u8, frees_u16]) (acalls_of mixed J_ref21_num_ok (Nat.le_of_ble_eq_true rfl) ?_); simp only [J_ref21_num, wk,Nat.reduceEqDiff,reduceCtorEq,↓reduceIte]
 refine ⟨fun e => ?_, fun e => ?_⟩
 ·congr 1; simp [numOk, e]
 ·congr 1; simp [numOk, e]
theorem hset {h : Hp} {id : Nat} {y : Option (Bool × List AV)} (ho : h[id]? = some y) (x : Option (Bool × List AV)) : (h.set id x)[id]? = some x := by
 have : id < h.length := (List.getElem?_eq_some_iff.1 ho).1
 rw [List.getElem?_set_self this]
theorem hself {h : Hp} {id : Nat} {y : Option (Bool × List AV)} (ho : h[id]? = some y) : h.set id y = h := by
 obtain ⟨h1, h2⟩ := List.getElem?_eq_some_iff.1 ho
 rw [← h2, List.set_getElem_self]

def eI : Bool → Int
 | true => 2
 | false => 0
theorem a_well {h : Hp} {id : Nat} {fl bad : Bool} {rest : List AV} (ho : h[id]? = some (some (fl, .int .i64 (eI bad) :: rest))) :
  ACalls Try.prog 106 [.ptr id 0] h (fun a h' => a = .bool (!bad) ∧ h = h') := by
 refine acalls_of mixed F_pack_met_well_ok (Nat.le_of_ble_eq_true rfl) ?_; simp only [F_pack_met_well, wk,reduceCtorEq,↓reduceIte]
 simp only [wk,↓reduceIte, ho]
 cases bad <;> rfl
theorem a_fail {h : Hp} {id : Nat} {bad : Bool} {rest : List AV} (ho : h[id]? = some (some (false, .int .i64 (eI bad) :: rest))) :
  ACalls Try.prog 105 [.ptr id 0] h (fun a h' => a = .tup [] ∧ h' = h.set id (some (false, .int .i64 (eI true) :: rest))) := by
 refine acalls_of mixed F_pack_met_fail_ok (Nat.le_of_ble_eq_true rfl) ?_; simp only [F_pack_met_fail, wk,↓reduceIte]
 refine ACalls.use (a_well ho) ?_; rintro _ _ ⟨rfl, rfl⟩; simp only [wk,reduceCtorEq,↓reduceIte]
 simp only [wk,Nat.reduceLeDiff,ho]
 refine ⟨fun h0 => ?_, fun h0 => ?_⟩
 ·rfl
 ·subst h0; rw [hself ho]

abbrev oObj (s : Bool × List UInt8) : Option (Bool × List AV) := some (false, [.int .i64 (eI s.1), .lst (.own 5) s.2.length (u8s s.2)])
def wri (ok : Bool) (add : List UInt8) (s : Bool × List UInt8) : Bool × List UInt8 := if s.1 then s else if ok then (false, s.2 ++ add) else (true, s.2)
def okNum (z : Int) : Bool := decide (0 ≤ z ∧ z ≤ 4611686018427387904)
theorem or_128 (m : Nat) : bitV .or .u8 (IntKind.u8.wrap (m : Int)) 128 = ((UInt8.ofNat (m % 128 + 128)).toNat : Int) := by
 have e1 : IntKind.u8.wrap (m : Int) = ((m % 256 : Nat) : Int) := by rw [IntKind.wrap_u8]; omega
 rw [e1]
 show bits .or .u8 _ ((128 : Nat) : Int) = _
 rw [u8_or_nat _ _ (by omega) (by omega)]
 have : m % 256 ||| 128 = m % 128 + 128 := by
  by_cases hb : m % 256 < 128
  ·rw [Nat.or_comm, nat_join 7 128 (m % 256) (by omega) (by omega)]; omega
  ·have h1 : m % 256 = 128 ||| (m % 128) := by rw [nat_join 7 128 (m % 128) (by omega) (by omega)]; omega
   rw [h1, Nat.or_comm, ← Nat.or_assoc, Nat.or_self, nat_join 7 128 (m % 128) (by omega) (by omega)]; omega
 rw [this]; simp only [UInt8.toNat_ofNat']; omega
theorem shr_7 (m : Nat) : (m : Int).fdiv (2 ^ (min 7 IntKind.i64.bits)) = ((m / 128 : Nat) : Int) := by
 rw [show (min 7 IntKind.i64.bits) = 7 by decide, Int.fdiv_eq_ediv_of_nonneg _ (by omega)]; omega
theorem wri_bad {ok : Bool} {add bs : List UInt8} : wri ok add (true, bs) = (true, bs) := rfl
theorem wri_not {add bs : List UInt8} {bad : Bool} : wri false add (bad, bs) = (true, bs) := by cases bad <;> rfl
theorem wri_yes {add bs : List UInt8} : wri true add (false, bs) = (false, bs ++ add) := rfl
theorem a_onum {h : Hp} {id : Nat} {s : Bool × List UInt8} (z : Int) (ho : h[id]? = some (oObj s)) (hl : s.2.length ≤ 1000000000000) :
  ACalls Try.prog 84 [.ptr id 0, .int .i64 z] h (fun a h' => a = .tup [] ∧ h' = h.set id (oObj (wri (okNum z) (num z.toNat) s))) := by
 obtain ⟨bad, bs⟩ := s
 simp only [oObj] at ho hl ⊢
 refine acalls_of mixed F_pack_Out_Num_ok (Nat.le_of_ble_eq_true rfl) ?_; simp only [F_pack_Out_Num, wk,Nat.reduceEqDiff,Nat.reduceAdd,reduceCtorEq,↓reduceIte]
 refine ⟨fun h0 => ⟨fun h1 => ?_, fun h1 => ?_⟩, fun h0 => ?_⟩
 ·refine ACalls.use (a_fail ho) ?_; rintro _ _ ⟨rfl, rfl⟩; simp only [wk,Nat.reduceEqDiff,reduceCtorEq,↓reduceIte]
  refine ACalls.use (a_well (hset ho _)) ?_; rintro _ _ ⟨rfl, rfl⟩; simp only [wk,Nat.reduceEqDiff,reduceCtorEq,↓reduceIte]
  rw [show okNum z = false by unfold okNum; rw [decide_eq_false_iff_not]; omega, wri_not]
 ·refine ACalls.use (a_well ho) ?_; rintro _ _ ⟨rfl, rfl⟩; simp only [wk,Nat.reduceEqDiff,reduceCtorEq,↓reduceIte]
  refine ⟨fun hb => ?_, fun hb => ?_⟩
  ·subst hb; rw [wri_bad, hself ho]
  subst hb
  obtain ⟨n, rfl⟩ : ∃ n : Nat, z = n := ⟨z.toNat, by omega⟩
  rw [show okNum (n : Int) = true by unfold okNum; rw [decide_eq_true_eq]; omega, wri_yes]
  have hn9 := num_len9 (n := n) (by omega)
  refine W_loop (fun k fr h' => ∃ (pre : List UInt8) (m : Nat), k = m ∧ m ≤ n ∧ pre ++ num m = num n ∧ fr = [(0, .ptr id 0), (1, .int .i64 m)] ∧ h' = h.set id (oObj (false, bs ++ pre))) n ⟨[], n, rfl, by omega, rfl, rfl, by rw [List.append_nil, hself ho]⟩ ?_
  rintro k fr h' ⟨pre, m, rfl, hm, hpre, rfl, rfl⟩
  have htot : pre.length + (num k).length = (num n).length := by rw [← hpre, List.length_append]
  have hb1 : bs.length + pre.length + 1 ≤ 9223372036854775807 := by omega
  have hla : (bs ++ pre).length = bs.length + pre.length := List.length_append
  simp only [wk,Nat.reduceEqDiff,Nat.reduceLeDiff,Int.reduceLE,reduceCtorEq,Int.reduceToNat,↓reduceIte, oObj]
  refine ⟨fun hge => ?_, fun hlt => ?_⟩
  ·have hk := num_ge (n := k) (by omega)
   simp only [wk,Nat.reduceAdd,Nat.reduceLT,hset ho]
   (repeat (refine And.intro (by first | omega | exact inR_of (by omega) (by omega) | exact ⟨by omega, by omega⟩ | exact ⟨by omega, by omega, by omega⟩ | rfl) ?_))
   rw [shr_7, or_128]
   refine ⟨k / 128, by omega, pre ++ [UInt8.ofNat (k % 128 + 128)], k / 128, rfl, by omega, ?_, rfl, ?_⟩
   ·rw [← hpre, hk]; simp
   ·simp [Nat.add_assoc]
  ·have hk := num_lt (n := k) (by omega)
   simp only [wk,Nat.reduceAdd,Nat.reduceLT,hset ho]
   (repeat (refine And.intro (by first | omega | exact inR_of (by omega) (by omega) | exact ⟨by omega, by omega⟩ | exact ⟨by omega, by omega, by omega⟩ | rfl) ?_))
   have e1 : IntKind.u8.wrap (k : Int) = ((UInt8.ofNat k).toNat : Int) := by rw [IntKind.wrap_u8]; simp only [UInt8.toNat_ofNat']; omega
   rw [e1, Int.toNat_natCast, ← hpre, hk]
   simp [Nat.add_assoc]
 ·refine ACalls.use (a_fail ho) ?_; rintro _ _ ⟨rfl, rfl⟩; simp only [wk,Nat.reduceEqDiff,reduceCtorEq,↓reduceIte]
  refine ACalls.use (a_well (hset ho _)) ?_; rintro _ _ ⟨rfl, rfl⟩; simp only [wk,Nat.reduceEqDiff,reduceCtorEq,↓reduceIte]
  rw [show okNum z = false by unfold okNum; rw [decide_eq_false_iff_not]; omega, wri_not]
theorem a_oword {h : Hp} {id : Nat} {s : Bool × List UInt8} (x : ByteArray) (ho : h[id]? = some (oObj s)) (hl : s.2.length ≤ 1000000000000) (hx : x.size ≤ 1000000000000) :
  ACalls Try.prog 107 [.ptr id 0, .str x] h (fun a h' => a = .tup [] ∧ h' = h.set id (oObj (wri (wordMay x) (wordBytes x) s))) := by
 obtain ⟨bad, bs⟩ := s
 simp only [oObj] at ho hl ⊢
 refine acalls_of mixed F_pack_Out_Word_ok (Nat.le_of_ble_eq_true rfl) ?_; simp only [F_pack_Out_Word, wk,Nat.reduceAdd,↓reduceIte]
 refine PCalls.use (p_wmay x (by omega)) ?_; simp only [wk,Nat.reduceEqDiff,reduceCtorEq,↓reduceIte]
 refine ⟨fun hw => ?_, fun hw => ?_⟩
 ·refine ACalls.use (a_fail ho) ?_; rintro _ _ ⟨rfl, rfl⟩; simp only [wk,Nat.reduceEqDiff,reduceCtorEq,↓reduceIte]
  refine ACalls.use (a_well (hset ho _)) ?_; rintro _ _ ⟨rfl, rfl⟩; simp only [wk,Nat.reduceEqDiff,reduceCtorEq,↓reduceIte]
  rw [hw, wri_not]
 ·refine ACalls.use (a_well ho) ?_; rintro _ _ ⟨rfl, rfl⟩; simp only [wk,Nat.reduceEqDiff,Nat.reduceLeDiff,reduceCtorEq,↓reduceIte, ho]
  refine ⟨fun hb => ?_, fun hb => ?_⟩
  ·subst hb
   refine ⟨_, p_wlen x (by omega), ?_⟩; simp only [wk]
   simp only [wk,Nat.reduceAdd,Nat.reduceLT,hset ho]
   (repeat (refine And.intro (by first | omega | exact inR_of (by omega) (by omega) | exact ⟨by omega, by omega⟩ | exact ⟨by omega, by omega, by omega⟩ | rfl) ?_))
   rw [hw, wri_yes]
   have e1 : IntKind.u8.wrap ((x.size / 2 : Nat) : Int) = ((UInt8.ofNat (x.size / 2)).toNat : Int) := by rw [IntKind.wrap_u8]; simp only [UInt8.toNat_ofNat']; omega
   rw [e1]
   rw [Nat.add_assoc]
   simp [wordBytes, Nat.add_comm]
  ·subst hb; rw [wri_bad, hself ho]
theorem setMay_word {l : List ByteArray} (h : setMay l = true) : ∀ x ∈ l, wordMay x = true := (setMay_words h).2
theorem a_oset {h : Hp} {id : Nat} {s : Bool × List UInt8} (l : List ByteArray) (ho : h[id]? = some (oObj s)) (hl : s.2.length ≤ 1000000000) (hx : l.length ≤ 10000) (hs : ∀ x ∈ l, x.size ≤ 10000) :
  ACalls Try.prog 85 [.ptr id 0, .lst .ro l.length (l.map .str)] h (fun a h' => a = .tup [] ∧ h' = h.set id (oObj (wri (setMay l) (setBytes l) s))) := by
 obtain ⟨bad, bs⟩ := s
 simp only [oObj] at ho hl ⊢
 refine acalls_of mixed F_pack_Out_Set_ok (Nat.le_of_ble_eq_true rfl) ?_; simp only [F_pack_Out_Set, wk,Nat.reduceAdd,↓reduceIte]
 refine PCalls.use (p_smay l (by omega) (fun x h => by have := hs x h; omega)) ?_; simp only [wk,Nat.reduceEqDiff,reduceCtorEq,↓reduceIte]
 refine ⟨fun hw => ?_, fun hw => ?_⟩
 ·refine ACalls.use (a_fail ho) ?_; rintro _ _ ⟨rfl, rfl⟩; simp only [wk,Nat.reduceEqDiff,reduceCtorEq,↓reduceIte]
  refine ACalls.use (a_well (hset ho _)) ?_; rintro _ _ ⟨rfl, rfl⟩; simp only [wk,Nat.reduceEqDiff,reduceCtorEq,↓reduceIte]
  rw [hw, wri_not]
 ·refine ACalls.use (a_well ho) ?_; rintro _ _ ⟨rfl, rfl⟩; simp only [wk,Nat.reduceEqDiff,Nat.reduceLeDiff,reduceCtorEq,↓reduceIte, ho]
  refine ⟨fun hb => ?_, fun hb => ?_⟩
  ·subst hb; rw [wri_bad, hself ho]
  ·subst hb
   simp only [wk,Nat.reduceAdd,Nat.reduceLT,hset ho]
   (repeat (refine And.intro (by first | omega | exact inR_of (by omega) (by omega) | exact ⟨by omega, by omega⟩ | exact ⟨by omega, by omega, by omega⟩ | rfl) ?_))
   have e1 : IntKind.u8.wrap ((l.length : Nat) : Int) = ((UInt8.ofNat l.length).toNat : Int) := by rw [IntKind.wrap_u8]; simp only [UInt8.toNat_ofNat']; omega
   rw [e1]
   have hlen : ∀ i, ((l.take i).flatMap wordBytes).length ≤ 20000 * i := by
    intro i
    induction i with
    | zero => simp
    | succ i ih =>
     by_cases h : i < l.length
     ·rw [List.take_succ_eq_append_getElem h, List.flatMap_append, List.length_append]
      have := hs l[i] (List.getElem_mem h)
      have e : l[i].data.toList.length = l[i].size := by simp
      simp only [List.flatMap_cons, List.flatMap_nil, List.append_nil, wordBytes, List.length_cons, e]; omega
     ·rw [List.take_of_length_le (by omega)] at ih ⊢; omega
   refine W_loop (fun k fr h' => ∃ i : Nat, i ≤ l.length ∧ k = l.length - i ∧ fr = [(0, .ptr id 0), (30, .lst .ro l.length (l.map .str)), (31, .int .i64 l.length), (32, .int .i64 i)] ∧ h' = h.set id (oObj (false, bs ++ UInt8.ofNat l.length :: (l.take i).flatMap wordBytes))) l.length ⟨0, by omega, by omega, rfl, by simp [oObj]⟩ ?_
   rintro k fr h' ⟨i, hi, rfl, rfl, rfl⟩
   simp only [wk,Nat.reduceEqDiff,reduceCtorEq,↓reduceIte]
   refine ⟨fun hlt => ?_, fun hge => ?_⟩
   ·have hil : i < l.length := by omega
    refine ⟨⟨by omega, hlt⟩, ?_⟩
    rw [show (i : Int).toNat = i by omega, drop_str hil]
    simp only [wk,Nat.reduceEqDiff,reduceCtorEq,↓reduceIte]
    have h1 := hlen i
    have h2 := hs l[i] (List.getElem_mem hil)
    refine ACalls.use (a_oword l[i] (hset ho _) (by simp only [List.length_append, List.length_cons]; omega) (by omega)) ?_; rintro _ _ ⟨rfl, rfl⟩; simp only [wk,Nat.reduceEqDiff,reduceCtorEq,↓reduceIte]
    refine ⟨inR_of (by omega) (by omega), l.length - (i + 1), by omega, i + 1, by omega, rfl, rfl, ?_⟩
    rw [setMay_word hw _ (List.getElem_mem hil), wri_yes, List.take_succ_eq_append_getElem hil, List.flatMap_append]
    simp
   ·have : i = l.length := by omega
    subst this
    rw [hw, wri_yes, List.take_length, setBytes]
def told (s : Bool × List UInt8) : AV := .tup [.str (if s.1 then ⟨#[]⟩ else ⟨s.2.toArray⟩), .int .i64 (eI s.1)]
theorem a_odone {h : Hp} {id : Nat} {s : Bool × List UInt8} (ho : h[id]? = some (oObj s)) :
  ACalls Try.prog 86 [.ptr id 0] h (fun a h' => a = told s ∧ h = h') := by
 obtain ⟨bad, bs⟩ := s
 simp only [oObj] at ho ⊢
 refine acalls_of mixed F_pack_Out_Done_ok (Nat.le_of_ble_eq_true rfl) ?_; simp only [F_pack_Out_Done, wk,reduceCtorEq,↓reduceIte]
 refine ACalls.use (a_well ho) ?_; rintro _ _ ⟨rfl, rfl⟩; simp only [wk,Nat.reduceEqDiff,reduceCtorEq,↓reduceIte, ho]
 cases bad with
 | true => exact ⟨fun _ => rfl, fun hb => (nomatch hb)⟩
 | false => exact ⟨fun hb => (nomatch hb), fun _ => ⟨bs, rfl, rfl, rfl⟩⟩
abbrev iObj (S : ByteArray) (s : Bool × Nat) : Option (Bool × List AV) := some (false, [.int .i64 (eI s.1), .str S, .int .i64 s.2])
theorem wrap_small {z : Int} (h0 : 0 ≤ z) (h1 : z ≤ 4611686018427387904) : IntKind.i64.wrap z = z := by
 rw [IntKind.wrap_i64]; omega
def nums : Option (Nat × Nat) → AV
 | some (n, m) => .tup [.int .i64 n, .int .i64 m]
 | none => .tup [.int .i64 0, .int .i64 0]
theorem and_127 (c : Nat) (h : c < 256) : bitV .and .u8 (c : Int) 127 = ((c % 128 : Nat) : Int) := by
 show bits .and .u8 _ ((127 : Nat) : Int) = _
 rw [u8_and_nat _ _ h (by omega), nat_mask7]
theorem shl_7k (c k : Nat) (hk : k ≤ 8) (hc : c < 128) : IntKind.u64.wrap (IntKind.u64.wrap (c : Int) * 2 ^ (min (7 * (k : Int)).toNat IntKind.u64.bits)) = ((c * 128 ^ k : Nat) : Int) := by
 have e0 : min (7 * (k : Int)).toNat IntKind.u64.bits = 7 * k := by rw [show IntKind.u64.bits = 64 by decide]; omega
 have e1 : IntKind.u64.wrap (c : Int) = c := by rw [IntKind.wrap_u64]; omega
 have e2 : (2 : Int) ^ (7 * k) = ((128 ^ k : Nat) : Int) := by rw [show (128 : Nat) = 2 ^ 7 by rfl, ← Nat.pow_mul]; simp
 have e3 : c * 128 ^ k < 18446744073709551616 := by
  have h1 : 128 ^ k ≤ 128 ^ 8 := Nat.pow_le_pow_right (by omega) hk
  have h2 : c * 128 ^ k ≤ 127 * 128 ^ 8 := Nat.mul_le_mul (by omega) h1
  omega
 rw [e0, e1, e2, IntKind.wrap_u64]
 rw [← Int.natCast_mul]; omega
theorem or_acc (a c k : Nat) (hk : k ≤ 8) (hc : c < 128) (ha : a < 128 ^ k) : bitV .or .u64 (a : Int) ((c * 128 ^ k : Nat) : Int) = ((a + c * 128 ^ k : Nat) : Int) := by
 have h1 : 128 ^ k ≤ 128 ^ 8 := Nat.pow_le_pow_right (by omega) hk
 have h2 : c * 128 ^ k ≤ 127 * 128 ^ 8 := Nat.mul_le_mul (by omega) h1
 have e : 128 ^ k = 2 ^ (7 * k) := by rw [Nat.pow_mul]
 show bits .or .u64 _ _ = _
 rw [u64_or_nat _ _ (by omega) (by omega), Nat.or_comm, nat_join (7 * k) _ _ (by rw [e]; exact Nat.mul_mod_left _ _) (by rw [← e]; exact ha), Nat.add_comm]
theorem p_number (s : ByteArray) (hs : s.size ≤ 1000000000000) : PCalls Try.prog 108 [.str s] (nums (rdNum s.data.toList)) := by
 refine pcalls_of rfl (by cases rdNum s.data.toList <;> rfl) (acalls_of mixed F_pack_number_ok (Nat.le_of_ble_eq_true rfl) ?_); simp only [F_pack_number, wk,reduceCtorEq,↓reduceIte]
 refine W_loop (fun n fr h => ∃ (k acc : Nat), k ≤ 9 ∧ n = 9 - k ∧ k ≤ s.size ∧ acc < 128 ^ k ∧ fr = [(0, .str s), (4, .int .u64 acc), (5, .int .i64 k)] ∧ rdNum s.data.toList = rdNumAt k acc (s.data.toList.drop k)) 9 ⟨0, 0, by omega, rfl, by omega, by simp, rfl, rfl⟩ ?_
 rintro n fr h ⟨k, acc, hk9, rfl, hks, hacc, rfl, hrd⟩
 simp only [wk,Nat.reduceEqDiff,reduceCtorEq,↓reduceIte]
 refine ⟨fun hlt => ⟨fun h9 => ?_, fun h9 => ?_⟩, fun hge => ?_⟩
 ·have hkl : k < s.size := by omega
  have hkd : k < s.data.toList.length := by simpa using hkl
  have hdrop : s.data.toList.drop k = s[k] :: s.data.toList.drop (k + 1) := by rw [List.drop_eq_getElem_cons hkd]; rfl
  have hb := s[k].toNat_lt
  (repeat (refine And.intro (by first | omega | exact inR_of (by omega) (by omega) | exact ⟨by omega, by omega⟩ | exact ⟨by omega, by omega, by omega⟩ | rfl) ?_))
  rw [show (k : Int).toNat = k by omega, byteAt_eq hkl, and_127 _ hb, shl_7k _ k (by omega) (by omega), or_acc _ _ k (by omega) (by omega) hacc]
  rw [hdrop, rdNumAt, if_neg (by omega)] at hrd
  have hp1 : 128 ^ k ≤ 128 ^ 8 := Nat.pow_le_pow_right (by omega) (by omega)
  have hp2 : s[k].toNat % 128 * 128 ^ k ≤ 127 * 128 ^ 8 := Nat.mul_le_mul (by omega) hp1
  have hp3 : acc + s[k].toNat % 128 * 128 ^ k < 128 ^ (k + 1) := by
   have : s[k].toNat % 128 * 128 ^ k ≤ 127 * 128 ^ k := Nat.mul_le_mul (by omega) (Nat.le_refl _)
   rw [Nat.pow_succ]; omega
  have hsm : ¬ 128 ≤ s[k].toNat → s[k].toNat % 128 = s[k].toNat := fun h => Nat.mod_eq_of_lt (by omega)
  have hA : ¬ 128 ≤ s[k].toNat → ¬ (0 < k ∧ s[k].toNat = 0) → (4611686018427387904 : Int) < ((acc + s[k].toNat % 128 * 128 ^ k : Nat) : Int) → AV.tup [.int .i64 0, .int .i64 0] = nums (rdNum s.data.toList) := by
   intro h1 h2 h3
   rw [hsm h1] at h3
   rw [hrd, if_neg h2, if_neg h1, if_pos (by omega)]; rfl
  have hB : ¬ 128 ≤ s[k].toNat → ¬ (0 < k ∧ s[k].toNat = 0) → ¬ (4611686018427387904 : Int) < ((acc + s[k].toNat % 128 * 128 ^ k : Nat) : Int) → inR ((k : Int) + 1) ∧ AV.tup [.int .i64 (IntKind.i64.wrap ((acc + s[k].toNat % 128 * 128 ^ k : Nat) : Int)), .int .i64 ((k : Int) + 1)] = nums (rdNum s.data.toList) := by
   intro h1 h2 h3
   rw [hsm h1] at h3 ⊢
   refine ⟨inR_of (by omega) (by omega), ?_⟩
   rw [hrd, if_neg h2, if_neg h1, if_neg (by omega), wrap_small (by omega) (by omega)]
   rfl
  refine ⟨fun hc => ⟨inR_of (by omega) (by omega), 9 - (k + 1), by omega, k + 1, _, by omega, rfl, by omega, hp3, rfl, ?_⟩, fun hc => ⟨fun h0 => ⟨fun hz => ⟨hA (by omega) (by omega), hB (by omega) (by omega)⟩, fun hz => ?_⟩, fun h0 => ⟨hA (by omega) (by omega), hB (by omega) (by omega)⟩⟩⟩
  ·rw [hrd, if_neg (by omega), if_pos (by omega)]
  ·rw [hrd, if_pos (by omega)]; rfl
 ·rw [hrd, rdNumAt_nine (by omega)]; rfl
 ·rw [hrd, List.drop_eq_nil_of_le (by simp; omega)]; rfl
theorem a_from {h : Hp} (S : ByteArray) : ACalls Try.prog 87 [.str S] h (fun a h' => a = .ptr h.length 0 ∧ h' = h ++ [iObj S (false, 0)]) := by
 refine acalls_of mixed F_pack_From_ok (Nat.le_of_ble_eq_true rfl) ?_; simp only [F_pack_From, wk,Nat.reduceAdd,Nat.reduceLeDiff,reduceCtorEq,↓reduceIte]
 rfl
theorem a_left {h : Hp} {id : Nat} {S : ByteArray} {s : Bool × Nat} (ho : h[id]? = some (iObj S s)) (hs : S.size ≤ 1000000000000) (hp : s.2 ≤ S.size) :
  ACalls Try.prog 111 [.ptr id 0] h (fun a h' => a = .int .i64 (if s.1 then 0 else ((S.size - s.2 : Nat) : Int)) ∧ h = h') := by
 obtain ⟨bad, p⟩ := s
 simp only [iObj] at ho hp ⊢
 refine acalls_of mixed F_pack_In_Left_ok (Nat.le_of_ble_eq_true rfl) ?_; simp only [F_pack_In_Left, wk,reduceCtorEq,↓reduceIte]
 refine ACalls.use (a_well ho) ?_; rintro _ _ ⟨rfl, rfl⟩; simp only [wk,Nat.reduceEqDiff,reduceCtorEq,↓reduceIte, ho]
 refine ⟨fun hb => ?_, fun hb => ?_⟩ <;> subst hb
 ·rfl
 ·exact ⟨inR_of (by omega) (by omega), int_eq (by simp; omega)⟩
theorem a_idone {h : Hp} {id : Nat} {S : ByteArray} {s : Bool × Nat} (ho : h[id]? = some (iObj S s)) (hs : S.size ≤ 1000000000000) (hp : s.2 ≤ S.size) :
  ACalls Try.prog 90 [.ptr id 0] h (fun a h' => a = .int .i64 (eI (s.1 || decide (s.2 < S.size))) ∧ h' = h.set id (iObj S (s.1 || decide (s.2 < S.size), s.2))) := by
 obtain ⟨bad, p⟩ := s
 simp only [iObj] at ho hp ⊢
 refine acalls_of mixed F_pack_In_Done_ok (Nat.le_of_ble_eq_true rfl) ?_; simp only [F_pack_In_Done, wk,reduceCtorEq,↓reduceIte]
 refine ACalls.use (a_left (s := (bad, p)) ho hs hp) ?_; rintro _ _ ⟨rfl, rfl⟩; simp only [wk,reduceCtorEq,↓reduceIte, ho]
 have hself' := hself ho
 cases bad with
 | true => exact ⟨fun h => absurd h (by simp), fun _ => ⟨rfl, hself'.symm⟩⟩
 | false =>
  refine ⟨fun hl => ?_, fun hl => ?_⟩
  ·have hlt : p < S.size := by simp at hl; omega
   refine ACalls.use (a_fail ho) ?_; rintro _ _ ⟨rfl, rfl⟩; simp only [wk,reduceCtorEq,↓reduceIte, hset ho]
   rw [decide_eq_true hlt]; exact ⟨rfl, rfl⟩
  ·have hlt : ¬ p < S.size := by simp at hl; omega
   rw [decide_eq_false hlt]; exact ⟨rfl, hself'.symm⟩
def stO {α : Type} (r : Option (α × Nat)) (q : Nat) : Bool × Nat :=
 match r with
 | some (_, p) => (false, p)
 | none => (true, q)
def vI : Option (Nat × Nat) → AV
 | some (n, _) => .int .i64 n
 | none => .int .i64 0
def vS : Option (ByteArray × Nat) → AV
 | some (s, _) => .str s
 | none => .str ⟨#[]⟩
def rNum (S : ByteArray) (most : Int) (p : Nat) : Option (Nat × Nat) :=
 match rdNum (S.data.toList.drop p) with
 | some (n, m) => if (n : Int) ≤ most then some (n, p + m) else none
 | none => none
theorem extract_end (S : ByteArray) (p : Nat) : (S.extract p S.size).data.toList = S.data.toList.drop p := by
 simp only [ByteArray.data_extract, Array.toList_extract, List.extract_eq_take_drop]
 rw [List.take_of_length_le (by simp)]
theorem rNum_le {S : ByteArray} {most : Int} {p n q : Nat} (h : rNum S most p = some (n, q)) (hp : p ≤ S.size) : p < q ∧ q ≤ S.size ∧ n ≤ 4611686018427387904 ∧ (n : Int) ≤ most := by
 unfold rNum at h
 split at h
 ·next n' m hr =>
  have := rdNumAt_size _ _ _ _ _ hr
  simp at this
  split at h
  ·simp only [Option.some.injEq, Prod.mk.injEq] at h; omega
  ·cases h
 ·cases h
theorem a_inum {h : Hp} {id : Nat} {S : ByteArray} {s : Bool × Nat} (most : Int) (ho : h[id]? = some (iObj S s)) (hs : S.size ≤ 1000000000000) (hp : s.2 ≤ S.size) :
  ACalls Try.prog 88 [.ptr id 0, .int .i64 most] h (fun a h' => a = vI (if s.1 then none else rNum S most s.2) ∧ h' = h.set id (iObj S (stO (if s.1 then none else rNum S most s.2) s.2))) := by
 obtain ⟨bad, p⟩ := s
 simp only [iObj] at ho hp ⊢
 refine acalls_of mixed F_pack_In_Num_ok (Nat.le_of_ble_eq_true rfl) ?_; simp only [F_pack_In_Num, wk,Nat.reduceEqDiff,Nat.reduceAdd,reduceCtorEq,↓reduceIte]
 refine ACalls.use (a_well ho) ?_; rintro _ _ ⟨rfl, rfl⟩; simp only [wk,Nat.reduceEqDiff,reduceCtorEq,↓reduceIte, ho]
 refine ⟨fun hb => ?_, fun hb => ?_⟩ <;> subst hb
 ·exact ⟨rfl, (hself ho).symm⟩
 refine ⟨⟨by omega, by omega, by omega⟩, ?_⟩
 rw [show (p : Int).toNat = p by omega, show (S.size : Int).toNat = S.size by omega]
 refine ⟨_, p_number (S.extract p S.size) (by simp; omega), ?_⟩
 rw [extract_end]
 simp only [rNum, Bool.false_eq_true, if_false]
 cases hr : rdNum (S.data.toList.drop p) with
 | none =>
  simp only [wk,Nat.reduceEqDiff,reduceCtorEq,↓reduceIte, nums]
  refine ACalls.use (a_fail ho) ?_; rintro _ _ ⟨rfl, rfl⟩; simp only [wk,↓reduceIte]
  exact ⟨rfl, rfl⟩
 | some nm =>
  obtain ⟨n, m⟩ := nm
  have hsz := rdNumAt_size _ _ _ _ _ hr
  simp at hsz
  simp only [wk,Nat.reduceEqDiff,reduceCtorEq,↓reduceIte, nums]
  refine ⟨fun hm => ⟨fun hgt => ?_, fun hle => ?_⟩, fun hm => by omega⟩
  ·refine ACalls.use (a_fail ho) ?_; rintro _ _ ⟨rfl, rfl⟩; simp only [wk,↓reduceIte]
   rw [if_neg (by omega)]; exact ⟨rfl, rfl⟩
  ·simp only [wk,Nat.reduceEqDiff,Nat.reduceAdd,Nat.reduceLeDiff,reduceCtorEq,↓reduceIte, ho]
   (repeat (refine And.intro (by first | omega | exact inR_of (by omega) (by omega) | exact ⟨by omega, by omega⟩ | exact ⟨by omega, by omega, by omega⟩ | rfl) ?_))
   rw [if_pos (by omega)]
   exact ⟨rfl, rfl⟩
theorem a_take {h : Hp} {id : Nat} {S : ByteArray} {s : Bool × Nat} (n : Nat) (ho : h[id]? = some (iObj S s)) (hs : S.size ≤ 1000000000000) (hp : s.2 ≤ S.size) (hn : n ≤ 4611686018427387904) :
  ACalls Try.prog 127 [.ptr id 0, .int .i64 n] h (fun a h' => a = vS (if s.1 ∨ S.size < s.2 + n then none else some (S.extract s.2 (s.2 + n), s.2 + n)) ∧ h' = h.set id (iObj S (stO (if s.1 ∨ S.size < s.2 + n then none else some (S.extract s.2 (s.2 + n), s.2 + n)) s.2))) := by
 obtain ⟨bad, p⟩ := s
 simp only [iObj] at ho hp ⊢
 refine acalls_of mixed F_pack_In_take_ok (Nat.le_of_ble_eq_true rfl) ?_; simp only [F_pack_In_take, wk,Nat.reduceEqDiff,Nat.reduceAdd,reduceCtorEq,↓reduceIte]
 refine ⟨_, _, (a_well ho).mono (fun _ _ h => ⟨h.1, h.2.symm⟩), SealEq.refl h, ?_⟩
 simp only [wk,Nat.reduceEqDiff,reduceCtorEq,↓reduceIte, ho]
 refine ⟨fun hb => ⟨inR_of (by omega) (by omega), fun hgt => ?_, fun hle => ?_⟩, fun hb => ?_⟩ <;> subst hb
 ·refine ACalls.use (a_fail ho) ?_; rintro _ _ ⟨rfl, rfl⟩; simp only [wk,Nat.reduceEqDiff,reduceCtorEq,↓reduceIte]
  refine ACalls.use (a_well (hset ho _)) ?_; rintro _ _ ⟨rfl, rfl⟩; simp only [wk,Nat.reduceEqDiff,reduceCtorEq,↓reduceIte]
  rw [if_pos (Or.inr (by omega))]; exact ⟨rfl, rfl⟩
 ·refine ACalls.use (a_well ho) ?_; rintro _ _ ⟨rfl, rfl⟩; simp only [wk,Nat.reduceEqDiff,Nat.reduceAdd,Nat.reduceLeDiff,reduceCtorEq,↓reduceIte, ho]
  (repeat (refine And.intro (by first | omega | exact inR_of (by omega) (by omega) | exact ⟨by omega, by omega⟩ | exact ⟨by omega, by omega, by omega⟩ | rfl) ?_))
  rw [if_neg (by simp; omega), show (p : Int).toNat = p by omega, show ((p : Int) + n).toNat = p + n by omega]
  exact ⟨rfl, rfl⟩
 ·refine ACalls.use (a_well ho) ?_; rintro _ _ ⟨rfl, rfl⟩; simp only [wk,Nat.reduceEqDiff,reduceCtorEq,↓reduceIte]
  exact ⟨rfl, (hself ho).symm⟩
end Go.Proofs.Ytpiofcjkekpboaa
/- What pack's In does: counts, texts, words, sets. -/
-- tight
namespace Go.Proofs.Ytpiofcjkekpboaa
open Go.RowKit Go.Lib

def rTake (S : ByteArray) (n p : Nat) : Option (ByteArray × Nat) := if S.size < p + n then none else some (S.extract p (p + n), p + n)
theorem a_take' {h : Hp} {id : Nat} {S : ByteArray} {s : Bool × Nat} (n : Nat) (ho : h[id]? = some (iObj S s)) (hs : S.size ≤ 1000000000000) (hp : s.2 ≤ S.size) (hn : n ≤ 4611686018427387904) :
  ACalls Try.prog 127 [.ptr id 0, .int .i64 n] h (fun a h' => a = vS (if s.1 then none else rTake S n s.2) ∧ h' = h.set id (iObj S (stO (if s.1 then none else rTake S n s.2) s.2))) := by
 have := a_take n ho hs hp hn
 have e : (if s.1 = true ∨ S.size < s.2 + n then none else some (S.extract s.2 (s.2 + n), s.2 + n)) = (if s.1 = true then none else rTake S n s.2) := by
  unfold rTake
  by_cases h1 : s.1 = true
  ·rw [if_pos (Or.inl h1), if_pos h1]
  ·rw [if_neg h1]
   by_cases h2 : S.size < s.2 + n
   ·rw [if_pos (Or.inr h2), if_pos h2]
   ·rw [if_neg (by simp [h1, h2]), if_neg h2]
 rw [e] at this
 exact this
def rCount (S : ByteArray) (most p : Nat) : Option (Nat × Nat) := if S.size < p + 1 then none else if 1 ≤ byteAt S p ∧ byteAt S p ≤ most then some (byteAt S p, p + 1) else none
def qCount (S : ByteArray) (bad : Bool) (p : Nat) : Nat := if bad ∨ S.size < p + 1 then p else p + 1
theorem byteAt_extract {S : ByteArray} {p n : Nat} (h : p + n ≤ S.size) (hn : 0 < n) : byteAt (S.extract p (p + n)) 0 = byteAt S p := by
 rw [byteAt_eq (by simp; omega), byteAt_eq (by omega)]
 simp [ByteArray.getElem_extract]
theorem byteAt_lt (S : ByteArray) (p : Nat) : byteAt S p < 256 := by
 unfold byteAt
 cases S.data.toList[p]? with
 | none => simp
 | some b => exact b.toNat_lt
theorem wrap_byte (n : Nat) (h : n < 256) : IntKind.i64.wrap (n : Int) = n := by rw [IntKind.wrap_i64]; omega
theorem a_count {h : Hp} {id : Nat} {S : ByteArray} {s : Bool × Nat} (most : Nat) (ho : h[id]? = some (iObj S s)) (hs : S.size ≤ 1000000000000) (hp : s.2 ≤ S.size) :
  ACalls Try.prog 109 [.ptr id 0, .int .i64 most] h (fun a h' => a = vI (if s.1 then none else rCount S most s.2) ∧ h' = h.set id (iObj S (stO (if s.1 then none else rCount S most s.2) (qCount S s.1 s.2)))) := by
 obtain ⟨bad, p⟩ := s
 refine acalls_of mixed F_pack_In_count_ok (Nat.le_of_ble_eq_true rfl) ?_; simp only [F_pack_In_count, wk,Nat.reduceEqDiff,Nat.reduceAdd,reduceCtorEq,↓reduceIte]
 refine ACalls.use (a_take' (s := (bad, p)) 1 ho hs hp (by omega)) ?_; rintro _ _ ⟨rfl, rfl⟩; simp only [wk,Nat.reduceEqDiff,reduceCtorEq,↓reduceIte]
 have hbt := byteAt_lt S p
 cases bad with
 | true =>
  simp only [stO, vS, wk,↓reduceIte]
  refine ACalls.use (a_well (bad := true) (hset ho _)) ?_; rintro _ _ ⟨rfl, rfl⟩; simp only [wk,Nat.reduceEqDiff,reduceCtorEq,↓reduceIte]
  exact ⟨rfl, by simp [qCount]⟩
 | false =>
  simp only [Bool.false_eq_true, if_false, rTake, rCount, qCount, false_or]
  by_cases hz : S.size < p + 1
  ·simp only [if_pos hz, stO, vS, wk]
   refine ACalls.use (a_well (bad := true) (hset ho _)) ?_; rintro _ _ ⟨rfl, rfl⟩; simp only [wk,Nat.reduceEqDiff,reduceCtorEq,↓reduceIte]
   rfl
  ·simp only [if_neg hz, stO, vS, wk]
   refine ACalls.use (a_well (bad := false) (hset ho _)) ?_; rintro _ _ ⟨rfl, rfl⟩; simp only [wk,Nat.reduceEqDiff,Int.reduceLE,reduceCtorEq,↓reduceIte]
   refine ⟨by simp; omega, ?_⟩
   rw [byteAt_extract (by omega) (by omega), wrap_byte _ hbt]
   refine ⟨fun h1 => ⟨fun h2 => ?_, fun h2 => ?_⟩, fun h1 => ?_⟩
   ·refine ACalls.use (a_fail (hset ho _)) ?_; rintro _ _ ⟨rfl, rfl⟩; simp only [wk,↓reduceIte]
    rw [if_neg (by omega)]; exact ⟨rfl, rfl⟩
   ·rw [if_pos (by omega)]; exact ⟨rfl, rfl⟩
   ·refine ACalls.use (a_fail (hset ho _)) ?_; rintro _ _ ⟨rfl, rfl⟩; simp only [wk,↓reduceIte]
    rw [if_neg (by omega)]; exact ⟨rfl, rfl⟩
def rWord (S : ByteArray) (p : Nat) : Option (ByteArray × Nat) :=
 if S.size < p + 1 then none else if S.size < p + 1 + 2 * byteAt S p then none else
 if wordMay (S.extract (p + 1) (p + 1 + 2 * byteAt S p)) then some (S.extract (p + 1) (p + 1 + 2 * byteAt S p), p + 1 + 2 * byteAt S p) else none
theorem rWord_eq (S : ByteArray) (p : Nat) : rWord S p = match rCount S 8 p with
  | some (n, q) => (match rTake S (2 * n) q with
   | some (w, q') => if wordMay w then some (w, q') else none
   | none => none)
  | none => none := by
 unfold rWord rCount
 by_cases h1 : S.size < p + 1
 ·rw [if_pos h1, if_pos h1]
 ·rw [if_neg h1, if_neg h1]
  by_cases h2 : 1 ≤ byteAt S p ∧ byteAt S p ≤ 8
  ·rw [if_pos h2]
   simp only [rTake]
   by_cases h3 : S.size < p + 1 + 2 * byteAt S p
   ·rw [if_pos h3, if_pos h3]
   ·rw [if_neg h3, if_neg h3]
  ·rw [if_neg h2]
   by_cases h3 : S.size < p + 1 + 2 * byteAt S p
   ·rw [if_pos h3]
   ·rw [if_neg h3, if_neg]
    intro hw
    have := wordMay_size hw
    simp at this
    omega
theorem wordMay_empty : wordMay ⟨#[]⟩ = false := by
 cases h : wordMay ⟨#[]⟩ with
 | false => rfl
 | true => have := wordMay_size h; exact absurd this.2.1 (by decide)
theorem rTake_le {S w : ByteArray} {n p q : Nat} (h : rTake S n p = some (w, q)) : q = p + n ∧ q ≤ S.size ∧ w = S.extract p q := by
 unfold rTake at h
 split at h
 ·cases h
 ·simp only [Option.some.injEq, Prod.mk.injEq] at h; obtain ⟨rfl, rfl⟩ := h; exact ⟨rfl, by omega, rfl⟩
theorem rCount_le {S : ByteArray} {most n p q : Nat} (h : rCount S most p = some (n, q)) : q = p + 1 ∧ q ≤ S.size ∧ 1 ≤ n ∧ n ≤ most ∧ n = byteAt S p := by
 unfold rCount at h
 split at h
 ·cases h
 ·split at h
  ·simp only [Option.some.injEq, Prod.mk.injEq] at h; omega
  ·cases h
theorem qCount_le {S : ByteArray} {bad : Bool} {p : Nat} (hp : p ≤ S.size) : qCount S bad p ≤ S.size := by
 unfold qCount
 split
 ·exact hp
 ·next h => simp at h; omega
def rWords (S : ByteArray) (p : Nat) : Nat → Option (List ByteArray × Nat)
 | 0 => some ([], p)
 | k + 1 => match rWords S p k with
  | some (l, q) => (match rWord S q with
   | some (w, q') => some (l ++ [w], q')
   | none => none)
  | none => none
def rSet (S : ByteArray) (p : Nat) : Option (List ByteArray × Nat) :=
 if S.size < p + 1 then none else
 match rWords S (p + 1) (byteAt S p) with
 | some (l, q) => if setMay l then some (l, q) else none
 | none => none
theorem rWord_le {S w : ByteArray} {p q : Nat} (h : rWord S p = some (w, q)) : p < q ∧ q ≤ S.size ∧ wordMay w = true ∧ w = S.extract (p + 1) q ∧ q = p + 1 + 2 * byteAt S p := by
 unfold rWord at h
 split at h
 ·cases h
 ·split at h
  ·cases h
  ·split at h
   ·next hw =>
    simp only [Option.some.injEq, Prod.mk.injEq] at h
    obtain ⟨rfl, rfl⟩ := h
    exact ⟨by omega, by omega, hw, rfl, rfl⟩
   ·cases h
theorem rWords_le {S : ByteArray} {p : Nat} (hp : p ≤ S.size) : ∀ {k : Nat} {l : List ByteArray} {q : Nat}, rWords S p k = some (l, q) → l.length = k ∧ p ≤ q ∧ q ≤ S.size ∧ ∀ w ∈ l, wordMay w = true
 | 0, l, q, h => by
  simp only [rWords, Option.some.injEq, Prod.mk.injEq] at h
  obtain ⟨rfl, rfl⟩ := h
  exact ⟨rfl, Nat.le_refl _, hp, fun w hw => by simp at hw⟩
 | k + 1, l, q, h => by
  simp only [rWords] at h
  split at h
  ·next l' q' hr =>
   have ih := rWords_le hp hr
   split at h
   ·next w q2 hr2 =>
    simp only [Option.some.injEq, Prod.mk.injEq] at h
    obtain ⟨rfl, rfl⟩ := h
    have h2 := rWord_le hr2
    refine ⟨by simp; omega, by omega, h2.2.1, fun x hx => ?_⟩
    simp only [List.mem_append, List.mem_singleton] at hx
    rcases hx with hx | rfl
    ·exact ih.2.2.2 x hx
    ·exact h2.2.2.1
   ·cases h
  ·cases h
def vL : Option (List ByteArray × Nat) → AV
 | some (l, _) => .lst .ro l.length (l.map .str)
 | none => .lst .clip 0 []
theorem rSet_eq (S : ByteArray) (p : Nat) (hp : p ≤ S.size) : rSet S p = match rCount S 16 p with
  | some (n, q) => (match rWords S q n with
   | some (l, q') => if setMay l then some (l, q') else none
   | none => none)
  | none => none := by
 unfold rSet rCount
 by_cases h1 : S.size < p + 1
 ·rw [if_pos h1, if_pos h1]
 ·rw [if_neg h1, if_neg h1]
  by_cases h2 : 1 ≤ byteAt S p ∧ byteAt S p ≤ 16
  ·rw [if_pos h2]
  ·rw [if_neg h2]
   cases hr : rWords S (p + 1) (byteAt S p) with
   | none => rfl
   | some x =>
    obtain ⟨l, q⟩ := x
    have := rWords_le (by omega) hr
    simp only
    rw [if_neg]
    intro hm
    have := (setMay_words hm).1
    omega
theorem vS_str (r : Option (ByteArray × Nat)) : ∃ w, vS r = .str w ∧ (∀ x q, r = some (x, q) → x = w) := by
 cases r with
 | none => exact ⟨_, rfl, fun _ _ h => by cases h⟩
 | some x => exact ⟨_, rfl, fun _ _ h => by cases h; rfl⟩
theorem hnew (h : Hp) (x : Option (Bool × List AV)) : (h ++ [x])[h.length]? = some x := by simp
theorem hold {h : Hp} {i : Nat} {y : Option (Bool × List AV)} (x : Option (Bool × List AV)) (ho : h[i]? = some y) : (h ++ [x])[i]? = some y := by
 rw [List.getElem?_append_left (List.getElem?_eq_some_iff.1 ho).1, ho]
theorem hlt_of {h : Hp} {i : Nat} {y : Option (Bool × List AV)} (ho : h[i]? = some y) : i < h.length := (List.getElem?_eq_some_iff.1 ho).1
end Go.Proofs.Ytpiofcjkekpboaa
