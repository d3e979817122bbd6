/- Texts of one proof, laid together: Ab14 Ab15 Ab16 Ab17 FnP Pw Ak FnS Sr Ss St Sa FnC Po Pi Pj Pb Pc. -/
import Derived.Test.YtpjlkefadnbgdaaMW12
import Derived.Test.YtpjlkefadnbgdaaProg
import Derived.Test.YtpjlkefadnbgdaaMW3
import Derived.Test.YtpjlkefadnbgdaaMW9

/- The abstract layer, fifteenth part: how code is walked. -/
namespace Go.Proofs.Ytpjlkefadnbgdaa
set_option linter.unusedSimpArgs false
set_option linter.unusedVariables false
open Go.RowKit Go.Lib

section
variable (P : Program)
theorem W_skip (fr : Fr) (h : Hp) (Q : Exit → Fr → Hp → Prop) : W P .skip fr h Q = Q .normal fr h := id rfl
theorem W_ops (l : List AStm) (fr : Fr) (h : Hp) (Q : Exit → Fr → Hp → Prop) : W P (.ops l) fr h Q = WOps P l fr h (Q .normal) := id rfl
theorem W_draw (v : List Nat) (l : List AStm) (fr : Fr) (h : Hp) (Q : Exit → Fr → Hp → Prop) : W P (.draw v l) fr h Q = VOps P l fr h (kdraw v Q) := id rfl
theorem W_seq (a b : ACode) (fr : Fr) (h : Hp) (Q : Exit → Fr → Hp → Prop) : W P (.seq a b) fr h Q = W P a fr h (kseq P b Q) := id rfl
theorem W_cond (c : Opd) (a b : ACode) (fr : Fr) (h : Hp) (Q : Exit → Fr → Hp → Prop) : W P (.cond c a b) fr h Q = match ev fr c with
    | some (.bool p) => (p = true → W P a fr h Q) ∧ (p = false → W P b fr h Q)
    | _ => False := id rfl
theorem W_block (i : Nat) (a : ACode) (fr : Fr) (h : Hp) (Q : Exit → Fr → Hp → Prop) : W P (.block i a) fr h Q = W P a fr h (kblock i Q) := id rfl
theorem W_exit (i : Nat) (fr : Fr) (h : Hp) (Q : Exit → Fr → Hp → Prop) : W P (.exit i) fr h Q = Q (.exit i) fr h := id rfl
theorem W_ret (fr : Fr) (h : Hp) (Q : Exit → Fr → Hp → Prop) : W P .ret fr h Q = Q .ret fr h := id rfl
theorem W_keep (l : List Nat) (a : ACode) (fr : Fr) (h : Hp) (Q : Exit → Fr → Hp → Prop) : W P (.keep l a) fr h Q = W P a (restr l fr) h Q := id rfl
theorem W_loop {P : Program} {vars : List Nat} {a : ACode} {fr : Fr} {h : Hp} {Q : Exit → Fr → Hp → Prop} (I : Nat → Fr → Hp → Prop) (n : Nat) (h0 : I n (restr vars fr) h) (hr : ∀ n fr h, I n fr h → W P a fr h (kloop vars I n Q)) : W P (.loop vars a) fr h Q := ⟨I, ⟨n, h0⟩, hr⟩
theorem kseq_normal (b : ACode) (Q : Exit → Fr → Hp → Prop) (fr : Fr) (h : Hp) : kseq P b Q .normal fr h = W P b fr h Q := id rfl
theorem kseq_exit (b : ACode) (Q : Exit → Fr → Hp → Prop) (i : Nat) (fr : Fr) (h : Hp) : kseq P b Q (.exit i) fr h = Q (.exit i) fr h := id rfl
theorem kseq_ret (b : ACode) (Q : Exit → Fr → Hp → Prop) (fr : Fr) (h : Hp) : kseq P b Q .ret fr h = Q .ret fr h := id rfl
theorem kblock_normal (i : Nat) (Q : Exit → Fr → Hp → Prop) (fr : Fr) (h : Hp) : kblock i Q .normal fr h = Q .normal fr h := id rfl
theorem kblock_exit (i j : Nat) (Q : Exit → Fr → Hp → Prop) (fr : Fr) (h : Hp) : kblock i Q (.exit j) fr h = if j = i then Q .normal fr h else Q (.exit j) fr h := id rfl
theorem kblock_ret (i : Nat) (Q : Exit → Fr → Hp → Prop) (fr : Fr) (h : Hp) : kblock i Q .ret fr h = Q .ret fr h := id rfl
theorem kloop_normal (v : List Nat) (I : Nat → Fr → Hp → Prop) (n : Nat) (Q : Exit → Fr → Hp → Prop) (fr : Fr) (h : Hp) : kloop v I n Q .normal fr h = ∃ m, m < n ∧ I m (restr v fr) h := id rfl
theorem kloop_exit (v : List Nat) (I : Nat → Fr → Hp → Prop) (n : Nat) (Q : Exit → Fr → Hp → Prop) (i : Nat) (fr : Fr) (h : Hp) : kloop v I n Q (.exit i) fr h = Q (.exit i) fr h := id rfl
theorem kloop_ret (v : List Nat) (I : Nat → Fr → Hp → Prop) (n : Nat) (Q : Exit → Fr → Hp → Prop) (fr : Fr) (h : Hp) : kloop v I n Q .ret fr h = Q .ret fr h := id rfl
theorem kret_normal (rs : List RV) (R : AV → Hp → Prop) (fr : Fr) (h : Hp) : kret rs R .normal fr h = resL fr h rs (res1 (fun a => R a h)) := id rfl
theorem kret_ret (rs : List RV) (R : AV → Hp → Prop) (fr : Fr) (h : Hp) : kret rs R .ret fr h = resL fr h rs (res1 (fun a => R a h)) := id rfl
theorem kdraw_eq (v : List Nat) (Q : Exit → Fr → Hp → Prop) (fr : Fr) (h : Hp) : kdraw v Q fr h = Q .normal (restr v fr) h := id rfl
theorem kval_eq (d : Option Nat) (fr : Fr) (h : Hp) (K : Fr → Hp → Prop) (a : AV) : kval d fr h K a = K (put d a fr) h := id rfl
theorem kv_eq (h : Hp) (R : AV → Hp → Prop) (a : AV) : kv h R a = R a h := id rfl
theorem kput_eq (d : Option Nat) (o : AOp) (fr : Fr) (K : Fr → Hp → Prop) (a : AV) (h : Hp) : kput d o fr K a h = K (put d a (tk o fr)) h := id rfl
theorem kbox_eq (d : Option Nat) (fr : Fr) (h : Hp) (K : Fr → Hp → Prop) (l : List AV) : kbox d fr h K l = K (put d (.ptr h.length 0) fr) (h ++ [some (false, l)]) := id rfl
theorem kobj_eq (h : Hp) (R : AV → Hp → Prop) (l : List AV) : kobj h R l = R (.ptr h.length 0) (h ++ [some (false, l)]) := id rfl
theorem klst_eq (d : Option Nat) (e n : Nat) (fr : Fr) (h : Hp) (K : Fr → Hp → Prop) (l : List AV) : klst d e n fr h K l = K (put d (.lst (.own e) n l) fr) h := id rfl
theorem krow_eq (e n : Nat) (h : Hp) (R : AV → Hp → Prop) (l : List AV) : krow e n h R l = R (.lst (.own e) n l) h := id rfl
theorem kcall_eq (d : Option Nat) (fr : Fr) (K : Fr → Hp → Prop) (a : AV) (h : Hp) : kcall d fr K a h = K (put d a fr) h := id rfl
theorem put_some (k : Nat) (a : AV) (fr : Fr) : put (some k) a fr = (k, a) :: fr := id rfl
theorem put_none (a : AV) (fr : Fr) : put none a fr = fr := id rfl
theorem lk_nil (k : Nat) : lk [] k = none := id rfl
theorem restr_nil (fr : Fr) : restr [] fr = [] := id rfl
theorem restr_cons (k : Nat) (r : List Nat) (fr : Fr) : restr (k :: r) fr = match lk fr k with
    | some a => (k, a) :: restr r fr
    | none => restr r fr := id rfl
theorem ev_t (fr : Fr) (k : Nat) : ev fr (.t k) = (lk fr k).map deg := id rfl
theorem ev_c (fr : Fr) (a : AV) : ev fr (.c a) = some a := id rfl
theorem ev_f (fr : Fr) (i : FuncId) : ev fr (.f i) = some (.fn i []) := id rfl
theorem evs_nil (fr : Fr) : evs fr [] = some [] := id rfl
theorem evs_cons (fr : Fr) (x : Opd) (r : List Opd) : evs fr (x :: r) = match ev fr x, evs fr r with
    | some a, some l => some (a :: l)
    | _, _ => none := id rfl
theorem evD_none (fr : Fr) (d : AV) : evD fr d none = some d := id rfl
theorem evD_some (fr : Fr) (d : AV) (x : Opd) : evD fr d (some x) = ev fr x := id rfl
theorem degr_nil (k : Nat) : degr k [] = [] := id rfl
theorem degr_cons (k j : Nat) (a : AV) (r : Fr) : degr k ((j, a) :: r) = (j, if j = k then deg a else a) :: degr k r := id rfl
theorem args0_nil (k : Nat) : args0 k [] = [] := id rfl
theorem args0_cons (k : Nat) (a : AV) (l : List AV) : args0 k (a :: l) = (k, a) :: args0 (k + 1) l := id rfl
theorem buildK_nil (fr : Fr) (t : List AV) (K : List AV → Prop) : buildK fr t [] K = K t := id rfl
theorem buildK_cons (fr : Fr) (t : List AV) (o s : Nat) (x : Opd) (r : List (Nat × Nat × Opd)) (K : List AV → Prop) : buildK fr t ((o, s, x) :: r) K = match ev fr x with
    | some a => (isTup a = false ∧ (cellsOf a).length = s ∧ o + s ≤ t.length) ∧ buildK fr (splice t o (cellsOf a)) r K
    | none => False := id rfl
theorem upgK_nil (l : List AV) (K : List AV → Prop) : upgK [] l K = K l := id rfl
theorem upgK_cons (i e s : Nat) (r : List (Nat × Nat × Nat)) (l : List AV) (K : List AV → Prop) : upgK ((i, e, s) :: r) l K = match l[i]? with
    | some (.lst .clip n c) => c.length = n * s ∧ upgK r (l.set i (.lst (.own e) n c)) K
    | _ => False := id rfl
theorem resL_nil (fr : Fr) (h : Hp) (K : List AV → Prop) : resL fr h [] K = K [] := id rfl
theorem resL_t (fr : Fr) (h : Hp) (k : Nat) (r : List RV) (K : List AV → Prop) : resL fr h (.t k :: r) K = match ev fr (.t k) with
    | some a => resL fr h r (fun l => K (a :: l))
    | none => False := id rfl
theorem resL_c (fr : Fr) (h : Hp) (k : Nat) (s : Option Nat) (r : List RV) (K : List AV → Prop) : resL fr h (.c k s :: r) K = val fr h (.load s (.t k)) (fun a => resL fr h r (fun l => K (a :: l))) := id rfl
theorem res1_one (K : AV → Prop) (a : AV) : res1 K [a] = K a := id rfl
theorem res1_nil (K : AV → Prop) : res1 K [] = K (.tup []) := id rfl
theorem res1_two (K : AV → Prop) (a b : AV) (l : List AV) : res1 K (a :: b :: l) = K (.tup (a :: b :: l)) := id rfl
end

theorem lk_cons' (j k : Nat) (a : AV) (r : Fr) : lk ((j, a) :: r) k = if j = k then some a else lk r k := id rfl
theorem splice_nil' {α : Type} (l : List α) (o : Nat) : splice l o [] = l := id rfl
theorem splice_cons' {α : Type} (l : List α) (o : Nat) (v : α) (r : List α) : splice l o (v :: r) = splice (l.set o v) (o + 1) r := id rfl
theorem WOps_nil' (P : Program) (fr : Fr) (h : Hp) (K : Fr → Hp → Prop) : WOps P [] fr h K = K fr h := id rfl
theorem WOps_cons' (P : Program) (d : Option Nat) (o : AOp) (f : Option (FB × List Nat)) (r : List AStm) (fr : Fr) (h : Hp) (K : Fr → Hp → Prop) : WOps P (⟨d, none, o, f⟩ :: r) fr h K = wop P d o fr h (kops P r K) := id rfl
theorem WOps_gd' (P : Program) (d : Option Nat) (q : Nat) (want : Bool) (o : AOp) (f : Option (FB × List Nat)) (r : List AStm) (fr : Fr) (h : Hp) (K : Fr → Hp → Prop) : WOps P (⟨d, some (q, want), o, f⟩ :: r) fr h K = match lk fr q with
      | some (.bool p) => (p = want → wop P d o ((q, .bool want) :: fr) h (kops P r K)) ∧ (p = !want → WOps P r (put d (.tup []) ((q, .bool (!want)) :: fr)) h K)
      | some (.tup []) => WOps P r (put d (.tup []) fr) h K
      | _ => False := id rfl
theorem kops_eq' (P : Program) (r : List AStm) (K : Fr → Hp → Prop) (fr : Fr) (h : Hp) : kops P r K fr h = WOps P r fr h K := id rfl
theorem VOps_nil' (P : Program) (fr : Fr) (h : Hp) (K : Fr → Hp → Prop) : VOps P [] fr h K = K fr h := id rfl
theorem VOps_cons' (P : Program) (d : Option Nat) (o : AOp) (r : List AStm) (fr : Fr) (h : Hp) (K : Fr → Hp → Prop) : VOps P (⟨d, none, o, none⟩ :: r) fr h K = eff P o fr h (kput d o fr (kvops P r K)) := id rfl
theorem VOps_gd' (P : Program) (d : Option Nat) (q : Nat) (want : Bool) (o : AOp) (r : List AStm) (fr : Fr) (h : Hp) (K : Fr → Hp → Prop) : VOps P (⟨d, some (q, want), o, none⟩ :: r) fr h K = match lk fr q with
      | some (.bool p) => (p = want → eff P o ((q, .bool want) :: fr) h (kput d o ((q, .bool want) :: fr) (kvops P r K))) ∧ (p = !want → VOps P r (put d (.tup []) ((q, .bool (!want)) :: fr)) h K)
      | some (.tup []) => VOps P r (put d (.tup []) fr) h K
      | _ => False := id rfl
theorem VOps_ft' (P : Program) (d : Option Nat) (o : AOp) (b : FB) (ps : List Nat) (r : List AStm) (fr : Fr) (h : Hp) (K : Fr → Hp → Prop) : VOps P (⟨d, none, o, some (b, ps)⟩ :: r) fr h K = (apart fr (fbId b fr h) ps ∧ effF P b o fr h (kput d o fr (kvops P r K))) := id rfl
theorem VOps_gdft' (P : Program) (d : Option Nat) (q : Nat) (want : Bool) (o : AOp) (b : FB) (ps : List Nat) (r : List AStm) (fr : Fr) (h : Hp) (K : Fr → Hp → Prop) : VOps P (⟨d, some (q, want), o, some (b, ps)⟩ :: r) fr h K = match lk fr q with
      | some (.bool p) => (p = want → apart ((q, .bool want) :: fr) (fbId b ((q, .bool want) :: fr) h) ps ∧ effF P b o ((q, .bool want) :: fr) h (kput d o ((q, .bool want) :: fr) (kvops P r K))) ∧ (p = !want → VOps P r (put d (.tup []) ((q, .bool (!want)) :: fr)) h K)
      | some (.tup []) => VOps P r (put d (.tup []) fr) h K
      | _ => False := id rfl
theorem apart_nil (fr : Fr) (i : Option Nat) : apart fr i [] = True := id rfl
theorem apart_cons (fr : Fr) (i : Option Nat) (p : Nat) (r : List Nat) : apart fr i (p :: r) = ((match i, ptrId (lk fr p) with
    | some a, some b => a ≠ b
    | _, _ => False) ∧ apart fr i r) := id rfl
theorem ptrId_ptr (i o : Nat) : ptrId (some (.ptr i o)) = some i := id rfl
theorem ptrId_hs (i n : Nat) : ptrId (some (.hs i n)) = some i := id rfl
theorem sameId_eq (x : Option AV) (i : Option Nat) : sameId x i = (match ptrId x, i with
  | some a, some b => a = b
  | _, _ => False) := id rfl
theorem fbId_s (k : Nat) (fr : Fr) (h : Hp) : fbId (.s k) fr h = ptrId (lk fr k) := id rfl
theorem fbId_h (k : Nat) (fr : Fr) (h : Hp) : fbId (.h k) fr h = if k < h.length then some (h.length - 1 - k) else none := id rfl
theorem effF_load (P : Program) (b : FB) (s : Option Nat) (x : Opd) (fr : Fr) (h : Hp) (R : AV → Hp → Prop) : effF P b (.load s x) fr h R = (sameId (ev fr x) (fbId b fr h) ∧ eff P (.load s x) fr h R) := id rfl
theorem effF_loado (P : Program) (b : FB) (x : Opd) (fr : Fr) (h : Hp) (R : AV → Hp → Prop) : effF P b (.loado x) fr h R = (sameId (ev fr x) (fbId b fr h) ∧ eff P (.loado x) fr h R) := id rfl
theorem effF_store (P : Program) (b : FB) (n : Nat) (a x : Opd) (fr : Fr) (h : Hp) (R : AV → Hp → Prop) : effF P b (.store n a x) fr h R = (sameId (ev fr a) (fbId b fr h) ∧ eff P (.store n a x) fr h R) := id rfl
theorem effF_stores (P : Program) (b : FB) (n : Nat) (a x : Opd) (fr : Fr) (h : Hp) (R : AV → Hp → Prop) : effF P b (.stores n a x) fr h R = (sameId (ev fr a) (fbId b fr h) ∧ eff P (.stores n a x) fr h R) := id rfl
theorem effF_storeo (P : Program) (b : FB) (a : Opd) (k : Nat) (fr : Fr) (h : Hp) (R : AV → Hp → Prop) : effF P b (.storeo a k) fr h R = (sameId (ev fr a) (fbId b fr h) ∧ eff P (.storeo a k) fr h R) := id rfl
theorem effF_calli (P : Program) (b : FB) (f : Opd) (args : List Opd) (fr : Fr) (h : Hp) (R : AV → Hp → Prop) : effF P b (.calli f args) fr h R = (match ev fr f, evs fr args, fbId b fr h with
    | some (.fn f' caps), some l, some id => ∃ v l0 l1, h[id]? = some (some (false, l0)) ∧ (∀ h0 : Hp, h0[id]? = some (some (false, l0)) → ACalls P f' (l ++ caps) h0 (fun a h' => a = v ∧ h' = h0.set id (some (false, l1)))) ∧ R v (h.set id (some (false, l1)))
    | _, _, _ => False) := id rfl
theorem effF_new (P : Program) (b : FB) (l : List AV) (u : List (Nat × Nat × Nat)) (fr : Fr) (h : Hp) (R : AV → Hp → Prop) : effF P b (.new l u) fr h R = (match fbId b fr h with
    | some id => h[id]? = some none ∧ upgK u l (fun l' => R (.ptr id 0) (h.set id (some (false, l'))))
    | none => False) := id rfl
theorem effF_box (P : Program) (b : FB) (x : Opd) (u : List (Nat × Nat × Nat)) (fr : Fr) (h : Hp) (R : AV → Hp → Prop) : effF P b (.box x u) fr h R = (match fbId b fr h, ev fr x with
    | some id, some a => h[id]? = some none ∧ isTup a = false ∧ upgK u (cellsOf a) (fun l' => R (.ptr id 0) (h.set id (some (false, l'))))
    | _, _ => False) := id rfl
theorem effF_mkn (P : Program) (b : FB) (e s y : Nat) (z : List AV) (c : Opd) (fr : Fr) (h : Hp) (R : AV → Hp → Prop) : effF P b (.mkn e s y z c) fr h R = (match fbId b fr h, ev fr c with
    | some id, some (.int _ n) => h[id]? = some none ∧ (0 ≤ n ∧ y * n ≤ 140737488355328 ∧ n ≤ 9223372036854775807) ∧ R (.hs id n.toNat) (h.set id (some (false, (List.range (n.toNat * s)).map fun i => z.getD (i % s) .nilp)))
    | _, _ => False) := id rfl
theorem W_scope (P : Program) (a : ACode) (fr : Fr) (h : Hp) (Q : Exit → Fr → Hp → Prop) : W P (.scope a) fr h Q = W P a fr h (kscope Q) := id rfl
theorem W_dead (P : Program) (fr : Fr) (h : Hp) (Q : Exit → Fr → Hp → Prop) : W P .dead fr h Q = False := id rfl
theorem kscope_normal (Q : Exit → Fr → Hp → Prop) (fr : Fr) (h : Hp) : kscope Q .normal fr h = Q .normal fr h := id rfl
theorem kscope_exit (Q : Exit → Fr → Hp → Prop) (i : Nat) (fr : Fr) (h : Hp) : kscope Q (.exit i) fr h = Q (.exit i) fr h := id rfl
theorem kscope_ret (Q : Exit → Fr → Hp → Prop) (fr : Fr) (h : Hp) : kscope Q .ret fr h = Q .ret fr h := id rfl
theorem W_holes (P : Program) (m : Nat) (a : ACode) (fr : Fr) (h : Hp) (Q : Exit → Fr → Hp → Prop) : W P (.holes m a) fr h Q = W P a fr (h ++ List.replicate m none) Q := id rfl
theorem rep2 : List.replicate 2 (none : Option (Bool × List AV)) = [none, none] := id rfl
theorem rep3 : List.replicate 3 (none : Option (Bool × List AV)) = [none, none, none] := id rfl
theorem kvops_eq' (P : Program) (r : List AStm) (K : Fr → Hp → Prop) (fr : Fr) (h : Hp) : kvops P r K fr h = VOps P r fr h K := id rfl
theorem frees_str : ∀ l : List ByteArray, free.frees (l.map AV.str) = true
  | [] => rfl
  | _ :: l => by simp [free.frees, free, frees_str l]
theorem frees_u8 : ∀ l : List UInt8, free.frees (l.map fun b => AV.int .u8 b.toNat) = true
  | [] => rfl
  | _ :: l => by simp [free.frees, free, frees_u8 l]
theorem frees_u16 : ∀ l : List Nat, free.frees (l.map fun (b : Nat) => AV.int .u16 (b : Int)) = true
  | [] => rfl
  | _ :: l => by simp [free.frees, free, frees_u16 l]
theorem inR_of {z : Int} (h1 : -9223372036854775808 ≤ z) (h2 : z ≤ 9223372036854775807) : inR z := ⟨h1, h2⟩
theorem ACalls.use {P : Program} {f : FuncId} {args : List AV} {h : Hp} {R R' : AV → Hp → Prop} (hc : ACalls P f args h R) (hr : ∀ a h', R a h' → R' a h') : ACalls P f args h R' := hc.mono hr
theorem mixed : Try.prog.follows .mixedOrders = true := by kernel_rfl

end Go.Proofs.Ytpjlkefadnbgdaa

/- The abstract layer, sixteenth part: one law an operation, for the walk (written by genlem.py). -/
namespace Go.Proofs.Ytpjlkefadnbgdaa
set_option linter.unusedSimpArgs false
set_option linter.unusedVariables false
open Go.RowKit Go.Lib

section
variable (P : Program)
theorem wop_mv (d : Option Nat) (x : Opd) (fr : Fr) (h : Hp) (K : Fr → Hp → Prop) : wop P d (.mv x) fr h K = (match ev fr x with
    | some a => K (put d a fr) h
    | none => False) := id rfl
theorem eff_mv (x : Opd) (fr : Fr) (h : Hp) (R : AV → Hp → Prop) : eff P (.mv x) fr h R = (match ev fr x with
    | some a => R a h
    | none => False) := id rfl
theorem wop_pick (d : Option Nat) (c x y : Opd) (fr : Fr) (h : Hp) (K : Fr → Hp → Prop) : wop P d (.pick c x y) fr h K = (match ev fr c with
    | some (.bool p) => (p = true → match ev fr x with
      | some a => K (put d a fr) h
      | none => False) ∧ (p = false → match ev fr y with
      | some a => K (put d a fr) h
      | none => False)
    | _ => False) := id rfl
theorem eff_pick (c x y : Opd) (fr : Fr) (h : Hp) (R : AV → Hp → Prop) : eff P (.pick c x y) fr h R = (match ev fr c with
    | some (.bool p) => (p = true → match ev fr x with
      | some a => R a h
      | none => False) ∧ (p = false → match ev fr y with
      | some a => R a h
      | none => False)
    | _ => False) := id rfl
theorem wop_build (d : Option Nat) (t : List AV) (ps : List (Nat × Nat × Opd)) (fr : Fr) (h : Hp) (K : Fr → Hp → Prop) : wop P d (.build t ps) fr h K = (buildK fr t ps (fun l => K (put d (.agg l) fr) h)) := id rfl
theorem eff_build (t : List AV) (ps : List (Nat × Nat × Opd)) (fr : Fr) (h : Hp) (R : AV → Hp → Prop) : eff P (.build t ps) fr h R = (buildK fr t ps (fun l => R (.agg l) h)) := id rfl
theorem wop_load (d : Option Nat) (s : Option Nat) (x : Opd) (fr : Fr) (h : Hp) (K : Fr → Hp → Prop) : wop P d (.load s x) fr h K = (match ev fr x with
    | some (.ptr id off) => (match h[id]? with
      | some (some (_, l)) => loadK s (l.drop off) (kval d fr h K)
      | _ => False)
    | some (.fp l) => loadK s l (kval d fr h K)
    | _ => False) := id rfl
theorem eff_load (s : Option Nat) (x : Opd) (fr : Fr) (h : Hp) (R : AV → Hp → Prop) : eff P (.load s x) fr h R = (match ev fr x with
    | some (.ptr id off) => (match h[id]? with
      | some (some (_, l)) => loadK s (l.drop off) (kv h R)
      | _ => False)
    | some (.fp l) => loadK s l (kv h R)
    | _ => False) := id rfl
theorem wop_lds (d : Option Nat) (s : Option Nat) (x : Opd) (fr : Fr) (h : Hp) (K : Fr → Hp → Prop) : wop P d (.lds s x) fr h K = (match ev fr x with
    | some (.ptr id off) => (match h[id]? with
      | some (some (true, l)) => loadK s (l.drop off) (kval d fr h K)
      | _ => False)
    | some (.fp l) => loadK s l (kval d fr h K)
    | _ => False) := id rfl
theorem eff_lds (s : Option Nat) (x : Opd) (fr : Fr) (h : Hp) (R : AV → Hp → Prop) : eff P (.lds s x) fr h R = (match ev fr x with
    | some (.ptr id off) => (match h[id]? with
      | some (some (true, l)) => loadK s (l.drop off) (kv h R)
      | _ => False)
    | some (.fp l) => loadK s l (kv h R)
    | _ => False) := id rfl
theorem wop_nilck (d : Option Nat) (x : Opd) (fr : Fr) (h : Hp) (K : Fr → Hp → Prop) : wop P d (.nilck x) fr h K = (match ev fr x with
    | some (.ptr id off) => K (put d (.ptr id off) fr) h
    | some (.fp l) => K (put d (.fp l) fr) h
    | some (.fn f l) => K (put d (.fn f l) fr) h
    | _ => False) := id rfl
theorem eff_nilck (x : Opd) (fr : Fr) (h : Hp) (R : AV → Hp → Prop) : eff P (.nilck x) fr h R = (match ev fr x with
    | some (.ptr id off) => R (.ptr id off) h
    | some (.fp l) => R (.fp l) h
    | some (.fn f l) => R (.fn f l) h
    | _ => False) := id rfl
theorem wop_bin (d : Option Nat) (op : BinOp) (x y : Opd) (fr : Fr) (h : Hp) (K : Fr → Hp → Prop) : wop P d (.bin op x y) fr h K = (match ev fr x, ev fr y with
    | some a, some b => bin2 op a b (kval d fr h K)
    | _, _ => False) := id rfl
theorem eff_bin (op : BinOp) (x y : Opd) (fr : Fr) (h : Hp) (R : AV → Hp → Prop) : eff P (.bin op x y) fr h R = (match ev fr x, ev fr y with
    | some a, some b => bin2 op a b (kv h R)
    | _, _ => False) := id rfl
theorem wop_pnil (d : Option Nat) (n : Bool) (x : Opd) (fr : Fr) (h : Hp) (K : Fr → Hp → Prop) : wop P d (.pnil n x) fr h K = (match ev fr x with
    | some .nilp => K (put d (.bool (!n)) fr) h
    | some (.ptr _ _) => K (put d (.bool n) fr) h
    | some (.fp _) => K (put d (.bool n) fr) h
    | _ => False) := id rfl
theorem eff_pnil (n : Bool) (x : Opd) (fr : Fr) (h : Hp) (R : AV → Hp → Prop) : eff P (.pnil n x) fr h R = (match ev fr x with
    | some .nilp => R (.bool (!n)) h
    | some (.ptr _ _) => R (.bool n) h
    | some (.fp _) => R (.bool n) h
    | _ => False) := id rfl
theorem wop_bbin (d : Option Nat) (n : Bool) (x y : Opd) (fr : Fr) (h : Hp) (K : Fr → Hp → Prop) : wop P d (.bbin n x y) fr h K = (match ev fr x, ev fr y with
    | some (.bool a), some (.bool b) => K (put d (.bool (if n then decide (a ≠ b) else decide (a = b))) fr) h
    | _, _ => False) := id rfl
theorem eff_bbin (n : Bool) (x y : Opd) (fr : Fr) (h : Hp) (R : AV → Hp → Prop) : eff P (.bbin n x y) fr h R = (match ev fr x, ev fr y with
    | some (.bool a), some (.bool b) => R (.bool (if n then decide (a ≠ b) else decide (a = b))) h
    | _, _ => False) := id rfl
theorem wop_not (d : Option Nat) (x : Opd) (fr : Fr) (h : Hp) (K : Fr → Hp → Prop) : wop P d (.not x) fr h K = (match ev fr x with
    | some (.bool p) => K (put d (.bool (!p)) fr) h
    | _ => False) := id rfl
theorem eff_not (x : Opd) (fr : Fr) (h : Hp) (R : AV → Hp → Prop) : eff P (.not x) fr h R = (match ev fr x with
    | some (.bool p) => R (.bool (!p)) h
    | _ => False) := id rfl
theorem wop_conv (d : Option Nat) (i : IntKind) (x : Opd) (fr : Fr) (h : Hp) (K : Fr → Hp → Prop) : wop P d (.conv i x) fr h K = (match ev fr x with
    | some (.int _ n) => K (put d (.int i (i.wrap n)) fr) h
    | _ => False) := id rfl
theorem eff_conv (i : IntKind) (x : Opd) (fr : Fr) (h : Hp) (R : AV → Hp → Prop) : eff P (.conv i x) fr h R = (match ev fr x with
    | some (.int _ n) => R (.int i (i.wrap n)) h
    | _ => False) := id rfl
theorem wop_cstr (d : Option Nat) (x : Opd) (fr : Fr) (h : Hp) (K : Fr → Hp → Prop) : wop P d (.cstr x) fr h K = (match ev fr x with
    | some (.str s) => K (put d (.str s) fr) h
    | _ => False) := id rfl
theorem eff_cstr (x : Opd) (fr : Fr) (h : Hp) (R : AV → Hp → Prop) : eff P (.cstr x) fr h R = (match ev fr x with
    | some (.str s) => R (.str s) h
    | _ => False) := id rfl
theorem wop_b2s (d : Option Nat) (x : Opd) (fr : Fr) (h : Hp) (K : Fr → Hp → Prop) : wop P d (.b2s x) fr h K = (match ev fr x with
    | some (.lst _ n l) => ∃ bs : List UInt8, l = bs.map (fun b => AV.int .u8 b.toNat) ∧ n = bs.length ∧ K (put d (.str ⟨bs.toArray⟩) fr) h
    | _ => False) := id rfl
theorem eff_b2s (x : Opd) (fr : Fr) (h : Hp) (R : AV → Hp → Prop) : eff P (.b2s x) fr h R = (match ev fr x with
    | some (.lst _ n l) => ∃ bs : List UInt8, l = bs.map (fun b => AV.int .u8 b.toNat) ∧ n = bs.length ∧ R (.str ⟨bs.toArray⟩) h
    | _ => False) := id rfl
theorem wop_fld (d : Option Nat) (o : Nat) (x : Opd) (fr : Fr) (h : Hp) (K : Fr → Hp → Prop) : wop P d (.fld o x) fr h K = (match ev fr x with
    | some (.ptr id q) => K (put d (.ptr id (q + o)) fr) h
    | some (.fp l) => K (put d (.fp (l.drop o)) fr) h
    | _ => False) := id rfl
theorem eff_fld (o : Nat) (x : Opd) (fr : Fr) (h : Hp) (R : AV → Hp → Prop) : eff P (.fld o x) fr h R = (match ev fr x with
    | some (.ptr id q) => R (.ptr id (q + o)) h
    | some (.fp l) => R (.fp (l.drop o)) h
    | _ => False) := id rfl
theorem wop_idxa (d : Option Nat) (s : Nat) (x y : Opd) (fr : Fr) (h : Hp) (K : Fr → Hp → Prop) : wop P d (.idxa s x y) fr h K = (match ev fr x, ev fr y with
    | some (.lst _ n l), some (.int _ i) => (0 ≤ i ∧ i < n) ∧ K (put d (.fp (l.drop (i.toNat * s))) fr) h
    | some (.hs id n), some (.int _ i) => (0 ≤ i ∧ i < n) ∧ K (put d (.ptr id (i.toNat * s)) fr) h
    | _, _ => False) := id rfl
theorem eff_idxa (s : Nat) (x y : Opd) (fr : Fr) (h : Hp) (R : AV → Hp → Prop) : eff P (.idxa s x y) fr h R = (match ev fr x, ev fr y with
    | some (.lst _ n l), some (.int _ i) => (0 ≤ i ∧ i < n) ∧ R (.fp (l.drop (i.toNat * s))) h
    | some (.hs id n), some (.int _ i) => (0 ≤ i ∧ i < n) ∧ R (.ptr id (i.toNat * s)) h
    | _, _ => False) := id rfl
theorem wop_idxs (d : Option Nat) (x y : Opd) (fr : Fr) (h : Hp) (K : Fr → Hp → Prop) : wop P d (.idxs x y) fr h K = (match ev fr x, ev fr y with
    | some (.str s), some (.int _ i) => (0 ≤ i ∧ i < s.size) ∧ K (put d (.int .u8 (byteAt s i.toNat)) fr) h
    | _, _ => False) := id rfl
theorem eff_idxs (x y : Opd) (fr : Fr) (h : Hp) (R : AV → Hp → Prop) : eff P (.idxs x y) fr h R = (match ev fr x, ev fr y with
    | some (.str s), some (.int _ i) => (0 ≤ i ∧ i < s.size) ∧ R (.int .u8 (byteAt s i.toNat)) h
    | _, _ => False) := id rfl
theorem wop_slcs (d : Option Nat) (x : Opd) (lo hi : Option Opd) (fr : Fr) (h : Hp) (K : Fr → Hp → Prop) : wop P d (.slcs x lo hi) fr h K = (match ev fr x with
    | some (.str s) => (match evD fr (.int .i64 0) lo, evD fr (.int .i64 s.size) hi with
      | some (.int _ l), some (.int _ u) => (0 ≤ l ∧ l ≤ u ∧ u ≤ s.size) ∧ K (put d (.str (s.extract l.toNat u.toNat)) fr) h
      | _, _ => False)
    | _ => False) := id rfl
theorem eff_slcs (x : Opd) (lo hi : Option Opd) (fr : Fr) (h : Hp) (R : AV → Hp → Prop) : eff P (.slcs x lo hi) fr h R = (match ev fr x with
    | some (.str s) => (match evD fr (.int .i64 0) lo, evD fr (.int .i64 s.size) hi with
      | some (.int _ l), some (.int _ u) => (0 ≤ l ∧ l ≤ u ∧ u ≤ s.size) ∧ R (.str (s.extract l.toNat u.toNat)) h
      | _, _ => False)
    | _ => False) := id rfl
theorem wop_slcl (d : Option Nat) (s : Nat) (x : Opd) (lo hi mx : Option Opd) (fr : Fr) (h : Hp) (K : Fr → Hp → Prop) : wop P d (.slcl s x lo hi mx) fr h K = (match ev fr x with
    | some (.lst _ n l) => (match evD fr (.int .i64 0) lo, evD fr (.int .i64 n) hi with
      | some (.int _ i), some (.int _ j) => (0 ≤ i ∧ i ≤ j ∧ j ≤ n ∧ l.length = n * s) ∧ (match mx with
        | none => K (put d (.lst .ro (j.toNat - i.toNat) ((l.drop (i.toNat * s)).take ((j.toNat - i.toNat) * s))) fr) h
        | some m => match ev fr m with
          | some (.int _ m) => m = j ∧ K (put d (.lst .clip (j.toNat - i.toNat) ((l.drop (i.toNat * s)).take ((j.toNat - i.toNat) * s))) fr) h
          | _ => False)
      | _, _ => False)
    | _ => False) := id rfl
theorem eff_slcl (s : Nat) (x : Opd) (lo hi mx : Option Opd) (fr : Fr) (h : Hp) (R : AV → Hp → Prop) : eff P (.slcl s x lo hi mx) fr h R = (match ev fr x with
    | some (.lst _ n l) => (match evD fr (.int .i64 0) lo, evD fr (.int .i64 n) hi with
      | some (.int _ i), some (.int _ j) => (0 ≤ i ∧ i ≤ j ∧ j ≤ n ∧ l.length = n * s) ∧ (match mx with
        | none => R (.lst .ro (j.toNat - i.toNat) ((l.drop (i.toNat * s)).take ((j.toNat - i.toNat) * s))) h
        | some m => match ev fr m with
          | some (.int _ m) => m = j ∧ R (.lst .clip (j.toNat - i.toNat) ((l.drop (i.toNat * s)).take ((j.toNat - i.toNat) * s))) h
          | _ => False)
      | _, _ => False)
    | _ => False) := id rfl
theorem wop_ext (d : Option Nat) (i : Nat) (x : Opd) (fr : Fr) (h : Hp) (K : Fr → Hp → Prop) : wop P d (.ext i x) fr h K = (match ev fr x with
    | some (.tup l) => (match l[i]? with
      | some a => K (put d a fr) h
      | none => False)
    | _ => False) := id rfl
theorem eff_ext (i : Nat) (x : Opd) (fr : Fr) (h : Hp) (R : AV → Hp → Prop) : eff P (.ext i x) fr h R = (match ev fr x with
    | some (.tup l) => (match l[i]? with
      | some a => R a h
      | none => False)
    | _ => False) := id rfl
theorem wop_lens (d : Option Nat) (x : Opd) (fr : Fr) (h : Hp) (K : Fr → Hp → Prop) : wop P d (.lens x) fr h K = (match ev fr x with
    | some (.str s) => K (put d (.int .i64 s.size) fr) h
    | _ => False) := id rfl
theorem eff_lens (x : Opd) (fr : Fr) (h : Hp) (R : AV → Hp → Prop) : eff P (.lens x) fr h R = (match ev fr x with
    | some (.str s) => R (.int .i64 s.size) h
    | _ => False) := id rfl
theorem wop_lenl (d : Option Nat) (x : Opd) (fr : Fr) (h : Hp) (K : Fr → Hp → Prop) : wop P d (.lenl x) fr h K = (match ev fr x with
    | some (.lst _ n _) => K (put d (.int .i64 n) fr) h
    | some (.hs _ n) => K (put d (.int .i64 n) fr) h
    | _ => False) := id rfl
theorem eff_lenl (x : Opd) (fr : Fr) (h : Hp) (R : AV → Hp → Prop) : eff P (.lenl x) fr h R = (match ev fr x with
    | some (.lst _ n _) => R (.int .i64 n) h
    | some (.hs _ n) => R (.int .i64 n) h
    | _ => False) := id rfl
theorem wop_mn (d : Option Nat) (x y : Opd) (fr : Fr) (h : Hp) (K : Fr → Hp → Prop) : wop P d (.mn x y) fr h K = (match ev fr x, ev fr y with
    | some (.int i a), some (.int _ b) => K (put d (.int i (if b < a then b else a)) fr) h
    | _, _ => False) := id rfl
theorem eff_mn (x y : Opd) (fr : Fr) (h : Hp) (R : AV → Hp → Prop) : eff P (.mn x y) fr h R = (match ev fr x, ev fr y with
    | some (.int i a), some (.int _ b) => R (.int i (if b < a then b else a)) h
    | _, _ => False) := id rfl
theorem wop_mx (d : Option Nat) (x y : Opd) (fr : Fr) (h : Hp) (K : Fr → Hp → Prop) : wop P d (.mx x y) fr h K = (match ev fr x, ev fr y with
    | some (.int i a), some (.int _ b) => K (put d (.int i (if a < b then b else a)) fr) h
    | _, _ => False) := id rfl
theorem eff_mx (x y : Opd) (fr : Fr) (h : Hp) (R : AV → Hp → Prop) : eff P (.mx x y) fr h R = (match ev fr x, ev fr y with
    | some (.int i a), some (.int _ b) => R (.int i (if a < b then b else a)) h
    | _, _ => False) := id rfl
theorem wop_ex (d : Option Nat) (e : Ex) (xs : List Opd) (fr : Fr) (h : Hp) (K : Fr → Hp → Prop) : wop P d (.ex e xs) fr h K = (match evs fr xs with
    | some l => (match exF e l with
      | some a => K (put d a fr) h
      | none => False)
    | none => False) := id rfl
theorem eff_ex (e : Ex) (xs : List Opd) (fr : Fr) (h : Hp) (R : AV → Hp → Prop) : eff P (.ex e xs) fr h R = (match evs fr xs with
    | some l => (match exF e l with
      | some a => R a h
      | none => False)
    | none => False) := id rfl
theorem wop_mkfn (d : Option Nat) (f : FuncId) (c : List Opd) (fr : Fr) (h : Hp) (K : Fr → Hp → Prop) : wop P d (.mkfn f c) fr h K = (match evs fr c with
    | some l => K (put d (.fn f l) fr) h
    | none => False) := id rfl
theorem eff_mkfn (f : FuncId) (c : List Opd) (fr : Fr) (h : Hp) (R : AV → Hp → Prop) : eff P (.mkfn f c) fr h R = (match evs fr c with
    | some l => R (.fn f l) h
    | none => False) := id rfl
theorem wop_mvu (d : Option Nat) (e s : Nat) (x : Opd) (fr : Fr) (h : Hp) (K : Fr → Hp → Prop) : wop P d (.mvu e s x) fr h K = (match ev fr x with
    | some (.lst .clip n l) => l.length = n * s ∧ K (put d (.lst (.own e) n l) fr) h
    | _ => False) := id rfl
theorem eff_mvu (e s : Nat) (x : Opd) (fr : Fr) (h : Hp) (R : AV → Hp → Prop) : eff P (.mvu e s x) fr h R = (match ev fr x with
    | some (.lst .clip n l) => l.length = n * s ∧ R (.lst (.own e) n l) h
    | _ => False) := id rfl
theorem wop_mvo (d : Option Nat) (q : Nat) (fr : Fr) (h : Hp) (K : Fr → Hp → Prop) : wop P d (.mvo q) fr h K = (match lk fr q with
    | some (.lst (.own e) n l) => K (put d (.lst (.own e) n l) (degr q fr)) h
    | _ => False) := id rfl
theorem eff_mvo (q : Nat) (fr : Fr) (h : Hp) (R : AV → Hp → Prop) : eff P (.mvo q) fr h R = (match lk fr q with
    | some (.lst (.own e) n l) => R (.lst (.own e) n l) h
    | _ => False) := id rfl
theorem wop_new (d : Option Nat) (l : List AV) (u : List (Nat × Nat × Nat)) (fr : Fr) (h : Hp) (K : Fr → Hp → Prop) : wop P d (.new l u) fr h K = (upgK u l (fun l' => K (put d (.ptr h.length 0) fr) (h ++ [some (false, l')]))) := id rfl
theorem eff_new (l : List AV) (u : List (Nat × Nat × Nat)) (fr : Fr) (h : Hp) (R : AV → Hp → Prop) : eff P (.new l u) fr h R = (upgK u l (fun l' => R (.ptr h.length 0) (h ++ [some (false, l')]))) := id rfl
theorem wop_box (d : Option Nat) (x : Opd) (u : List (Nat × Nat × Nat)) (fr : Fr) (h : Hp) (K : Fr → Hp → Prop) : wop P d (.box x u) fr h K = (match ev fr x with
    | some a => isTup a = false ∧ upgK u (cellsOf a) (fun l' => K (put d (.ptr h.length 0) fr) (h ++ [some (false, l')]))
    | none => False) := id rfl
theorem eff_box (x : Opd) (u : List (Nat × Nat × Nat)) (fr : Fr) (h : Hp) (R : AV → Hp → Prop) : eff P (.box x u) fr h R = (match ev fr x with
    | some a => isTup a = false ∧ upgK u (cellsOf a) (fun l' => R (.ptr h.length 0) (h ++ [some (false, l')]))
    | none => False) := id rfl
theorem wop_bsl (d : Option Nat) (e s n : Nat) (t : List AV) (ps : List (Nat × Nat × Opd)) (fr : Fr) (h : Hp) (K : Fr → Hp → Prop) : wop P d (.bsl e s n t ps) fr h K = (buildK fr t ps (fun l => K (put d (.lst (.own e) n l) fr) h)) := id rfl
theorem eff_bsl (e s n : Nat) (t : List AV) (ps : List (Nat × Nat × Opd)) (fr : Fr) (h : Hp) (R : AV → Hp → Prop) : eff P (.bsl e s n t ps) fr h R = (buildK fr t ps (fun l => R (.lst (.own e) n l) h)) := id rfl
theorem wop_mk0 (d : Option Nat) (e s b : Nat) (c : Opd) (fr : Fr) (h : Hp) (K : Fr → Hp → Prop) : wop P d (.mk0 e s b c) fr h K = (match ev fr c with
    | some (.int _ n) => (0 ≤ n ∧ b * n ≤ 140737488355328 ∧ n ≤ 9223372036854775807) ∧ K (put d (.lst (.own e) 0 []) fr) h
    | _ => False) := id rfl
theorem eff_mk0 (e s b : Nat) (c : Opd) (fr : Fr) (h : Hp) (R : AV → Hp → Prop) : eff P (.mk0 e s b c) fr h R = (match ev fr c with
    | some (.int _ n) => (0 ≤ n ∧ b * n ≤ 140737488355328 ∧ n ≤ 9223372036854775807) ∧ R (.lst (.own e) 0 []) h
    | _ => False) := id rfl
theorem wop_mkn (d : Option Nat) (e s b : Nat) (z : List AV) (c : Opd) (fr : Fr) (h : Hp) (K : Fr → Hp → Prop) : wop P d (.mkn e s b z c) fr h K = (match ev fr c with
    | some (.int _ n) => (0 ≤ n ∧ b * n ≤ 140737488355328 ∧ n ≤ 9223372036854775807) ∧ K (put d (.hs h.length n.toNat) fr) (h ++ [some (false, (List.range (n.toNat * s)).map fun i => z.getD (i % s) .nilp)])
    | _ => False) := id rfl
theorem eff_mkn (e s b : Nat) (z : List AV) (c : Opd) (fr : Fr) (h : Hp) (R : AV → Hp → Prop) : eff P (.mkn e s b z c) fr h R = (match ev fr c with
    | some (.int _ n) => (0 ≤ n ∧ b * n ≤ 140737488355328 ∧ n ≤ 9223372036854775807) ∧ R (.hs h.length n.toNat) (h ++ [some (false, (List.range (n.toNat * s)).map fun i => z.getD (i % s) .nilp)])
    | _ => False) := id rfl
theorem wop_loado (d : Option Nat) (x : Opd) (fr : Fr) (h : Hp) (K : Fr → Hp → Prop) : wop P d (.loado x) fr h K = (match ev fr x with
    | some (.ptr id off) => (match h[id]? with
      | some (some (false, l)) => (match l[off]? with
        | some (.lst (.own e) n c) => K (put d (.lst (.own e) n c) fr) (h.set id (some (false, l.set off (.lst .ro n c))))
        | _ => False)
      | _ => False)
    | _ => False) := id rfl
theorem eff_loado (x : Opd) (fr : Fr) (h : Hp) (R : AV → Hp → Prop) : eff P (.loado x) fr h R = (match ev fr x with
    | some (.ptr id off) => (match h[id]? with
      | some (some (false, l)) => (match l[off]? with
        | some (.lst (.own e) n c) => R (.lst (.own e) n c) (h.set id (some (false, l.set off (.lst .ro n c))))
        | _ => False)
      | _ => False)
    | _ => False) := id rfl
theorem wop_app (d : Option Nat) (e s b : Nat) (x y : Opd) (fr : Fr) (h : Hp) (K : Fr → Hp → Prop) : wop P d (.app e s b x y) fr h K = (match ev fr x, ev fr y with
    | some (.lst .clip n l), some (.lst _ m l') => (l.length = n * s ∧ l'.length = m * s ∧ n + m ≤ 9223372036854775807 ∧ (n + m) * b ≤ 140737488355328) ∧ K (put d (.lst (.own e) (n + m) (l ++ l')) fr) h
    | _, _ => False) := id rfl
theorem eff_app (e s b : Nat) (x y : Opd) (fr : Fr) (h : Hp) (R : AV → Hp → Prop) : eff P (.app e s b x y) fr h R = (match ev fr x, ev fr y with
    | some (.lst .clip n l), some (.lst _ m l') => (l.length = n * s ∧ l'.length = m * s ∧ n + m ≤ 9223372036854775807 ∧ (n + m) * b ≤ 140737488355328) ∧ R (.lst (.own e) (n + m) (l ++ l')) h
    | _, _ => False) := id rfl
theorem wop_appo (d : Option Nat) (e s b q : Nat) (y : Opd) (fr : Fr) (h : Hp) (K : Fr → Hp → Prop) : wop P d (.appo e s b q y) fr h K = (match lk fr q, ev fr y with
    | some (.lst (.own e') n l), some (.lst _ m l') => (e' = e ∧ l'.length = m * s ∧ n + m ≤ 9223372036854775807 ∧ (n + m) * b ≤ 140737488355328) ∧ K (put d (.lst (.own e) (n + m) (l ++ l')) (degr q fr)) h
    | _, _ => False) := id rfl
theorem eff_appo (e s b q : Nat) (y : Opd) (fr : Fr) (h : Hp) (R : AV → Hp → Prop) : eff P (.appo e s b q y) fr h R = (match lk fr q, ev fr y with
    | some (.lst (.own e') n l), some (.lst _ m l') => (e' = e ∧ l'.length = m * s ∧ n + m ≤ 9223372036854775807 ∧ (n + m) * b ≤ 140737488355328) ∧ R (.lst (.own e) (n + m) (l ++ l')) h
    | _, _ => False) := id rfl
theorem wop_appso (d : Option Nat) (e q : Nat) (y : Opd) (fr : Fr) (h : Hp) (K : Fr → Hp → Prop) : wop P d (.appso e q y) fr h K = (match lk fr q, ev fr y with
    | some (.lst (.own e') n l), some (.str s) => (e' = e ∧ n + s.size ≤ 140737488355328) ∧ K (put d (.lst (.own e) (n + s.size) (l ++ s.data.toList.map fun b => AV.int .u8 b.toNat)) (degr q fr)) h
    | _, _ => False) := id rfl
theorem eff_appso (e q : Nat) (y : Opd) (fr : Fr) (h : Hp) (R : AV → Hp → Prop) : eff P (.appso e q y) fr h R = (match lk fr q, ev fr y with
    | some (.lst (.own e') n l), some (.str s) => (e' = e ∧ n + s.size ≤ 140737488355328) ∧ R (.lst (.own e) (n + s.size) (l ++ s.data.toList.map fun b => AV.int .u8 b.toNat)) h
    | _, _ => False) := id rfl
theorem wop_bsh (d : Option Nat) (e s n : Nat) (t : List AV) (ps : List (Nat × Nat × Opd)) (fr : Fr) (h : Hp) (K : Fr → Hp → Prop) : wop P d (.bsh e s n t ps) fr h K = (buildK fr t ps (fun l => K (put d (.hs h.length n) fr) (h ++ [some (false, l)]))) := id rfl
theorem wop_store (d : Option Nat) (n : Nat) (a x : Opd) (fr : Fr) (h : Hp) (K : Fr → Hp → Prop) : wop P d (.store n a x) fr h K = (match ev fr a, ev fr x with
    | some (.ptr id off), some v => (match h[id]? with
      | some (some (false, l)) => (isTup v = false ∧ (cellsOf v).length = n ∧ off + n ≤ l.length) ∧ K fr (h.set id (some (false, splice l off (cellsOf v))))
      | _ => False)
    | _, _ => False) := id rfl
theorem wop_storeo (d : Option Nat) (a : Opd) (q : Nat) (fr : Fr) (h : Hp) (K : Fr → Hp → Prop) : wop P d (.storeo a q) fr h K = (match ev fr a, lk fr q with
    | some (.ptr id off), some (.lst (.own e) n c) => (match h[id]? with
      | some (some (false, l)) => off < l.length ∧ K (degr q fr) (h.set id (some (false, l.set off (.lst (.own e) n c))))
      | _ => False)
    | _, _ => False) := id rfl
theorem wop_stores (d : Option Nat) (n : Nat) (a x : Opd) (fr : Fr) (h : Hp) (K : Fr → Hp → Prop) : wop P d (.stores n a x) fr h K = (match ev fr a, ev fr x with
    | some (.ptr id off), some v => (match h[id]? with
      | some (some (false, l)) => (isTup v = false ∧ (cellsOf v).length = n ∧ off + n ≤ l.length) ∧ K fr (h.set id (some (true, splice l off (cellsOf v))))
      | _ => False)
    | _, _ => False) := id rfl
theorem eff_store (n : Nat) (a x : Opd) (fr : Fr) (h : Hp) (R : AV → Hp → Prop) : eff P (.store n a x) fr h R = (match ev fr a, ev fr x with
    | some (.ptr id off), some v => (match h[id]? with
      | some (some (false, l)) => (isTup v = false ∧ (cellsOf v).length = n ∧ off + n ≤ l.length) ∧ R .nilp (h.set id (some (false, splice l off (cellsOf v))))
      | _ => False)
    | _, _ => False) := id rfl
theorem eff_storeo (a : Opd) (q : Nat) (fr : Fr) (h : Hp) (R : AV → Hp → Prop) : eff P (.storeo a q) fr h R = (match ev fr a, lk fr q with
    | some (.ptr id off), some (.lst (.own e) n c) => (match h[id]? with
      | some (some (false, l)) => off < l.length ∧ R .nilp (h.set id (some (false, l.set off (.lst (.own e) n c))))
      | _ => False)
    | _, _ => False) := id rfl
theorem eff_stores (n : Nat) (a x : Opd) (fr : Fr) (h : Hp) (R : AV → Hp → Prop) : eff P (.stores n a x) fr h R = (match ev fr a, ev fr x with
    | some (.ptr id off), some v => (match h[id]? with
      | some (some (false, l)) => (isTup v = false ∧ (cellsOf v).length = n ∧ off + n ≤ l.length) ∧ R .nilp (h.set id (some (true, splice l off (cellsOf v))))
      | _ => False)
    | _, _ => False) := id rfl
theorem wop_call (d : Option Nat) (f : Opd) (l : List Opd) (fr : Fr) (h : Hp) (K : Fr → Hp → Prop) : wop P d (.call f l) fr h K = (match ev fr f, evs fr l with
    | some (.fn f' caps), some l => ACalls P f' (l ++ caps) h (kcall d fr K)
    | some (.fnb f' bnd), some l => ACalls P f' (bnd ++ l) h (kcall d fr K)
    | _, _ => False) := id rfl
theorem eff_call (f : Opd) (l : List Opd) (fr : Fr) (h : Hp) (R : AV → Hp → Prop) : eff P (.call f l) fr h R = (match ev fr f, evs fr l with
    | some (.fn f' caps), some l => ∃ v, PCalls P f' (l ++ caps) v ∧ R v h
    | _, _ => False) := id rfl
theorem wop_calli (d : Option Nat) (f : Opd) (l : List Opd) (fr : Fr) (h : Hp) (K : Fr → Hp → Prop) : wop P d (.calli f l) fr h K = (match ev fr f, evs fr l with
    | some (.fn f' caps), some l => ACalls P f' (l ++ caps) h (kcall d fr K)
    | _, _ => False) := id rfl
theorem eff_calli (f : Opd) (l : List Opd) (fr : Fr) (h : Hp) (R : AV → Hp → Prop) : eff P (.calli f l) fr h R = (match ev fr f, evs fr l with
    | some (.fn f' caps), some l => ∃ v hv, ACalls P f' (l ++ caps) h (fun a h' => a = v ∧ h' = hv) ∧ SealEq h hv ∧ R v hv
    | _, _ => False) := id rfl
theorem wop_snil (d : Option Nat) (n : Bool) (x : Opd) (fr : Fr) (h : Hp) (K : Fr → Hp → Prop) : wop P d (.snil n x) fr h K = (match ev fr x with
    | some (.lst _ m _) => K (put d (.bool n) fr) h ∧ (m = 0 → K (put d (.bool (!n)) fr) h)
    | some (.hs _ _) => K (put d (.bool n) fr) h
    | _ => False) := id rfl
theorem eff_snil (n : Bool) (x : Opd) (fr : Fr) (h : Hp) (R : AV → Hp → Prop) : eff P (.snil n x) fr h R = (match ev fr x with
    | some (.lst _ m _) => m ≠ 0 ∧ R (.bool n) h
    | some (.hs _ _) => R (.bool n) h
    | _ => False) := id rfl
theorem wop_storeu (d : Option Nat) (n : Nat) (u : List (Nat × Nat × Nat)) (a x : Opd) (fr : Fr) (h : Hp) (K : Fr → Hp → Prop) : wop P d (.storeu n u a x) fr h K = (match ev fr a, ev fr x with
    | some (.ptr id 0), some v => (match h[id]? with
      | some (some (false, l)) => (isTup v = false ∧ (cellsOf v).length = n ∧ n ≤ l.length) ∧ upgK u (cellsOf v) (fun l' => K fr (h.set id (some (false, splice l 0 l'))))
      | _ => False)
    | _, _ => False) := id rfl
theorem wop_rngs (d : Option Nat) (x : Opd) (fr : Fr) (h : Hp) (K : Fr → Hp → Prop) : wop P d (.rngs x) fr h K = (match ev fr x with
    | some (.str s) => K (put d (.itr s 0) fr) h
    | _ => False) := id rfl
theorem wop_nxt (d : Option Nat) (k : Nat) (fr : Fr) (h : Hp) (K : Fr → Hp → Prop) : wop P d (.nxt k) fr h K = (match lk fr k with
    | some (.itr s pos) => if pos < s.size then K (put d (.tup [.bool true, .int .i64 pos, .int .i32 (Utf8.decode s pos).1]) ((k, .itr s (pos + (Utf8.decode s pos).2)) :: fr)) h else K (put d (.tup [.bool false]) fr) h
    | _ => False) := id rfl
theorem tk_mv (x : Opd) (fr : Fr) : tk (.mv x) fr = fr := id rfl
theorem tk_pick (c x y : Opd) (fr : Fr) : tk (.pick c x y) fr = fr := id rfl
theorem tk_build (t : List AV) (ps : List (Nat × Nat × Opd)) (fr : Fr) : tk (.build t ps) fr = fr := id rfl
theorem tk_load (s : Option Nat) (x : Opd) (fr : Fr) : tk (.load s x) fr = fr := id rfl
theorem tk_lds (s : Option Nat) (x : Opd) (fr : Fr) : tk (.lds s x) fr = fr := id rfl
theorem tk_nilck (x : Opd) (fr : Fr) : tk (.nilck x) fr = fr := id rfl
theorem tk_bin (op : BinOp) (x y : Opd) (fr : Fr) : tk (.bin op x y) fr = fr := id rfl
theorem tk_pnil (n : Bool) (x : Opd) (fr : Fr) : tk (.pnil n x) fr = fr := id rfl
theorem tk_bbin (n : Bool) (x y : Opd) (fr : Fr) : tk (.bbin n x y) fr = fr := id rfl
theorem tk_not (x : Opd) (fr : Fr) : tk (.not x) fr = fr := id rfl
theorem tk_conv (i : IntKind) (x : Opd) (fr : Fr) : tk (.conv i x) fr = fr := id rfl
theorem tk_cstr (x : Opd) (fr : Fr) : tk (.cstr x) fr = fr := id rfl
theorem tk_b2s (x : Opd) (fr : Fr) : tk (.b2s x) fr = fr := id rfl
theorem tk_fld (o : Nat) (x : Opd) (fr : Fr) : tk (.fld o x) fr = fr := id rfl
theorem tk_idxa (s : Nat) (x y : Opd) (fr : Fr) : tk (.idxa s x y) fr = fr := id rfl
theorem tk_idxs (x y : Opd) (fr : Fr) : tk (.idxs x y) fr = fr := id rfl
theorem tk_slcs (x : Opd) (lo hi : Option Opd) (fr : Fr) : tk (.slcs x lo hi) fr = fr := id rfl
theorem tk_slcl (s : Nat) (x : Opd) (lo hi mx : Option Opd) (fr : Fr) : tk (.slcl s x lo hi mx) fr = fr := id rfl
theorem tk_ext (i : Nat) (x : Opd) (fr : Fr) : tk (.ext i x) fr = fr := id rfl
theorem tk_lens (x : Opd) (fr : Fr) : tk (.lens x) fr = fr := id rfl
theorem tk_lenl (x : Opd) (fr : Fr) : tk (.lenl x) fr = fr := id rfl
theorem tk_mn (x y : Opd) (fr : Fr) : tk (.mn x y) fr = fr := id rfl
theorem tk_mx (x y : Opd) (fr : Fr) : tk (.mx x y) fr = fr := id rfl
theorem tk_ex (e : Ex) (xs : List Opd) (fr : Fr) : tk (.ex e xs) fr = fr := id rfl
theorem tk_mkfn (f : FuncId) (c : List Opd) (fr : Fr) : tk (.mkfn f c) fr = fr := id rfl
theorem tk_mvu (e s : Nat) (x : Opd) (fr : Fr) : tk (.mvu e s x) fr = fr := id rfl
theorem tk_mvo (q : Nat) (fr : Fr) : tk (.mvo q) fr = degr q fr := id rfl
theorem tk_new (l : List AV) (u : List (Nat × Nat × Nat)) (fr : Fr) : tk (.new l u) fr = fr := id rfl
theorem tk_box (x : Opd) (u : List (Nat × Nat × Nat)) (fr : Fr) : tk (.box x u) fr = fr := id rfl
theorem tk_bsl (e s n : Nat) (t : List AV) (ps : List (Nat × Nat × Opd)) (fr : Fr) : tk (.bsl e s n t ps) fr = fr := id rfl
theorem tk_mk0 (e s b : Nat) (c : Opd) (fr : Fr) : tk (.mk0 e s b c) fr = fr := id rfl
theorem tk_mkn (e s b : Nat) (z : List AV) (c : Opd) (fr : Fr) : tk (.mkn e s b z c) fr = fr := id rfl
theorem tk_loado (x : Opd) (fr : Fr) : tk (.loado x) fr = fr := id rfl
theorem tk_app (e s b : Nat) (x y : Opd) (fr : Fr) : tk (.app e s b x y) fr = fr := id rfl
theorem tk_appo (e s b q : Nat) (y : Opd) (fr : Fr) : tk (.appo e s b q y) fr = degr q fr := id rfl
theorem tk_appso (e q : Nat) (y : Opd) (fr : Fr) : tk (.appso e q y) fr = degr q fr := id rfl
theorem tk_store (n : Nat) (a x : Opd) (fr : Fr) : tk (.store n a x) fr = fr := id rfl
theorem tk_storeo (a : Opd) (q : Nat) (fr : Fr) : tk (.storeo a q) fr = degr q fr := id rfl
theorem tk_call (f : Opd) (l : List Opd) (fr : Fr) : tk (.call f l) fr = fr := id rfl
theorem tk_stores (n : Nat) (a x : Opd) (fr : Fr) : tk (.stores n a x) fr = fr := id rfl
theorem tk_calli (f : Opd) (l : List Opd) (fr : Fr) : tk (.calli f l) fr = fr := id rfl
theorem tk_snil (n : Bool) (x : Opd) (fr : Fr) : tk (.snil n x) fr = fr := id rfl
theorem ex_wadd (k : IntKind) (x y : Int) : exF (.binw .add) [.int k x, .int k y] = some (.int k (k.wrap (x + y))) := by simp [exF, exF0]
theorem ex_wsub (k : IntKind) (x y : Int) : exF (.binw .sub) [.int k x, .int k y] = some (.int k (k.wrap (x - y))) := by simp [exF, exF0]
theorem ex_wmul (k : IntKind) (x y : Int) : exF (.binw .mul) [.int k x, .int k y] = some (.int k (k.wrap (x * y))) := by simp [exF, exF0]
theorem ex_aeq (n : Bool) (ks : List Nat) (l m : List AV) : exF (.aeq n ks) [.agg l, .agg m] = (eqCells ks l m).map (fun r => .bool (if n then !r else r)) := id rfl
theorem ex_r2s (k : IntKind) (n : Int) : exF .r2s [.int k n] = some (.str (Utf8.encode n)) := id rfl
theorem ex_ibs (s : ByteArray) (c : Int) : exF .ibs [.str s, .int .u8 c] = some (.int .i64 (indexByte s.data.toList c.toNat.toUInt8)) := id rfl
theorem ex_mkb (f : FuncId) (l : List AV) : exF (.mkb f) l = some (.fnb f l) := id rfl
theorem deg_itr (s : ByteArray) (p : Nat) : deg (.itr s p) = .opq := id rfl
theorem int_add (i j : IntKind) (x y : Int) (K : AV → Prop) : bin2 .add (.int i x) (.int j y) K = (i = j ∧ arith i (x + y) K) := id rfl
theorem int_sub (i j : IntKind) (x y : Int) (K : AV → Prop) : bin2 .sub (.int i x) (.int j y) K = (i = j ∧ arith i (x - y) K) := id rfl
theorem int_mul (i j : IntKind) (x y : Int) (K : AV → Prop) : bin2 .mul (.int i x) (.int j y) K = (i = j ∧ arith i (x * y) K) := id rfl
theorem int_quo (i j : IntKind) (x y : Int) (K : AV → Prop) : bin2 .quo (.int i x) (.int j y) K = (i = j ∧ y ≠ 0 ∧ arith i (x.tdiv y) K) := id rfl
theorem int_rem (i j : IntKind) (x y : Int) (K : AV → Prop) : bin2 .rem (.int i x) (.int j y) K = (i = j ∧ y ≠ 0 ∧ K (.int i (x.tmod y))) := id rfl
theorem int_and (i j : IntKind) (x y : Int) (K : AV → Prop) : bin2 .and (.int i x) (.int j y) K = (i = j ∧ K (.int i (bitV .and i x y))) := id rfl
theorem int_or (i j : IntKind) (x y : Int) (K : AV → Prop) : bin2 .or (.int i x) (.int j y) K = (i = j ∧ K (.int i (bitV .or i x y))) := id rfl
theorem int_xor (i j : IntKind) (x y : Int) (K : AV → Prop) : bin2 .xor (.int i x) (.int j y) K = (i = j ∧ K (.int i (bitV .xor i x y))) := id rfl
theorem int_eql (i j : IntKind) (x y : Int) (K : AV → Prop) : bin2 .eql (.int i x) (.int j y) K = (i = j ∧ K (.bool (decide (x = y)))) := id rfl
theorem int_neq (i j : IntKind) (x y : Int) (K : AV → Prop) : bin2 .neq (.int i x) (.int j y) K = (i = j ∧ K (.bool (decide (x ≠ y)))) := id rfl
theorem int_lss (i j : IntKind) (x y : Int) (K : AV → Prop) : bin2 .lss (.int i x) (.int j y) K = (i = j ∧ K (.bool (decide (x < y)))) := id rfl
theorem int_leq (i j : IntKind) (x y : Int) (K : AV → Prop) : bin2 .leq (.int i x) (.int j y) K = (i = j ∧ K (.bool (decide (x ≤ y)))) := id rfl
theorem int_gtr (i j : IntKind) (x y : Int) (K : AV → Prop) : bin2 .gtr (.int i x) (.int j y) K = (i = j ∧ K (.bool (decide (y < x)))) := id rfl
theorem int_geq (i j : IntKind) (x y : Int) (K : AV → Prop) : bin2 .geq (.int i x) (.int j y) K = (i = j ∧ K (.bool (decide (y ≤ x)))) := id rfl
theorem int_shl (i j : IntKind) (x y : Int) (K : AV → Prop) : bin2 .shl (.int i x) (.int j y) K = (0 ≤ y ∧ K (.int i (i.wrap (x * 2 ^ (min y.toNat i.bits))))) := id rfl
theorem int_shr (i j : IntKind) (x y : Int) (K : AV → Prop) : bin2 .shr (.int i x) (.int j y) K = (0 ≤ y ∧ K (.int i (x.fdiv (2 ^ (min y.toNat i.bits))))) := id rfl
theorem str_add (x y : ByteArray) (K : AV → Prop) : bin2 .add (.str x) (.str y) K = (x.size + y.size ≤ 9223372036854775807 ∧ K (.str (x ++ y))) := id rfl
theorem str_eql (x y : ByteArray) (K : AV → Prop) : bin2 .eql (.str x) (.str y) K = (K (.bool (decide (x = y)))) := id rfl
theorem str_neq (x y : ByteArray) (K : AV → Prop) : bin2 .neq (.str x) (.str y) K = (K (.bool (decide (x ≠ y)))) := id rfl
theorem str_lss (x y : ByteArray) (K : AV → Prop) : bin2 .lss (.str x) (.str y) K = (K (.bool (Op.bytesLess x.toList y.toList))) := id rfl
theorem arith_i8 (z : Int) (K : AV → Prop) : arith .i8 z K = K (.int .i8 (IntKind.i8.wrap z)) := id rfl
theorem arith_i16 (z : Int) (K : AV → Prop) : arith .i16 z K = K (.int .i16 (IntKind.i16.wrap z)) := id rfl
theorem arith_i32 (z : Int) (K : AV → Prop) : arith .i32 z K = K (.int .i32 (IntKind.i32.wrap z)) := id rfl
theorem arith_u8 (z : Int) (K : AV → Prop) : arith .u8 z K = K (.int .u8 (IntKind.u8.wrap z)) := id rfl
theorem arith_u16 (z : Int) (K : AV → Prop) : arith .u16 z K = K (.int .u16 (IntKind.u16.wrap z)) := id rfl
theorem arith_u32 (z : Int) (K : AV → Prop) : arith .u32 z K = K (.int .u32 (IntKind.u32.wrap z)) := id rfl
theorem arith_u64 (z : Int) (K : AV → Prop) : arith .u64 z K = K (.int .u64 (IntKind.u64.wrap z)) := id rfl
theorem arith_i64 (z : Int) (K : AV → Prop) : arith .i64 z K = (inR z ∧ K (.int .i64 z)) := id rfl
theorem loadK_none (a : AV) (l : List AV) (K : AV → Prop) : loadK none (a :: l) K = K (deg a) := id rfl
theorem loadK_some (n : Nat) (l : List AV) (K : AV → Prop) : loadK (some n) l K = (n ≤ l.length ∧ K (.agg ((l.take n).map deg))) := id rfl
theorem deg_bool (b : Bool) : deg (.bool b) = (.bool b) := id rfl
theorem isTup_bool (b : Bool) : isTup (.bool b) = false := id rfl
theorem cellsOf_bool (b : Bool) : cellsOf (.bool b) = [.bool b] := id rfl
theorem deg_int (i : IntKind) (n : Int) : deg (.int i n) = (.int i n) := id rfl
theorem isTup_int (i : IntKind) (n : Int) : isTup (.int i n) = false := id rfl
theorem cellsOf_int (i : IntKind) (n : Int) : cellsOf (.int i n) = [.int i n] := id rfl
theorem deg_str (s : ByteArray) : deg (.str s) = (.str s) := id rfl
theorem isTup_str (s : ByteArray) : isTup (.str s) = false := id rfl
theorem cellsOf_str (s : ByteArray) : cellsOf (.str s) = [.str s] := id rfl
theorem deg_nilp  : deg .nilp = .nilp := id rfl
theorem isTup_nilp  : isTup .nilp = false := id rfl
theorem cellsOf_nilp  : cellsOf .nilp = [.nilp] := id rfl
theorem deg_ptr (i o : Nat) : deg (.ptr i o) = (.ptr i o) := id rfl
theorem isTup_ptr (i o : Nat) : isTup (.ptr i o) = false := id rfl
theorem cellsOf_ptr (i o : Nat) : cellsOf (.ptr i o) = [.ptr i o] := id rfl
theorem deg_fp (l : List AV) : deg (.fp l) = (.fp l) := id rfl
theorem isTup_fp (l : List AV) : isTup (.fp l) = false := id rfl
theorem cellsOf_fp (l : List AV) : cellsOf (.fp l) = [.fp l] := id rfl
theorem deg_hs (i n : Nat) : deg (.hs i n) = (.hs i n) := id rfl
theorem isTup_hs (i n : Nat) : isTup (.hs i n) = false := id rfl
theorem cellsOf_hs (i n : Nat) : cellsOf (.hs i n) = [.hs i n] := id rfl
theorem deg_agg (l : List AV) : deg (.agg l) = (.agg l) := id rfl
theorem isTup_agg (l : List AV) : isTup (.agg l) = false := id rfl
theorem cellsOf_agg (l : List AV) : cellsOf (.agg l) = l := id rfl
theorem deg_tup (l : List AV) : deg (.tup l) = (.tup l) := id rfl
theorem isTup_tup (l : List AV) : isTup (.tup l) = true := id rfl
theorem cellsOf_tup (l : List AV) : cellsOf (.tup l) = [.tup l] := id rfl
theorem deg_fn (f : FuncId) (l : List AV) : deg (.fn f l) = (.fn f l) := id rfl
theorem isTup_fn (f : FuncId) (l : List AV) : isTup (.fn f l) = false := id rfl
theorem cellsOf_fn (f : FuncId) (l : List AV) : cellsOf (.fn f l) = [.fn f l] := id rfl
theorem deg_fnb (f : FuncId) (l : List AV) : deg (.fnb f l) = (.fnb f l) := id rfl
theorem isTup_fnb (f : FuncId) (l : List AV) : isTup (.fnb f l) = false := id rfl
theorem cellsOf_fnb (f : FuncId) (l : List AV) : cellsOf (.fnb f l) = [.fnb f l] := id rfl
theorem deg_nilf  : deg .nilf = .nilf := id rfl
theorem isTup_nilf  : isTup .nilf = false := id rfl
theorem cellsOf_nilf  : cellsOf .nilf = [.nilf] := id rfl
theorem deg_opq  : deg .opq = .opq := id rfl
theorem isTup_opq  : isTup .opq = false := id rfl
theorem cellsOf_opq  : cellsOf .opq = [.opq] := id rfl
theorem deg_frn (Q : World → Value → Prop) : deg (.frn Q) = (.frn Q) := id rfl
theorem isTup_frn (Q : World → Value → Prop) : isTup (.frn Q) = false := id rfl
theorem cellsOf_frn (Q : World → Value → Prop) : cellsOf (.frn Q) = [.frn Q] := id rfl
theorem deg_ro (n : Nat) (l : List AV) : deg (.lst .ro n l) = .lst .ro n l := id rfl
theorem deg_clip (n : Nat) (l : List AV) : deg (.lst .clip n l) = .lst .clip n l := id rfl
theorem deg_own (e : TypeId) (n : Nat) (l : List AV) : deg (.lst (.own e) n l) = .lst .ro n l := id rfl
theorem isTup_lst (f : Fl) (n : Nat) (l : List AV) : isTup (.lst f n l) = false := id rfl
theorem cellsOf_lst (f : Fl) (n : Nat) (l : List AV) : cellsOf (.lst f n l) = [.lst f n l] := id rfl
end
end Go.Proofs.Ytpjlkefadnbgdaa

/- The abstract layer: branches that are not taken are not walked. -/
namespace Go.Proofs.Ytpjlkefadnbgdaa
set_option linter.unusedSimpArgs false
set_option linter.unusedVariables false
open Go.RowKit Go.Lib

theorem sel (p : Bool) (A B : Prop) : ((p = true → A) ∧ (p = false → B)) = (if p = true then A else B) := by cases p <;> simp
theorem selg (p want : Bool) (A B : Prop) : ((p = want → A) ∧ (p = !want → B)) = (if p = want then A else B) := by cases p <;> cases want <;> simp
theorem ite_and (c : Prop) [Decidable c] (A B : Prop) : (if c then A else B) = ((c → A) ∧ (¬ c → B)) := by
  by_cases h : c <;> simp [h]
theorem end_get (h : Hp) (x : Option (Bool × List AV)) : (h ++ [x])[h.length]? = some x := by simp
theorem end_set (h : Hp) (x y : Option (Bool × List AV)) : (h ++ [x]).set h.length y = h ++ [y] := by simp
section
variable (P : Program)
theorem W_cond2 (c : Opd) (a b : ACode) (fr : Fr) (h : Hp) (Q : Exit → Fr → Hp → Prop) : W P (.cond c a b) fr h Q = match ev fr c with
    | some (.bool p) => (if p = true then W P a fr h Q else W P b fr h Q)
    | _ => False := by
  rw [W_cond]
  simp only [sel] <;> rfl
theorem WOps_gd2 (d : Option Nat) (q : Nat) (want : Bool) (o : AOp) (f : Option (FB × List Nat)) (r : List AStm) (fr : Fr) (h : Hp) (K : Fr → Hp → Prop) : WOps P (⟨d, some (q, want), o, f⟩ :: r) fr h K = match lk fr q with
      | some (.bool p) => (if p = want then wop P d o ((q, .bool want) :: fr) h (kops P r K) else WOps P r (put d (.tup []) ((q, .bool (!want)) :: fr)) h K)
      | some (.tup []) => WOps P r (put d (.tup []) fr) h K
      | _ => False := by
  rw [WOps_gd']
  simp only [selg] <;> rfl
theorem VOps_gd2 (d : Option Nat) (q : Nat) (want : Bool) (o : AOp) (r : List AStm) (fr : Fr) (h : Hp) (K : Fr → Hp → Prop) : VOps P (⟨d, some (q, want), o, none⟩ :: r) fr h K = match lk fr q with
      | some (.bool p) => (if p = want then eff P o ((q, .bool want) :: fr) h (kput d o ((q, .bool want) :: fr) (kvops P r K)) else VOps P r (put d (.tup []) ((q, .bool (!want)) :: fr)) h K)
      | some (.tup []) => VOps P r (put d (.tup []) fr) h K
      | _ => False := by
  rw [VOps_gd']
  simp only [selg] <;> rfl
theorem VOps_gdft2 (d : Option Nat) (q : Nat) (want : Bool) (o : AOp) (b : FB) (ps : List Nat) (r : List AStm) (fr : Fr) (h : Hp) (K : Fr → Hp → Prop) : VOps P (⟨d, some (q, want), o, some (b, ps)⟩ :: r) fr h K = match lk fr q with
      | some (.bool p) => (if p = want then (apart ((q, .bool want) :: fr) (fbId b ((q, .bool want) :: fr) h) ps ∧ effF P b o ((q, .bool want) :: fr) h (kput d o ((q, .bool want) :: fr) (kvops P r K))) else VOps P r (put d (.tup []) ((q, .bool (!want)) :: fr)) h K)
      | some (.tup []) => VOps P r (put d (.tup []) fr) h K
      | _ => False := by
  rw [VOps_gdft']
  simp only [selg] <;> rfl
theorem wop_pick2 (d : Option Nat) (c x y : Opd) (fr : Fr) (h : Hp) (K : Fr → Hp → Prop) : wop P d (.pick c x y) fr h K = (match ev fr c with
    | some (.bool p) => (if p = true then (match ev fr x with
      | some a => K (put d a fr) h
      | none => False) else (match ev fr y with
      | some a => K (put d a fr) h
      | none => False))
    | _ => False) := by
  rw [wop_pick]
  simp only [sel] <;> rfl
theorem eff_pick2 (c x y : Opd) (fr : Fr) (h : Hp) (R : AV → Hp → Prop) : eff P (.pick c x y) fr h R = (match ev fr c with
    | some (.bool p) => (if p = true then (match ev fr x with
      | some a => R a h
      | none => False) else (match ev fr y with
      | some a => R a h
      | none => False))
    | _ => False) := by
  rw [eff_pick]
  simp only [sel] <;> rfl
end
end Go.Proofs.Ytpjlkefadnbgdaa

/- The abstract layer: the walk's laws as one. (Written by bundle.py.) -/
namespace Go.Proofs.Ytpjlkefadnbgdaa
set_option linter.unusedSimpArgs false
set_option linter.unusedVariables false
open Go.RowKit Go.Lib

theorem wk : type_of% (And.intro (And.intro (And.intro (And.intro (And.intro (And.intro (And.intro (And.intro (@W_skip) (@W_scope)) (And.intro (@W_dead) (And.intro (@kscope_normal) (@kscope_exit)))) (And.intro (And.intro (@kscope_ret) (And.intro (@W_ops) (@W_draw))) (And.intro (@W_seq) (And.intro (@W_cond2) (@W_block))))) (And.intro (And.intro (And.intro (@W_exit) (@W_ret)) (And.intro (@W_keep) (And.intro (@kseq_normal) (@kseq_exit)))) (And.intro (And.intro (@kseq_ret) (And.intro (@kblock_normal) (@kblock_exit))) (And.intro (@kblock_ret) (And.intro (@kloop_normal) (@kloop_exit)))))) (And.intro (And.intro (And.intro (And.intro (@kloop_ret) (@kret_normal)) (And.intro (@kret_ret) (And.intro (@kdraw_eq) (@kval_eq)))) (And.intro (And.intro (@kv_eq) (And.intro (@kput_eq) (@kbox_eq))) (And.intro (@kobj_eq) (And.intro (@klst_eq) (@krow_eq))))) (And.intro (And.intro (And.intro (@kcall_eq) (@put_some)) (And.intro (@put_none) (And.intro (@lk_cons') (@lk_nil)))) (And.intro (And.intro (@restr_nil) (And.intro (@restr_cons) (@ev_t))) (And.intro (@ev_c) (And.intro (@ev_f) (@evs_nil))))))) (And.intro (And.intro (And.intro (And.intro (And.intro (@evs_cons) (@evD_none)) (And.intro (@evD_some) (And.intro (@degr_nil) (@degr_cons)))) (And.intro (And.intro (@args0_nil) (And.intro (@args0_cons) (@buildK_nil))) (And.intro (@buildK_cons) (And.intro (@upgK_nil) (@upgK_cons))))) (And.intro (And.intro (And.intro (@resL_nil) (@resL_t)) (And.intro (@resL_c) (And.intro (@res1_one) (@res1_nil)))) (And.intro (And.intro (@res1_two) (And.intro (@WOps_nil') (@WOps_cons'))) (And.intro (@WOps_gd2) (And.intro (@kops_eq') (@VOps_nil')))))) (And.intro (And.intro (And.intro (And.intro (@VOps_cons') (@VOps_gd2)) (And.intro (@VOps_ft') (And.intro (@VOps_gdft2) (@apart_nil)))) (And.intro (And.intro (@apart_cons) (And.intro (@ptrId_ptr) (@ptrId_hs))) (And.intro (@sameId_eq) (And.intro (@fbId_s) (@fbId_h))))) (And.intro (And.intro (And.intro (@effF_load) (And.intro (@effF_loado) (@effF_store))) (And.intro (@effF_stores) (And.intro (@effF_storeo) (@effF_calli)))) (And.intro (And.intro (@effF_new) (And.intro (@effF_box) (@effF_mkn))) (And.intro (@W_holes) (And.intro (@rep2) (@rep3)))))))) (And.intro (And.intro (And.intro (And.intro (And.intro (And.intro (@kvops_eq') (@splice_cons')) (And.intro (@splice_nil') (And.intro (@wop_mv) (@eff_mv)))) (And.intro (And.intro (@wop_pick2) (And.intro (@eff_pick2) (@wop_build))) (And.intro (@eff_build) (And.intro (@wop_load) (@eff_load))))) (And.intro (And.intro (And.intro (@wop_lds) (@eff_lds)) (And.intro (@wop_nilck) (And.intro (@eff_nilck) (@wop_bin)))) (And.intro (And.intro (@eff_bin) (And.intro (@wop_pnil) (@eff_pnil))) (And.intro (@wop_bbin) (And.intro (@eff_bbin) (@wop_not)))))) (And.intro (And.intro (And.intro (And.intro (@eff_not) (@wop_conv)) (And.intro (@eff_conv) (And.intro (@wop_cstr) (@eff_cstr)))) (And.intro (And.intro (@wop_b2s) (And.intro (@eff_b2s) (@wop_fld))) (And.intro (@eff_fld) (And.intro (@wop_idxa) (@eff_idxa))))) (And.intro (And.intro (And.intro (@wop_idxs) (And.intro (@eff_idxs) (@wop_slcs))) (And.intro (@eff_slcs) (And.intro (@wop_slcl) (@eff_slcl)))) (And.intro (And.intro (@wop_ext) (And.intro (@eff_ext) (@wop_lens))) (And.intro (@eff_lens) (And.intro (@wop_lenl) (@eff_lenl))))))) (And.intro (And.intro (And.intro (And.intro (And.intro (@wop_mn) (@eff_mn)) (And.intro (@wop_mx) (And.intro (@eff_mx) (@wop_ex)))) (And.intro (And.intro (@eff_ex) (And.intro (@wop_mkfn) (@eff_mkfn))) (And.intro (@wop_mvu) (And.intro (@eff_mvu) (@wop_mvo))))) (And.intro (And.intro (And.intro (@eff_mvo) (@wop_new)) (And.intro (@eff_new) (And.intro (@wop_box) (@eff_box)))) (And.intro (And.intro (@wop_bsl) (And.intro (@eff_bsl) (@wop_mk0))) (And.intro (@eff_mk0) (And.intro (@wop_mkn) (@eff_mkn)))))) (And.intro (And.intro (And.intro (And.intro (@wop_loado) (@eff_loado)) (And.intro (@wop_app) (And.intro (@eff_app) (@wop_appo)))) (And.intro (And.intro (@eff_appo) (And.intro (@wop_appso) (@eff_appso))) (And.intro (@wop_bsh) (And.intro (@wop_store) (@wop_storeo))))) (And.intro (And.intro (And.intro (@wop_stores) (And.intro (@eff_store) (@eff_storeo))) (And.intro (@eff_stores) (And.intro (@wop_rngs) (@wop_nxt)))) (And.intro (And.intro (@wop_call) (And.intro (@eff_call) (@wop_calli))) (And.intro (@eff_calli) (And.intro (@wop_snil) (@eff_snil))))))))) (And.intro (And.intro (And.intro (And.intro (And.intro (And.intro (And.intro (@wop_storeu) (@tk_mv)) (And.intro (@tk_pick) (And.intro (@tk_build) (@tk_load)))) (And.intro (And.intro (@tk_lds) (And.intro (@tk_nilck) (@tk_bin))) (And.intro (@tk_pnil) (And.intro (@tk_bbin) (@tk_not))))) (And.intro (And.intro (And.intro (@tk_conv) (@tk_cstr)) (And.intro (@tk_b2s) (And.intro (@tk_fld) (@tk_idxa)))) (And.intro (And.intro (@tk_idxs) (And.intro (@tk_slcs) (@tk_slcl))) (And.intro (@tk_ext) (And.intro (@tk_lens) (@tk_lenl)))))) (And.intro (And.intro (And.intro (And.intro (@tk_mn) (@tk_mx)) (And.intro (@tk_ex) (And.intro (@tk_mkfn) (@tk_mvu)))) (And.intro (And.intro (@tk_mvo) (And.intro (@tk_new) (@tk_box))) (And.intro (@tk_bsl) (And.intro (@tk_mk0) (@tk_mkn))))) (And.intro (And.intro (And.intro (@tk_loado) (@tk_app)) (And.intro (@tk_appo) (And.intro (@tk_appso) (@tk_store)))) (And.intro (And.intro (@tk_storeo) (And.intro (@tk_call) (@tk_stores))) (And.intro (@tk_calli) (And.intro (@tk_snil) (@ex_wadd))))))) (And.intro (And.intro (And.intro (And.intro (And.intro (@ex_wsub) (@ex_wmul)) (And.intro (@ex_aeq) (And.intro (@ex_r2s) (@ex_ibs)))) (And.intro (And.intro (@ex_mkb) (And.intro (@deg_itr) (@int_add))) (And.intro (@int_sub) (And.intro (@int_mul) (@int_quo))))) (And.intro (And.intro (And.intro (@int_rem) (@int_and)) (And.intro (@int_or) (And.intro (@int_xor) (@int_eql)))) (And.intro (And.intro (@int_neq) (And.intro (@int_lss) (@int_leq))) (And.intro (@int_gtr) (And.intro (@int_geq) (@int_shl)))))) (And.intro (And.intro (And.intro (And.intro (@int_shr) (@str_add)) (And.intro (@str_eql) (And.intro (@str_neq) (@str_lss)))) (And.intro (And.intro (@arith_i8) (And.intro (@arith_i16) (@arith_i32))) (And.intro (@arith_u8) (And.intro (@arith_u16) (@arith_u32))))) (And.intro (And.intro (And.intro (@arith_u64) (And.intro (@arith_i64) (@loadK_none))) (And.intro (@loadK_some) (And.intro (@deg_bool) (@isTup_bool)))) (And.intro (And.intro (@cellsOf_bool) (And.intro (@deg_int) (@isTup_int))) (And.intro (@cellsOf_int) (And.intro (@deg_str) (@isTup_str)))))))) (And.intro (And.intro (And.intro (And.intro (And.intro (And.intro (@cellsOf_str) (@deg_nilp)) (And.intro (@isTup_nilp) (And.intro (@cellsOf_nilp) (@deg_ptr)))) (And.intro (And.intro (@isTup_ptr) (And.intro (@cellsOf_ptr) (@deg_fp))) (And.intro (@isTup_fp) (And.intro (@cellsOf_fp) (@deg_hs))))) (And.intro (And.intro (And.intro (@isTup_hs) (@cellsOf_hs)) (And.intro (@deg_agg) (And.intro (@isTup_agg) (@cellsOf_agg)))) (And.intro (And.intro (@deg_tup) (And.intro (@isTup_tup) (@cellsOf_tup))) (And.intro (@deg_fn) (And.intro (@isTup_fn) (@cellsOf_fn)))))) (And.intro (And.intro (And.intro (And.intro (@deg_fnb) (@isTup_fnb)) (And.intro (@cellsOf_fnb) (And.intro (@deg_nilf) (@isTup_nilf)))) (And.intro (And.intro (@cellsOf_nilf) (And.intro (@deg_opq) (@isTup_opq))) (And.intro (@cellsOf_opq) (And.intro (@deg_frn) (@isTup_frn))))) (And.intro (And.intro (And.intro (@cellsOf_frn) (And.intro (@deg_ro) (@deg_clip))) (And.intro (@deg_own) (And.intro (@isTup_lst) (@cellsOf_lst)))) (And.intro (And.intro (@Option.map_some.{0, 0}) (And.intro (@Option.map_none.{0, 0}) (@Nat.zero_mul))) (And.intro (@Nat.add_zero) (And.intro (@Nat.zero_add) (@Nat.mul_one))))))) (And.intro (And.intro (And.intro (And.intro (And.intro (@Nat.succ_ne_self) (@Nat.one_ne_zero)) (And.intro (@Nat.zero_ne_one) (And.intro (@List.length_cons.{0}) (@List.length_nil.{0})))) (And.intro (And.intro (@List.set_cons_zero.{0}) (And.intro (@List.set_cons_succ.{0}) (@List.getElem?_cons_zero.{0}))) (And.intro (@List.getElem?_cons_succ.{0}) (And.intro (@List.getElem?_nil.{0}) (@List.drop_zero.{0}))))) (And.intro (And.intro (And.intro (@List.drop_succ_cons.{0}) (@List.take_succ_cons.{0})) (And.intro (@List.take_zero.{0}) (And.intro (@List.map_cons.{0, 0}) (@List.map_nil.{0, 0})))) (And.intro (And.intro (@List.nil_append.{0}) (And.intro (@List.append_nil.{0}) (@List.cons_append.{0}))) (And.intro (@Bool.not_true) (And.intro (@Bool.not_false) (@Bool.true_eq_false)))))) (And.intro (And.intro (And.intro (And.intro (@Bool.false_eq_true) (@true_and)) (And.intro (@and_true) (And.intro (@and_self) (@true_implies)))) (And.intro (And.intro (@false_implies) (And.intro (@Bool.not_eq_true') (@Bool.not_eq_false'))) (And.intro (@Bool.not_eq_eq_eq_not) (And.intro (@decide_eq_true_eq) (@decide_eq_false_iff_not))))) (And.intro (And.intro (And.intro (@Int.toNat_zero) (And.intro (@not_true_eq_false) (@not_false_eq_true))) (And.intro (@List.set_set.{0}) (And.intro (@end_get) (@end_set)))) (And.intro (And.intro (@ite_and) (And.intro (@decide_true) (@decide_false))) (And.intro (@Bool.not_eq_true) (And.intro (@Bool.not_eq_false) (@Decidable.not_not)))))))))) :=
  And.intro (And.intro (And.intro (And.intro (And.intro (And.intro (And.intro (And.intro (@W_skip) (@W_scope)) (And.intro (@W_dead) (And.intro (@kscope_normal) (@kscope_exit)))) (And.intro (And.intro (@kscope_ret) (And.intro (@W_ops) (@W_draw))) (And.intro (@W_seq) (And.intro (@W_cond2) (@W_block))))) (And.intro (And.intro (And.intro (@W_exit) (@W_ret)) (And.intro (@W_keep) (And.intro (@kseq_normal) (@kseq_exit)))) (And.intro (And.intro (@kseq_ret) (And.intro (@kblock_normal) (@kblock_exit))) (And.intro (@kblock_ret) (And.intro (@kloop_normal) (@kloop_exit)))))) (And.intro (And.intro (And.intro (And.intro (@kloop_ret) (@kret_normal)) (And.intro (@kret_ret) (And.intro (@kdraw_eq) (@kval_eq)))) (And.intro (And.intro (@kv_eq) (And.intro (@kput_eq) (@kbox_eq))) (And.intro (@kobj_eq) (And.intro (@klst_eq) (@krow_eq))))) (And.intro (And.intro (And.intro (@kcall_eq) (@put_some)) (And.intro (@put_none) (And.intro (@lk_cons') (@lk_nil)))) (And.intro (And.intro (@restr_nil) (And.intro (@restr_cons) (@ev_t))) (And.intro (@ev_c) (And.intro (@ev_f) (@evs_nil))))))) (And.intro (And.intro (And.intro (And.intro (And.intro (@evs_cons) (@evD_none)) (And.intro (@evD_some) (And.intro (@degr_nil) (@degr_cons)))) (And.intro (And.intro (@args0_nil) (And.intro (@args0_cons) (@buildK_nil))) (And.intro (@buildK_cons) (And.intro (@upgK_nil) (@upgK_cons))))) (And.intro (And.intro (And.intro (@resL_nil) (@resL_t)) (And.intro (@resL_c) (And.intro (@res1_one) (@res1_nil)))) (And.intro (And.intro (@res1_two) (And.intro (@WOps_nil') (@WOps_cons'))) (And.intro (@WOps_gd2) (And.intro (@kops_eq') (@VOps_nil')))))) (And.intro (And.intro (And.intro (And.intro (@VOps_cons') (@VOps_gd2)) (And.intro (@VOps_ft') (And.intro (@VOps_gdft2) (@apart_nil)))) (And.intro (And.intro (@apart_cons) (And.intro (@ptrId_ptr) (@ptrId_hs))) (And.intro (@sameId_eq) (And.intro (@fbId_s) (@fbId_h))))) (And.intro (And.intro (And.intro (@effF_load) (And.intro (@effF_loado) (@effF_store))) (And.intro (@effF_stores) (And.intro (@effF_storeo) (@effF_calli)))) (And.intro (And.intro (@effF_new) (And.intro (@effF_box) (@effF_mkn))) (And.intro (@W_holes) (And.intro (@rep2) (@rep3)))))))) (And.intro (And.intro (And.intro (And.intro (And.intro (And.intro (@kvops_eq') (@splice_cons')) (And.intro (@splice_nil') (And.intro (@wop_mv) (@eff_mv)))) (And.intro (And.intro (@wop_pick2) (And.intro (@eff_pick2) (@wop_build))) (And.intro (@eff_build) (And.intro (@wop_load) (@eff_load))))) (And.intro (And.intro (And.intro (@wop_lds) (@eff_lds)) (And.intro (@wop_nilck) (And.intro (@eff_nilck) (@wop_bin)))) (And.intro (And.intro (@eff_bin) (And.intro (@wop_pnil) (@eff_pnil))) (And.intro (@wop_bbin) (And.intro (@eff_bbin) (@wop_not)))))) (And.intro (And.intro (And.intro (And.intro (@eff_not) (@wop_conv)) (And.intro (@eff_conv) (And.intro (@wop_cstr) (@eff_cstr)))) (And.intro (And.intro (@wop_b2s) (And.intro (@eff_b2s) (@wop_fld))) (And.intro (@eff_fld) (And.intro (@wop_idxa) (@eff_idxa))))) (And.intro (And.intro (And.intro (@wop_idxs) (And.intro (@eff_idxs) (@wop_slcs))) (And.intro (@eff_slcs) (And.intro (@wop_slcl) (@eff_slcl)))) (And.intro (And.intro (@wop_ext) (And.intro (@eff_ext) (@wop_lens))) (And.intro (@eff_lens) (And.intro (@wop_lenl) (@eff_lenl))))))) (And.intro (And.intro (And.intro (And.intro (And.intro (@wop_mn) (@eff_mn)) (And.intro (@wop_mx) (And.intro (@eff_mx) (@wop_ex)))) (And.intro (And.intro (@eff_ex) (And.intro (@wop_mkfn) (@eff_mkfn))) (And.intro (@wop_mvu) (And.intro (@eff_mvu) (@wop_mvo))))) (And.intro (And.intro (And.intro (@eff_mvo) (@wop_new)) (And.intro (@eff_new) (And.intro (@wop_box) (@eff_box)))) (And.intro (And.intro (@wop_bsl) (And.intro (@eff_bsl) (@wop_mk0))) (And.intro (@eff_mk0) (And.intro (@wop_mkn) (@eff_mkn)))))) (And.intro (And.intro (And.intro (And.intro (@wop_loado) (@eff_loado)) (And.intro (@wop_app) (And.intro (@eff_app) (@wop_appo)))) (And.intro (And.intro (@eff_appo) (And.intro (@wop_appso) (@eff_appso))) (And.intro (@wop_bsh) (And.intro (@wop_store) (@wop_storeo))))) (And.intro (And.intro (And.intro (@wop_stores) (And.intro (@eff_store) (@eff_storeo))) (And.intro (@eff_stores) (And.intro (@wop_rngs) (@wop_nxt)))) (And.intro (And.intro (@wop_call) (And.intro (@eff_call) (@wop_calli))) (And.intro (@eff_calli) (And.intro (@wop_snil) (@eff_snil))))))))) (And.intro (And.intro (And.intro (And.intro (And.intro (And.intro (And.intro (@wop_storeu) (@tk_mv)) (And.intro (@tk_pick) (And.intro (@tk_build) (@tk_load)))) (And.intro (And.intro (@tk_lds) (And.intro (@tk_nilck) (@tk_bin))) (And.intro (@tk_pnil) (And.intro (@tk_bbin) (@tk_not))))) (And.intro (And.intro (And.intro (@tk_conv) (@tk_cstr)) (And.intro (@tk_b2s) (And.intro (@tk_fld) (@tk_idxa)))) (And.intro (And.intro (@tk_idxs) (And.intro (@tk_slcs) (@tk_slcl))) (And.intro (@tk_ext) (And.intro (@tk_lens) (@tk_lenl)))))) (And.intro (And.intro (And.intro (And.intro (@tk_mn) (@tk_mx)) (And.intro (@tk_ex) (And.intro (@tk_mkfn) (@tk_mvu)))) (And.intro (And.intro (@tk_mvo) (And.intro (@tk_new) (@tk_box))) (And.intro (@tk_bsl) (And.intro (@tk_mk0) (@tk_mkn))))) (And.intro (And.intro (And.intro (@tk_loado) (@tk_app)) (And.intro (@tk_appo) (And.intro (@tk_appso) (@tk_store)))) (And.intro (And.intro (@tk_storeo) (And.intro (@tk_call) (@tk_stores))) (And.intro (@tk_calli) (And.intro (@tk_snil) (@ex_wadd))))))) (And.intro (And.intro (And.intro (And.intro (And.intro (@ex_wsub) (@ex_wmul)) (And.intro (@ex_aeq) (And.intro (@ex_r2s) (@ex_ibs)))) (And.intro (And.intro (@ex_mkb) (And.intro (@deg_itr) (@int_add))) (And.intro (@int_sub) (And.intro (@int_mul) (@int_quo))))) (And.intro (And.intro (And.intro (@int_rem) (@int_and)) (And.intro (@int_or) (And.intro (@int_xor) (@int_eql)))) (And.intro (And.intro (@int_neq) (And.intro (@int_lss) (@int_leq))) (And.intro (@int_gtr) (And.intro (@int_geq) (@int_shl)))))) (And.intro (And.intro (And.intro (And.intro (@int_shr) (@str_add)) (And.intro (@str_eql) (And.intro (@str_neq) (@str_lss)))) (And.intro (And.intro (@arith_i8) (And.intro (@arith_i16) (@arith_i32))) (And.intro (@arith_u8) (And.intro (@arith_u16) (@arith_u32))))) (And.intro (And.intro (And.intro (@arith_u64) (And.intro (@arith_i64) (@loadK_none))) (And.intro (@loadK_some) (And.intro (@deg_bool) (@isTup_bool)))) (And.intro (And.intro (@cellsOf_bool) (And.intro (@deg_int) (@isTup_int))) (And.intro (@cellsOf_int) (And.intro (@deg_str) (@isTup_str)))))))) (And.intro (And.intro (And.intro (And.intro (And.intro (And.intro (@cellsOf_str) (@deg_nilp)) (And.intro (@isTup_nilp) (And.intro (@cellsOf_nilp) (@deg_ptr)))) (And.intro (And.intro (@isTup_ptr) (And.intro (@cellsOf_ptr) (@deg_fp))) (And.intro (@isTup_fp) (And.intro (@cellsOf_fp) (@deg_hs))))) (And.intro (And.intro (And.intro (@isTup_hs) (@cellsOf_hs)) (And.intro (@deg_agg) (And.intro (@isTup_agg) (@cellsOf_agg)))) (And.intro (And.intro (@deg_tup) (And.intro (@isTup_tup) (@cellsOf_tup))) (And.intro (@deg_fn) (And.intro (@isTup_fn) (@cellsOf_fn)))))) (And.intro (And.intro (And.intro (And.intro (@deg_fnb) (@isTup_fnb)) (And.intro (@cellsOf_fnb) (And.intro (@deg_nilf) (@isTup_nilf)))) (And.intro (And.intro (@cellsOf_nilf) (And.intro (@deg_opq) (@isTup_opq))) (And.intro (@cellsOf_opq) (And.intro (@deg_frn) (@isTup_frn))))) (And.intro (And.intro (And.intro (@cellsOf_frn) (And.intro (@deg_ro) (@deg_clip))) (And.intro (@deg_own) (And.intro (@isTup_lst) (@cellsOf_lst)))) (And.intro (And.intro (@Option.map_some.{0, 0}) (And.intro (@Option.map_none.{0, 0}) (@Nat.zero_mul))) (And.intro (@Nat.add_zero) (And.intro (@Nat.zero_add) (@Nat.mul_one))))))) (And.intro (And.intro (And.intro (And.intro (And.intro (@Nat.succ_ne_self) (@Nat.one_ne_zero)) (And.intro (@Nat.zero_ne_one) (And.intro (@List.length_cons.{0}) (@List.length_nil.{0})))) (And.intro (And.intro (@List.set_cons_zero.{0}) (And.intro (@List.set_cons_succ.{0}) (@List.getElem?_cons_zero.{0}))) (And.intro (@List.getElem?_cons_succ.{0}) (And.intro (@List.getElem?_nil.{0}) (@List.drop_zero.{0}))))) (And.intro (And.intro (And.intro (@List.drop_succ_cons.{0}) (@List.take_succ_cons.{0})) (And.intro (@List.take_zero.{0}) (And.intro (@List.map_cons.{0, 0}) (@List.map_nil.{0, 0})))) (And.intro (And.intro (@List.nil_append.{0}) (And.intro (@List.append_nil.{0}) (@List.cons_append.{0}))) (And.intro (@Bool.not_true) (And.intro (@Bool.not_false) (@Bool.true_eq_false)))))) (And.intro (And.intro (And.intro (And.intro (@Bool.false_eq_true) (@true_and)) (And.intro (@and_true) (And.intro (@and_self) (@true_implies)))) (And.intro (And.intro (@false_implies) (And.intro (@Bool.not_eq_true') (@Bool.not_eq_false'))) (And.intro (@Bool.not_eq_eq_eq_not) (And.intro (@decide_eq_true_eq) (@decide_eq_false_iff_not))))) (And.intro (And.intro (And.intro (@Int.toNat_zero) (And.intro (@not_true_eq_false) (@not_false_eq_true))) (And.intro (@List.set_set.{0}) (And.intro (@end_get) (@end_set)))) (And.intro (And.intro (@ite_and) (And.intro (@decide_true) (@decide_false))) (And.intro (@Bool.not_eq_true) (And.intro (@Bool.not_eq_false) (@Decidable.not_not)))))))))
end Go.Proofs.Ytpjlkefadnbgdaa

namespace Go.Proofs.Ytpjlkefadnbgdaa
open Go.RowKit
def F_ref02_Of : AFn :=
 ⟨29, [.t 2], .seq (.ops [⟨some 2, none, .mv (.c (.str ⟨#[]⟩)), none⟩])
 (.keep [0] (.seq (.ops [⟨some 5, none, .bsl 5 1 0 [] [], none⟩,
 ⟨some 3, none, .mvo 5, none⟩])
 (.keep [0, 3] (.seq (.seq (.ops [⟨some 4, none, .mv (.c (.int .i64 0)), none⟩])
 (.keep [0, 3, 4] (.block 0 (.loop [0, 3, 4] (.seq (.seq (.ops [⟨some 6, none, .mv (.t 4), none⟩,
 ⟨some 7, none, .mv (.t 0), none⟩,
 ⟨some 8, none, .lenl (.t 7), none⟩,
 ⟨some 9, none, .bin .lss (.t 6) (.t 8), none⟩])
 (.keep [0, 3, 4, 9] (.cond (.t 9)
 (.skip)
 (.exit 0))))
 (.keep [0, 3, 4] (.seq (.block 1 (.draw [0, 3, 4] [⟨some 12, none, .mvo 3, none⟩,
 ⟨some 13, none, .mv (.t 0), none⟩,
 ⟨some 14, none, .mv (.t 4), none⟩,
 ⟨some 15, none, .idxa 1 (.t 13) (.t 14), none⟩,
 ⟨some 16, none, .load none (.t 15), none⟩,
 ⟨some 17, none, .bin .quo (.t 16) (.c (.int .u16 256)), none⟩,
 ⟨some 18, none, .conv .u8 (.t 17), none⟩,
 ⟨some 19, none, .mv (.t 0), none⟩,
 ⟨some 20, none, .mv (.t 4), none⟩,
 ⟨some 21, none, .idxa 1 (.t 19) (.t 20), none⟩,
 ⟨some 22, none, .load none (.t 21), none⟩,
 ⟨some 23, none, .bin .rem (.t 22) (.c (.int .u16 256)), none⟩,
 ⟨some 24, none, .conv .u8 (.t 23), none⟩,
 ⟨some 25, none, .bsl 5 1 2 [(.int .u8 0), (.int .u8 0)] [(0, 1, (.t 18)), (1, 1, (.t 24))], none⟩,
 ⟨some 26, none, .appo 5 1 1 12 (.t 25), none⟩,
 ⟨some 3, none, .mvo 26, none⟩]))
 (.keep [0, 3, 4] (.ops [⟨some 10, none, .mv (.t 4), none⟩,
 ⟨some 11, none, .bin .add (.t 10) (.c (.int .i64 1)), none⟩,
 ⟨some 4, none, .mv (.t 11), none⟩])))))))))
 (.keep [3] (.seq (.ops [⟨some 27, none, .mv (.t 3), none⟩,
 ⟨some 28, none, .b2s (.t 27), none⟩,
 ⟨some 2, none, .mv (.t 28), none⟩])
 (.ret)))))))⟩
theorem F_ref02_Of_ok : chkFn Try.prog 14 F_ref02_Of = true := by kernel_rfl
def F_pack_Out_Num : AFn :=
 ⟨46, [], .seq (.seq (.ops [⟨some 4, none, .mv (.t 1), none⟩,
 ⟨some 5, none, .bin .lss (.t 4) (.c (.int .i64 0)), none⟩,
 ⟨some 6, none, .mv (.t 5), none⟩,
 ⟨some 7, (some (6, false)), .mv (.t 1), none⟩,
 ⟨some 8, (some (6, false)), .bin .gtr (.t 7) (.c (.int .i64 4611686018427387904)), none⟩,
 ⟨some 9, none, .pick (.t 6) (.c (.bool true)) (.t 8), none⟩])
 (.keep [0, 1, 9] (.cond (.t 9)
 (.ops [⟨some 10, none, .mv (.t 0), none⟩,
 ⟨some 11, none, .nilck (.t 10), none⟩,
 ⟨some 12, none, .fld 0 (.t 11), none⟩,
 ⟨some 13, none, .call (.f 37) [(.t 12)], none⟩])
 (.skip))))
 (.keep [0, 1] (.seq (.seq (.ops [⟨some 14, none, .mv (.t 0), none⟩,
 ⟨some 15, none, .nilck (.t 14), none⟩,
 ⟨some 16, none, .fld 0 (.t 15), none⟩,
 ⟨some 17, none, .call (.f 38) [(.t 16)], none⟩,
 ⟨some 18, none, .not (.t 17), none⟩])
 (.keep [0, 1, 18] (.cond (.t 18)
 (.ret)
 (.skip))))
 (.keep [0, 1] (.seq (.block 0 (.loop [0, 1] (.seq (.seq (.ops [⟨some 19, none, .mv (.t 1), none⟩,
 ⟨some 20, none, .bin .geq (.t 19) (.c (.int .i64 128)), none⟩])
 (.keep [0, 1, 20] (.cond (.t 20)
 (.skip)
 (.exit 0))))
 (.keep [0, 1] (.block 1 (.seq (.ops [⟨some 21, none, .mv (.t 0), none⟩,
 ⟨some 22, none, .mv (.t 0), none⟩,
 ⟨some 23, none, .nilck (.t 22), none⟩,
 ⟨some 24, none, .fld 1 (.t 23), none⟩,
 ⟨some 25, none, .loado (.t 24), none⟩,
 ⟨some 26, none, .mv (.t 1), none⟩,
 ⟨some 27, none, .conv .u8 (.t 26), none⟩,
 ⟨some 28, none, .bin .or (.t 27) (.c (.int .u8 128)), none⟩,
 ⟨some 29, none, .bsl 5 1 1 [(.int .u8 0)] [(0, 1, (.t 28))], none⟩,
 ⟨some 30, none, .appo 5 1 1 25 (.t 29), none⟩,
 ⟨some 31, none, .nilck (.t 21), none⟩,
 ⟨some 32, none, .fld 1 (.t 31), none⟩,
 ⟨none, none, .storeo (.t 32) 30, none⟩])
 (.keep [0, 1] (.ops [⟨some 33, none, .mv (.t 1), none⟩,
 ⟨some 34, none, .bin .shr (.t 33) (.c (.int .u64 7)), none⟩,
 ⟨some 1, none, .mv (.t 34), none⟩]))))))))
 (.keep [0, 1] (.ops [⟨some 35, none, .mv (.t 0), none⟩,
 ⟨some 36, none, .mv (.t 0), none⟩,
 ⟨some 37, none, .nilck (.t 36), none⟩,
 ⟨some 38, none, .fld 1 (.t 37), none⟩,
 ⟨some 39, none, .loado (.t 38), none⟩,
 ⟨some 40, none, .mv (.t 1), none⟩,
 ⟨some 41, none, .conv .u8 (.t 40), none⟩,
 ⟨some 42, none, .bsl 5 1 1 [(.int .u8 0)] [(0, 1, (.t 41))], none⟩,
 ⟨some 43, none, .appo 5 1 1 39 (.t 42), none⟩,
 ⟨some 44, none, .nilck (.t 35), none⟩,
 ⟨some 45, none, .fld 1 (.t 44), none⟩,
 ⟨none, none, .storeo (.t 45) 43, none⟩]))))))⟩
theorem F_pack_Out_Num_ok : chkFn Try.prog 17 F_pack_Out_Num = true := by kernel_rfl
def F_pack_Out_Done : AFn :=
 ⟨19, [.t 2, .t 3], .seq (.ops [⟨some 2, none, .mv (.c (.str ⟨#[]⟩)), none⟩,
 ⟨some 3, none, .mv (.c (.int .i64 0)), none⟩])
 (.keep [0] (.seq (.seq (.ops [⟨some 4, none, .mv (.t 0), none⟩,
 ⟨some 5, none, .nilck (.t 4), none⟩,
 ⟨some 6, none, .fld 0 (.t 5), none⟩,
 ⟨some 7, none, .call (.f 38) [(.t 6)], none⟩,
 ⟨some 8, none, .not (.t 7), none⟩])
 (.keep [0, 8] (.cond (.t 8)
 (.seq (.draw [2, 3] [⟨some 9, none, .mv (.t 0), none⟩,
 ⟨some 10, none, .nilck (.t 9), none⟩,
 ⟨some 11, none, .fld 0 (.t 10), none⟩,
 ⟨some 12, none, .fld 0 (.t 11), none⟩,
 ⟨some 13, none, .load none (.t 12), none⟩,
 ⟨some 2, none, .mv (.c (.str ⟨#[]⟩)), none⟩,
 ⟨some 3, none, .mv (.t 13), none⟩])
 (.ret))
 (.skip))))
 (.keep [0] (.seq (.ops [⟨some 14, none, .mv (.t 0), none⟩,
 ⟨some 15, none, .nilck (.t 14), none⟩,
 ⟨some 16, none, .fld 1 (.t 15), none⟩,
 ⟨some 17, none, .load none (.t 16), none⟩,
 ⟨some 18, none, .b2s (.t 17), none⟩,
 ⟨some 2, none, .mv (.t 18), none⟩,
 ⟨some 3, none, .mv (.c (.int .i64 0)), none⟩])
 (.ret)))))⟩
theorem F_pack_Out_Done_ok : chkFn Try.prog 18 F_pack_Out_Done = true := by kernel_rfl
def F_pack_From : AFn :=
 ⟨6, [.t 2], .seq (.ops [⟨some 2, none, .mv (.c .nilp), none⟩])
 (.keep [0] (.seq (.ops [⟨some 3, none, .mv (.t 0), none⟩,
 ⟨some 4, none, .build [(.int .i64 0), (.str ⟨#[]⟩), (.int .i64 0)] [(1, 1, (.t 3))], none⟩,
 ⟨some 5, none, .box (.t 4) [], none⟩,
 ⟨some 2, none, .mv (.t 5), none⟩])
 (.ret)))⟩
theorem F_pack_From_ok : chkFn Try.prog 19 F_pack_From = true := by kernel_rfl
def F_pack_In_Num : AFn :=
 ⟨45, [.t 4], .seq (.ops [⟨some 4, none, .mv (.c (.int .i64 0)), none⟩])
 (.keep [0, 1] (.seq (.seq (.ops [⟨some 7, none, .mv (.t 0), none⟩,
 ⟨some 8, none, .nilck (.t 7), none⟩,
 ⟨some 9, none, .fld 0 (.t 8), none⟩,
 ⟨some 10, none, .call (.f 38) [(.t 9)], none⟩,
 ⟨some 11, none, .not (.t 10), none⟩])
 (.keep [0, 1, 11] (.cond (.t 11)
 (.seq (.ops [⟨some 4, none, .mv (.c (.int .i64 0)), none⟩])
 (.ret))
 (.skip))))
 (.keep [0, 1] (.seq (.draw [0, 1, 5, 6] [⟨some 13, none, .mv (.t 0), none⟩,
 ⟨some 14, none, .nilck (.t 13), none⟩,
 ⟨some 15, none, .fld 1 (.t 14), none⟩,
 ⟨some 16, none, .load none (.t 15), none⟩,
 ⟨some 17, none, .mv (.t 0), none⟩,
 ⟨some 18, none, .nilck (.t 17), none⟩,
 ⟨some 19, none, .fld 2 (.t 18), none⟩,
 ⟨some 20, none, .load none (.t 19), none⟩,
 ⟨some 21, none, .slcs (.t 16) (some (.t 20)) none, none⟩,
 ⟨some 22, none, .call (.f 42) [(.t 21)], none⟩,
 ⟨some 12, none, .mv (.t 22), none⟩,
 ⟨some 23, none, .ext 0 (.t 12), none⟩,
 ⟨some 24, none, .ext 1 (.t 12), none⟩,
 ⟨some 5, none, .mv (.t 23), none⟩,
 ⟨some 6, none, .mv (.t 24), none⟩])
 (.keep [0, 1, 5, 6] (.seq (.seq (.ops [⟨some 25, none, .mv (.t 6), none⟩,
 ⟨some 26, none, .bin .eql (.t 25) (.c (.int .i64 0)), none⟩,
 ⟨some 27, none, .mv (.t 26), none⟩,
 ⟨some 28, (some (27, false)), .mv (.t 5), none⟩,
 ⟨some 29, (some (27, false)), .mv (.t 1), none⟩,
 ⟨some 30, (some (27, false)), .bin .gtr (.t 28) (.t 29), none⟩,
 ⟨some 31, none, .pick (.t 27) (.c (.bool true)) (.t 30), none⟩])
 (.keep [0, 5, 6, 31] (.cond (.t 31)
 (.seq (.ops [⟨some 32, none, .mv (.t 0), none⟩,
 ⟨some 33, none, .nilck (.t 32), none⟩,
 ⟨some 34, none, .fld 0 (.t 33), none⟩,
 ⟨some 35, none, .call (.f 37) [(.t 34)], none⟩])
 (.keep [] (.seq (.ops [⟨some 4, none, .mv (.c (.int .i64 0)), none⟩])
 (.ret))))
 (.skip))))
 (.keep [0, 5, 6] (.seq (.ops [⟨some 36, none, .mv (.t 0), none⟩,
 ⟨some 37, none, .nilck (.t 36), none⟩,
 ⟨some 38, none, .fld 2 (.t 37), none⟩,
 ⟨some 39, none, .load none (.t 38), none⟩,
 ⟨some 40, none, .mv (.t 6), none⟩,
 ⟨some 41, none, .bin .add (.t 39) (.t 40), none⟩,
 ⟨some 42, none, .nilck (.t 36), none⟩,
 ⟨some 43, none, .fld 2 (.t 42), none⟩,
 ⟨none, none, .store 1 (.t 43) (.t 41), none⟩])
 (.keep [5] (.seq (.ops [⟨some 44, none, .mv (.t 5), none⟩,
 ⟨some 4, none, .mv (.t 44), none⟩])
 (.ret)))))))))))⟩
theorem F_pack_In_Num_ok : chkFn Try.prog 21 F_pack_In_Num = true := by kernel_rfl
def F_pack_In_Done : AFn :=
 ⟨15, [.t 2], .seq (.ops [⟨some 2, none, .mv (.c (.int .i64 0)), none⟩])
 (.keep [0] (.seq (.seq (.ops [⟨some 3, none, .mv (.t 0), none⟩,
 ⟨some 4, none, .call (.f 43) [(.t 3)], none⟩,
 ⟨some 5, none, .bin .gtr (.t 4) (.c (.int .i64 0)), none⟩])
 (.keep [0, 5] (.cond (.t 5)
 (.ops [⟨some 6, none, .mv (.t 0), none⟩,
 ⟨some 7, none, .nilck (.t 6), none⟩,
 ⟨some 8, none, .fld 0 (.t 7), none⟩,
 ⟨some 9, none, .call (.f 37) [(.t 8)], none⟩])
 (.skip))))
 (.keep [0] (.seq (.ops [⟨some 10, none, .mv (.t 0), none⟩,
 ⟨some 11, none, .nilck (.t 10), none⟩,
 ⟨some 12, none, .fld 0 (.t 11), none⟩,
 ⟨some 13, none, .fld 0 (.t 12), none⟩,
 ⟨some 14, none, .load none (.t 13), none⟩,
 ⟨some 2, none, .mv (.t 14), none⟩])
 (.ret)))))⟩
theorem F_pack_In_Done_ok : chkFn Try.prog 22 F_pack_In_Done = true := by kernel_rfl
def F_word_May : AFn :=
 ⟨26, [.t 2], .seq (.ops [⟨some 2, none, .mv (.c (.bool false)), none⟩])
 (.keep [0] (.seq (.seq (.ops [⟨some 4, none, .mv (.t 0), none⟩,
 ⟨some 5, none, .call (.f 48) [(.t 4)], none⟩,
 ⟨some 6, none, .mv (.t 5), none⟩,
 ⟨some 7, (some (6, false)), .mv (.t 0), none⟩,
 ⟨some 8, (some (6, false)), .call (.f 49) [(.t 7)], none⟩,
 ⟨some 9, (some (6, false)), .bin .lss (.t 8) (.c (.int .i64 1)), none⟩,
 ⟨some 10, none, .pick (.t 6) (.c (.bool true)) (.t 9), none⟩,
 ⟨some 11, none, .mv (.t 10), none⟩,
 ⟨some 12, (some (11, false)), .mv (.t 0), none⟩,
 ⟨some 13, (some (11, false)), .call (.f 49) [(.t 12)], none⟩,
 ⟨some 14, (some (11, false)), .bin .gtr (.t 13) (.c (.int .i64 8)), none⟩,
 ⟨some 15, none, .pick (.t 11) (.c (.bool true)) (.t 14), none⟩])
 (.keep [0, 15] (.cond (.t 15)
 (.seq (.ops [⟨some 2, none, .mv (.c (.bool false)), none⟩])
 (.ret))
 (.skip))))
 (.keep [0] (.seq (.seq (.ops [⟨some 16, none, .mv (.t 0), none⟩,
 ⟨some 17, none, .call (.f 49) [(.t 16)], none⟩,
 ⟨some 18, none, .mv (.c (.int .i64 0)), none⟩])
 (.keep [0, 17, 18] (.block 0 (.loop [0, 17, 18] (.seq (.ops [⟨some 19, none, .bin .lss (.t 18) (.t 17), none⟩])
 (.keep [0, 17, 18, 19] (.seq (.cond (.t 19)
 (.skip)
 (.exit 0))
 (.keep [0, 17, 18] (.seq (.block 1 (.seq (.ops [⟨some 20, none, .mv (.t 18), none⟩,
 ⟨some 3, none, .mv (.t 20), none⟩])
 (.keep [0, 3, 17, 18] (.seq (.ops [⟨some 21, none, .mv (.t 0), none⟩,
 ⟨some 22, none, .mv (.t 3), none⟩,
 ⟨some 23, none, .call (.f 50) [(.t 21), (.t 22)], none⟩,
 ⟨some 24, none, .bin .eql (.t 23) (.c (.int .u16 0)), none⟩])
 (.keep [0, 17, 18, 24] (.cond (.t 24)
 (.seq (.ops [⟨some 2, none, .mv (.c (.bool false)), none⟩])
 (.ret))
 (.skip)))))))
 (.keep [0, 17, 18] (.ops [⟨some 25, none, .bin .add (.t 18) (.c (.int .i64 1)), none⟩,
 ⟨some 18, none, .mv (.t 25), none⟩])))))))))))
 (.keep [] (.seq (.ops [⟨some 2, none, .mv (.c (.bool true)), none⟩])
 (.ret)))))))⟩
theorem F_word_May_ok : chkFn Try.prog 33 F_word_May = true := by kernel_rfl
def F_pack_Out_Word : AFn :=
 ⟨36, [], .seq (.seq (.ops [⟨some 4, none, .mv (.t 1), none⟩,
 ⟨some 5, none, .call (.f 33) [(.t 4)], none⟩,
 ⟨some 6, none, .not (.t 5), none⟩])
 (.keep [0, 1, 6] (.cond (.t 6)
 (.ops [⟨some 7, none, .mv (.t 0), none⟩,
 ⟨some 8, none, .nilck (.t 7), none⟩,
 ⟨some 9, none, .fld 0 (.t 8), none⟩,
 ⟨some 10, none, .call (.f 37) [(.t 9)], none⟩])
 (.skip))))
 (.keep [0, 1] (.seq (.ops [⟨some 11, none, .mv (.t 0), none⟩,
 ⟨some 12, none, .nilck (.t 11), none⟩,
 ⟨some 13, none, .fld 0 (.t 12), none⟩,
 ⟨some 14, none, .call (.f 38) [(.t 13)], none⟩])
 (.keep [0, 1, 14] (.cond (.t 14)
 (.seq (.draw [0, 1] [⟨some 15, none, .mv (.t 0), none⟩,
 ⟨some 16, none, .mv (.t 0), none⟩,
 ⟨some 17, none, .nilck (.t 16), none⟩,
 ⟨some 18, none, .fld 1 (.t 17), none⟩,
 ⟨some 19, none, .loado (.t 18), none⟩,
 ⟨some 20, none, .mv (.t 1), none⟩,
 ⟨some 21, none, .call (.f 49) [(.t 20)], none⟩,
 ⟨some 22, none, .conv .u8 (.t 21), none⟩,
 ⟨some 23, none, .bsl 5 1 1 [(.int .u8 0)] [(0, 1, (.t 22))], none⟩,
 ⟨some 24, none, .appo 5 1 1 19 (.t 23), none⟩,
 ⟨some 25, none, .nilck (.t 15), none⟩,
 ⟨some 26, none, .fld 1 (.t 25), none⟩,
 ⟨none, none, .storeo (.t 26) 24, none⟩])
 (.keep [0, 1] (.ops [⟨some 27, none, .mv (.t 0), none⟩,
 ⟨some 28, none, .mv (.t 0), none⟩,
 ⟨some 29, none, .nilck (.t 28), none⟩,
 ⟨some 30, none, .fld 1 (.t 29), none⟩,
 ⟨some 31, none, .loado (.t 30), none⟩,
 ⟨some 32, none, .mv (.t 1), none⟩,
 ⟨some 33, none, .appso 5 31 (.t 32), none⟩,
 ⟨some 34, none, .nilck (.t 27), none⟩,
 ⟨some 35, none, .fld 1 (.t 34), none⟩,
 ⟨none, none, .storeo (.t 35) 33, none⟩])))
 (.skip)))))⟩
theorem F_pack_Out_Word_ok : chkFn Try.prog 36 F_pack_Out_Word = true := by kernel_rfl
def F_pack_met_fail : AFn :=
 ⟨7, [], .seq (.ops [⟨some 2, none, .mv (.t 0), none⟩,
 ⟨some 3, none, .call (.f 38) [(.t 2)], none⟩])
 (.keep [0, 3] (.cond (.t 3)
 (.ops [⟨some 4, none, .mv (.t 0), none⟩,
 ⟨some 5, none, .nilck (.t 4), none⟩,
 ⟨some 6, none, .fld 0 (.t 5), none⟩,
 ⟨none, none, .store 1 (.t 6) (.c (.int .i64 2)), none⟩])
 (.skip)))⟩
theorem F_pack_met_fail_ok : chkFn Try.prog 37 F_pack_met_fail = true := by kernel_rfl
def F_pack_met_well : AFn :=
 ⟨8, [.t 2], .seq (.ops [⟨some 2, none, .mv (.c (.bool false)), none⟩])
 (.keep [0] (.seq (.ops [⟨some 3, none, .mv (.t 0), none⟩,
 ⟨some 4, none, .nilck (.t 3), none⟩,
 ⟨some 5, none, .fld 0 (.t 4), none⟩,
 ⟨some 6, none, .load none (.t 5), none⟩,
 ⟨some 7, none, .bin .eql (.t 6) (.c (.int .i64 0)), none⟩,
 ⟨some 2, none, .mv (.t 7), none⟩])
 (.ret)))⟩
theorem F_pack_met_well_ok : chkFn Try.prog 38 F_pack_met_well = true := by kernel_rfl
def F_pack_In_Word : AFn :=
 ⟨17, [.t 2], .seq (.ops [⟨some 2, none, .mv (.c (.str ⟨#[]⟩)), none⟩])
 (.keep [0] (.seq (.ops [⟨some 4, none, .mv (.t 0), none⟩,
 ⟨some 5, none, .mv (.t 0), none⟩,
 ⟨some 6, none, .call (.f 58) [(.t 5), (.c (.int .i64 8))], none⟩,
 ⟨some 7, none, .bin .mul (.c (.int .i64 2)) (.t 6), none⟩,
 ⟨some 8, none, .call (.f 57) [(.t 4), (.t 7)], none⟩,
 ⟨some 3, none, .mv (.t 8), none⟩])
 (.keep [0, 3] (.seq (.seq (.ops [⟨some 9, none, .mv (.t 3), none⟩,
 ⟨some 10, none, .call (.f 33) [(.t 9)], none⟩,
 ⟨some 11, none, .not (.t 10), none⟩])
 (.keep [0, 3, 11] (.cond (.t 11)
 (.seq (.ops [⟨some 12, none, .mv (.t 0), none⟩,
 ⟨some 13, none, .nilck (.t 12), none⟩,
 ⟨some 14, none, .fld 0 (.t 13), none⟩,
 ⟨some 15, none, .call (.f 37) [(.t 14)], none⟩])
 (.keep [] (.seq (.ops [⟨some 2, none, .mv (.c (.str ⟨#[]⟩)), none⟩])
 (.ret))))
 (.skip))))
 (.keep [3] (.seq (.ops [⟨some 16, none, .mv (.t 3), none⟩,
 ⟨some 2, none, .mv (.t 16), none⟩])
 (.ret)))))))⟩
theorem F_pack_In_Word_ok : chkFn Try.prog 41 F_pack_In_Word = true := by kernel_rfl
def F_pack_number : AFn :=
 ⟨44, [.t 2, .t 3], .seq (.ops [⟨some 2, none, .mv (.c (.int .i64 0)), none⟩,
 ⟨some 3, none, .mv (.c (.int .i64 0)), none⟩])
 (.keep [0] (.seq (.ops [⟨some 4, none, .mv (.c (.int .u64 0)), none⟩])
 (.keep [0, 4] (.seq (.seq (.ops [⟨some 5, none, .mv (.c (.int .i64 0)), none⟩])
 (.keep [0, 4, 5] (.block 0 (.loop [0, 4, 5] (.seq (.seq (.ops [⟨some 7, none, .mv (.t 5), none⟩,
 ⟨some 8, none, .mv (.t 0), none⟩,
 ⟨some 9, none, .lens (.t 8), none⟩,
 ⟨some 10, none, .bin .lss (.t 7) (.t 9), none⟩,
 ⟨some 11, none, .mv (.t 10), none⟩,
 ⟨some 12, (some (11, true)), .mv (.t 5), none⟩,
 ⟨some 13, (some (11, true)), .bin .lss (.t 12) (.c (.int .i64 9)), none⟩,
 ⟨some 14, none, .pick (.t 11) (.t 13) (.c (.bool false)), none⟩])
 (.keep [0, 4, 5, 14] (.cond (.t 14)
 (.skip)
 (.exit 0))))
 (.keep [0, 4, 5] (.seq (.block 1 (.seq (.ops [⟨some 17, none, .mv (.t 0), none⟩,
 ⟨some 18, none, .mv (.t 5), none⟩,
 ⟨some 19, none, .idxs (.t 17) (.t 18), none⟩,
 ⟨some 6, none, .mv (.t 19), none⟩])
 (.keep [0, 4, 5, 6] (.seq (.ops [⟨some 20, none, .mv (.t 4), none⟩,
 ⟨some 21, none, .mv (.t 6), none⟩,
 ⟨some 22, none, .bin .and (.t 21) (.c (.int .u8 127)), none⟩,
 ⟨some 23, none, .conv .u64 (.t 22), none⟩,
 ⟨some 24, none, .mv (.t 5), none⟩,
 ⟨some 25, none, .bin .mul (.c (.int .i64 7)) (.t 24), none⟩,
 ⟨some 26, none, .bin .shl (.t 23) (.t 25), none⟩,
 ⟨some 27, none, .bin .or (.t 20) (.t 26), none⟩,
 ⟨some 4, none, .mv (.t 27), none⟩])
 (.keep [0, 4, 5, 6] (.seq (.seq (.ops [⟨some 28, none, .mv (.t 6), none⟩,
 ⟨some 29, none, .bin .geq (.t 28) (.c (.int .u8 128)), none⟩])
 (.keep [0, 4, 5, 6, 29] (.cond (.t 29)
 (.exit 1)
 (.skip))))
 (.keep [4, 5, 6] (.seq (.seq (.ops [⟨some 30, none, .mv (.t 5), none⟩,
 ⟨some 31, none, .bin .gtr (.t 30) (.c (.int .i64 0)), none⟩,
 ⟨some 32, none, .mv (.t 31), none⟩,
 ⟨some 33, (some (32, true)), .mv (.t 6), none⟩,
 ⟨some 34, (some (32, true)), .bin .eql (.t 33) (.c (.int .u8 0)), none⟩,
 ⟨some 35, none, .pick (.t 32) (.t 34) (.c (.bool false)), none⟩,
 ⟨some 36, none, .mv (.t 35), none⟩,
 ⟨some 37, (some (36, false)), .mv (.t 4), none⟩,
 ⟨some 38, (some (36, false)), .bin .gtr (.t 37) (.c (.int .u64 4611686018427387904)), none⟩,
 ⟨some 39, none, .pick (.t 36) (.c (.bool true)) (.t 38), none⟩])
 (.keep [4, 5, 39] (.cond (.t 39)
 (.seq (.ops [⟨some 2, none, .mv (.c (.int .i64 0)), none⟩,
 ⟨some 3, none, .mv (.c (.int .i64 0)), none⟩])
 (.ret))
 (.skip))))
 (.keep [4, 5] (.seq (.ops [⟨some 40, none, .mv (.t 4), none⟩,
 ⟨some 41, none, .conv .i64 (.t 40), none⟩,
 ⟨some 42, none, .mv (.t 5), none⟩,
 ⟨some 43, none, .bin .add (.t 42) (.c (.int .i64 1)), none⟩,
 ⟨some 2, none, .mv (.t 41), none⟩,
 ⟨some 3, none, .mv (.t 43), none⟩])
 (.ret)))))))))))
 (.keep [0, 4, 5] (.ops [⟨some 15, none, .mv (.t 5), none⟩,
 ⟨some 16, none, .bin .add (.t 15) (.c (.int .i64 1)), none⟩,
 ⟨some 5, none, .mv (.t 16), none⟩])))))))))
 (.keep [] (.seq (.ops [⟨some 2, none, .mv (.c (.int .i64 0)), none⟩,
 ⟨some 3, none, .mv (.c (.int .i64 0)), none⟩])
 (.ret)))))))⟩
theorem F_pack_number_ok : chkFn Try.prog 42 F_pack_number = true := by kernel_rfl
def F_pack_In_Left : AFn :=
 ⟨18, [.t 2], .seq (.ops [⟨some 2, none, .mv (.c (.int .i64 0)), none⟩])
 (.keep [0] (.seq (.seq (.ops [⟨some 3, none, .mv (.t 0), none⟩,
 ⟨some 4, none, .nilck (.t 3), none⟩,
 ⟨some 5, none, .fld 0 (.t 4), none⟩,
 ⟨some 6, none, .call (.f 38) [(.t 5)], none⟩,
 ⟨some 7, none, .not (.t 6), none⟩])
 (.keep [0, 7] (.cond (.t 7)
 (.seq (.ops [⟨some 2, none, .mv (.c (.int .i64 0)), none⟩])
 (.ret))
 (.skip))))
 (.keep [0] (.seq (.draw [2] [⟨some 8, none, .mv (.t 0), none⟩,
 ⟨some 9, none, .nilck (.t 8), none⟩,
 ⟨some 10, none, .fld 1 (.t 9), none⟩,
 ⟨some 11, none, .load none (.t 10), none⟩,
 ⟨some 12, none, .lens (.t 11), none⟩,
 ⟨some 13, none, .mv (.t 0), none⟩,
 ⟨some 14, none, .nilck (.t 13), none⟩,
 ⟨some 15, none, .fld 2 (.t 14), none⟩,
 ⟨some 16, none, .load none (.t 15), none⟩,
 ⟨some 17, none, .bin .sub (.t 12) (.t 16), none⟩,
 ⟨some 2, none, .mv (.t 17), none⟩])
 (.ret)))))⟩
theorem F_pack_In_Left_ok : chkFn Try.prog 43 F_pack_In_Left = true := by kernel_rfl
def F_set_May : AFn :=
 ⟨36, [.t 2], .seq (.ops [⟨some 2, none, .mv (.c (.bool false)), none⟩])
 (.keep [0] (.seq (.seq (.ops [⟨some 5, none, .mv (.t 0), none⟩,
 ⟨some 6, none, .lenl (.t 5), none⟩,
 ⟨some 7, none, .bin .lss (.t 6) (.c (.int .i64 1)), none⟩,
 ⟨some 8, none, .mv (.t 7), none⟩,
 ⟨some 9, (some (8, false)), .mv (.t 0), none⟩,
 ⟨some 10, (some (8, false)), .lenl (.t 9), none⟩,
 ⟨some 11, (some (8, false)), .bin .gtr (.t 10) (.c (.int .i64 16)), none⟩,
 ⟨some 12, none, .pick (.t 8) (.c (.bool true)) (.t 11), none⟩])
 (.keep [0, 12] (.cond (.t 12)
 (.seq (.ops [⟨some 2, none, .mv (.c (.bool false)), none⟩])
 (.ret))
 (.skip))))
 (.keep [0] (.seq (.seq (.ops [⟨some 13, none, .mv (.t 0), none⟩,
 ⟨some 14, none, .lenl (.t 13), none⟩,
 ⟨some 15, none, .mv (.c (.int .i64 0)), none⟩])
 (.keep [0, 13, 14, 15] (.block 0 (.loop [0, 13, 14, 15] (.seq (.ops [⟨some 16, none, .bin .lss (.t 15) (.t 14), none⟩])
 (.keep [0, 13, 14, 15, 16] (.seq (.cond (.t 16)
 (.skip)
 (.exit 0))
 (.keep [0, 13, 14, 15] (.seq (.block 1 (.seq (.ops [⟨some 17, none, .mv (.t 15), none⟩,
 ⟨some 18, none, .idxa 1 (.t 13) (.t 15), none⟩,
 ⟨some 19, none, .load none (.t 18), none⟩,
 ⟨some 3, none, .mv (.t 17), none⟩,
 ⟨some 4, none, .mv (.t 19), none⟩])
 (.keep [0, 3, 4, 13, 14, 15] (.seq (.seq (.ops [⟨some 20, none, .mv (.t 4), none⟩,
 ⟨some 21, none, .call (.f 33) [(.t 20)], none⟩,
 ⟨some 22, none, .not (.t 21), none⟩])
 (.keep [0, 3, 4, 13, 14, 15, 22] (.cond (.t 22)
 (.seq (.ops [⟨some 2, none, .mv (.c (.bool false)), none⟩])
 (.ret))
 (.skip))))
 (.keep [0, 3, 4, 13, 14, 15] (.seq (.ops [⟨some 23, none, .mv (.t 3), none⟩,
 ⟨some 24, none, .bin .gtr (.t 23) (.c (.int .i64 0)), none⟩,
 ⟨some 25, none, .mv (.t 24), none⟩,
 ⟨some 26, (some (25, true)), .mv (.t 0), none⟩,
 ⟨some 27, (some (25, true)), .mv (.t 3), none⟩,
 ⟨some 28, (some (25, true)), .bin .sub (.t 27) (.c (.int .i64 1)), none⟩,
 ⟨some 29, (some (25, true)), .idxa 1 (.t 26) (.t 28), none⟩,
 ⟨some 30, (some (25, true)), .load none (.t 29), none⟩,
 ⟨some 31, (some (25, true)), .mv (.t 4), none⟩,
 ⟨some 32, (some (25, true)), .call (.f 62) [(.t 30), (.t 31)], none⟩,
 ⟨some 33, (some (25, true)), .not (.t 32), none⟩,
 ⟨some 34, none, .pick (.t 25) (.t 33) (.c (.bool false)), none⟩])
 (.keep [0, 13, 14, 15, 34] (.cond (.t 34)
 (.seq (.ops [⟨some 2, none, .mv (.c (.bool false)), none⟩])
 (.ret))
 (.skip)))))))))
 (.keep [0, 13, 14, 15] (.ops [⟨some 35, none, .bin .add (.t 15) (.c (.int .i64 1)), none⟩,
 ⟨some 15, none, .mv (.t 35), none⟩])))))))))))
 (.keep [] (.seq (.ops [⟨some 2, none, .mv (.c (.bool true)), none⟩])
 (.ret)))))))⟩
theorem F_set_May_ok : chkFn Try.prog 47 F_set_May = true := by kernel_rfl
def F_word_odd : AFn :=
 ⟨7, [.t 2], .seq (.ops [⟨some 2, none, .mv (.c (.bool false)), none⟩])
 (.keep [0] (.seq (.ops [⟨some 3, none, .mv (.t 0), none⟩,
 ⟨some 4, none, .lens (.t 3), none⟩,
 ⟨some 5, none, .bin .rem (.t 4) (.c (.int .i64 2)), none⟩,
 ⟨some 6, none, .bin .neq (.t 5) (.c (.int .i64 0)), none⟩,
 ⟨some 2, none, .mv (.t 6), none⟩])
 (.ret)))⟩
theorem F_word_odd_ok : chkFn Try.prog 48 F_word_odd = true := by kernel_rfl
def F_word_Len : AFn :=
 ⟨6, [.t 2], .seq (.ops [⟨some 2, none, .mv (.c (.int .i64 0)), none⟩])
 (.keep [0] (.seq (.ops [⟨some 3, none, .mv (.t 0), none⟩,
 ⟨some 4, none, .lens (.t 3), none⟩,
 ⟨some 5, none, .bin .quo (.t 4) (.c (.int .i64 2)), none⟩,
 ⟨some 2, none, .mv (.t 5), none⟩])
 (.ret)))⟩
theorem F_word_Len_ok : chkFn Try.prog 49 F_word_Len = true := by kernel_rfl
def F_word_At : AFn :=
 ⟨26, [.t 4], .seq (.ops [⟨some 4, none, .mv (.c (.int .u16 0)), none⟩])
 (.keep [0, 1] (.seq (.seq (.ops [⟨some 5, none, .mv (.t 1), none⟩,
 ⟨some 6, none, .bin .lss (.t 5) (.c (.int .i64 0)), none⟩,
 ⟨some 7, none, .mv (.t 6), none⟩,
 ⟨some 8, (some (7, false)), .mv (.t 1), none⟩,
 ⟨some 9, (some (7, false)), .mv (.t 0), none⟩,
 ⟨some 10, (some (7, false)), .call (.f 49) [(.t 9)], none⟩,
 ⟨some 11, (some (7, false)), .bin .geq (.t 8) (.t 10), none⟩,
 ⟨some 12, none, .pick (.t 7) (.c (.bool true)) (.t 11), none⟩])
 (.keep [0, 1, 12] (.cond (.t 12)
 (.seq (.ops [⟨some 4, none, .mv (.c (.int .u16 0)), none⟩])
 (.ret))
 (.skip))))
 (.keep [0, 1] (.seq (.draw [4] [⟨some 13, none, .mv (.t 0), none⟩,
 ⟨some 14, none, .mv (.t 1), none⟩,
 ⟨some 15, none, .bin .mul (.c (.int .i64 2)) (.t 14), none⟩,
 ⟨some 16, none, .idxs (.t 13) (.t 15), none⟩,
 ⟨some 17, none, .conv .u16 (.t 16), none⟩,
 ⟨some 18, none, .bin .shl (.t 17) (.c (.int .u64 8)), none⟩,
 ⟨some 19, none, .mv (.t 0), none⟩,
 ⟨some 20, none, .mv (.t 1), none⟩,
 ⟨some 21, none, .bin .mul (.c (.int .i64 2)) (.t 20), none⟩,
 ⟨some 22, none, .bin .add (.t 21) (.c (.int .i64 1)), none⟩,
 ⟨some 23, none, .idxs (.t 19) (.t 22), none⟩,
 ⟨some 24, none, .conv .u16 (.t 23), none⟩,
 ⟨some 25, none, .bin .or (.t 18) (.t 24), none⟩,
 ⟨some 4, none, .mv (.t 25), none⟩])
 (.ret)))))⟩
theorem F_word_At_ok : chkFn Try.prog 50 F_word_At = true := by kernel_rfl
def F_pack_Out_Text : AFn :=
 ⟨21, [], .seq (.ops [⟨some 4, none, .mv (.t 0), none⟩,
 ⟨some 5, none, .mv (.t 1), none⟩,
 ⟨some 6, none, .lens (.t 5), none⟩,
 ⟨some 7, none, .call (.f 17) [(.t 4), (.t 6)], none⟩])
 (.keep [0, 1] (.seq (.ops [⟨some 8, none, .mv (.t 0), none⟩,
 ⟨some 9, none, .nilck (.t 8), none⟩,
 ⟨some 10, none, .fld 0 (.t 9), none⟩,
 ⟨some 11, none, .call (.f 38) [(.t 10)], none⟩])
 (.keep [0, 1, 11] (.cond (.t 11)
 (.ops [⟨some 12, none, .mv (.t 0), none⟩,
 ⟨some 13, none, .mv (.t 0), none⟩,
 ⟨some 14, none, .nilck (.t 13), none⟩,
 ⟨some 15, none, .fld 1 (.t 14), none⟩,
 ⟨some 16, none, .loado (.t 15), none⟩,
 ⟨some 17, none, .mv (.t 1), none⟩,
 ⟨some 18, none, .appso 5 16 (.t 17), none⟩,
 ⟨some 19, none, .nilck (.t 12), none⟩,
 ⟨some 20, none, .fld 1 (.t 19), none⟩,
 ⟨none, none, .storeo (.t 20) 18, none⟩])
 (.skip)))))⟩
theorem F_pack_Out_Text_ok : chkFn Try.prog 52 F_pack_Out_Text = true := by kernel_rfl
def F_pack_Out_Set : AFn :=
 ⟨40, [], .seq (.seq (.ops [⟨some 6, none, .mv (.t 1), none⟩,
 ⟨some 7, none, .call (.f 47) [(.t 6)], none⟩,
 ⟨some 8, none, .not (.t 7), none⟩])
 (.keep [0, 1, 8] (.cond (.t 8)
 (.ops [⟨some 9, none, .mv (.t 0), none⟩,
 ⟨some 10, none, .nilck (.t 9), none⟩,
 ⟨some 11, none, .fld 0 (.t 10), none⟩,
 ⟨some 12, none, .call (.f 37) [(.t 11)], none⟩])
 (.skip))))
 (.keep [0, 1] (.seq (.seq (.ops [⟨some 13, none, .mv (.t 0), none⟩,
 ⟨some 14, none, .nilck (.t 13), none⟩,
 ⟨some 15, none, .fld 0 (.t 14), none⟩,
 ⟨some 16, none, .call (.f 38) [(.t 15)], none⟩,
 ⟨some 17, none, .not (.t 16), none⟩])
 (.keep [0, 1, 17] (.cond (.t 17)
 (.ret)
 (.skip))))
 (.keep [0, 1] (.seq (.ops [⟨some 18, none, .mv (.t 0), none⟩,
 ⟨some 19, none, .mv (.t 0), none⟩,
 ⟨some 20, none, .nilck (.t 19), none⟩,
 ⟨some 21, none, .fld 1 (.t 20), none⟩,
 ⟨some 22, none, .loado (.t 21), none⟩,
 ⟨some 23, none, .mv (.t 1), none⟩,
 ⟨some 24, none, .lenl (.t 23), none⟩,
 ⟨some 25, none, .conv .u8 (.t 24), none⟩,
 ⟨some 26, none, .bsl 5 1 1 [(.int .u8 0)] [(0, 1, (.t 25))], none⟩,
 ⟨some 27, none, .appo 5 1 1 22 (.t 26), none⟩,
 ⟨some 28, none, .nilck (.t 18), none⟩,
 ⟨some 29, none, .fld 1 (.t 28), none⟩,
 ⟨none, none, .storeo (.t 29) 27, none⟩])
 (.keep [0, 1] (.seq (.ops [⟨some 30, none, .mv (.t 1), none⟩,
 ⟨some 31, none, .lenl (.t 30), none⟩,
 ⟨some 32, none, .mv (.c (.int .i64 0)), none⟩])
 (.keep [0, 30, 31, 32] (.block 0 (.loop [0, 30, 31, 32] (.seq (.ops [⟨some 33, none, .bin .lss (.t 32) (.t 31), none⟩])
 (.keep [0, 30, 31, 32, 33] (.seq (.cond (.t 33)
 (.skip)
 (.exit 0))
 (.keep [0, 30, 31, 32] (.seq (.block 1 (.seq (.ops [⟨some 34, none, .idxa 1 (.t 30) (.t 32), none⟩,
 ⟨some 35, none, .load none (.t 34), none⟩,
 ⟨some 5, none, .mv (.t 35), none⟩])
 (.keep [0, 5, 30, 31, 32] (.ops [⟨some 36, none, .mv (.t 0), none⟩,
 ⟨some 37, none, .mv (.t 5), none⟩,
 ⟨some 38, none, .call (.f 36) [(.t 36), (.t 37)], none⟩]))))
 (.keep [0, 30, 31, 32] (.ops [⟨some 39, none, .bin .add (.t 32) (.c (.int .i64 1)), none⟩,
 ⟨some 32, none, .mv (.t 39), none⟩]))))))))))))))))⟩
theorem F_pack_Out_Set_ok : chkFn Try.prog 53 F_pack_Out_Set = true := by kernel_rfl
def F_pack_In_Text : AFn :=
 ⟨23, [.t 4], .seq (.ops [⟨some 4, none, .mv (.c (.str ⟨#[]⟩)), none⟩])
 (.keep [0, 1] (.seq (.ops [⟨some 6, none, .mv (.t 0), none⟩,
 ⟨some 7, none, .mv (.t 1), none⟩,
 ⟨some 8, none, .call (.f 21) [(.t 6), (.t 7)], none⟩,
 ⟨some 5, none, .mv (.t 8), none⟩])
 (.keep [0, 5] (.seq (.seq (.ops [⟨some 9, none, .mv (.t 5), none⟩,
 ⟨some 10, none, .mv (.t 0), none⟩,
 ⟨some 11, none, .nilck (.t 10), none⟩,
 ⟨some 12, none, .fld 1 (.t 11), none⟩,
 ⟨some 13, none, .load none (.t 12), none⟩,
 ⟨some 14, none, .lens (.t 13), none⟩,
 ⟨some 15, none, .bin .gtr (.t 9) (.t 14), none⟩])
 (.keep [0, 5, 15] (.cond (.t 15)
 (.seq (.ops [⟨some 16, none, .mv (.t 0), none⟩,
 ⟨some 17, none, .nilck (.t 16), none⟩,
 ⟨some 18, none, .fld 0 (.t 17), none⟩,
 ⟨some 19, none, .call (.f 37) [(.t 18)], none⟩])
 (.keep [] (.seq (.ops [⟨some 4, none, .mv (.c (.str ⟨#[]⟩)), none⟩])
 (.ret))))
 (.skip))))
 (.keep [0, 5] (.seq (.ops [⟨some 20, none, .mv (.t 0), none⟩,
 ⟨some 21, none, .mv (.t 5), none⟩,
 ⟨some 22, none, .call (.f 57) [(.t 20), (.t 21)], none⟩,
 ⟨some 4, none, .mv (.t 22), none⟩])
 (.ret)))))))⟩
theorem F_pack_In_Text_ok : chkFn Try.prog 55 F_pack_In_Text = true := by kernel_rfl
def F_pack_In_Set : AFn :=
 ⟨33, [.t 2], .seq (.ops [⟨some 2, none, .mv (.c (.lst .clip 0 [])), none⟩])
 (.keep [0] (.seq (.ops [⟨some 5, none, .mv (.t 0), none⟩,
 ⟨some 6, none, .call (.f 58) [(.t 5), (.c (.int .i64 16))], none⟩,
 ⟨some 3, none, .mv (.t 6), none⟩])
 (.keep [0, 3] (.seq (.ops [⟨some 7, none, .mv (.t 3), none⟩,
 ⟨some 8, none, .mk0 31 1 16 (.t 7), none⟩,
 ⟨some 4, none, .mvo 8, none⟩])
 (.keep [0, 3, 4] (.seq (.seq (.ops [⟨some 9, none, .mv (.t 3), none⟩,
 ⟨some 10, none, .mv (.c (.int .i64 0)), none⟩])
 (.keep [0, 4, 9, 10] (.block 0 (.loop [0, 4, 9, 10] (.seq (.ops [⟨some 11, none, .bin .lss (.t 10) (.t 9), none⟩])
 (.keep [0, 4, 9, 10, 11] (.seq (.cond (.t 11)
 (.skip)
 (.exit 0))
 (.keep [0, 4, 9, 10] (.seq (.block 1 (.ops [⟨some 12, none, .mvo 4, none⟩,
 ⟨some 13, none, .mv (.t 0), none⟩,
 ⟨some 14, none, .call (.f 41) [(.t 13)], none⟩,
 ⟨some 15, none, .bsl 31 1 1 [(.str ⟨#[]⟩)] [(0, 1, (.t 14))], none⟩,
 ⟨some 16, none, .appo 31 1 16 12 (.t 15), none⟩,
 ⟨some 4, none, .mvo 16, none⟩]))
 (.keep [0, 4, 9, 10] (.ops [⟨some 17, none, .bin .add (.t 10) (.c (.int .i64 1)), none⟩,
 ⟨some 10, none, .mv (.t 17), none⟩])))))))))))
 (.keep [0, 4] (.seq (.seq (.ops [⟨some 18, none, .mv (.t 0), none⟩,
 ⟨some 19, none, .nilck (.t 18), none⟩,
 ⟨some 20, none, .fld 0 (.t 19), none⟩,
 ⟨some 21, none, .call (.f 38) [(.t 20)], none⟩,
 ⟨some 22, none, .not (.t 21), none⟩,
 ⟨some 23, none, .mv (.t 22), none⟩,
 ⟨some 24, (some (23, false)), .mv (.t 4), none⟩,
 ⟨some 25, (some (23, false)), .call (.f 47) [(.t 24)], none⟩,
 ⟨some 26, (some (23, false)), .not (.t 25), none⟩,
 ⟨some 27, none, .pick (.t 23) (.c (.bool true)) (.t 26), none⟩])
 (.keep [0, 4, 27] (.cond (.t 27)
 (.seq (.ops [⟨some 28, none, .mv (.t 0), none⟩,
 ⟨some 29, none, .nilck (.t 28), none⟩,
 ⟨some 30, none, .fld 0 (.t 29), none⟩,
 ⟨some 31, none, .call (.f 37) [(.t 30)], none⟩])
 (.keep [] (.seq (.ops [⟨some 2, none, .mv (.c (.lst .clip 0 [])), none⟩])
 (.ret))))
 (.skip))))
 (.keep [4] (.seq (.ops [⟨some 32, none, .mv (.t 4), none⟩,
 ⟨some 2, none, .mv (.t 32), none⟩])
 (.ret)))))))))))⟩
theorem F_pack_In_Set_ok : chkFn Try.prog 56 F_pack_In_Set = true := by kernel_rfl
def F_pack_In_take : AFn :=
 ⟨57, [.t 4], .seq (.ops [⟨some 4, none, .mv (.c (.str ⟨#[]⟩)), none⟩])
 (.keep [0, 1] (.seq (.seq (.draw [0, 1, 23] [⟨some 6, none, .mv (.t 0), none⟩,
 ⟨some 7, none, .nilck (.t 6), none⟩,
 ⟨some 8, none, .fld 0 (.t 7), none⟩,
 ⟨some 9, none, .calli (.f 38) [(.t 8)], none⟩,
 ⟨some 10, none, .mv (.t 9), none⟩,
 ⟨some 11, (some (10, true)), .mv (.t 1), none⟩,
 ⟨some 12, (some (10, true)), .mv (.t 0), none⟩,
 ⟨some 13, (some (10, true)), .nilck (.t 12), none⟩,
 ⟨some 14, (some (10, true)), .fld 1 (.t 13), none⟩,
 ⟨some 15, (some (10, true)), .load none (.t 14), none⟩,
 ⟨some 16, (some (10, true)), .lens (.t 15), none⟩,
 ⟨some 17, (some (10, true)), .mv (.t 0), none⟩,
 ⟨some 18, (some (10, true)), .nilck (.t 17), none⟩,
 ⟨some 19, (some (10, true)), .fld 2 (.t 18), none⟩,
 ⟨some 20, (some (10, true)), .load none (.t 19), none⟩,
 ⟨some 21, (some (10, true)), .bin .sub (.t 16) (.t 20), none⟩,
 ⟨some 22, (some (10, true)), .bin .gtr (.t 11) (.t 21), none⟩,
 ⟨some 23, none, .pick (.t 10) (.t 22) (.c (.bool false)), none⟩])
 (.keep [0, 1, 23] (.cond (.t 23)
 (.ops [⟨some 24, none, .mv (.t 0), none⟩,
 ⟨some 25, none, .nilck (.t 24), none⟩,
 ⟨some 26, none, .fld 0 (.t 25), none⟩,
 ⟨some 27, none, .call (.f 37) [(.t 26)], none⟩])
 (.skip))))
 (.keep [0, 1] (.seq (.seq (.ops [⟨some 28, none, .mv (.t 0), none⟩,
 ⟨some 29, none, .nilck (.t 28), none⟩,
 ⟨some 30, none, .fld 0 (.t 29), none⟩,
 ⟨some 31, none, .call (.f 38) [(.t 30)], none⟩,
 ⟨some 32, none, .not (.t 31), none⟩])
 (.keep [0, 1, 32] (.cond (.t 32)
 (.seq (.ops [⟨some 4, none, .mv (.c (.str ⟨#[]⟩)), none⟩])
 (.ret))
 (.skip))))
 (.keep [0, 1] (.seq (.draw [0, 1, 5] [⟨some 33, none, .mv (.t 0), none⟩,
 ⟨some 34, none, .nilck (.t 33), none⟩,
 ⟨some 35, none, .fld 1 (.t 34), none⟩,
 ⟨some 36, none, .load none (.t 35), none⟩,
 ⟨some 37, none, .mv (.t 0), none⟩,
 ⟨some 38, none, .nilck (.t 37), none⟩,
 ⟨some 39, none, .fld 2 (.t 38), none⟩,
 ⟨some 40, none, .load none (.t 39), none⟩,
 ⟨some 41, none, .mv (.t 0), none⟩,
 ⟨some 42, none, .nilck (.t 41), none⟩,
 ⟨some 43, none, .fld 2 (.t 42), none⟩,
 ⟨some 44, none, .load none (.t 43), none⟩,
 ⟨some 45, none, .mv (.t 1), none⟩,
 ⟨some 46, none, .bin .add (.t 44) (.t 45), none⟩,
 ⟨some 47, none, .slcs (.t 36) (some (.t 40)) (some (.t 46)), none⟩,
 ⟨some 5, none, .mv (.t 47), none⟩])
 (.keep [0, 1, 5] (.seq (.ops [⟨some 48, none, .mv (.t 0), none⟩,
 ⟨some 49, none, .nilck (.t 48), none⟩,
 ⟨some 50, none, .fld 2 (.t 49), none⟩,
 ⟨some 51, none, .load none (.t 50), none⟩,
 ⟨some 52, none, .mv (.t 1), none⟩,
 ⟨some 53, none, .bin .add (.t 51) (.t 52), none⟩,
 ⟨some 54, none, .nilck (.t 48), none⟩,
 ⟨some 55, none, .fld 2 (.t 54), none⟩,
 ⟨none, none, .store 1 (.t 55) (.t 53), none⟩])
 (.keep [5] (.seq (.ops [⟨some 56, none, .mv (.t 5), none⟩,
 ⟨some 4, none, .mv (.t 56), none⟩])
 (.ret)))))))))))⟩
theorem F_pack_In_take_ok : chkFn Try.prog 57 F_pack_In_take = true := by kernel_rfl
def F_pack_In_count : AFn :=
 ⟨29, [.t 4], .seq (.ops [⟨some 4, none, .mv (.c (.int .i64 0)), none⟩])
 (.keep [0, 1] (.seq (.ops [⟨some 7, none, .mv (.t 0), none⟩,
 ⟨some 8, none, .call (.f 57) [(.t 7), (.c (.int .i64 1))], none⟩,
 ⟨some 5, none, .mv (.t 8), none⟩])
 (.keep [0, 1, 5] (.seq (.seq (.ops [⟨some 9, none, .mv (.t 0), none⟩,
 ⟨some 10, none, .nilck (.t 9), none⟩,
 ⟨some 11, none, .fld 0 (.t 10), none⟩,
 ⟨some 12, none, .call (.f 38) [(.t 11)], none⟩,
 ⟨some 13, none, .not (.t 12), none⟩])
 (.keep [0, 1, 5, 13] (.cond (.t 13)
 (.seq (.ops [⟨some 4, none, .mv (.c (.int .i64 0)), none⟩])
 (.ret))
 (.skip))))
 (.keep [0, 1, 5] (.seq (.ops [⟨some 14, none, .mv (.t 5), none⟩,
 ⟨some 15, none, .idxs (.t 14) (.c (.int .i64 0)), none⟩,
 ⟨some 16, none, .conv .i64 (.t 15), none⟩,
 ⟨some 6, none, .mv (.t 16), none⟩])
 (.keep [0, 1, 6] (.seq (.seq (.ops [⟨some 17, none, .mv (.t 6), none⟩,
 ⟨some 18, none, .bin .lss (.t 17) (.c (.int .i64 1)), none⟩,
 ⟨some 19, none, .mv (.t 18), none⟩,
 ⟨some 20, (some (19, false)), .mv (.t 6), none⟩,
 ⟨some 21, (some (19, false)), .mv (.t 1), none⟩,
 ⟨some 22, (some (19, false)), .bin .gtr (.t 20) (.t 21), none⟩,
 ⟨some 23, none, .pick (.t 19) (.c (.bool true)) (.t 22), none⟩])
 (.keep [0, 6, 23] (.cond (.t 23)
 (.seq (.ops [⟨some 24, none, .mv (.t 0), none⟩,
 ⟨some 25, none, .nilck (.t 24), none⟩,
 ⟨some 26, none, .fld 0 (.t 25), none⟩,
 ⟨some 27, none, .call (.f 37) [(.t 26)], none⟩])
 (.keep [] (.seq (.ops [⟨some 4, none, .mv (.c (.int .i64 0)), none⟩])
 (.ret))))
 (.skip))))
 (.keep [6] (.seq (.ops [⟨some 28, none, .mv (.t 6), none⟩,
 ⟨some 4, none, .mv (.t 28), none⟩])
 (.ret)))))))))))⟩
theorem F_pack_In_count_ok : chkFn Try.prog 58 F_pack_In_count = true := by kernel_rfl
def F_word_Less : AFn :=
 ⟨18, [.t 4], .seq (.ops [⟨some 4, none, .mv (.c (.bool false)), none⟩])
 (.keep [0, 1] (.seq (.seq (.ops [⟨some 5, none, .mv (.t 0), none⟩,
 ⟨some 6, none, .lens (.t 5), none⟩,
 ⟨some 7, none, .mv (.t 1), none⟩,
 ⟨some 8, none, .lens (.t 7), none⟩,
 ⟨some 9, none, .bin .neq (.t 6) (.t 8), none⟩])
 (.keep [0, 1, 9] (.cond (.t 9)
 (.seq (.ops [⟨some 10, none, .mv (.t 0), none⟩,
 ⟨some 11, none, .lens (.t 10), none⟩,
 ⟨some 12, none, .mv (.t 1), none⟩,
 ⟨some 13, none, .lens (.t 12), none⟩,
 ⟨some 14, none, .bin .lss (.t 11) (.t 13), none⟩,
 ⟨some 4, none, .mv (.t 14), none⟩])
 (.ret))
 (.skip))))
 (.keep [0, 1] (.seq (.ops [⟨some 15, none, .mv (.t 0), none⟩,
 ⟨some 16, none, .mv (.t 1), none⟩,
 ⟨some 17, none, .bin .lss (.t 15) (.t 16), none⟩,
 ⟨some 4, none, .mv (.t 17), none⟩])
 (.ret)))))⟩
theorem F_word_Less_ok : chkFn Try.prog 62 F_word_Less = true := by kernel_rfl
end Go.Proofs.Ytpjlkefadnbgdaa

/- What the functions of packages word and set tell, over the abstract code. -/
namespace Go.Proofs.Ytpjlkefadnbgdaa
set_option linter.unusedSimpArgs false
set_option linter.unusedVariables false
open Go.RowKit Go.Lib

theorem bool_eq {p q : Bool} (h : p = q) : AV.bool p = .bool q := by rw [h]
theorem int_eq {k : IntKind} {a b : Int} (h : a = b) : AV.int k a = .int k b := by rw [h]
theorem byteAt_eq {s : ByteArray} {i : Nat} (h : i < s.size) : byteAt s i = s[i].toNat := by
  have : i < s.data.toList.length := by simpa using h
  simp only [byteAt, List.getElem?_eq_getElem this]; rfl

theorem p_wlen (s : ByteArray) (hs : s.size ≤ 9223372036854775807) : PCalls Try.prog 49 [.str s] (.int .i64 ((s.size / 2 : Nat) : Int)) := by
  refine pcalls_of (by first | rfl | simp [free, free.frees, frees_str, frees_u8, frees_u16]) (by first | rfl | simp [free, free.frees, frees_str, frees_u8, frees_u16]) (acalls_of mixed F_word_Len_ok (Nat.le_of_ble_eq_true rfl) ?_); simp only [F_word_Len, wk,if_true,if_false,forall_const,implies_true,ne_eq,eq_self,Nat.reduceEqDiff,Nat.reduceAdd,Nat.reduceMul,Nat.reduceSub,Nat.reduceLeDiff,Nat.reduceLT,Int.reduceEq,Int.reduceLT,Int.reduceLE,Int.reduceAdd,Int.reduceSub,Int.reduceMul,Int.reduceNeg,Int.reduceNe,reduceCtorEq,Int.reduceToNat,↓reduceIte]
  rw [Int.tdiv_eq_ediv_of_nonneg (by omega)]
  exact ⟨inR_of (by omega) (by omega), rfl⟩
theorem p_wodd (s : ByteArray) : PCalls Try.prog 48 [.str s] (.bool (decide (s.size % 2 ≠ 0))) := by
  refine pcalls_of (by first | rfl | simp [free, free.frees, frees_str, frees_u8, frees_u16]) (by first | rfl | simp [free, free.frees, frees_str, frees_u8, frees_u16]) (acalls_of mixed F_word_odd_ok (Nat.le_of_ble_eq_true rfl) ?_); simp only [F_word_odd, wk,if_true,if_false,forall_const,implies_true,ne_eq,eq_self,Nat.reduceEqDiff,Nat.reduceAdd,Nat.reduceMul,Nat.reduceSub,Nat.reduceLeDiff,Nat.reduceLT,Int.reduceEq,Int.reduceLT,Int.reduceLE,Int.reduceAdd,Int.reduceSub,Int.reduceMul,Int.reduceNeg,Int.reduceNe,reduceCtorEq,Int.reduceToNat,↓reduceIte]
  rw [Int.tmod_eq_emod_of_nonneg (by omega)]
  refine bool_eq ?_
  rw [Bool.eq_iff_iff]; simp; omega
theorem or_word' (x y : Nat) (hx : x < 256) (hy : y < 256) : bitV .or .u16 (IntKind.u16.wrap (IntKind.u16.wrap (x : Int) * 2 ^ (min 8 IntKind.u16.bits))) (IntKind.u16.wrap (y : Int)) = ((x * 256 + y : Nat) : Int) := by
  have e1 : IntKind.u16.wrap (x : Int) = x := by rw [IntKind.wrap_u16]; omega
  have e2 : IntKind.u16.wrap (y : Int) = y := by rw [IntKind.wrap_u16]; omega
  have e3 : IntKind.u16.wrap ((x : Int) * 2 ^ (min 8 IntKind.u16.bits)) = ((x * 256 : Nat) : Int) := by
    rw [show (min 8 IntKind.u16.bits) = 8 by decide, IntKind.wrap_u16]; omega
  rw [e1, e2, e3]
  show bits .or .u16 _ _ = _
  rw [u16_or_nat _ _ (by omega) (by omega), nat_join 8 _ _ (by omega) (by omega)]
theorem p_wat (s : ByteArray) (i : Nat) (hs : s.size ≤ 9223372036854775807) (hi : 2 * i + 1 < s.size) : PCalls Try.prog 50 [.str s, .int .i64 i] (.int .u16 (atomAt s i)) := by
  refine pcalls_of (by first | rfl | simp [free, free.frees, frees_str, frees_u8, frees_u16]) (by first | rfl | simp [free, free.frees, frees_str, frees_u8, frees_u16]) (acalls_of mixed F_word_At_ok (Nat.le_of_ble_eq_true rfl) ?_); simp only [F_word_At, wk,if_true,if_false,forall_const,implies_true,ne_eq,eq_self,Nat.reduceEqDiff,Nat.reduceAdd,Nat.reduceMul,Nat.reduceSub,Nat.reduceLeDiff,Nat.reduceLT,Int.reduceEq,Int.reduceLT,Int.reduceLE,Int.reduceAdd,Int.reduceSub,Int.reduceMul,Int.reduceNeg,Int.reduceNe,reduceCtorEq,Int.reduceToNat,↓reduceIte]
  refine ⟨fun _ => ?_, fun h => by omega⟩
  refine PCalls.use (p_wlen s hs) ?_; simp only [wk,if_true,if_false,forall_const,implies_true,ne_eq,eq_self,Nat.reduceEqDiff,Nat.reduceAdd,Nat.reduceMul,Nat.reduceSub,Nat.reduceLeDiff,Nat.reduceLT,Int.reduceEq,Int.reduceLT,Int.reduceLE,Int.reduceAdd,Int.reduceSub,Int.reduceMul,Int.reduceNeg,Int.reduceNe,reduceCtorEq,Int.reduceToNat,↓reduceIte]
  refine ⟨fun h => by omega, fun _ => ?_⟩
  (repeat (refine And.intro (by first | omega | exact inR_of (by omega) (by omega) | exact ⟨by omega, by omega⟩ | exact ⟨by omega, by omega, by omega⟩ | rfl) ?_))
  refine int_eq ?_
  rw [show (2 * (i : Int)).toNat = 2 * i by omega, show (2 * (i : Int) + 1).toNat = 2 * i + 1 by omega, byteAt_eq (by omega), byteAt_eq hi, or_word' _ _ s[2 * i].toNat_lt s[2 * i + 1].toNat_lt]
  simp [atomAt, hi]
theorem p_wless (a b : ByteArray) : PCalls Try.prog 62 [.str a, .str b] (.bool (wless a b)) := by
  refine pcalls_of (by first | rfl | simp [free, free.frees, frees_str, frees_u8, frees_u16]) (by first | rfl | simp [free, free.frees, frees_str, frees_u8, frees_u16]) (acalls_of mixed F_word_Less_ok (Nat.le_of_ble_eq_true rfl) ?_); simp only [F_word_Less, wk,if_true,if_false,forall_const,implies_true,ne_eq,eq_self,Nat.reduceEqDiff,Nat.reduceAdd,Nat.reduceMul,Nat.reduceSub,Nat.reduceLeDiff,Nat.reduceLT,Int.reduceEq,Int.reduceLT,Int.reduceLE,Int.reduceAdd,Int.reduceSub,Int.reduceMul,Int.reduceNeg,Int.reduceNe,reduceCtorEq,Int.reduceToNat,↓reduceIte]
  refine ⟨fun h => bool_eq ?_, fun h => bool_eq ?_⟩
  · unfold wless; rw [if_neg (by omega)]; simp
  · unfold wless; rw [if_pos (by omega)]
theorem p_wmay (s : ByteArray) (hs : s.size ≤ 9223372036854775807) : PCalls Try.prog 33 [.str s] (.bool (wordMay s)) := by
  refine pcalls_of (by first | rfl | simp [free, free.frees, frees_str, frees_u8, frees_u16]) (by first | rfl | simp [free, free.frees, frees_str, frees_u8, frees_u16]) (acalls_of mixed F_word_May_ok (Nat.le_of_ble_eq_true rfl) ?_); simp only [F_word_May, wk,if_true,if_false,forall_const,implies_true,ne_eq,eq_self,Nat.reduceEqDiff,Nat.reduceAdd,Nat.reduceMul,Nat.reduceSub,Nat.reduceLeDiff,Nat.reduceLT,Int.reduceEq,Int.reduceLT,Int.reduceLE,Int.reduceAdd,Int.reduceSub,Int.reduceMul,Int.reduceNeg,Int.reduceNe,reduceCtorEq,Int.reduceToNat,↓reduceIte]
  refine PCalls.use (p_wodd s) ?_; simp only [wk,if_true,if_false,forall_const,implies_true,ne_eq,eq_self,Nat.reduceEqDiff,Nat.reduceAdd,Nat.reduceMul,Nat.reduceSub,Nat.reduceLeDiff,Nat.reduceLT,Int.reduceEq,Int.reduceLT,Int.reduceLE,Int.reduceAdd,Int.reduceSub,Int.reduceMul,Int.reduceNeg,Int.reduceNe,reduceCtorEq,Int.reduceToNat,↓reduceIte]
  refine ⟨fun ho => ?_, fun ho => bool_eq ?_⟩
  rotate_left
  · simp only [wordMay]; symm; rw [decide_eq_false_iff_not]; omega
  refine PCalls.use (p_wlen s hs) ?_; simp only [wk,if_true,if_false,forall_const,implies_true,ne_eq,eq_self,Nat.reduceEqDiff,Nat.reduceAdd,Nat.reduceMul,Nat.reduceSub,Nat.reduceLeDiff,Nat.reduceLT,Int.reduceEq,Int.reduceLT,Int.reduceLE,Int.reduceAdd,Int.reduceSub,Int.reduceMul,Int.reduceNeg,Int.reduceNe,reduceCtorEq,Int.reduceToNat,↓reduceIte]
  refine ⟨fun h1 => ?_, fun h1 => bool_eq ?_⟩
  rotate_left
  · simp only [wordMay]; symm; rw [decide_eq_false_iff_not]; omega
  refine PCalls.use (p_wlen s hs) ?_; simp only [wk,if_true,if_false,forall_const,implies_true,ne_eq,eq_self,Nat.reduceEqDiff,Nat.reduceAdd,Nat.reduceMul,Nat.reduceSub,Nat.reduceLeDiff,Nat.reduceLT,Int.reduceEq,Int.reduceLT,Int.reduceLE,Int.reduceAdd,Int.reduceSub,Int.reduceMul,Int.reduceNeg,Int.reduceNe,reduceCtorEq,Int.reduceToNat,↓reduceIte]
  refine ⟨fun h2 => bool_eq ?_, fun h2 => ?_⟩
  · simp only [wordMay]; symm; rw [decide_eq_false_iff_not]; omega
  refine PCalls.use (p_wlen s hs) ?_; simp only [wk,if_true,if_false,forall_const,implies_true,ne_eq,eq_self,Nat.reduceEqDiff,Nat.reduceAdd,Nat.reduceMul,Nat.reduceSub,Nat.reduceLeDiff,Nat.reduceLT,Int.reduceEq,Int.reduceLT,Int.reduceLE,Int.reduceAdd,Int.reduceSub,Int.reduceMul,Int.reduceNeg,Int.reduceNe,reduceCtorEq,Int.reduceToNat,↓reduceIte]
  refine W_loop (fun n fr h => ∃ i : Nat, i ≤ s.size / 2 ∧ n = s.size / 2 - i ∧ fr = [(0, .str s), (17, .int .i64 ((s.size / 2 : Nat) : Int)), (18, .int .i64 i)] ∧ (∀ j, j < i → atomAt s j ≠ 0)) (s.size / 2) ⟨0, by omega, by omega, rfl, fun j hj => by omega⟩ ?_
  rintro n fr h ⟨i, hi, rfl, rfl, hall⟩
  simp only [wk,if_true,if_false,forall_const,implies_true,ne_eq,eq_self,Nat.reduceEqDiff,Nat.reduceAdd,Nat.reduceMul,Nat.reduceSub,Nat.reduceLeDiff,Nat.reduceLT,Int.reduceEq,Int.reduceLT,Int.reduceLE,Int.reduceAdd,Int.reduceSub,Int.reduceMul,Int.reduceNeg,Int.reduceNe,reduceCtorEq,Int.reduceToNat,↓reduceIte]
  refine ⟨fun hlt => ?_, fun hge => bool_eq ?_⟩
  · refine PCalls.use (p_wat s i hs (by omega)) ?_; simp only [wk,if_true,if_false,forall_const,implies_true,ne_eq,eq_self,Nat.reduceEqDiff,Nat.reduceAdd,Nat.reduceMul,Nat.reduceSub,Nat.reduceLeDiff,Nat.reduceLT,Int.reduceEq,Int.reduceLT,Int.reduceLE,Int.reduceAdd,Int.reduceSub,Int.reduceMul,Int.reduceNeg,Int.reduceNe,reduceCtorEq,Int.reduceToNat,↓reduceIte]
    refine ⟨fun h0 => bool_eq ?_, fun h0 => ⟨inR_of (by omega) (by omega), s.size / 2 - (i + 1), by omega, i + 1, by omega, rfl, rfl, fun j hj => ?_⟩⟩
    · simp only [wordMay]; symm; rw [decide_eq_false_iff_not]; rintro ⟨_, _, _, h4⟩; exact h4 i (by omega) (by omega)
    · by_cases e : j = i
      · subst e; omega
      · exact hall j (by omega)
  · simp only [wordMay]; symm; rw [decide_eq_true_eq]; exact ⟨by omega, by omega, by omega, fun j hj => hall j (by omega)⟩

theorem drop_str {l : List ByteArray} {i : Nat} (h : i < l.length) : (l.map AV.str).drop i = AV.str l[i] :: (l.map AV.str).drop (i + 1) := by
  rw [List.drop_eq_getElem_cons (by simpa using h)]; simp
theorem p_smay (l : List ByteArray) (hl : l.length ≤ 9223372036854775807) (hs : ∀ x ∈ l, x.size ≤ 9223372036854775807) : PCalls Try.prog 47 [.lst .ro l.length (l.map .str)] (.bool (setMay l)) := by
  refine pcalls_of (by first | rfl | simp [free, free.frees, frees_str, frees_u8, frees_u16]) (by first | rfl | simp [free, free.frees, frees_str, frees_u8, frees_u16]) (acalls_of mixed F_set_May_ok (Nat.le_of_ble_eq_true rfl) ?_); simp only [F_set_May, wk,if_true,if_false,forall_const,implies_true,ne_eq,eq_self,Nat.reduceEqDiff,Nat.reduceAdd,Nat.reduceMul,Nat.reduceSub,Nat.reduceLeDiff,Nat.reduceLT,Int.reduceEq,Int.reduceLT,Int.reduceLE,Int.reduceAdd,Int.reduceSub,Int.reduceMul,Int.reduceNeg,Int.reduceNe,reduceCtorEq,Int.reduceToNat,↓reduceIte]
  refine ⟨fun h1 => ?_, fun h1 => bool_eq (setMay_len (by omega)).symm⟩
  refine ⟨fun h2 => bool_eq (setMay_len (by omega)).symm, fun h2 => ?_⟩
  refine W_loop (fun n fr h => ∃ i : Nat, i ≤ l.length ∧ n = l.length - i ∧ fr = [(0, .lst .ro l.length (l.map .str)), (13, .lst .ro l.length (l.map .str)), (14, .int .i64 l.length), (15, .int .i64 i)] ∧ risingTo l i = true) l.length ⟨0, by omega, by omega, rfl, risingTo_zero l⟩ ?_
  rintro n fr h ⟨i, hi, rfl, rfl, hris⟩
  simp only [wk,if_true,if_false,forall_const,implies_true,ne_eq,eq_self,Nat.reduceEqDiff,Nat.reduceAdd,Nat.reduceMul,Nat.reduceSub,Nat.reduceLeDiff,Nat.reduceLT,Int.reduceEq,Int.reduceLT,Int.reduceLE,Int.reduceAdd,Int.reduceSub,Int.reduceMul,Int.reduceNeg,Int.reduceNe,reduceCtorEq,Int.reduceToNat,↓reduceIte]
  refine ⟨fun hlt => ?_, fun hge => bool_eq ?_⟩
  · have hil : i < l.length := by omega
    have hget : l[i]? = some l[i] := by simp [hil]
    refine ⟨⟨by omega, hlt⟩, ?_⟩
    rw [show (i : Int).toNat = i by omega, drop_str hil]
    simp only [wk,if_true,if_false,forall_const,implies_true,ne_eq,eq_self,Nat.reduceEqDiff,Nat.reduceAdd,Nat.reduceMul,Nat.reduceSub,Nat.reduceLeDiff,Nat.reduceLT,Int.reduceEq,Int.reduceLT,Int.reduceLE,Int.reduceAdd,Int.reduceSub,Int.reduceMul,Int.reduceNeg,Int.reduceNe,reduceCtorEq,Int.reduceToNat,↓reduceIte]
    refine PCalls.use (p_wmay l[i] (hs _ (List.getElem_mem hil))) ?_; simp only [wk,if_true,if_false,forall_const,implies_true,ne_eq,eq_self,Nat.reduceEqDiff,Nat.reduceAdd,Nat.reduceMul,Nat.reduceSub,Nat.reduceLeDiff,Nat.reduceLT,Int.reduceEq,Int.reduceLT,Int.reduceLE,Int.reduceAdd,Int.reduceSub,Int.reduceMul,Int.reduceNeg,Int.reduceNe,reduceCtorEq,Int.reduceToNat,↓reduceIte]
    refine ⟨fun hw => bool_eq ?_, fun hw => ⟨fun h0 => ?_, fun h0 => ?_⟩⟩
    · symm
      refine setMay_no (k := i + 1) (by omega) ?_
      cases hi0 : i with
      | zero => subst hi0; rw [risingTo_one hget, hw]
      | succ m => subst hi0; rw [risingTo_succ (x := l[m]'(by omega)) (List.getElem?_eq_getElem (by omega)) hget, hw]; simp
    · obtain ⟨m, rfl⟩ : ∃ m, i = m + 1 := ⟨i - 1, by omega⟩
      (repeat (refine And.intro (by first | omega | exact inR_of (by omega) (by omega) | exact ⟨by omega, by omega⟩ | exact ⟨by omega, by omega, by omega⟩ | rfl) ?_))
      rw [show (((m + 1 : Nat) : Int) - 1).toNat = m by omega, drop_str (show m < l.length by omega)]
      simp only [wk,if_true,if_false,forall_const,implies_true,ne_eq,eq_self,Nat.reduceEqDiff,Nat.reduceAdd,Nat.reduceMul,Nat.reduceSub,Nat.reduceLeDiff,Nat.reduceLT,Int.reduceEq,Int.reduceLT,Int.reduceLE,Int.reduceAdd,Int.reduceSub,Int.reduceMul,Int.reduceNeg,Int.reduceNe,reduceCtorEq,Int.reduceToNat,↓reduceIte]
      refine PCalls.use (p_wless l[m] l[m + 1]) ?_; simp only [wk,if_true,if_false,forall_const,implies_true,ne_eq,eq_self,Nat.reduceEqDiff,Nat.reduceAdd,Nat.reduceMul,Nat.reduceSub,Nat.reduceLeDiff,Nat.reduceLT,Int.reduceEq,Int.reduceLT,Int.reduceLE,Int.reduceAdd,Int.reduceSub,Int.reduceMul,Int.reduceNeg,Int.reduceNe,reduceCtorEq,Int.reduceToNat,↓reduceIte]
      refine ⟨fun hw2 => bool_eq ?_, fun hw2 => ⟨inR_of (by omega) (by omega), l.length - (m + 2), by omega, m + 2, by omega, rfl, rfl, ?_⟩⟩
      · symm
        refine setMay_no (k := m + 2) (by omega) ?_
        rw [risingTo_succ (x := l[m]) (List.getElem?_eq_getElem (by omega)) hget, hw2]; simp
      · rw [risingTo_succ (x := l[m]) (List.getElem?_eq_getElem (by omega)) hget, hw2, hw, hris]; rfl
    · have hi0 : i = 0 := by omega
      subst hi0
      refine ⟨inR_of (by omega) (by omega), l.length - 1, by omega, 1, by omega, rfl, rfl, ?_⟩
      rw [risingTo_one hget, hw]
  · rw [setMay_eq l (by omega) (by omega), show l.length = i by omega, hris]

abbrev u8s (l : List UInt8) : List AV := l.map fun b => AV.int .u8 b.toNat
theorem u8s_app (l m : List UInt8) : u8s l ++ u8s m = u8s (l ++ m) := by simp [u8s]
def atomBytes (l : List Nat) : List UInt8 := l.flatMap fun a => [UInt8.ofNat (a / 256), UInt8.ofNat (a % 256)]
abbrev u16s (l : List Nat) : List AV := l.map fun (b : Nat) => AV.int .u16 (b : Int)
theorem u16s_drop {l : List Nat} {i : Nat} (h : i < l.length) : (u16s l).drop i = .int .u16 ((l[i] : Nat) : Int) :: (u16s l).drop (i + 1) := by
  rw [List.drop_eq_getElem_cons (by simpa using h)]; simp
theorem p_rof (l : List Nat) (hl : l.length ≤ 70368744177664) (ha : ∀ a ∈ l, a < 65536) : PCalls Try.prog 14 [.lst .ro l.length (u16s l)] (.str ⟨(atomBytes l).toArray⟩) := by
  refine pcalls_of (by first | rfl | simp [free, free.frees, frees_str, frees_u8, frees_u16]) (by first | rfl | simp [free, free.frees, frees_str, frees_u8, frees_u16]) (acalls_of mixed F_ref02_Of_ok (Nat.le_of_ble_eq_true rfl) ?_); simp only [F_ref02_Of, wk,if_true,if_false,forall_const,implies_true,ne_eq,eq_self,Nat.reduceEqDiff,Nat.reduceAdd,Nat.reduceMul,Nat.reduceSub,Nat.reduceLeDiff,Nat.reduceLT,Int.reduceEq,Int.reduceLT,Int.reduceLE,Int.reduceAdd,Int.reduceSub,Int.reduceMul,Int.reduceNeg,Int.reduceNe,reduceCtorEq,Int.reduceToNat,↓reduceIte]
  refine W_loop (fun n fr h => ∃ i : Nat, i ≤ l.length ∧ n = l.length - i ∧ fr = [(0, .lst .ro l.length (u16s l)), (3, .lst (.own 5) (2 * i) (u8s (atomBytes (l.take i)))), (4, .int .i64 i)]) l.length ⟨0, by omega, by omega, rfl⟩ ?_
  rintro n fr h ⟨i, hi, rfl, rfl⟩
  simp only [wk,if_true,if_false,forall_const,implies_true,ne_eq,eq_self,Nat.reduceEqDiff,Nat.reduceAdd,Nat.reduceMul,Nat.reduceSub,Nat.reduceLeDiff,Nat.reduceLT,Int.reduceEq,Int.reduceLT,Int.reduceLE,Int.reduceAdd,Int.reduceSub,Int.reduceMul,Int.reduceNeg,Int.reduceNe,reduceCtorEq,Int.reduceToNat,↓reduceIte]
  refine ⟨fun hlt => ?_, fun hge => ?_⟩
  · have hil : i < l.length := by omega
    have h16 := ha l[i] (List.getElem_mem hil)
    (repeat (refine And.intro (by first | omega | exact inR_of (by omega) (by omega) | exact ⟨by omega, by omega⟩ | exact ⟨by omega, by omega, by omega⟩ | rfl) ?_))
    rw [show (i : Int).toNat = i by omega, u16s_drop hil]
    simp only [wk,if_true,if_false,forall_const,implies_true,ne_eq,eq_self,Nat.reduceEqDiff,Nat.reduceAdd,Nat.reduceMul,Nat.reduceSub,Nat.reduceLeDiff,Nat.reduceLT,Int.reduceEq,Int.reduceLT,Int.reduceLE,Int.reduceAdd,Int.reduceSub,Int.reduceMul,Int.reduceNeg,Int.reduceNe,reduceCtorEq,Int.reduceToNat,↓reduceIte]
    refine ⟨⟨by omega, by omega⟩, ?_⟩
    rw [show (i : Int).toNat = i by omega, u16s_drop hil]
    simp only [wk,if_true,if_false,forall_const,implies_true,ne_eq,eq_self,Nat.reduceEqDiff,Nat.reduceAdd,Nat.reduceMul,Nat.reduceSub,Nat.reduceLeDiff,Nat.reduceLT,Int.reduceEq,Int.reduceLT,Int.reduceLE,Int.reduceAdd,Int.reduceSub,Int.reduceMul,Int.reduceNeg,Int.reduceNe,reduceCtorEq,Int.reduceToNat,↓reduceIte]
    (repeat (refine And.intro (by first | omega | exact inR_of (by omega) (by omega) | exact ⟨by omega, by omega⟩ | exact ⟨by omega, by omega, by omega⟩ | rfl) ?_))
    refine ⟨l.length - (i + 1), by omega, i + 1, by omega, rfl, ?_⟩
    have e1 : IntKind.u8.wrap (IntKind.u16.wrap ((l[i] : Int).tdiv 256)) = ((UInt8.ofNat (l[i] / 256)).toNat : Int) := by
      rw [Int.tdiv_eq_ediv_of_nonneg (by omega), IntKind.wrap_u16, IntKind.wrap_u8]; simp only [UInt8.toNat_ofNat']; omega
    have e2 : IntKind.u8.wrap ((l[i] : Int).tmod 256) = ((UInt8.ofNat (l[i] % 256)).toNat : Int) := by
      rw [Int.tmod_eq_emod_of_nonneg (by omega), IntKind.wrap_u8]; simp only [UInt8.toNat_ofNat']; omega
    have e3 : atomBytes (l.take (i + 1)) = atomBytes (l.take i) ++ [UInt8.ofNat (l[i] / 256), UInt8.ofNat (l[i] % 256)] := by rw [List.take_succ_eq_append_getElem hil, atomBytes, List.flatMap_append]; rfl
    rw [e1, e2, e3, ← u8s_app]
    rfl
  · have : i = l.length := by omega
    subst this
    refine ⟨atomBytes l, by rw [List.take_length], ?_, rfl⟩
    have : ∀ l : List Nat, (atomBytes l).length = 2 * l.length := by
      intro l; induction l with
      | nil => rfl
      | cons a l ih => simp only [atomBytes, List.flatMap_cons, List.length_append, List.length_cons, List.length_nil] at ih ⊢; omega
    rw [this]
end Go.Proofs.Ytpjlkefadnbgdaa

/- The abstract layer: a full slice may be handed where one is only read. -/
namespace Go.Proofs.Ytpjlkefadnbgdaa
set_option linter.unusedSimpArgs false
set_option linter.unusedVariables false
open Go.RowKit Go.Lib

def ro : AV → AV
  | .lst .clip n l => .lst .ro n l
  | a => a
theorem Rep.ro {g : Gh} {v : Value} {a : AV} (h : Rep g v a) : Rep g v (ro a) := by
  cases h with
  | lst b off n c f vs l h1 h2 h3 h4 h5 => cases f with
    | clip => exact .lst b off n c .ro vs l h1 h2 h3 (fun h => by cases h) h5
    | _ => exact .lst b off n c _ vs l h1 h2 h3 h4 h5
  | lst0 a c f h => cases f with
    | clip => exact .lst0 a c .ro (fun h => by cases h)
    | _ => exact .lst0 a c _ h
  | itr b s p => exact .itr _ _ _
  | stk a c e o l h1 h2 h3 => exact .stk a c e o l h1 h2 h3
  | raw a n c h1 h2 => exact .raw a n c h1 h2
  | rawp b i n c => exact .rawp b i n c
  | opq v h h' => exact .opq _ h h'
  | frn v Q S W0 h h' h3 h4 => exact .frn _ Q S W0 h h' h3 h4
  | _ => first | exact .bool _ | exact .int _ _ | exact .str _ | exact .nilp | (exact .ptr _ _ _ ‹_›) | (exact .fp _ _ _ _ ‹_› ‹_› ‹_›) | (exact .hs _ _ _ _ ‹_› ‹_›) | (exact .agg _ _ ‹_› ‹_› ‹_›) | (exact .tup _ _ ‹_› ‹_›) | (exact .fn _ _ _ ‹_› ‹_›) | (exact .fnb _ _ _ ‹_› ‹_›) | exact .nilf
theorem RepL.ro {g : Gh} : ∀ {vs : List Value} {l : List AV}, RepL g vs l → RepL g vs (l.map ro)
  | _, _, .nil => .nil
  | _, _, .cons h hl => .cons h.ro (RepL.ro hl)
theorem plain_ro {a : AV} (h : plain a = true) : plain (ro a) = true := by
  cases a with
  | lst f n l => cases f <;> first | rfl | exact h
  | _ => exact h
theorem free_ro (a : AV) : free (ro a) = free a := by
  cases a with
  | lst f n l => cases f <;> simp [Go.Proofs.Ytpjlkefadnbgdaa.ro, free]
  | _ => rfl
theorem frees_ro : ∀ l : List AV, free.frees (l.map ro) = free.frees l
  | [] => rfl
  | a :: l => by simp only [List.map_cons, free.frees, free_ro, frees_ro l]
theorem ACalls.ro {P : Program} {f : FuncId} {args : List AV} {h : Hp} {R : AV → Hp → Prop} (hc : ACalls P f (args.map ro) h R) : ACalls P f args h R :=
  ⟨hc.1, fun g w vargs h1 h2 h3 h4 => hc.2 g w vargs h1 h2 h3.ro (fun a ha => by
    obtain ⟨b, hb, rfl⟩ := List.mem_map.1 ha
    exact plain_ro (h4 b hb))⟩
theorem PCalls.ro {P : Program} {f : FuncId} {args : List AV} {v : AV} (hc : PCalls P f (args.map ro) v) : PCalls P f args v :=
  ⟨by rw [← frees_ro]; exact hc.1, hc.2.1, ACalls.ro hc.2.2⟩
end Go.Proofs.Ytpjlkefadnbgdaa

namespace Go.Proofs.Ytpjlkefadnbgdaa
open Go.RowKit
def J_slices_EqualFunc_api_Cert_api_Cert_api_Cert_api_Cert_j1 : ACode :=
 .keep [] (.seq (.ops [⟨some 6, none, .mv (.c (.bool true)), none⟩])
 (.ret))
def J_slices_EqualFunc_api_Cert_api_Cert_api_Cert_api_Cert_j2 : ACode :=
 .seq (.ops [⟨some 18, none, .bin .lss (.t 17) (.t 16), none⟩])
 (.keep [1, 2, 15, 16, 17, 18] (.seq (.cond (.t 18)
 (.skip)
 (.exit 0))
 (.keep [1, 2, 15, 16, 17] (.seq (.block 1 (.seq (.ops [⟨some 19, none, .mv (.t 17), none⟩,
 ⟨some 20, none, .idxa 7 (.t 15) (.t 17), none⟩,
 ⟨some 21, none, .load (some 7) (.t 20), none⟩,
 ⟨some 8, none, .new [(.int .i64 0), (.int .u16 0), (.str ⟨#[]⟩), (.lst .clip 0 []), (.int .i64 0), (.int .i64 0), (.int .i64 0)] [], none⟩,
 ⟨some 7, none, .mv (.t 19), none⟩,
 ⟨none, none, .stores 7 (.t 8) (.t 21), none⟩])
 (.keep [1, 2, 7, 8, 15, 16, 17] (.seq (.ops [⟨some 22, none, .mv (.t 1), none⟩,
 ⟨some 23, none, .mv (.t 7), none⟩,
 ⟨some 24, none, .idxa 7 (.t 22) (.t 23), none⟩,
 ⟨some 25, none, .load (some 7) (.t 24), none⟩,
 ⟨some 9, none, .new [(.int .i64 0), (.int .u16 0), (.str ⟨#[]⟩), (.lst .clip 0 []), (.int .i64 0), (.int .i64 0), (.int .i64 0)] [], none⟩,
 ⟨none, none, .stores 7 (.t 9) (.t 25), none⟩])
 (.keep [1, 2, 8, 9, 15, 16, 17] (.seq (.ops [⟨some 26, none, .mv (.t 2), none⟩,
 ⟨some 27, none, .load (some 7) (.t 8), none⟩,
 ⟨some 28, none, .load (some 7) (.t 9), none⟩,
 ⟨some 29, none, .call (.t 26) [(.t 27), (.t 28)], none⟩,
 ⟨some 30, none, .not (.t 29), none⟩])
 (.keep [1, 2, 15, 16, 17, 30] (.cond (.t 30)
 (.seq (.ops [⟨some 6, none, .mv (.c (.bool false)), none⟩])
 (.ret))
 (.skip)))))))))
 (.keep [1, 2, 15, 16, 17] (.ops [⟨some 31, none, .bin .add (.t 17) (.c (.int .i64 1)), none⟩,
 ⟨some 17, none, .mv (.t 31), none⟩]))))))
def J_slices_EqualFunc_api_Cert_api_Cert_api_Cert_api_Cert : AFn :=
 ⟨32, [.t 6], .seq (.ops [⟨some 6, none, .mv (.c (.bool false)), none⟩])
 (.keep [0, 1, 2] (.seq (.seq (.ops [⟨some 10, none, .mv (.t 0), none⟩,
 ⟨some 11, none, .lenl (.t 10), none⟩,
 ⟨some 12, none, .mv (.t 1), none⟩,
 ⟨some 13, none, .lenl (.t 12), none⟩,
 ⟨some 14, none, .bin .neq (.t 11) (.t 13), none⟩])
 (.keep [0, 1, 2, 14] (.cond (.t 14)
 (.seq (.ops [⟨some 6, none, .mv (.c (.bool false)), none⟩])
 (.ret))
 (.skip))))
 (.keep [0, 1, 2] (.seq (.seq (.ops [⟨some 15, none, .mv (.t 0), none⟩,
 ⟨some 16, none, .lenl (.t 15), none⟩,
 ⟨some 17, none, .mv (.c (.int .i64 0)), none⟩])
 (.keep [1, 2, 15, 16, 17] (.block 0 (.loop [1, 2, 15, 16, 17] (J_slices_EqualFunc_api_Cert_api_Cert_api_Cert_api_Cert_j2)))))
 (J_slices_EqualFunc_api_Cert_api_Cert_api_Cert_api_Cert_j1)))))⟩
theorem J_slices_EqualFunc_api_Cert_api_Cert_api_Cert_api_Cert_ok : chkFn Try.prog 24 J_slices_EqualFunc_api_Cert_api_Cert_api_Cert_api_Cert = true := by kernel_rfl
def J_slices_Equal_api_Set_api_Word_j1 : ACode :=
 .keep [] (.seq (.ops [⟨some 4, none, .mv (.c (.bool true)), none⟩])
 (.ret))
def J_slices_Equal_api_Set_api_Word_j2 : ACode :=
 .seq (.ops [⟨some 14, none, .bin .lss (.t 13) (.t 12), none⟩])
 (.keep [0, 1, 12, 13, 14] (.seq (.cond (.t 14)
 (.skip)
 (.exit 0))
 (.keep [0, 1, 12, 13] (.seq (.block 1 (.seq (.ops [⟨some 15, none, .mv (.t 13), none⟩,
 ⟨some 5, none, .mv (.t 15), none⟩])
 (.keep [0, 1, 5, 12, 13] (.seq (.draw [0, 1, 12, 13, 24] [⟨some 16, none, .mv (.t 0), none⟩,
 ⟨some 17, none, .mv (.t 5), none⟩,
 ⟨some 18, none, .idxa 1 (.t 16) (.t 17), none⟩,
 ⟨some 19, none, .load none (.t 18), none⟩,
 ⟨some 20, none, .mv (.t 1), none⟩,
 ⟨some 21, none, .mv (.t 5), none⟩,
 ⟨some 22, none, .idxa 1 (.t 20) (.t 21), none⟩,
 ⟨some 23, none, .load none (.t 22), none⟩,
 ⟨some 24, none, .bin .neq (.t 19) (.t 23), none⟩])
 (.keep [0, 1, 12, 13, 24] (.cond (.t 24)
 (.seq (.ops [⟨some 4, none, .mv (.c (.bool false)), none⟩])
 (.ret))
 (.skip)))))))
 (.keep [0, 1, 12, 13] (.ops [⟨some 25, none, .bin .add (.t 13) (.c (.int .i64 1)), none⟩,
 ⟨some 13, none, .mv (.t 25), none⟩]))))))
def J_slices_Equal_api_Set_api_Word : AFn :=
 ⟨26, [.t 4], .seq (.ops [⟨some 4, none, .mv (.c (.bool false)), none⟩])
 (.keep [0, 1] (.seq (.seq (.ops [⟨some 6, none, .mv (.t 0), none⟩,
 ⟨some 7, none, .lenl (.t 6), none⟩,
 ⟨some 8, none, .mv (.t 1), none⟩,
 ⟨some 9, none, .lenl (.t 8), none⟩,
 ⟨some 10, none, .bin .neq (.t 7) (.t 9), none⟩])
 (.keep [0, 1, 10] (.cond (.t 10)
 (.seq (.ops [⟨some 4, none, .mv (.c (.bool false)), none⟩])
 (.ret))
 (.skip))))
 (.keep [0, 1] (.seq (.seq (.ops [⟨some 11, none, .mv (.t 0), none⟩,
 ⟨some 12, none, .lenl (.t 11), none⟩,
 ⟨some 13, none, .mv (.c (.int .i64 0)), none⟩])
 (.keep [0, 1, 12, 13] (.block 0 (.loop [0, 1, 12, 13] (J_slices_Equal_api_Set_api_Word_j2)))))
 (J_slices_Equal_api_Set_api_Word_j1)))))⟩
theorem J_slices_Equal_api_Set_api_Word_ok : chkFn Try.prog 44 J_slices_Equal_api_Set_api_Word = true := by kernel_rfl
def J_slices_Contains_int_int : AFn :=
 ⟨9, [.t 4], .seq (.ops [⟨some 4, none, .mv (.c (.bool false)), none⟩])
 (.keep [0, 1] (.seq (.ops [⟨some 5, none, .mv (.t 0), none⟩,
 ⟨some 6, none, .mv (.t 1), none⟩,
 ⟨some 7, none, .call (.f 67) [(.t 5), (.t 6)], none⟩,
 ⟨some 8, none, .bin .geq (.t 7) (.c (.int .i64 0)), none⟩,
 ⟨some 4, none, .mv (.t 8), none⟩])
 (.ret)))⟩
theorem J_slices_Contains_int_int_ok : chkFn Try.prog 63 J_slices_Contains_int_int = true := by kernel_rfl
def J_word_Of_j1 : ACode :=
 .keep [3] (.seq (.ops [⟨some 25, none, .mv (.t 3), none⟩,
 ⟨some 26, none, .b2s (.t 25), none⟩,
 ⟨some 2, none, .mv (.t 26), none⟩])
 (.ret))
def J_word_Of_j2 : ACode :=
 .seq (.ops [⟨some 13, none, .bin .lss (.t 12) (.t 11), none⟩])
 (.keep [3, 10, 11, 12, 13] (.seq (.cond (.t 13)
 (.skip)
 (.exit 0))
 (.keep [3, 10, 11, 12] (.seq (.block 1 (.seq (.ops [⟨some 14, none, .idxa 1 (.t 10) (.t 12), none⟩,
 ⟨some 15, none, .load none (.t 14), none⟩,
 ⟨some 5, none, .mv (.t 15), none⟩])
 (.keep [3, 5, 10, 11, 12] (.ops [⟨some 16, none, .mvo 3, none⟩,
 ⟨some 17, none, .mv (.t 5), none⟩,
 ⟨some 18, none, .bin .shr (.t 17) (.c (.int .u64 8)), none⟩,
 ⟨some 19, none, .conv .u8 (.t 18), none⟩,
 ⟨some 20, none, .mv (.t 5), none⟩,
 ⟨some 21, none, .conv .u8 (.t 20), none⟩,
 ⟨some 22, none, .bsl 5 1 2 [(.int .u8 0), (.int .u8 0)] [(0, 1, (.t 19)), (1, 1, (.t 21))], none⟩,
 ⟨some 23, none, .appo 5 1 1 16 (.t 22), none⟩,
 ⟨some 3, none, .mvo 23, none⟩]))))
 (.keep [3, 10, 11, 12] (.ops [⟨some 24, none, .bin .add (.t 12) (.c (.int .i64 1)), none⟩,
 ⟨some 12, none, .mv (.t 24), none⟩]))))))
def J_word_Of : AFn :=
 ⟨27, [.t 2], .seq (.ops [⟨some 2, none, .mv (.c (.str ⟨#[]⟩)), none⟩])
 (.keep [0] (.seq (.ops [⟨some 6, none, .mv (.t 0), none⟩,
 ⟨some 7, none, .lenl (.t 6), none⟩,
 ⟨some 8, none, .bin .mul (.c (.int .i64 2)) (.t 7), none⟩,
 ⟨some 9, none, .mk0 5 1 1 (.t 8), none⟩,
 ⟨some 3, none, .mvo 9, none⟩])
 (.keep [0, 3] (.seq (.seq (.ops [⟨some 10, none, .mv (.t 0), none⟩,
 ⟨some 11, none, .lenl (.t 10), none⟩,
 ⟨some 12, none, .mv (.c (.int .i64 0)), none⟩])
 (.keep [3, 10, 11, 12] (.block 0 (.loop [3, 10, 11, 12] (J_word_Of_j2)))))
 (J_word_Of_j1)))))⟩
theorem J_word_Of_ok : chkFn Try.prog 66 J_word_Of = true := by kernel_rfl
def J_slices_Index_int_int_j1 : ACode :=
 .keep [] (.seq (.ops [⟨some 4, none, .mv (.c (.int .i64 (-1))), none⟩])
 (.ret))
def J_slices_Index_int_int_j2 : ACode :=
 .seq (.ops [⟨some 9, none, .bin .lss (.t 8) (.t 7), none⟩])
 (.keep [0, 1, 7, 8, 9] (.seq (.cond (.t 9)
 (.skip)
 (.exit 0))
 (.keep [0, 1, 7, 8] (.seq (.block 1 (.seq (.ops [⟨some 10, none, .mv (.t 8), none⟩,
 ⟨some 5, none, .mv (.t 10), none⟩])
 (.keep [0, 1, 5, 7, 8] (.seq (.ops [⟨some 11, none, .mv (.t 1), none⟩,
 ⟨some 12, none, .mv (.t 0), none⟩,
 ⟨some 13, none, .mv (.t 5), none⟩,
 ⟨some 14, none, .idxa 1 (.t 12) (.t 13), none⟩,
 ⟨some 15, none, .load none (.t 14), none⟩,
 ⟨some 16, none, .bin .eql (.t 11) (.t 15), none⟩])
 (.keep [0, 1, 5, 7, 8, 16] (.cond (.t 16)
 (.seq (.ops [⟨some 17, none, .mv (.t 5), none⟩,
 ⟨some 4, none, .mv (.t 17), none⟩])
 (.ret))
 (.skip)))))))
 (.keep [0, 1, 7, 8] (.ops [⟨some 18, none, .bin .add (.t 8) (.c (.int .i64 1)), none⟩,
 ⟨some 8, none, .mv (.t 18), none⟩]))))))
def J_slices_Index_int_int : AFn :=
 ⟨19, [.t 4], .seq (.ops [⟨some 4, none, .mv (.c (.int .i64 0)), none⟩])
 (.keep [0, 1] (.seq (.seq (.ops [⟨some 6, none, .mv (.t 0), none⟩,
 ⟨some 7, none, .lenl (.t 6), none⟩,
 ⟨some 8, none, .mv (.c (.int .i64 0)), none⟩])
 (.keep [0, 1, 7, 8] (.block 0 (.loop [0, 1, 7, 8] (J_slices_Index_int_int_j2)))))
 (J_slices_Index_int_int_j1)))⟩
theorem J_slices_Index_int_int_ok : chkFn Try.prog 67 J_slices_Index_int_int = true := by kernel_rfl
def J_word_Swap : AFn :=
 ⟨42, [.t 8, .t 9], .seq (.ops [⟨some 8, none, .mv (.c (.str ⟨#[]⟩)), none⟩,
 ⟨some 9, none, .mv (.c (.int .i64 0)), none⟩])
 (.keep [0, 1, 2, 3] (.seq (.seq (.ops [⟨some 10, none, .mv (.t 0), none⟩,
 ⟨some 11, none, .call (.f 48) [(.t 10)], none⟩,
 ⟨some 12, none, .mv (.t 11), none⟩,
 ⟨some 13, (some (12, false)), .mv (.t 3), none⟩,
 ⟨some 14, (some (12, false)), .call (.f 48) [(.t 13)], none⟩,
 ⟨some 15, none, .pick (.t 12) (.c (.bool true)) (.t 14), none⟩])
 (.keep [0, 1, 2, 3, 15] (.cond (.t 15)
 (.seq (.ops [⟨some 8, none, .mv (.c (.str ⟨#[]⟩)), none⟩,
 ⟨some 9, none, .mv (.c (.int .i64 2)), none⟩])
 (.ret))
 (.skip))))
 (.keep [0, 1, 2, 3] (.seq (.seq (.ops [⟨some 16, none, .mv (.t 0), none⟩,
 ⟨some 17, none, .mv (.t 1), none⟩,
 ⟨some 18, none, .mv (.t 2), none⟩,
 ⟨some 19, none, .call (.f 71) [(.t 16), (.t 17), (.t 18)], none⟩,
 ⟨some 20, none, .not (.t 19), none⟩])
 (.keep [0, 1, 2, 3, 20] (.cond (.t 20)
 (.seq (.ops [⟨some 8, none, .mv (.c (.str ⟨#[]⟩)), none⟩,
 ⟨some 9, none, .mv (.c (.int .i64 5)), none⟩])
 (.ret))
 (.skip))))
 (.keep [0, 1, 2, 3] (.seq (.seq (.ops [⟨some 21, none, .mv (.t 0), none⟩,
 ⟨some 22, none, .call (.f 49) [(.t 21)], none⟩,
 ⟨some 23, none, .mv (.t 2), none⟩,
 ⟨some 24, none, .bin .sub (.t 22) (.t 23), none⟩,
 ⟨some 25, none, .mv (.t 3), none⟩,
 ⟨some 26, none, .call (.f 49) [(.t 25)], none⟩,
 ⟨some 27, none, .bin .add (.t 24) (.t 26), none⟩,
 ⟨some 28, none, .bin .gtr (.t 27) (.c (.int .i64 8)), none⟩])
 (.keep [0, 1, 2, 3, 28] (.cond (.t 28)
 (.seq (.ops [⟨some 8, none, .mv (.c (.str ⟨#[]⟩)), none⟩,
 ⟨some 9, none, .mv (.c (.int .i64 4)), none⟩])
 (.ret))
 (.skip))))
 (.keep [0, 1, 2, 3] (.seq (.draw [8, 9] [⟨some 29, none, .mv (.t 0), none⟩,
 ⟨some 30, none, .mv (.t 1), none⟩,
 ⟨some 31, none, .bin .mul (.c (.int .i64 2)) (.t 30), none⟩,
 ⟨some 32, none, .slcs (.t 29) none (some (.t 31)), none⟩,
 ⟨some 33, none, .mv (.t 3), none⟩,
 ⟨some 34, none, .bin .add (.t 32) (.t 33), none⟩,
 ⟨some 35, none, .mv (.t 0), none⟩,
 ⟨some 36, none, .mv (.t 1), none⟩,
 ⟨some 37, none, .mv (.t 2), none⟩,
 ⟨some 38, none, .bin .add (.t 36) (.t 37), none⟩,
 ⟨some 39, none, .bin .mul (.c (.int .i64 2)) (.t 38), none⟩,
 ⟨some 40, none, .slcs (.t 35) (some (.t 39)) none, none⟩,
 ⟨some 41, none, .bin .add (.t 34) (.t 40), none⟩,
 ⟨some 8, none, .mv (.t 41), none⟩,
 ⟨some 9, none, .mv (.c (.int .i64 0)), none⟩])
 (.ret)))))))))⟩
theorem J_word_Swap_ok : chkFn Try.prog 68 J_word_Swap = true := by kernel_rfl
def J_set_Same : AFn :=
 ⟨13, [.t 4], .seq (.ops [⟨some 4, none, .mv (.c (.bool false)), none⟩])
 (.keep [0, 1] (.seq (.ops [⟨some 5, none, .mv (.t 0), none⟩,
 ⟨some 6, none, .mv (.t 1), none⟩,
 ⟨some 7, none, .call (.f 77) [(.t 5), (.t 6)], none⟩,
 ⟨some 8, none, .mv (.t 7), none⟩,
 ⟨some 9, (some (8, true)), .mv (.t 1), none⟩,
 ⟨some 10, (some (8, true)), .mv (.t 0), none⟩,
 ⟨some 11, (some (8, true)), .call (.f 77) [(.t 9), (.t 10)], none⟩,
 ⟨some 12, none, .pick (.t 8) (.t 11) (.c (.bool false)), none⟩,
 ⟨some 4, none, .mv (.t 12), none⟩])
 (.ret)))⟩
theorem J_set_Same_ok : chkFn Try.prog 70 J_set_Same = true := by kernel_rfl
def J_word_within : AFn :=
 ⟨27, [.t 6], .seq (.ops [⟨some 6, none, .mv (.c (.bool false)), none⟩])
 (.keep [0, 1, 2] (.seq (.ops [⟨some 7, none, .mv (.t 1), none⟩,
 ⟨some 8, none, .bin .geq (.t 7) (.c (.int .i64 0)), none⟩,
 ⟨some 9, none, .mv (.t 8), none⟩,
 ⟨some 10, (some (9, true)), .mv (.t 2), none⟩,
 ⟨some 11, (some (9, true)), .bin .geq (.t 10) (.c (.int .i64 0)), none⟩,
 ⟨some 12, none, .pick (.t 9) (.t 11) (.c (.bool false)), none⟩,
 ⟨some 13, none, .mv (.t 12), none⟩,
 ⟨some 14, (some (13, true)), .mv (.t 1), none⟩,
 ⟨some 15, (some (13, true)), .mv (.t 0), none⟩,
 ⟨some 16, (some (13, true)), .call (.f 49) [(.t 15)], none⟩,
 ⟨some 17, (some (13, true)), .bin .leq (.t 14) (.t 16), none⟩,
 ⟨some 18, none, .pick (.t 13) (.t 17) (.c (.bool false)), none⟩,
 ⟨some 19, none, .mv (.t 18), none⟩,
 ⟨some 20, (some (19, true)), .mv (.t 2), none⟩,
 ⟨some 21, (some (19, true)), .mv (.t 0), none⟩,
 ⟨some 22, (some (19, true)), .call (.f 49) [(.t 21)], none⟩,
 ⟨some 23, (some (19, true)), .mv (.t 1), none⟩,
 ⟨some 24, (some (19, true)), .bin .sub (.t 22) (.t 23), none⟩,
 ⟨some 25, (some (19, true)), .bin .leq (.t 20) (.t 24), none⟩,
 ⟨some 26, none, .pick (.t 19) (.t 25) (.c (.bool false)), none⟩,
 ⟨some 6, none, .mv (.t 26), none⟩])
 (.ret)))⟩
theorem J_word_within_ok : chkFn Try.prog 71 J_word_within = true := by kernel_rfl
end Go.Proofs.Ytpjlkefadnbgdaa

/- What the reference's sets do: words in order, each once. -/
namespace Go.Proofs.Ytpjlkefadnbgdaa
set_option linter.unusedSimpArgs false
set_option linter.unusedVariables false
open Go.RowKit Go.Lib

theorem rising_get {r : List ByteArray} (hr : rising r = true) : ∀ {i j : Nat} (hi : i < j) (hj : j < r.length), wless (r[i]'(by omega)) r[j] = true := by
  induction r with
  | nil => intro i j _ hj; simp at hj
  | cons x r ih =>
    obtain ⟨h1, h2⟩ := rising_cons.1 hr
    intro i j hi hj
    cases j with
    | zero => omega
    | succ j =>
      cases i with
      | zero => exact h1 _ (List.getElem_mem _)
      | succ i => exact ih h2 (by omega) (by simpa using hj)
def aft (r : List ByteArray) (k : Nat) (x : ByteArray) : Prop := k = 0 ∨ ∃ h : k - 1 < r.length, wless r[k - 1] x = true
theorem aft_iff {r : List ByteArray} (hr : rising r = true) {k j : Nat} (hk : k ≤ r.length) (hj : j < r.length) : aft r k r[j] ↔ k ≤ j := by
  unfold aft
  constructor
  · rintro (h | ⟨h, hw⟩)
    · omega
    · rcases Nat.lt_or_ge j k with hlt | hge
      · by_cases e : j = k - 1
        · subst e; rw [wless_irrefl] at hw; cases hw
        · have := rising_get hr (i := j) (j := k - 1) (by omega) (by omega)
          rw [wless_asymm this] at hw; cases hw
      · exact hge
  · intro h
    by_cases h0 : k = 0
    · exact .inl h0
    · exact .inr ⟨by omega, rising_get hr (by omega) hj⟩
structure RInv (l : List ByteArray) (k i : Nat) (best : ByteArray) (found : Bool) : Prop where
  no : found = false → ∀ x ∈ l.take i, ¬ aft (nrm l) k x
  mem : found = true → best ∈ l ∧ aft (nrm l) k best
  least : found = true → ∀ x ∈ l.take i, aft (nrm l) k x → wless x best = false
theorem RInv.zero (l : List ByteArray) (k : Nat) : RInv l k 0 ⟨#[]⟩ false := ⟨fun _ x hx => by simp at hx, fun h => (nomatch h), fun h => (nomatch h)⟩
theorem RInv.take {l : List ByteArray} {k i : Nat} {best : ByteArray} {found : Bool} (h : RInv l k i best found) (hi : i < l.length) (ha : aft (nrm l) k l[i]) (hb : found = true → wless l[i] best = true) : RInv l k (i + 1) l[i] true := by
  refine ⟨fun h => (nomatch h), fun _ => ⟨List.getElem_mem hi, ha⟩, fun _ x hx hax => ?_⟩
  rcases (by rw [List.take_succ_eq_append_getElem hi, List.mem_append] at hx; simpa using hx : x ∈ l.take i ∨ x = l[i]) with hx | rfl
  · cases found with
    | false => exact absurd hax (h.no rfl x hx)
    | true =>
      cases hw : wless x l[i] with
      | false => rfl
      | true =>
        have := wless_trans hw (hb rfl)
        rw [h.least rfl x hx hax] at this; cases this
  · exact wless_irrefl _
theorem RInv.skip {l : List ByteArray} {k i : Nat} {best : ByteArray} {found : Bool} (h : RInv l k i best found) (hi : i < l.length) (hs : ¬ aft (nrm l) k l[i] ∨ (found = true ∧ wless l[i] best = false)) : RInv l k (i + 1) best found := by
  have key : ∀ x, x ∈ l.take (i + 1) → x ∈ l.take i ∨ x = l[i] := fun x hx => by rw [List.take_succ_eq_append_getElem hi, List.mem_append] at hx; simpa using hx
  refine ⟨fun hf x hx => ?_, h.mem, fun hf x hx hax => ?_⟩
  · rcases key x hx with hx | rfl
    · exact h.no hf x hx
    · rcases hs with hs | ⟨hs, _⟩
      · exact hs
      · rw [hf] at hs; cases hs
  · rcases key x hx with hx | rfl
    · exact h.least hf x hx hax
    · rcases hs with hs | ⟨_, hs⟩
      · exact absurd hax hs
      · exact hs
theorem RInv.next {l : List ByteArray} {k : Nat} {best : ByteArray} (h : RInv l k l.length best true) (hk : k ≤ (nrm l).length) : ∃ hlt : k < (nrm l).length, best = (nrm l)[k] := by
  obtain ⟨hm, ha⟩ := h.mem rfl
  obtain ⟨j, hj, e⟩ := List.mem_iff_getElem.1 (mem_nrm.2 hm)
  subst e
  have hkj := (aft_iff (rising_nrm l) hk hj).1 ha
  refine ⟨by omega, ?_⟩
  by_cases e : j = k
  · subst e; rfl
  · have hlt : k < (nrm l).length := by omega
    have h1 := h.least rfl (nrm l)[k] (by rw [List.take_length]; exact mem_nrm.1 (List.getElem_mem hlt)) ((aft_iff (rising_nrm l) hk hlt).2 (Nat.le_refl _))
    rw [rising_get (rising_nrm l) (by omega) hj] at h1; cases h1
end Go.Proofs.Ytpjlkefadnbgdaa

/- What the reference's sets do: Of, And, Quote, As, For, and what is asked. -/
namespace Go.Proofs.Ytpjlkefadnbgdaa
set_option linter.unusedSimpArgs false
set_option linter.unusedVariables false
open Go.RowKit Go.Lib

def vSet (r : List ByteArray × Int) : AV := .tup [.lst .ro r.1.length (r.1.map .str), .int .i64 r.2]
theorem free_vSet (r : List ByteArray × Int) : free (vSet r) = true := by simp [vSet, free, free.frees, frees_str]
def boundE (l : List ByteArray) : List ByteArray × Int := if 1 ≤ l.length ∧ l.length ≤ 16 then (l, 0) else ([], 3)
theorem ofE_may {l : List ByteArray} (h : ∀ x ∈ l, wordMay x = true) : ofE l = boundE (nrm l) := by
  unfold ofE
  rw [if_neg (by rw [List.all_eq_true.2 h]; simp)]; rfl
end Go.Proofs.Ytpjlkefadnbgdaa

/- What the reference's sets do: Quote, As, For. -/
namespace Go.Proofs.Ytpjlkefadnbgdaa
set_option linter.unusedSimpArgs false
set_option linter.unusedVariables false
open Go.RowKit Go.Lib

theorem wordMay_even {s : ByteArray} (h : wordMay s = true) : s.size % 2 = 0 ∧ s.size ≤ 16 := by have := wordMay_size h; omega
theorem atomBytes_one (r : Nat) : (⟨(atomBytes [r]).toArray⟩ : ByteArray) = atomW r := by
  apply ByteArray.ext; apply Array.ext'; simp [atomBytes, atomW]
theorem ofE_good {l r : List ByteArray} (h : ofE l = (r, 0)) : setMay r = true := by
  unfold ofE at h
  split at h
  · cases h
  · next hall =>
    split at h
    · next hlen =>
      simp only [Prod.mk.injEq, and_true] at h
      subst h
      refine setMay_mk hlen.1 hlen.2 (fun x hx => ?_) (rising_nrm l)
      have : l.all wordMay = true := by simpa using hall
      exact List.all_eq_true.1 this x (mem_nrm.1 hx)
    · cases h
theorem setMay_small {l : List ByteArray} (h : setMay l = true) : l.length ≤ 16 ∧ ∀ x ∈ l, x.size ≤ 16 := ⟨(setMay_words h).1.2, fun x hx => by have := wordMay_size ((setMay_words h).2 x hx); omega⟩
end Go.Proofs.Ytpjlkefadnbgdaa

/- What the library's Index, Contains, Equal do with words; Has, Heavy; a word of atoms. -/
namespace Go.Proofs.Ytpjlkefadnbgdaa
set_option linter.unusedSimpArgs false
set_option linter.unusedVariables false
open Go.RowKit Go.Lib

theorem take_mem_succ {α : Type} {x : α} {l : List α} {i : Nat} (h : i < l.length) : x ∈ l.take (i + 1) ↔ x ∈ l.take i ∨ x = l[i] := by
  rw [List.take_succ_eq_append_getElem h, List.mem_append]; simp
set_option maxHeartbeats 1000000 in
theorem p_sequal (a b : List ByteArray) (ha : a.length ≤ 9223372036854775807) : PCalls Try.prog 44 [.lst .ro a.length (a.map .str), .lst .ro b.length (b.map .str)] (.bool (decide (a = b))) := by
  refine pcalls_of (by first | rfl | simp [free, free.frees, frees_str, frees_u8, frees_u16]) (by first | rfl | simp [free, free.frees, frees_str, frees_u8, frees_u16]) (acalls_of mixed J_slices_Equal_api_Set_api_Word_ok (Nat.le_of_ble_eq_true rfl) ?_); simp only [J_slices_Equal_api_Set_api_Word, wk,if_true,if_false,forall_const,implies_true,ne_eq,eq_self,Nat.reduceEqDiff,Nat.reduceAdd,Nat.reduceMul,Nat.reduceSub,Nat.reduceLeDiff,Nat.reduceLT,Int.reduceEq,Int.reduceLT,Int.reduceLE,Int.reduceAdd,Int.reduceSub,Int.reduceMul,Int.reduceNeg,Int.reduceNe,reduceCtorEq,Int.reduceToNat,↓reduceIte]
  refine ⟨fun h => bool_eq ?_, fun h => ?_⟩
  · symm; rw [decide_eq_false_iff_not]; intro e; rw [e] at h; exact h rfl
  have hab : a.length = b.length := by omega
  refine W_loop (fun n fr h => ∃ i : Nat, i ≤ a.length ∧ n = a.length - i ∧ fr = [(0, .lst .ro a.length (a.map .str)), (1, .lst .ro b.length (b.map .str)), (12, .int .i64 a.length), (13, .int .i64 i)] ∧ a.take i = b.take i) a.length ⟨0, by omega, by omega, rfl, rfl⟩ ?_
  rintro n fr h ⟨i, hi, rfl, rfl, hall⟩
  simp only [J_slices_Equal_api_Set_api_Word_j2, J_slices_Equal_api_Set_api_Word_j1, wk,if_true,if_false,forall_const,implies_true,ne_eq,eq_self,Nat.reduceEqDiff,Nat.reduceAdd,Nat.reduceMul,Nat.reduceSub,Nat.reduceLeDiff,Nat.reduceLT,Int.reduceEq,Int.reduceLT,Int.reduceLE,Int.reduceAdd,Int.reduceSub,Int.reduceMul,Int.reduceNeg,Int.reduceNe,reduceCtorEq,Int.reduceToNat,↓reduceIte]
  refine ⟨fun hlt => ?_, fun hge => bool_eq ?_⟩
  · have hia : i < a.length := by omega
    have hib : i < b.length := by omega
    (repeat (refine And.intro (by first | omega | exact inR_of (by omega) (by omega) | exact ⟨by omega, by omega⟩ | exact ⟨by omega, by omega, by omega⟩ | rfl) ?_))
    rw [show (i : Int).toNat = i by omega, drop_str hia]
    simp only [wk,if_true,if_false,forall_const,implies_true,ne_eq,eq_self,Nat.reduceEqDiff,Nat.reduceAdd,Nat.reduceMul,Nat.reduceSub,Nat.reduceLeDiff,Nat.reduceLT,Int.reduceEq,Int.reduceLT,Int.reduceLE,Int.reduceAdd,Int.reduceSub,Int.reduceMul,Int.reduceNeg,Int.reduceNe,reduceCtorEq,Int.reduceToNat,↓reduceIte]
    (repeat (refine And.intro (by first | omega | exact inR_of (by omega) (by omega) | exact ⟨by omega, by omega⟩ | exact ⟨by omega, by omega, by omega⟩ | rfl) ?_))
    rw [show (i : Int).toNat = i by omega, drop_str hib]
    simp only [wk,if_true,if_false,forall_const,implies_true,ne_eq,eq_self,Nat.reduceEqDiff,Nat.reduceAdd,Nat.reduceMul,Nat.reduceSub,Nat.reduceLeDiff,Nat.reduceLT,Int.reduceEq,Int.reduceLT,Int.reduceLE,Int.reduceAdd,Int.reduceSub,Int.reduceMul,Int.reduceNeg,Int.reduceNe,reduceCtorEq,Int.reduceToNat,↓reduceIte]
    refine ⟨fun hne => bool_eq ?_, fun he => ?_⟩
    · symm; rw [decide_eq_false_iff_not]; intro e; subst e; exact hne rfl
    · refine ⟨inR_of (by omega) (by omega), a.length - (i + 1), by omega, i + 1, by omega, rfl, rfl, ?_⟩
      rw [List.take_succ_eq_append_getElem hia, List.take_succ_eq_append_getElem hib, hall, he]
  · symm; rw [decide_eq_true_eq]
    rw [List.take_of_length_le (by omega), List.take_of_length_le (by omega)] at hall
    exact hall
set_option maxHeartbeats 1000000 in
theorem p_wof (l : List Nat) (hl : l.length ≤ 1000000) (ha : ∀ a ∈ l, a < 65536) : PCalls Try.prog 66 [.lst .ro l.length (u16s l)] (.str ⟨(atomBytes l).toArray⟩) := by
  refine pcalls_of (by first | rfl | simp [free, free.frees, frees_str, frees_u8, frees_u16]) (by first | rfl | simp [free, free.frees, frees_str, frees_u8, frees_u16]) (acalls_of mixed J_word_Of_ok (Nat.le_of_ble_eq_true rfl) ?_); simp only [J_word_Of, wk,if_true,if_false,forall_const,implies_true,ne_eq,eq_self,Nat.reduceEqDiff,Nat.reduceAdd,Nat.reduceMul,Nat.reduceSub,Nat.reduceLeDiff,Nat.reduceLT,Int.reduceEq,Int.reduceLT,Int.reduceLE,Int.reduceAdd,Int.reduceSub,Int.reduceMul,Int.reduceNeg,Int.reduceNe,reduceCtorEq,Int.reduceToNat,↓reduceIte]
  refine ⟨inR_of (by omega) (by omega), ⟨by omega, by omega, by omega⟩, ?_⟩
  refine W_loop (fun n fr h => ∃ i : Nat, i ≤ l.length ∧ n = l.length - i ∧ fr = [(3, .lst (.own 5) (2 * i) (u8s (atomBytes (l.take i)))), (10, .lst .ro l.length (u16s l)), (11, .int .i64 l.length), (12, .int .i64 i)]) l.length ⟨0, by omega, by omega, rfl⟩ ?_
  rintro n fr h ⟨i, hi, rfl, rfl⟩
  simp only [J_word_Of_j2, J_word_Of_j1, wk,if_true,if_false,forall_const,implies_true,ne_eq,eq_self,Nat.reduceEqDiff,Nat.reduceAdd,Nat.reduceMul,Nat.reduceSub,Nat.reduceLeDiff,Nat.reduceLT,Int.reduceEq,Int.reduceLT,Int.reduceLE,Int.reduceAdd,Int.reduceSub,Int.reduceMul,Int.reduceNeg,Int.reduceNe,reduceCtorEq,Int.reduceToNat,↓reduceIte]
  refine ⟨fun hlt => ?_, fun hge => ?_⟩
  · have hil : i < l.length := by omega
    have hx := ha l[i] (List.getElem_mem hil)
    (repeat (refine And.intro (by first | omega | exact inR_of (by omega) (by omega) | exact ⟨by omega, by omega⟩ | exact ⟨by omega, by omega, by omega⟩ | rfl) ?_))
    rw [show (i : Int).toNat = i by omega, u16s_drop hil]
    simp only [wk,if_true,if_false,forall_const,implies_true,ne_eq,eq_self,Nat.reduceEqDiff,Nat.reduceAdd,Nat.reduceMul,Nat.reduceSub,Nat.reduceLeDiff,Nat.reduceLT,Int.reduceEq,Int.reduceLT,Int.reduceLE,Int.reduceAdd,Int.reduceSub,Int.reduceMul,Int.reduceNeg,Int.reduceNe,reduceCtorEq,Int.reduceToNat,↓reduceIte]
    have e1 : IntKind.u8.wrap ((l[i] : Int).fdiv (2 ^ (min 8 IntKind.u16.bits))) = ((UInt8.ofNat (l[i] / 256)).toNat : Int) := by
      rw [show (min 8 IntKind.u16.bits) = 8 by decide, Int.fdiv_eq_ediv_of_nonneg _ (by omega), IntKind.wrap_u8]
      simp only [UInt8.toNat_ofNat']; omega
    have e2 : IntKind.u8.wrap (l[i] : Int) = ((UInt8.ofNat (l[i] % 256)).toNat : Int) := by
      rw [IntKind.wrap_u8]; simp only [UInt8.toNat_ofNat']; omega
    refine ⟨⟨by omega, by omega⟩, inR_of (by omega) (by omega), l.length - (i + 1), by omega, i + 1, by omega, rfl, ?_⟩
    have e3 : atomBytes (l.take (i + 1)) = atomBytes (l.take i) ++ [UInt8.ofNat (l[i] / 256), UInt8.ofNat (l[i] % 256)] := by
      unfold atomBytes; rw [List.take_succ_eq_append_getElem hil, List.flatMap_append]; simp
    rw [e1, e2, e3, ← u8s_app]
    rfl
  · obtain rfl : i = l.length := by omega
    rw [List.take_length]
    refine ⟨atomBytes l, rfl, ?_, rfl⟩
    have : ∀ l : List Nat, (atomBytes l).length = 2 * l.length := by
      intro l
      induction l with
      | nil => rfl
      | cons a l ih => simp only [atomBytes, List.flatMap_cons, List.length_append, List.length_cons, List.length_nil] at ih ⊢; omega
    rw [this]
end Go.Proofs.Ytpjlkefadnbgdaa

namespace Go.Proofs.Ytpjlkefadnbgdaa
open Go.RowKit
def J_cert_Same : AFn :=
 ⟨52, [.t 4], .seq (.ops [⟨some 2, none, .box (.t 0) [], none⟩,
 ⟨some 3, none, .box (.t 1) [], none⟩,
 ⟨some 4, none, .mv (.c (.bool false)), none⟩])
 (.keep [2, 3] (.seq (.ops [⟨some 5, none, .fld 0 (.t 2), none⟩,
 ⟨some 6, none, .load none (.t 5), none⟩,
 ⟨some 7, none, .fld 0 (.t 3), none⟩,
 ⟨some 8, none, .load none (.t 7), none⟩,
 ⟨some 9, none, .bin .eql (.t 6) (.t 8), none⟩,
 ⟨some 10, none, .mv (.t 9), none⟩,
 ⟨some 11, (some (10, true)), .fld 1 (.t 2), none⟩,
 ⟨some 12, (some (10, true)), .load none (.t 11), none⟩,
 ⟨some 13, (some (10, true)), .fld 1 (.t 3), none⟩,
 ⟨some 14, (some (10, true)), .load none (.t 13), none⟩,
 ⟨some 15, (some (10, true)), .bin .eql (.t 12) (.t 14), none⟩,
 ⟨some 16, none, .pick (.t 10) (.t 15) (.c (.bool false)), none⟩,
 ⟨some 17, none, .mv (.t 16), none⟩,
 ⟨some 18, (some (17, true)), .fld 2 (.t 2), none⟩,
 ⟨some 19, (some (17, true)), .load none (.t 18), none⟩,
 ⟨some 20, (some (17, true)), .fld 2 (.t 3), none⟩,
 ⟨some 21, (some (17, true)), .load none (.t 20), none⟩,
 ⟨some 22, (some (17, true)), .bin .eql (.t 19) (.t 21), none⟩,
 ⟨some 23, none, .pick (.t 17) (.t 22) (.c (.bool false)), none⟩,
 ⟨some 24, none, .mv (.t 23), none⟩,
 ⟨some 25, (some (24, true)), .fld 3 (.t 2), none⟩,
 ⟨some 26, (some (24, true)), .load none (.t 25), none⟩,
 ⟨some 27, (some (24, true)), .fld 3 (.t 3), none⟩,
 ⟨some 28, (some (24, true)), .load none (.t 27), none⟩,
 ⟨some 29, (some (24, true)), .call (.f 44) [(.t 26), (.t 28)], none⟩,
 ⟨some 30, none, .pick (.t 24) (.t 29) (.c (.bool false)), none⟩,
 ⟨some 31, none, .mv (.t 30), none⟩,
 ⟨some 32, (some (31, true)), .fld 4 (.t 2), none⟩,
 ⟨some 33, (some (31, true)), .load none (.t 32), none⟩,
 ⟨some 34, (some (31, true)), .fld 4 (.t 3), none⟩,
 ⟨some 35, (some (31, true)), .load none (.t 34), none⟩,
 ⟨some 36, (some (31, true)), .bin .eql (.t 33) (.t 35), none⟩,
 ⟨some 37, none, .pick (.t 31) (.t 36) (.c (.bool false)), none⟩,
 ⟨some 38, none, .mv (.t 37), none⟩,
 ⟨some 39, (some (38, true)), .fld 5 (.t 2), none⟩,
 ⟨some 40, (some (38, true)), .load none (.t 39), none⟩,
 ⟨some 41, (some (38, true)), .fld 5 (.t 3), none⟩,
 ⟨some 42, (some (38, true)), .load none (.t 41), none⟩,
 ⟨some 43, (some (38, true)), .bin .eql (.t 40) (.t 42), none⟩,
 ⟨some 44, none, .pick (.t 38) (.t 43) (.c (.bool false)), none⟩,
 ⟨some 45, none, .mv (.t 44), none⟩,
 ⟨some 46, (some (45, true)), .fld 6 (.t 2), none⟩,
 ⟨some 47, (some (45, true)), .load none (.t 46), none⟩,
 ⟨some 48, (some (45, true)), .fld 6 (.t 3), none⟩,
 ⟨some 49, (some (45, true)), .load none (.t 48), none⟩,
 ⟨some 50, (some (45, true)), .bin .eql (.t 47) (.t 49), none⟩,
 ⟨some 51, none, .pick (.t 45) (.t 50) (.c (.bool false)), none⟩,
 ⟨some 4, none, .mv (.t 51), none⟩])
 (.ret)))⟩
theorem J_cert_Same_ok : chkFn Try.prog 25 J_cert_Same = true := by kernel_rfl
def J_cert_Check_j1 : ACode :=
 .keep [1] (.seq (.seq (.ops [⟨some 60, none, .load (some 7) (.t 1), none⟩,
 ⟨some 61, none, .call (.f 61) [(.t 60)], none⟩,
 ⟨some 62, none, .not (.t 61), none⟩])
 (.keep [62] (.cond (.t 62)
 (.seq (.ops [⟨some 2, none, .mv (.c (.int .i64 13)), none⟩])
 (.ret))
 (.skip))))
 (.keep [] (.seq (.ops [⟨some 2, none, .mv (.c (.int .i64 0)), none⟩])
 (.ret))))
def J_cert_Check_j2 : ACode :=
 .seq (.ops [⟨some 50, none, .bin .lss (.t 49) (.t 48), none⟩])
 (.keep [1, 47, 48, 49, 50] (.seq (.cond (.t 50)
 (.skip)
 (.exit 0))
 (.keep [1, 47, 48, 49] (.seq (.block 1 (.seq (.ops [⟨some 51, none, .idxa 1 (.t 47) (.t 49), none⟩,
 ⟨some 52, none, .load none (.t 51), none⟩,
 ⟨some 4, none, .mv (.t 52), none⟩])
 (.keep [1, 4, 47, 48, 49] (.seq (.ops [⟨some 53, none, .fld 2 (.t 1), none⟩,
 ⟨some 54, none, .load none (.t 53), none⟩,
 ⟨some 55, none, .call (.f 49) [(.t 54)], none⟩,
 ⟨some 56, none, .mv (.t 4), none⟩,
 ⟨some 57, none, .call (.f 49) [(.t 56)], none⟩,
 ⟨some 58, none, .bin .gtr (.t 55) (.t 57), none⟩])
 (.keep [1, 47, 48, 49, 58] (.cond (.t 58)
 (.seq (.ops [⟨some 2, none, .mv (.c (.int .i64 4)), none⟩])
 (.ret))
 (.skip)))))))
 (.keep [1, 47, 48, 49] (.ops [⟨some 59, none, .bin .add (.t 49) (.c (.int .i64 1)), none⟩,
 ⟨some 49, none, .mv (.t 59), none⟩]))))))
def J_cert_Check : AFn :=
 ⟨63, [.t 2], .seq (.ops [⟨some 1, none, .box (.t 0) [], none⟩,
 ⟨some 2, none, .mv (.c (.int .i64 0)), none⟩])
 (.keep [1] (.seq (.seq (.ops [⟨some 5, none, .fld 0 (.t 1), none⟩,
 ⟨some 6, none, .load none (.t 5), none⟩,
 ⟨some 7, none, .bin .lss (.t 6) (.c (.int .i64 1)), none⟩,
 ⟨some 8, none, .mv (.t 7), none⟩,
 ⟨some 9, (some (8, false)), .fld 0 (.t 1), none⟩,
 ⟨some 10, (some (8, false)), .load none (.t 9), none⟩,
 ⟨some 11, (some (8, false)), .bin .gtr (.t 10) (.c (.int .i64 7)), none⟩,
 ⟨some 12, none, .pick (.t 8) (.c (.bool true)) (.t 11), none⟩])
 (.keep [1, 12] (.cond (.t 12)
 (.seq (.ops [⟨some 2, none, .mv (.c (.int .i64 1)), none⟩])
 (.ret))
 (.skip))))
 (.keep [1] (.seq (.seq (.ops [⟨some 13, none, .fld 1 (.t 1), none⟩,
 ⟨some 14, none, .load none (.t 13), none⟩,
 ⟨some 15, none, .bsl 3 1 1 [(.int .i64 0)] [(0, 1, (.c (.int .i64 1)))], none⟩,
 ⟨some 16, none, .call (.f 59) [(.t 14), (.t 15)], none⟩,
 ⟨some 17, none, .not (.t 16), none⟩,
 ⟨some 18, none, .mv (.t 17), none⟩,
 ⟨some 19, (some (18, false)), .fld 2 (.t 1), none⟩,
 ⟨some 20, (some (18, false)), .load none (.t 19), none⟩,
 ⟨some 21, (some (18, false)), .call (.f 33) [(.t 20)], none⟩,
 ⟨some 22, (some (18, false)), .not (.t 21), none⟩,
 ⟨some 23, none, .pick (.t 18) (.c (.bool true)) (.t 22), none⟩,
 ⟨some 24, none, .mv (.t 23), none⟩,
 ⟨some 25, (some (24, false)), .fld 3 (.t 1), none⟩,
 ⟨some 26, (some (24, false)), .load none (.t 25), none⟩,
 ⟨some 27, (some (24, false)), .call (.f 47) [(.t 26)], none⟩,
 ⟨some 28, (some (24, false)), .not (.t 27), none⟩,
 ⟨some 29, none, .pick (.t 24) (.c (.bool true)) (.t 28), none⟩,
 ⟨some 30, none, .mv (.t 29), none⟩,
 ⟨some 31, (some (30, false)), .fld 4 (.t 1), none⟩,
 ⟨some 32, (some (30, false)), .load none (.t 31), none⟩,
 ⟨some 33, (some (30, false)), .fld 5 (.t 1), none⟩,
 ⟨some 34, (some (30, false)), .load none (.t 33), none⟩,
 ⟨some 35, (some (30, false)), .fld 6 (.t 1), none⟩,
 ⟨some 36, (some (30, false)), .load none (.t 35), none⟩,
 ⟨some 37, (some (30, false)), .bsl 2 1 3 [(.int .i64 0), (.int .i64 0), (.int .i64 0)] [(0, 1, (.t 32)), (1, 1, (.t 34)), (2, 1, (.t 36))], none⟩,
 ⟨some 38, (some (30, false)), .call (.f 60) [(.t 37)], none⟩,
 ⟨some 39, (some (30, false)), .not (.t 38), none⟩,
 ⟨some 40, none, .pick (.t 30) (.c (.bool true)) (.t 39), none⟩])
 (.keep [1, 40] (.cond (.t 40)
 (.seq (.ops [⟨some 2, none, .mv (.c (.int .i64 2)), none⟩])
 (.ret))
 (.skip))))
 (.keep [1] (.seq (.seq (.ops [⟨some 41, none, .fld 4 (.t 1), none⟩,
 ⟨some 42, none, .load none (.t 41), none⟩,
 ⟨some 43, none, .fld 5 (.t 1), none⟩,
 ⟨some 44, none, .load none (.t 43), none⟩,
 ⟨some 45, none, .bin .gtr (.t 42) (.t 44), none⟩])
 (.keep [1, 45] (.cond (.t 45)
 (.seq (.ops [⟨some 2, none, .mv (.c (.int .i64 5)), none⟩])
 (.ret))
 (.skip))))
 (.keep [1] (.seq (.seq (.ops [⟨some 46, none, .fld 3 (.t 1), none⟩,
 ⟨some 47, none, .load none (.t 46), none⟩,
 ⟨some 48, none, .lenl (.t 47), none⟩,
 ⟨some 49, none, .mv (.c (.int .i64 0)), none⟩])
 (.keep [1, 47, 48, 49] (.block 0 (.loop [1, 47, 48, 49] (J_cert_Check_j2)))))
 (J_cert_Check_j1)))))))))⟩
theorem J_cert_Check_ok : chkFn Try.prog 45 J_cert_Check = true := by kernel_rfl
def J_cert_Encode : AFn :=
 ⟨39, [.t 2, .t 3], .seq (.ops [⟨some 1, none, .box (.t 0) [], none⟩,
 ⟨some 2, none, .mv (.c (.str ⟨#[]⟩)), none⟩,
 ⟨some 3, none, .mv (.c (.int .i64 0)), none⟩])
 (.keep [1] (.seq (.seq (.ops [⟨some 6, none, .load (some 7) (.t 1), none⟩,
 ⟨some 7, none, .call (.f 45) [(.t 6)], none⟩,
 ⟨some 4, none, .mv (.t 7), none⟩])
 (.keep [1, 4] (.seq (.ops [⟨some 8, none, .mv (.t 4), none⟩,
 ⟨some 9, none, .bin .neq (.t 8) (.c (.int .i64 0)), none⟩])
 (.keep [1, 4, 9] (.cond (.t 9)
 (.seq (.ops [⟨some 10, none, .mv (.t 4), none⟩,
 ⟨some 2, none, .mv (.c (.str ⟨#[]⟩)), none⟩,
 ⟨some 3, none, .mv (.t 10), none⟩])
 (.ret))
 (.skip))))))
 (.keep [1] (.seq (.ops [⟨some 5, none, .new [(.int .i64 0), (.lst .clip 0 [])] [(1, 5, 1)], none⟩])
 (.keep [1, 5] (.seq (.ops [⟨some 11, none, .fld 0 (.t 1), none⟩,
 ⟨some 12, none, .load none (.t 11), none⟩,
 ⟨some 13, none, .call (.f 17) [(.t 5), (.t 12)], none⟩])
 (.keep [1, 5] (.seq (.ops [⟨some 14, none, .fld 1 (.t 1), none⟩,
 ⟨some 15, none, .load none (.t 14), none⟩,
 ⟨some 16, none, .conv .i64 (.t 15), none⟩,
 ⟨some 17, none, .call (.f 17) [(.t 5), (.t 16)], none⟩])
 (.keep [1, 5] (.seq (.ops [⟨some 18, none, .fld 2 (.t 1), none⟩,
 ⟨some 19, none, .load none (.t 18), none⟩,
 ⟨some 20, none, .call (.f 36) [(.t 5), (.t 19)], none⟩])
 (.keep [1, 5] (.seq (.ops [⟨some 21, none, .fld 3 (.t 1), none⟩,
 ⟨some 22, none, .load none (.t 21), none⟩,
 ⟨some 23, none, .call (.f 53) [(.t 5), (.t 22)], none⟩])
 (.keep [1, 5] (.seq (.ops [⟨some 24, none, .fld 4 (.t 1), none⟩,
 ⟨some 25, none, .load none (.t 24), none⟩,
 ⟨some 26, none, .call (.f 17) [(.t 5), (.t 25)], none⟩])
 (.keep [1, 5] (.seq (.ops [⟨some 27, none, .fld 5 (.t 1), none⟩,
 ⟨some 28, none, .load none (.t 27), none⟩,
 ⟨some 29, none, .fld 4 (.t 1), none⟩,
 ⟨some 30, none, .load none (.t 29), none⟩,
 ⟨some 31, none, .bin .sub (.t 28) (.t 30), none⟩,
 ⟨some 32, none, .call (.f 17) [(.t 5), (.t 31)], none⟩])
 (.keep [1, 5] (.seq (.ops [⟨some 33, none, .fld 6 (.t 1), none⟩,
 ⟨some 34, none, .load none (.t 33), none⟩,
 ⟨some 35, none, .call (.f 17) [(.t 5), (.t 34)], none⟩])
 (.keep [5] (.seq (.ops [⟨some 36, none, .call (.f 18) [(.t 5)], none⟩,
 ⟨some 37, none, .ext 0 (.t 36), none⟩,
 ⟨some 38, none, .ext 1 (.t 36), none⟩,
 ⟨some 2, none, .mv (.t 37), none⟩,
 ⟨some 3, none, .mv (.t 38), none⟩])
 (.ret)))))))))))))))))))))⟩
theorem J_cert_Encode_ok : chkFn Try.prog 51 J_cert_Encode = true := by kernel_rfl
def J_cert_Decode : AFn :=
 ⟨46, [.c 2 (some 7), .t 3], .seq (.ops [⟨some 2, none, .new [(.int .i64 0), (.int .u16 0), (.str ⟨#[]⟩), (.lst .clip 0 []), (.int .i64 0), (.int .i64 0), (.int .i64 0)] [], none⟩,
 ⟨some 3, none, .mv (.c (.int .i64 0)), none⟩])
 (.keep [0, 2] (.seq (.ops [⟨some 6, none, .mv (.t 0), none⟩,
 ⟨some 7, none, .call (.f 19) [(.t 6)], none⟩,
 ⟨some 4, none, .mv (.t 7), none⟩])
 (.keep [2, 4] (.seq (.ops [⟨some 5, none, .new [(.int .i64 0), (.int .u16 0), (.str ⟨#[]⟩), (.lst .clip 0 []), (.int .i64 0), (.int .i64 0), (.int .i64 0)] [], none⟩])
 (.keep [2, 4, 5] (.seq (.ops [⟨some 8, none, .mv (.t 4), none⟩,
 ⟨some 9, none, .call (.f 21) [(.t 8), (.c (.int .i64 7))], none⟩,
 ⟨some 10, none, .fld 0 (.t 5), none⟩,
 ⟨none, none, .store 1 (.t 10) (.t 9), none⟩])
 (.keep [2, 4, 5] (.seq (.ops [⟨some 11, none, .mv (.t 4), none⟩,
 ⟨some 12, none, .call (.f 21) [(.t 11), (.c (.int .i64 49151))], none⟩,
 ⟨some 13, none, .conv .u16 (.t 12), none⟩,
 ⟨some 14, none, .fld 1 (.t 5), none⟩,
 ⟨none, none, .store 1 (.t 14) (.t 13), none⟩])
 (.keep [2, 4, 5] (.seq (.ops [⟨some 15, none, .mv (.t 4), none⟩,
 ⟨some 16, none, .call (.f 41) [(.t 15)], none⟩,
 ⟨some 17, none, .fld 2 (.t 5), none⟩,
 ⟨none, none, .store 1 (.t 17) (.t 16), none⟩])
 (.keep [2, 4, 5] (.seq (.ops [⟨some 18, none, .mv (.t 4), none⟩,
 ⟨some 19, none, .call (.f 56) [(.t 18)], none⟩,
 ⟨some 20, none, .fld 3 (.t 5), none⟩,
 ⟨none, none, .store 1 (.t 20) (.t 19), none⟩])
 (.keep [2, 4, 5] (.seq (.ops [⟨some 21, none, .mv (.t 4), none⟩,
 ⟨some 22, none, .call (.f 21) [(.t 21), (.c (.int .i64 4611686018427387904))], none⟩,
 ⟨some 23, none, .fld 4 (.t 5), none⟩,
 ⟨none, none, .store 1 (.t 23) (.t 22), none⟩])
 (.keep [2, 4, 5] (.seq (.draw [2, 4, 5] [⟨some 24, none, .fld 4 (.t 5), none⟩,
 ⟨some 25, none, .load none (.t 24), (some (.s 5, [4]))⟩,
 ⟨some 26, none, .mv (.t 4), none⟩,
 ⟨some 27, none, .fld 4 (.t 5), none⟩,
 ⟨some 28, none, .load none (.t 27), none⟩,
 ⟨some 29, none, .bin .sub (.c (.int .i64 4611686018427387904)) (.t 28), none⟩,
 ⟨some 30, none, .calli (.f 21) [(.t 26), (.t 29)], (some (.s 4, [5]))⟩,
 ⟨some 31, none, .bin .add (.t 25) (.t 30), none⟩,
 ⟨some 32, none, .fld 5 (.t 5), none⟩,
 ⟨none, none, .store 1 (.t 32) (.t 31), none⟩])
 (.keep [2, 4, 5] (.seq (.ops [⟨some 33, none, .mv (.t 4), none⟩,
 ⟨some 34, none, .call (.f 21) [(.t 33), (.c (.int .i64 4611686018427387904))], none⟩,
 ⟨some 35, none, .fld 6 (.t 5), none⟩,
 ⟨none, none, .store 1 (.t 35) (.t 34), none⟩])
 (.keep [2, 4, 5] (.seq (.seq (.ops [⟨some 36, none, .mv (.t 4), none⟩,
 ⟨some 37, none, .call (.f 22) [(.t 36)], none⟩,
 ⟨some 38, none, .bin .neq (.t 37) (.c (.int .i64 0)), none⟩,
 ⟨some 39, none, .mv (.t 38), none⟩,
 ⟨some 40, (some (39, false)), .load (some 7) (.t 5), none⟩,
 ⟨some 41, (some (39, false)), .call (.f 45) [(.t 40)], none⟩,
 ⟨some 42, (some (39, false)), .bin .neq (.t 41) (.c (.int .i64 0)), none⟩,
 ⟨some 43, none, .pick (.t 39) (.c (.bool true)) (.t 42), none⟩])
 (.keep [2, 5, 43] (.cond (.t 43)
 (.seq (.ops [⟨some 44, none, .build [(.int .i64 0), (.int .u16 0), (.str ⟨#[]⟩), (.lst .clip 0 []), (.int .i64 0), (.int .i64 0), (.int .i64 0)] [], none⟩,
 ⟨none, none, .store 7 (.t 2) (.t 44), none⟩,
 ⟨some 3, none, .mv (.c (.int .i64 2)), none⟩])
 (.ret))
 (.skip))))
 (.keep [2, 5] (.seq (.ops [⟨some 45, none, .load (some 7) (.t 5), none⟩,
 ⟨none, none, .store 7 (.t 2) (.t 45), none⟩,
 ⟨some 3, none, .mv (.c (.int .i64 0)), none⟩])
 (.ret)))))))))))))))))))))))⟩
theorem J_cert_Decode_ok : chkFn Try.prog 54 J_cert_Decode = true := by kernel_rfl
def J_cert_isOf : AFn :=
 ⟨10, [.t 4], .seq (.ops [⟨some 4, none, .mv (.c (.bool false)), none⟩])
 (.keep [0, 1] (.seq (.ops [⟨some 5, none, .mv (.t 1), none⟩,
 ⟨some 6, none, .mv (.t 0), none⟩,
 ⟨some 7, none, .conv .i64 (.t 6), none⟩,
 ⟨some 8, none, .bin .quo (.t 7) (.c (.int .i64 8192)), none⟩,
 ⟨some 9, none, .call (.f 63) [(.t 5), (.t 8)], none⟩,
 ⟨some 4, none, .mv (.t 9), none⟩])
 (.ret)))⟩
theorem J_cert_isOf_ok : chkFn Try.prog 59 J_cert_isOf = true := by kernel_rfl
def J_cert_num_j1 : ACode :=
 .keep [] (.seq (.ops [⟨some 2, none, .mv (.c (.bool true)), none⟩])
 (.ret))
def J_cert_num_j2 : ACode :=
 .seq (.ops [⟨some 8, none, .bin .lss (.t 7) (.t 6), none⟩])
 (.keep [5, 6, 7, 8] (.seq (.cond (.t 8)
 (.skip)
 (.exit 0))
 (.keep [5, 6, 7] (.seq (.block 1 (.seq (.ops [⟨some 9, none, .idxa 1 (.t 5) (.t 7), none⟩,
 ⟨some 10, none, .load none (.t 9), none⟩,
 ⟨some 4, none, .mv (.t 10), none⟩])
 (.keep [4, 5, 6, 7] (.seq (.ops [⟨some 11, none, .mv (.t 4), none⟩,
 ⟨some 12, none, .bin .lss (.t 11) (.c (.int .i64 0)), none⟩,
 ⟨some 13, none, .mv (.t 12), none⟩,
 ⟨some 14, (some (13, false)), .mv (.t 4), none⟩,
 ⟨some 15, (some (13, false)), .bin .gtr (.t 14) (.c (.int .i64 4611686018427387904)), none⟩,
 ⟨some 16, none, .pick (.t 13) (.c (.bool true)) (.t 15), none⟩])
 (.keep [5, 6, 7, 16] (.cond (.t 16)
 (.seq (.ops [⟨some 2, none, .mv (.c (.bool false)), none⟩])
 (.ret))
 (.skip)))))))
 (.keep [5, 6, 7] (.ops [⟨some 17, none, .bin .add (.t 7) (.c (.int .i64 1)), none⟩,
 ⟨some 7, none, .mv (.t 17), none⟩]))))))
def J_cert_num : AFn :=
 ⟨18, [.t 2], .seq (.ops [⟨some 2, none, .mv (.c (.bool false)), none⟩])
 (.keep [0] (.seq (.seq (.ops [⟨some 5, none, .mv (.t 0), none⟩,
 ⟨some 6, none, .lenl (.t 5), none⟩,
 ⟨some 7, none, .mv (.c (.int .i64 0)), none⟩])
 (.keep [5, 6, 7] (.block 0 (.loop [5, 6, 7] (J_cert_num_j2)))))
 (J_cert_num_j1)))⟩
theorem J_cert_num_ok : chkFn Try.prog 60 J_cert_num = true := by kernel_rfl
def J_cert_like : AFn :=
 ⟨96, [.t 2], .seq (.ops [⟨some 1, none, .box (.t 0) [], none⟩,
 ⟨some 2, none, .mv (.c (.bool false)), none⟩])
 (.keep [1] (.seq (.seq (.ops [⟨some 5, none, .fld 0 (.t 1), none⟩,
 ⟨some 6, none, .load none (.t 5), none⟩])
 (.keep [1, 6] (.block 0 (.seq (.ops [⟨some 8, none, .bin .eql (.t 6) (.c (.int .i64 6)), none⟩,
 ⟨some 7, none, .mv (.t 8), none⟩])
 (.keep [1, 6, 7] (.cond (.t 7)
 (.seq (.ops [⟨some 2, none, .mv (.c (.bool true)), none⟩])
 (.ret))
 (.seq (.ops [⟨some 10, none, .bin .eql (.t 6) (.c (.int .i64 7)), none⟩,
 ⟨some 9, none, .mv (.t 10), none⟩])
 (.keep [1, 9] (.cond (.t 9)
 (.seq (.ops [⟨some 11, none, .load (some 7) (.t 1), none⟩,
 ⟨some 12, none, .call (.f 64) [(.t 11)], none⟩,
 ⟨some 2, none, .mv (.t 12), none⟩])
 (.ret))
 (.skip))))))))))
 (.keep [1] (.seq (.seq (.ops [⟨some 13, none, .fld 3 (.t 1), none⟩,
 ⟨some 14, none, .load none (.t 13), none⟩,
 ⟨some 15, none, .lenl (.t 14), none⟩,
 ⟨some 16, none, .bin .neq (.t 15) (.c (.int .i64 1)), none⟩])
 (.keep [1, 16] (.cond (.t 16)
 (.seq (.ops [⟨some 2, none, .mv (.c (.bool false)), none⟩])
 (.ret))
 (.skip))))
 (.keep [1] (.seq (.ops [⟨some 17, none, .fld 3 (.t 1), none⟩,
 ⟨some 18, none, .load none (.t 17), none⟩,
 ⟨some 19, none, .idxa 1 (.t 18) (.c (.int .i64 0)), none⟩,
 ⟨some 20, none, .load none (.t 19), none⟩,
 ⟨some 3, none, .mv (.t 20), none⟩])
 (.keep [1, 3] (.seq (.ops [⟨some 21, none, .mv (.t 3), none⟩,
 ⟨some 22, none, .call (.f 49) [(.t 21)], none⟩,
 ⟨some 4, none, .mv (.t 22), none⟩])
 (.keep [1, 3, 4] (.seq (.seq (.ops [⟨some 23, none, .fld 0 (.t 1), none⟩,
 ⟨some 24, none, .load none (.t 23), none⟩])
 (.keep [1, 3, 4, 24] (.block 1 (.seq (.ops [⟨some 26, none, .bin .eql (.t 24) (.c (.int .i64 1)), none⟩,
 ⟨some 25, none, .mv (.t 26), none⟩])
 (.keep [1, 3, 4, 24, 25] (.cond (.t 25)
 (.seq (.ops [⟨some 27, none, .fld 2 (.t 1), none⟩,
 ⟨some 28, none, .load none (.t 27), none⟩,
 ⟨some 29, none, .bsl 3 1 1 [(.int .i64 0)] [(0, 1, (.c (.int .i64 1)))], none⟩,
 ⟨some 30, none, .call (.f 65) [(.t 28), (.t 29)], none⟩,
 ⟨some 31, none, .mv (.t 30), none⟩,
 ⟨some 32, (some (31, true)), .mv (.t 4), none⟩,
 ⟨some 33, (some (31, true)), .bin .eql (.t 32) (.c (.int .i64 2)), none⟩,
 ⟨some 34, none, .pick (.t 31) (.t 33) (.c (.bool false)), none⟩,
 ⟨some 35, none, .mv (.t 34), none⟩,
 ⟨some 36, (some (35, true)), .mv (.t 3), none⟩,
 ⟨some 37, (some (35, true)), .call (.f 50) [(.t 36), (.c (.int .i64 0))], none⟩,
 ⟨some 38, (some (35, true)), .bsl 3 1 1 [(.int .i64 0)] [(0, 1, (.c (.int .i64 3)))], none⟩,
 ⟨some 39, (some (35, true)), .call (.f 59) [(.t 37), (.t 38)], none⟩,
 ⟨some 40, none, .pick (.t 35) (.t 39) (.c (.bool false)), none⟩,
 ⟨some 41, none, .mv (.t 40), none⟩,
 ⟨some 42, (some (41, true)), .mv (.t 3), none⟩,
 ⟨some 43, (some (41, true)), .call (.f 50) [(.t 42), (.c (.int .i64 1))], none⟩,
 ⟨some 44, (some (41, true)), .bsl 3 1 1 [(.int .i64 0)] [(0, 1, (.c (.int .i64 5)))], none⟩,
 ⟨some 45, (some (41, true)), .call (.f 59) [(.t 43), (.t 44)], none⟩,
 ⟨some 46, none, .pick (.t 41) (.t 45) (.c (.bool false)), none⟩,
 ⟨some 2, none, .mv (.t 46), none⟩])
 (.ret))
 (.seq (.ops [⟨some 48, none, .bin .eql (.t 24) (.c (.int .i64 2)), none⟩,
 ⟨some 47, none, .mv (.t 48), none⟩])
 (.keep [1, 3, 4, 24, 47] (.cond (.t 47)
 (.seq (.ops [⟨some 49, none, .fld 2 (.t 1), none⟩,
 ⟨some 50, none, .load none (.t 49), none⟩,
 ⟨some 51, none, .bsl 3 1 1 [(.int .i64 0)] [(0, 1, (.c (.int .i64 1)))], none⟩,
 ⟨some 52, none, .call (.f 65) [(.t 50), (.t 51)], none⟩,
 ⟨some 53, none, .mv (.t 52), none⟩,
 ⟨some 54, (some (53, true)), .mv (.t 3), none⟩,
 ⟨some 55, (some (53, true)), .fld 1 (.t 1), none⟩,
 ⟨some 56, (some (53, true)), .load none (.t 55), none⟩,
 ⟨some 57, (some (53, true)), .bsl 23 1 1 [(.int .u16 0)] [(0, 1, (.t 56))], none⟩,
 ⟨some 58, (some (53, true)), .call (.f 66) [(.t 57)], none⟩,
 ⟨some 59, (some (53, true)), .bin .eql (.t 54) (.t 58), none⟩,
 ⟨some 60, none, .pick (.t 53) (.t 59) (.c (.bool false)), none⟩,
 ⟨some 2, none, .mv (.t 60), none⟩])
 (.ret))
 (.seq (.ops [⟨some 62, none, .bin .eql (.t 24) (.c (.int .i64 3)), none⟩,
 ⟨some 61, none, .mv (.t 62), none⟩])
 (.keep [1, 3, 4, 24, 61] (.cond (.t 61)
 (.seq (.ops [⟨some 63, none, .fld 2 (.t 1), none⟩,
 ⟨some 64, none, .load none (.t 63), none⟩,
 ⟨some 65, none, .bsl 3 1 1 [(.int .i64 0)] [(0, 1, (.c (.int .i64 2)))], none⟩,
 ⟨some 66, none, .call (.f 65) [(.t 64), (.t 65)], none⟩,
 ⟨some 2, none, .mv (.t 66), none⟩])
 (.ret))
 (.seq (.ops [⟨some 68, none, .bin .eql (.t 24) (.c (.int .i64 4)), none⟩,
 ⟨some 67, none, .mv (.t 68), none⟩])
 (.keep [1, 3, 4, 24, 67] (.cond (.t 67)
 (.seq (.ops [⟨some 69, none, .fld 2 (.t 1), none⟩,
 ⟨some 70, none, .load none (.t 69), none⟩,
 ⟨some 71, none, .bsl 3 1 1 [(.int .i64 0)] [(0, 1, (.c (.int .i64 3)))], none⟩,
 ⟨some 72, none, .call (.f 65) [(.t 70), (.t 71)], none⟩,
 ⟨some 73, none, .mv (.t 72), none⟩,
 ⟨some 74, (some (73, true)), .mv (.t 3), none⟩,
 ⟨some 75, (some (73, true)), .bsl 3 1 1 [(.int .i64 0)] [(0, 1, (.c (.int .i64 4)))], none⟩,
 ⟨some 76, (some (73, true)), .call (.f 65) [(.t 74), (.t 75)], none⟩,
 ⟨some 77, none, .pick (.t 73) (.t 76) (.c (.bool false)), none⟩,
 ⟨some 2, none, .mv (.t 77), none⟩])
 (.ret))
 (.seq (.ops [⟨some 79, none, .bin .eql (.t 24) (.c (.int .i64 5)), none⟩,
 ⟨some 78, none, .mv (.t 79), none⟩])
 (.keep [1, 3, 4, 78] (.cond (.t 78)
 (.seq (.ops [⟨some 80, none, .fld 2 (.t 1), none⟩,
 ⟨some 81, none, .load none (.t 80), none⟩,
 ⟨some 82, none, .bsl 3 1 2 [(.int .i64 0), (.int .i64 0)] [(0, 1, (.c (.int .i64 1))), (1, 1, (.c (.int .i64 2)))], none⟩,
 ⟨some 83, none, .call (.f 65) [(.t 81), (.t 82)], none⟩,
 ⟨some 84, none, .mv (.t 83), none⟩,
 ⟨some 85, (some (84, true)), .mv (.t 4), none⟩,
 ⟨some 86, (some (84, true)), .bin .geq (.t 85) (.c (.int .i64 2)), none⟩,
 ⟨some 87, none, .pick (.t 84) (.t 86) (.c (.bool false)), none⟩,
 ⟨some 88, none, .mv (.t 87), none⟩,
 ⟨some 89, (some (88, true)), .mv (.t 3), none⟩,
 ⟨some 90, (some (88, true)), .mv (.t 4), none⟩,
 ⟨some 91, (some (88, true)), .bin .sub (.t 90) (.c (.int .i64 1)), none⟩,
 ⟨some 92, (some (88, true)), .call (.f 50) [(.t 89), (.t 91)], none⟩,
 ⟨some 93, (some (88, true)), .bsl 3 1 1 [(.int .i64 0)] [(0, 1, (.c (.int .i64 5)))], none⟩,
 ⟨some 94, (some (88, true)), .call (.f 59) [(.t 92), (.t 93)], none⟩,
 ⟨some 95, none, .pick (.t 88) (.t 94) (.c (.bool false)), none⟩,
 ⟨some 2, none, .mv (.t 95), none⟩])
 (.ret))
 (.skip)))))))))))))))))))
 (.keep [] (.seq (.ops [⟨some 2, none, .mv (.c (.bool false)), none⟩])
 (.ret)))))))))))))⟩
theorem J_cert_like_ok : chkFn Try.prog 61 J_cert_like = true := by kernel_rfl
def J_cert_delegate : AFn :=
 ⟨36, [.t 2], .seq (.ops [⟨some 1, none, .box (.t 0) [], none⟩,
 ⟨some 2, none, .mv (.c (.bool false)), none⟩])
 (.keep [1] (.seq (.seq (.ops [⟨some 6, none, .fld 2 (.t 1), none⟩,
 ⟨some 7, none, .load none (.t 6), none⟩,
 ⟨some 8, none, .call (.f 49) [(.t 7)], none⟩,
 ⟨some 9, none, .bin .lss (.t 8) (.c (.int .i64 2)), none⟩])
 (.keep [1, 9] (.cond (.t 9)
 (.seq (.ops [⟨some 2, none, .mv (.c (.bool false)), none⟩])
 (.ret))
 (.skip))))
 (.keep [1] (.seq (.draw [1, 3, 4] [⟨some 11, none, .fld 2 (.t 1), none⟩,
 ⟨some 12, none, .load none (.t 11), none⟩,
 ⟨some 13, none, .bsl 23 1 1 [(.int .u16 0)] [(0, 1, (.c (.int .u16 1)))], none⟩,
 ⟨some 14, none, .call (.f 66) [(.t 13)], none⟩,
 ⟨some 15, none, .call (.f 68) [(.t 12), (.c (.int .i64 0)), (.c (.int .i64 1)), (.t 14)], none⟩,
 ⟨some 10, none, .mv (.t 15), none⟩,
 ⟨some 16, none, .ext 0 (.t 10), none⟩,
 ⟨some 17, none, .ext 1 (.t 10), none⟩,
 ⟨some 3, none, .mv (.t 16), none⟩,
 ⟨some 4, none, .mv (.t 17), none⟩])
 (.keep [1, 3, 4] (.seq (.seq (.ops [⟨some 18, none, .mv (.t 4), none⟩,
 ⟨some 19, none, .bin .neq (.t 18) (.c (.int .i64 0)), none⟩])
 (.keep [1, 3, 19] (.cond (.t 19)
 (.seq (.ops [⟨some 2, none, .mv (.c (.bool false)), none⟩])
 (.ret))
 (.skip))))
 (.keep [1, 3] (.seq (.ops [⟨some 21, none, .fld 2 (.t 1), none⟩,
 ⟨some 22, none, .load none (.t 21), none⟩,
 ⟨some 23, none, .mv (.t 3), none⟩,
 ⟨some 24, none, .bsl 31 1 2 [(.str ⟨#[]⟩), (.str ⟨#[]⟩)] [(0, 1, (.t 22)), (1, 1, (.t 23))], none⟩,
 ⟨some 25, none, .call (.f 69) [(.t 24)], none⟩,
 ⟨some 20, none, .mv (.t 25), none⟩,
 ⟨some 26, none, .ext 0 (.t 20), none⟩,
 ⟨some 27, none, .ext 1 (.t 20), none⟩,
 ⟨some 5, none, .mv (.t 26), none⟩,
 ⟨some 4, none, .mv (.t 27), none⟩])
 (.keep [1, 4, 5] (.seq (.ops [⟨some 28, none, .mv (.t 4), none⟩,
 ⟨some 29, none, .bin .eql (.t 28) (.c (.int .i64 0)), none⟩,
 ⟨some 30, none, .mv (.t 29), none⟩,
 ⟨some 31, (some (30, true)), .fld 3 (.t 1), none⟩,
 ⟨some 32, (some (30, true)), .load none (.t 31), none⟩,
 ⟨some 33, (some (30, true)), .mv (.t 5), none⟩,
 ⟨some 34, (some (30, true)), .call (.f 70) [(.t 32), (.t 33)], none⟩,
 ⟨some 35, none, .pick (.t 30) (.t 34) (.c (.bool false)), none⟩,
 ⟨some 2, none, .mv (.t 35), none⟩])
 (.ret)))))))))))⟩
theorem J_cert_delegate_ok : chkFn Try.prog 64 J_cert_delegate = true := by kernel_rfl
def J_cert_alone : AFn :=
 ⟨14, [.t 4], .seq (.ops [⟨some 4, none, .mv (.c (.bool false)), none⟩])
 (.keep [0, 1] (.seq (.ops [⟨some 5, none, .mv (.t 0), none⟩,
 ⟨some 6, none, .call (.f 49) [(.t 5)], none⟩,
 ⟨some 7, none, .bin .eql (.t 6) (.c (.int .i64 1)), none⟩,
 ⟨some 8, none, .mv (.t 7), none⟩,
 ⟨some 9, (some (8, true)), .mv (.t 0), none⟩,
 ⟨some 10, (some (8, true)), .call (.f 50) [(.t 9), (.c (.int .i64 0))], none⟩,
 ⟨some 11, (some (8, true)), .mv (.t 1), none⟩,
 ⟨some 12, (some (8, true)), .call (.f 59) [(.t 10), (.t 11)], none⟩,
 ⟨some 13, none, .pick (.t 8) (.t 12) (.c (.bool false)), none⟩,
 ⟨some 4, none, .mv (.t 13), none⟩])
 (.ret)))⟩
theorem J_cert_alone_ok : chkFn Try.prog 65 J_cert_alone = true := by kernel_rfl
end Go.Proofs.Ytpjlkefadnbgdaa

/- What pack's Out and its reference do, over the abstract code. -/
namespace Go.Proofs.Ytpjlkefadnbgdaa
set_option linter.unusedSimpArgs false
set_option linter.unusedVariables false
open Go.RowKit Go.Lib

theorem hset {h : Hp} {id : Nat} {y : Option (Bool × List AV)} (ho : h[id]? = some y) (x : Option (Bool × List AV)) : (h.set id x)[id]? = some x := by
  have : id < h.length := (List.getElem?_eq_some_iff.1 ho).1
  rw [List.getElem?_set_self this]
theorem hself {h : Hp} {id : Nat} {y : Option (Bool × List AV)} (ho : h[id]? = some y) : h.set id y = h := by
  obtain ⟨h1, h2⟩ := List.getElem?_eq_some_iff.1 ho
  rw [← h2, List.set_getElem_self]

def eI : Bool → Int
  | true => 2
  | false => 0
theorem a_well {h : Hp} {id : Nat} {fl bad : Bool} {rest : List AV} (ho : h[id]? = some (some (fl, .int .i64 (eI bad) :: rest))) :
    ACalls Try.prog 38 [.ptr id 0] h (fun a h' => a = .bool (!bad) ∧ h = h') := by
  refine acalls_of mixed F_pack_met_well_ok (Nat.le_of_ble_eq_true rfl) ?_; simp only [F_pack_met_well, wk,if_true,if_false,forall_const,implies_true,ne_eq,eq_self,Nat.reduceEqDiff,Nat.reduceAdd,Nat.reduceMul,Nat.reduceSub,Nat.reduceLeDiff,Nat.reduceLT,Int.reduceEq,Int.reduceLT,Int.reduceLE,Int.reduceAdd,Int.reduceSub,Int.reduceMul,Int.reduceNeg,Int.reduceNe,reduceCtorEq,Int.reduceToNat,↓reduceIte]
  simp only [wk,if_true,if_false,forall_const,implies_true,ne_eq,eq_self,Nat.reduceEqDiff,Nat.reduceAdd,Nat.reduceMul,Nat.reduceSub,Nat.reduceLeDiff,Nat.reduceLT,Int.reduceEq,Int.reduceLT,Int.reduceLE,Int.reduceAdd,Int.reduceSub,Int.reduceMul,Int.reduceNeg,Int.reduceNe,reduceCtorEq,Int.reduceToNat,↓reduceIte, ho]
  cases bad <;> rfl
theorem a_fail {h : Hp} {id : Nat} {bad : Bool} {rest : List AV} (ho : h[id]? = some (some (false, .int .i64 (eI bad) :: rest))) :
    ACalls Try.prog 37 [.ptr id 0] h (fun a h' => a = .tup [] ∧ h' = h.set id (some (false, .int .i64 (eI true) :: rest))) := by
  refine acalls_of mixed F_pack_met_fail_ok (Nat.le_of_ble_eq_true rfl) ?_; simp only [F_pack_met_fail, wk,if_true,if_false,forall_const,implies_true,ne_eq,eq_self,Nat.reduceEqDiff,Nat.reduceAdd,Nat.reduceMul,Nat.reduceSub,Nat.reduceLeDiff,Nat.reduceLT,Int.reduceEq,Int.reduceLT,Int.reduceLE,Int.reduceAdd,Int.reduceSub,Int.reduceMul,Int.reduceNeg,Int.reduceNe,reduceCtorEq,Int.reduceToNat,↓reduceIte]
  refine ACalls.use (a_well ho) ?_; rintro _ _ ⟨rfl, rfl⟩; simp only [wk,if_true,if_false,forall_const,implies_true,ne_eq,eq_self,Nat.reduceEqDiff,Nat.reduceAdd,Nat.reduceMul,Nat.reduceSub,Nat.reduceLeDiff,Nat.reduceLT,Int.reduceEq,Int.reduceLT,Int.reduceLE,Int.reduceAdd,Int.reduceSub,Int.reduceMul,Int.reduceNeg,Int.reduceNe,reduceCtorEq,Int.reduceToNat,↓reduceIte]
  simp only [wk,if_true,if_false,forall_const,implies_true,ne_eq,eq_self,Nat.reduceEqDiff,Nat.reduceAdd,Nat.reduceMul,Nat.reduceSub,Nat.reduceLeDiff,Nat.reduceLT,Int.reduceEq,Int.reduceLT,Int.reduceLE,Int.reduceAdd,Int.reduceSub,Int.reduceMul,Int.reduceNeg,Int.reduceNe,reduceCtorEq,Int.reduceToNat,↓reduceIte, ho]
  refine ⟨fun h0 => ?_, fun h0 => ?_⟩
  · rfl
  · subst h0; rw [hself ho]

abbrev oObj (s : Bool × List UInt8) : Option (Bool × List AV) := some (false, [.int .i64 (eI s.1), .lst (.own 5) s.2.length (u8s s.2)])
def wri (ok : Bool) (add : List UInt8) (s : Bool × List UInt8) : Bool × List UInt8 := if s.1 then s else if ok then (false, s.2 ++ add) else (true, s.2)
def okNum (z : Int) : Bool := decide (0 ≤ z ∧ z ≤ 4611686018427387904)
theorem or_128 (m : Nat) : bitV .or .u8 (IntKind.u8.wrap (m : Int)) 128 = ((UInt8.ofNat (m % 128 + 128)).toNat : Int) := by
  have e1 : IntKind.u8.wrap (m : Int) = ((m % 256 : Nat) : Int) := by rw [IntKind.wrap_u8]; omega
  rw [e1]
  show bits .or .u8 _ ((128 : Nat) : Int) = _
  rw [u8_or_nat _ _ (by omega) (by omega)]
  have : m % 256 ||| 128 = m % 128 + 128 := by
    by_cases hb : m % 256 < 128
    · rw [Nat.or_comm, nat_join 7 128 (m % 256) (by omega) (by omega)]; omega
    · have h1 : m % 256 = 128 ||| (m % 128) := by rw [nat_join 7 128 (m % 128) (by omega) (by omega)]; omega
      rw [h1, Nat.or_comm, ← Nat.or_assoc, Nat.or_self, nat_join 7 128 (m % 128) (by omega) (by omega)]; omega
  rw [this]; simp only [UInt8.toNat_ofNat']; omega
theorem shr_7 (m : Nat) : (m : Int).fdiv (2 ^ (min 7 IntKind.i64.bits)) = ((m / 128 : Nat) : Int) := by
  rw [show (min 7 IntKind.i64.bits) = 7 by decide, Int.fdiv_eq_ediv_of_nonneg _ (by omega)]; omega
theorem wri_bad {ok : Bool} {add bs : List UInt8} : wri ok add (true, bs) = (true, bs) := rfl
theorem wri_not {add bs : List UInt8} {bad : Bool} : wri false add (bad, bs) = (true, bs) := by cases bad <;> rfl
theorem wri_yes {add bs : List UInt8} : wri true add (false, bs) = (false, bs ++ add) := rfl
set_option maxHeartbeats 1000000 in
theorem a_onum {h : Hp} {id : Nat} {s : Bool × List UInt8} (z : Int) (ho : h[id]? = some (oObj s)) (hl : s.2.length ≤ 1000000000000) :
    ACalls Try.prog 17 [.ptr id 0, .int .i64 z] h (fun a h' => a = .tup [] ∧ h' = h.set id (oObj (wri (okNum z) (num z.toNat) s))) := by
  obtain ⟨bad, bs⟩ := s
  simp only [oObj] at ho hl ⊢
  refine acalls_of mixed F_pack_Out_Num_ok (Nat.le_of_ble_eq_true rfl) ?_; simp only [F_pack_Out_Num, wk,if_true,if_false,forall_const,implies_true,ne_eq,eq_self,Nat.reduceEqDiff,Nat.reduceAdd,Nat.reduceMul,Nat.reduceSub,Nat.reduceLeDiff,Nat.reduceLT,Int.reduceEq,Int.reduceLT,Int.reduceLE,Int.reduceAdd,Int.reduceSub,Int.reduceMul,Int.reduceNeg,Int.reduceNe,reduceCtorEq,Int.reduceToNat,↓reduceIte]
  refine ⟨fun h0 => ⟨fun h1 => ?_, fun h1 => ?_⟩, fun h0 => ?_⟩
  · refine ACalls.use (a_fail ho) ?_; rintro _ _ ⟨rfl, rfl⟩; simp only [wk,if_true,if_false,forall_const,implies_true,ne_eq,eq_self,Nat.reduceEqDiff,Nat.reduceAdd,Nat.reduceMul,Nat.reduceSub,Nat.reduceLeDiff,Nat.reduceLT,Int.reduceEq,Int.reduceLT,Int.reduceLE,Int.reduceAdd,Int.reduceSub,Int.reduceMul,Int.reduceNeg,Int.reduceNe,reduceCtorEq,Int.reduceToNat,↓reduceIte, hset ho]
    refine ACalls.use (a_well (hset ho _)) ?_; rintro _ _ ⟨rfl, rfl⟩; simp only [wk,if_true,if_false,forall_const,implies_true,ne_eq,eq_self,Nat.reduceEqDiff,Nat.reduceAdd,Nat.reduceMul,Nat.reduceSub,Nat.reduceLeDiff,Nat.reduceLT,Int.reduceEq,Int.reduceLT,Int.reduceLE,Int.reduceAdd,Int.reduceSub,Int.reduceMul,Int.reduceNeg,Int.reduceNe,reduceCtorEq,Int.reduceToNat,↓reduceIte, hset ho]
    rw [show okNum z = false by unfold okNum; rw [decide_eq_false_iff_not]; omega, wri_not]
  · refine ACalls.use (a_well ho) ?_; rintro _ _ ⟨rfl, rfl⟩; simp only [wk,if_true,if_false,forall_const,implies_true,ne_eq,eq_self,Nat.reduceEqDiff,Nat.reduceAdd,Nat.reduceMul,Nat.reduceSub,Nat.reduceLeDiff,Nat.reduceLT,Int.reduceEq,Int.reduceLT,Int.reduceLE,Int.reduceAdd,Int.reduceSub,Int.reduceMul,Int.reduceNeg,Int.reduceNe,reduceCtorEq,Int.reduceToNat,↓reduceIte, ho]
    refine ⟨fun hb => ?_, fun hb => ?_⟩
    · subst hb; rw [wri_bad, hself ho]
    subst hb
    obtain ⟨n, rfl⟩ : ∃ n : Nat, z = n := ⟨z.toNat, by omega⟩
    rw [show okNum (n : Int) = true by unfold okNum; rw [decide_eq_true_eq]; omega, wri_yes]
    have hn9 := num_len9 (n := n) (by omega)
    refine W_loop (fun k fr h' => ∃ (pre : List UInt8) (m : Nat), k = m ∧ m ≤ n ∧ pre ++ num m = num n ∧ fr = [(0, .ptr id 0), (1, .int .i64 m)] ∧ h' = h.set id (oObj (false, bs ++ pre))) n ⟨[], n, rfl, by omega, rfl, rfl, by rw [List.append_nil, hself ho]⟩ ?_
    rintro k fr h' ⟨pre, m, rfl, hm, hpre, rfl, rfl⟩
    have htot : pre.length + (num k).length = (num n).length := by rw [← hpre, List.length_append]
    have hb1 : bs.length + pre.length + 1 ≤ 9223372036854775807 := by omega
    have hla : (bs ++ pre).length = bs.length + pre.length := List.length_append
    simp only [wk,if_true,if_false,forall_const,implies_true,ne_eq,eq_self,Nat.reduceEqDiff,Nat.reduceAdd,Nat.reduceMul,Nat.reduceSub,Nat.reduceLeDiff,Nat.reduceLT,Int.reduceEq,Int.reduceLT,Int.reduceLE,Int.reduceAdd,Int.reduceSub,Int.reduceMul,Int.reduceNeg,Int.reduceNe,reduceCtorEq,Int.reduceToNat,↓reduceIte, oObj]
    refine ⟨fun hge => ?_, fun hlt => ?_⟩
    · have hk := num_ge (n := k) (by omega)
      simp only [wk,if_true,if_false,forall_const,implies_true,ne_eq,eq_self,Nat.reduceEqDiff,Nat.reduceAdd,Nat.reduceMul,Nat.reduceSub,Nat.reduceLeDiff,Nat.reduceLT,Int.reduceEq,Int.reduceLT,Int.reduceLE,Int.reduceAdd,Int.reduceSub,Int.reduceMul,Int.reduceNeg,Int.reduceNe,reduceCtorEq,Int.reduceToNat,↓reduceIte, hset ho]
      (repeat (refine And.intro (by first | omega | exact inR_of (by omega) (by omega) | exact ⟨by omega, by omega⟩ | exact ⟨by omega, by omega, by omega⟩ | rfl) ?_))
      rw [shr_7, or_128]
      refine ⟨k / 128, by omega, pre ++ [UInt8.ofNat (k % 128 + 128)], k / 128, rfl, by omega, ?_, rfl, ?_⟩
      · rw [← hpre, hk]; simp
      · simp [Nat.add_assoc]
    · have hk := num_lt (n := k) (by omega)
      simp only [wk,if_true,if_false,forall_const,implies_true,ne_eq,eq_self,Nat.reduceEqDiff,Nat.reduceAdd,Nat.reduceMul,Nat.reduceSub,Nat.reduceLeDiff,Nat.reduceLT,Int.reduceEq,Int.reduceLT,Int.reduceLE,Int.reduceAdd,Int.reduceSub,Int.reduceMul,Int.reduceNeg,Int.reduceNe,reduceCtorEq,Int.reduceToNat,↓reduceIte, hset ho]
      (repeat (refine And.intro (by first | omega | exact inR_of (by omega) (by omega) | exact ⟨by omega, by omega⟩ | exact ⟨by omega, by omega, by omega⟩ | rfl) ?_))
      have e1 : IntKind.u8.wrap (k : Int) = ((UInt8.ofNat k).toNat : Int) := by rw [IntKind.wrap_u8]; simp only [UInt8.toNat_ofNat']; omega
      rw [e1, Int.toNat_natCast, ← hpre, hk]
      simp [Nat.add_assoc]
  · refine ACalls.use (a_fail ho) ?_; rintro _ _ ⟨rfl, rfl⟩; simp only [wk,if_true,if_false,forall_const,implies_true,ne_eq,eq_self,Nat.reduceEqDiff,Nat.reduceAdd,Nat.reduceMul,Nat.reduceSub,Nat.reduceLeDiff,Nat.reduceLT,Int.reduceEq,Int.reduceLT,Int.reduceLE,Int.reduceAdd,Int.reduceSub,Int.reduceMul,Int.reduceNeg,Int.reduceNe,reduceCtorEq,Int.reduceToNat,↓reduceIte, hset ho]
    refine ACalls.use (a_well (hset ho _)) ?_; rintro _ _ ⟨rfl, rfl⟩; simp only [wk,if_true,if_false,forall_const,implies_true,ne_eq,eq_self,Nat.reduceEqDiff,Nat.reduceAdd,Nat.reduceMul,Nat.reduceSub,Nat.reduceLeDiff,Nat.reduceLT,Int.reduceEq,Int.reduceLT,Int.reduceLE,Int.reduceAdd,Int.reduceSub,Int.reduceMul,Int.reduceNeg,Int.reduceNe,reduceCtorEq,Int.reduceToNat,↓reduceIte, hset ho]
    rw [show okNum z = false by unfold okNum; rw [decide_eq_false_iff_not]; omega, wri_not]
theorem ba_len (s : ByteArray) : s.data.toList.length = s.size := by simp
set_option maxHeartbeats 1000000 in
theorem a_otext {h : Hp} {id : Nat} {s : Bool × List UInt8} (x : ByteArray) (ho : h[id]? = some (oObj s)) (hl : s.2.length ≤ 1000000000000) (hx : x.size ≤ 1000000000000) :
    ACalls Try.prog 52 [.ptr id 0, .str x] h (fun a h' => a = .tup [] ∧ h' = h.set id (oObj (wri true (num x.size ++ x.data.toList) s))) := by
  obtain ⟨bad, bs⟩ := s
  refine acalls_of mixed F_pack_Out_Text_ok (Nat.le_of_ble_eq_true rfl) ?_; simp only [F_pack_Out_Text, wk,if_true,if_false,forall_const,implies_true,ne_eq,eq_self,Nat.reduceEqDiff,Nat.reduceAdd,Nat.reduceMul,Nat.reduceSub,Nat.reduceLeDiff,Nat.reduceLT,Int.reduceEq,Int.reduceLT,Int.reduceLE,Int.reduceAdd,Int.reduceSub,Int.reduceMul,Int.reduceNeg,Int.reduceNe,reduceCtorEq,Int.reduceToNat,↓reduceIte]
  refine ACalls.use (a_onum (x.size : Int) ho hl) ?_; rintro _ _ ⟨rfl, rfl⟩; simp only [wk,if_true,if_false,forall_const,implies_true,ne_eq,eq_self,Nat.reduceEqDiff,Nat.reduceAdd,Nat.reduceMul,Nat.reduceSub,Nat.reduceLeDiff,Nat.reduceLT,Int.reduceEq,Int.reduceLT,Int.reduceLE,Int.reduceAdd,Int.reduceSub,Int.reduceMul,Int.reduceNeg,Int.reduceNe,reduceCtorEq,Int.reduceToNat,↓reduceIte, oObj]
  rw [show okNum (x.size : Int) = true by unfold okNum; rw [decide_eq_true_eq]; omega, Int.toNat_natCast]
  refine ACalls.use (a_well (hset ho _)) ?_; rintro _ _ ⟨rfl, rfl⟩; simp only [wk,if_true,if_false,forall_const,implies_true,ne_eq,eq_self,Nat.reduceEqDiff,Nat.reduceAdd,Nat.reduceMul,Nat.reduceSub,Nat.reduceLeDiff,Nat.reduceLT,Int.reduceEq,Int.reduceLT,Int.reduceLE,Int.reduceAdd,Int.reduceSub,Int.reduceMul,Int.reduceNeg,Int.reduceNe,reduceCtorEq,Int.reduceToNat,↓reduceIte, hset ho]
  have hn9 := num_len9 (n := x.size) (by omega)
  cases bad with
  | true => refine ⟨fun hb => (nomatch hb), fun hb => ?_⟩; rfl
  | false =>
    refine ⟨fun hb => ?_, fun hb => (nomatch hb)⟩
    simp only [wri_yes]
    refine ⟨?_, ?_⟩
    · rw [List.length_append]; simp only at hl; omega
    · simp [Nat.add_assoc]
set_option maxHeartbeats 1000000 in
theorem a_oword {h : Hp} {id : Nat} {s : Bool × List UInt8} (x : ByteArray) (ho : h[id]? = some (oObj s)) (hl : s.2.length ≤ 1000000000000) (hx : x.size ≤ 1000000000000) :
    ACalls Try.prog 36 [.ptr id 0, .str x] h (fun a h' => a = .tup [] ∧ h' = h.set id (oObj (wri (wordMay x) (wordBytes x) s))) := by
  obtain ⟨bad, bs⟩ := s
  simp only [oObj] at ho hl ⊢
  refine acalls_of mixed F_pack_Out_Word_ok (Nat.le_of_ble_eq_true rfl) ?_; simp only [F_pack_Out_Word, wk,if_true,if_false,forall_const,implies_true,ne_eq,eq_self,Nat.reduceEqDiff,Nat.reduceAdd,Nat.reduceMul,Nat.reduceSub,Nat.reduceLeDiff,Nat.reduceLT,Int.reduceEq,Int.reduceLT,Int.reduceLE,Int.reduceAdd,Int.reduceSub,Int.reduceMul,Int.reduceNeg,Int.reduceNe,reduceCtorEq,Int.reduceToNat,↓reduceIte]
  refine PCalls.use (p_wmay x (by omega)) ?_; simp only [wk,if_true,if_false,forall_const,implies_true,ne_eq,eq_self,Nat.reduceEqDiff,Nat.reduceAdd,Nat.reduceMul,Nat.reduceSub,Nat.reduceLeDiff,Nat.reduceLT,Int.reduceEq,Int.reduceLT,Int.reduceLE,Int.reduceAdd,Int.reduceSub,Int.reduceMul,Int.reduceNeg,Int.reduceNe,reduceCtorEq,Int.reduceToNat,↓reduceIte]
  refine ⟨fun hw => ?_, fun hw => ?_⟩
  · refine ACalls.use (a_fail ho) ?_; rintro _ _ ⟨rfl, rfl⟩; simp only [wk,if_true,if_false,forall_const,implies_true,ne_eq,eq_self,Nat.reduceEqDiff,Nat.reduceAdd,Nat.reduceMul,Nat.reduceSub,Nat.reduceLeDiff,Nat.reduceLT,Int.reduceEq,Int.reduceLT,Int.reduceLE,Int.reduceAdd,Int.reduceSub,Int.reduceMul,Int.reduceNeg,Int.reduceNe,reduceCtorEq,Int.reduceToNat,↓reduceIte, hset ho]
    refine ACalls.use (a_well (hset ho _)) ?_; rintro _ _ ⟨rfl, rfl⟩; simp only [wk,if_true,if_false,forall_const,implies_true,ne_eq,eq_self,Nat.reduceEqDiff,Nat.reduceAdd,Nat.reduceMul,Nat.reduceSub,Nat.reduceLeDiff,Nat.reduceLT,Int.reduceEq,Int.reduceLT,Int.reduceLE,Int.reduceAdd,Int.reduceSub,Int.reduceMul,Int.reduceNeg,Int.reduceNe,reduceCtorEq,Int.reduceToNat,↓reduceIte, hset ho]
    rw [hw, wri_not]
  · refine ACalls.use (a_well ho) ?_; rintro _ _ ⟨rfl, rfl⟩; simp only [wk,if_true,if_false,forall_const,implies_true,ne_eq,eq_self,Nat.reduceEqDiff,Nat.reduceAdd,Nat.reduceMul,Nat.reduceSub,Nat.reduceLeDiff,Nat.reduceLT,Int.reduceEq,Int.reduceLT,Int.reduceLE,Int.reduceAdd,Int.reduceSub,Int.reduceMul,Int.reduceNeg,Int.reduceNe,reduceCtorEq,Int.reduceToNat,↓reduceIte, ho]
    refine ⟨fun hb => ?_, fun hb => ?_⟩
    · subst hb
      refine ⟨_, p_wlen x (by omega), ?_⟩; simp only [wk,if_true,if_false,forall_const,implies_true,ne_eq,eq_self,Nat.reduceEqDiff,Nat.reduceAdd,Nat.reduceMul,Nat.reduceSub,Nat.reduceLeDiff,Nat.reduceLT,Int.reduceEq,Int.reduceLT,Int.reduceLE,Int.reduceAdd,Int.reduceSub,Int.reduceMul,Int.reduceNeg,Int.reduceNe,reduceCtorEq,Int.reduceToNat,↓reduceIte]
      simp only [wk,if_true,if_false,forall_const,implies_true,ne_eq,eq_self,Nat.reduceEqDiff,Nat.reduceAdd,Nat.reduceMul,Nat.reduceSub,Nat.reduceLeDiff,Nat.reduceLT,Int.reduceEq,Int.reduceLT,Int.reduceLE,Int.reduceAdd,Int.reduceSub,Int.reduceMul,Int.reduceNeg,Int.reduceNe,reduceCtorEq,Int.reduceToNat,↓reduceIte, hset ho]
      (repeat (refine And.intro (by first | omega | exact inR_of (by omega) (by omega) | exact ⟨by omega, by omega⟩ | exact ⟨by omega, by omega, by omega⟩ | rfl) ?_))
      rw [hw, wri_yes]
      have e1 : IntKind.u8.wrap ((x.size / 2 : Nat) : Int) = ((UInt8.ofNat (x.size / 2)).toNat : Int) := by rw [IntKind.wrap_u8]; simp only [UInt8.toNat_ofNat']; omega
      rw [e1]
      rw [Nat.add_assoc]
      simp [wordBytes, Nat.add_comm]
    · subst hb; rw [wri_bad, hself ho]
theorem setMay_word {l : List ByteArray} (h : setMay l = true) : ∀ x ∈ l, wordMay x = true := (setMay_words h).2
set_option maxHeartbeats 1000000 in
theorem a_oset {h : Hp} {id : Nat} {s : Bool × List UInt8} (l : List ByteArray) (ho : h[id]? = some (oObj s)) (hl : s.2.length ≤ 1000000000) (hx : l.length ≤ 10000) (hs : ∀ x ∈ l, x.size ≤ 10000) :
    ACalls Try.prog 53 [.ptr id 0, .lst .ro l.length (l.map .str)] h (fun a h' => a = .tup [] ∧ h' = h.set id (oObj (wri (setMay l) (setBytes l) s))) := by
  obtain ⟨bad, bs⟩ := s
  simp only [oObj] at ho hl ⊢
  refine acalls_of mixed F_pack_Out_Set_ok (Nat.le_of_ble_eq_true rfl) ?_; simp only [F_pack_Out_Set, wk,if_true,if_false,forall_const,implies_true,ne_eq,eq_self,Nat.reduceEqDiff,Nat.reduceAdd,Nat.reduceMul,Nat.reduceSub,Nat.reduceLeDiff,Nat.reduceLT,Int.reduceEq,Int.reduceLT,Int.reduceLE,Int.reduceAdd,Int.reduceSub,Int.reduceMul,Int.reduceNeg,Int.reduceNe,reduceCtorEq,Int.reduceToNat,↓reduceIte]
  refine PCalls.use (p_smay l (by omega) (fun x h => by have := hs x h; omega)) ?_; simp only [wk,if_true,if_false,forall_const,implies_true,ne_eq,eq_self,Nat.reduceEqDiff,Nat.reduceAdd,Nat.reduceMul,Nat.reduceSub,Nat.reduceLeDiff,Nat.reduceLT,Int.reduceEq,Int.reduceLT,Int.reduceLE,Int.reduceAdd,Int.reduceSub,Int.reduceMul,Int.reduceNeg,Int.reduceNe,reduceCtorEq,Int.reduceToNat,↓reduceIte]
  refine ⟨fun hw => ?_, fun hw => ?_⟩
  · refine ACalls.use (a_fail ho) ?_; rintro _ _ ⟨rfl, rfl⟩; simp only [wk,if_true,if_false,forall_const,implies_true,ne_eq,eq_self,Nat.reduceEqDiff,Nat.reduceAdd,Nat.reduceMul,Nat.reduceSub,Nat.reduceLeDiff,Nat.reduceLT,Int.reduceEq,Int.reduceLT,Int.reduceLE,Int.reduceAdd,Int.reduceSub,Int.reduceMul,Int.reduceNeg,Int.reduceNe,reduceCtorEq,Int.reduceToNat,↓reduceIte, hset ho]
    refine ACalls.use (a_well (hset ho _)) ?_; rintro _ _ ⟨rfl, rfl⟩; simp only [wk,if_true,if_false,forall_const,implies_true,ne_eq,eq_self,Nat.reduceEqDiff,Nat.reduceAdd,Nat.reduceMul,Nat.reduceSub,Nat.reduceLeDiff,Nat.reduceLT,Int.reduceEq,Int.reduceLT,Int.reduceLE,Int.reduceAdd,Int.reduceSub,Int.reduceMul,Int.reduceNeg,Int.reduceNe,reduceCtorEq,Int.reduceToNat,↓reduceIte, hset ho]
    rw [hw, wri_not]
  · refine ACalls.use (a_well ho) ?_; rintro _ _ ⟨rfl, rfl⟩; simp only [wk,if_true,if_false,forall_const,implies_true,ne_eq,eq_self,Nat.reduceEqDiff,Nat.reduceAdd,Nat.reduceMul,Nat.reduceSub,Nat.reduceLeDiff,Nat.reduceLT,Int.reduceEq,Int.reduceLT,Int.reduceLE,Int.reduceAdd,Int.reduceSub,Int.reduceMul,Int.reduceNeg,Int.reduceNe,reduceCtorEq,Int.reduceToNat,↓reduceIte, ho]
    refine ⟨fun hb => ?_, fun hb => ?_⟩
    · subst hb; rw [wri_bad, hself ho]
    · subst hb
      simp only [wk,if_true,if_false,forall_const,implies_true,ne_eq,eq_self,Nat.reduceEqDiff,Nat.reduceAdd,Nat.reduceMul,Nat.reduceSub,Nat.reduceLeDiff,Nat.reduceLT,Int.reduceEq,Int.reduceLT,Int.reduceLE,Int.reduceAdd,Int.reduceSub,Int.reduceMul,Int.reduceNeg,Int.reduceNe,reduceCtorEq,Int.reduceToNat,↓reduceIte, hset ho]
      (repeat (refine And.intro (by first | omega | exact inR_of (by omega) (by omega) | exact ⟨by omega, by omega⟩ | exact ⟨by omega, by omega, by omega⟩ | rfl) ?_))
      have e1 : IntKind.u8.wrap ((l.length : Nat) : Int) = ((UInt8.ofNat l.length).toNat : Int) := by rw [IntKind.wrap_u8]; simp only [UInt8.toNat_ofNat']; omega
      rw [e1]
      have hlen : ∀ i, ((l.take i).flatMap wordBytes).length ≤ 20000 * i := by
        intro i
        induction i with
        | zero => simp
        | succ i ih =>
          by_cases h : i < l.length
          · rw [List.take_succ_eq_append_getElem h, List.flatMap_append, List.length_append]
            have := hs l[i] (List.getElem_mem h)
            have e : l[i].data.toList.length = l[i].size := by simp
            simp only [List.flatMap_cons, List.flatMap_nil, List.append_nil, wordBytes, List.length_cons, e]; omega
          · rw [List.take_of_length_le (by omega)] at ih ⊢; omega
      refine W_loop (fun k fr h' => ∃ i : Nat, i ≤ l.length ∧ k = l.length - i ∧ fr = [(0, .ptr id 0), (30, .lst .ro l.length (l.map .str)), (31, .int .i64 l.length), (32, .int .i64 i)] ∧ h' = h.set id (oObj (false, bs ++ UInt8.ofNat l.length :: (l.take i).flatMap wordBytes))) l.length ⟨0, by omega, by omega, rfl, by simp [oObj]⟩ ?_
      rintro k fr h' ⟨i, hi, rfl, rfl, rfl⟩
      simp only [wk,if_true,if_false,forall_const,implies_true,ne_eq,eq_self,Nat.reduceEqDiff,Nat.reduceAdd,Nat.reduceMul,Nat.reduceSub,Nat.reduceLeDiff,Nat.reduceLT,Int.reduceEq,Int.reduceLT,Int.reduceLE,Int.reduceAdd,Int.reduceSub,Int.reduceMul,Int.reduceNeg,Int.reduceNe,reduceCtorEq,Int.reduceToNat,↓reduceIte]
      refine ⟨fun hlt => ?_, fun hge => ?_⟩
      · have hil : i < l.length := by omega
        refine ⟨⟨by omega, hlt⟩, ?_⟩
        rw [show (i : Int).toNat = i by omega, drop_str hil]
        simp only [wk,if_true,if_false,forall_const,implies_true,ne_eq,eq_self,Nat.reduceEqDiff,Nat.reduceAdd,Nat.reduceMul,Nat.reduceSub,Nat.reduceLeDiff,Nat.reduceLT,Int.reduceEq,Int.reduceLT,Int.reduceLE,Int.reduceAdd,Int.reduceSub,Int.reduceMul,Int.reduceNeg,Int.reduceNe,reduceCtorEq,Int.reduceToNat,↓reduceIte]
        have h1 := hlen i
        have h2 := hs l[i] (List.getElem_mem hil)
        refine ACalls.use (a_oword l[i] (hset ho _) (by simp only [List.length_append, List.length_cons]; omega) (by omega)) ?_; rintro _ _ ⟨rfl, rfl⟩; simp only [wk,if_true,if_false,forall_const,implies_true,ne_eq,eq_self,Nat.reduceEqDiff,Nat.reduceAdd,Nat.reduceMul,Nat.reduceSub,Nat.reduceLeDiff,Nat.reduceLT,Int.reduceEq,Int.reduceLT,Int.reduceLE,Int.reduceAdd,Int.reduceSub,Int.reduceMul,Int.reduceNeg,Int.reduceNe,reduceCtorEq,Int.reduceToNat,↓reduceIte]
        refine ⟨inR_of (by omega) (by omega), l.length - (i + 1), by omega, i + 1, by omega, rfl, rfl, ?_⟩
        rw [setMay_word hw _ (List.getElem_mem hil), wri_yes, List.take_succ_eq_append_getElem hil, List.flatMap_append]
        simp
      · have : i = l.length := by omega
        subst this
        rw [hw, wri_yes, List.take_length, setBytes]
theorem words_len (l : List ByteArray) (hs : ∀ x ∈ l, x.size ≤ 1000) : (l.flatMap wordBytes).length ≤ 1001 * l.length := by
  induction l with
  | nil => simp
  | cons x l ih =>
    have h1 := ih (fun y hy => hs y (List.mem_cons_of_mem _ hy))
    have h2 := hs x List.mem_cons_self
    rw [List.flatMap_cons, List.length_append, wordBytes, List.length_cons, ba_len, List.length_cons]; omega
theorem setBytes_len (l : List ByteArray) (hl : l.length ≤ 1000) (hs : ∀ x ∈ l, x.size ≤ 1000) : (setBytes l).length ≤ 1002000 := by
  have := words_len l hs
  rw [setBytes, List.length_cons]; omega
def told (s : Bool × List UInt8) : AV := .tup [.str (if s.1 then ⟨#[]⟩ else ⟨s.2.toArray⟩), .int .i64 (eI s.1)]
theorem a_odone {h : Hp} {id : Nat} {s : Bool × List UInt8} (ho : h[id]? = some (oObj s)) :
    ACalls Try.prog 18 [.ptr id 0] h (fun a h' => a = told s ∧ h = h') := by
  obtain ⟨bad, bs⟩ := s
  simp only [oObj] at ho ⊢
  refine acalls_of mixed F_pack_Out_Done_ok (Nat.le_of_ble_eq_true rfl) ?_; simp only [F_pack_Out_Done, wk,if_true,if_false,forall_const,implies_true,ne_eq,eq_self,Nat.reduceEqDiff,Nat.reduceAdd,Nat.reduceMul,Nat.reduceSub,Nat.reduceLeDiff,Nat.reduceLT,Int.reduceEq,Int.reduceLT,Int.reduceLE,Int.reduceAdd,Int.reduceSub,Int.reduceMul,Int.reduceNeg,Int.reduceNe,reduceCtorEq,Int.reduceToNat,↓reduceIte]
  refine ACalls.use (a_well ho) ?_; rintro _ _ ⟨rfl, rfl⟩; simp only [wk,if_true,if_false,forall_const,implies_true,ne_eq,eq_self,Nat.reduceEqDiff,Nat.reduceAdd,Nat.reduceMul,Nat.reduceSub,Nat.reduceLeDiff,Nat.reduceLT,Int.reduceEq,Int.reduceLT,Int.reduceLE,Int.reduceAdd,Int.reduceSub,Int.reduceMul,Int.reduceNeg,Int.reduceNe,reduceCtorEq,Int.reduceToNat,↓reduceIte, ho]
  cases bad with
  | true => exact ⟨fun _ => rfl, fun hb => (nomatch hb)⟩
  | false => exact ⟨fun hb => (nomatch hb), fun _ => ⟨bs, rfl, rfl, rfl⟩⟩

theorem ba_size (l : List UInt8) : (⟨l.toArray⟩ : ByteArray).size = l.length := by show l.toArray.size = _; simp
end Go.Proofs.Ytpjlkefadnbgdaa

/- What pack's In does, over the abstract code. -/
namespace Go.Proofs.Ytpjlkefadnbgdaa
set_option linter.unusedSimpArgs false
set_option linter.unusedVariables false
open Go.RowKit Go.Lib

abbrev iObj (S : ByteArray) (s : Bool × Nat) : Option (Bool × List AV) := some (false, [.int .i64 (eI s.1), .str S, .int .i64 s.2])
theorem wrap_small {z : Int} (h0 : 0 ≤ z) (h1 : z ≤ 4611686018427387904) : IntKind.i64.wrap z = z := by
  rw [IntKind.wrap_i64]; omega
def nums : Option (Nat × Nat) → AV
  | some (n, m) => .tup [.int .i64 n, .int .i64 m]
  | none => .tup [.int .i64 0, .int .i64 0]
theorem and_127 (c : Nat) (h : c < 256) : bitV .and .u8 (c : Int) 127 = ((c % 128 : Nat) : Int) := by
  show bits .and .u8 _ ((127 : Nat) : Int) = _
  rw [u8_and_nat _ _ h (by omega), nat_mask7]
theorem shl_7k (c k : Nat) (hk : k ≤ 8) (hc : c < 128) : IntKind.u64.wrap (IntKind.u64.wrap (c : Int) * 2 ^ (min (7 * (k : Int)).toNat IntKind.u64.bits)) = ((c * 128 ^ k : Nat) : Int) := by
  have e0 : min (7 * (k : Int)).toNat IntKind.u64.bits = 7 * k := by rw [show IntKind.u64.bits = 64 by decide]; omega
  have e1 : IntKind.u64.wrap (c : Int) = c := by rw [IntKind.wrap_u64]; omega
  have e2 : (2 : Int) ^ (7 * k) = ((128 ^ k : Nat) : Int) := by rw [show (128 : Nat) = 2 ^ 7 by rfl, ← Nat.pow_mul]; simp
  have e3 : c * 128 ^ k < 18446744073709551616 := by
    have h1 : 128 ^ k ≤ 128 ^ 8 := Nat.pow_le_pow_right (by omega) hk
    have h2 : c * 128 ^ k ≤ 127 * 128 ^ 8 := Nat.mul_le_mul (by omega) h1
    omega
  rw [e0, e1, e2, IntKind.wrap_u64]
  rw [← Int.natCast_mul]; omega
theorem or_acc (a c k : Nat) (hk : k ≤ 8) (hc : c < 128) (ha : a < 128 ^ k) : bitV .or .u64 (a : Int) ((c * 128 ^ k : Nat) : Int) = ((a + c * 128 ^ k : Nat) : Int) := by
  have h1 : 128 ^ k ≤ 128 ^ 8 := Nat.pow_le_pow_right (by omega) hk
  have h2 : c * 128 ^ k ≤ 127 * 128 ^ 8 := Nat.mul_le_mul (by omega) h1
  have e : 128 ^ k = 2 ^ (7 * k) := by rw [Nat.pow_mul]
  show bits .or .u64 _ _ = _
  rw [u64_or_nat _ _ (by omega) (by omega), Nat.or_comm, nat_join (7 * k) _ _ (by rw [e]; exact Nat.mul_mod_left _ _) (by rw [← e]; exact ha), Nat.add_comm]
set_option maxRecDepth 100000 in
set_option maxHeartbeats 1000000 in
theorem p_number (s : ByteArray) (hs : s.size ≤ 1000000000000) : PCalls Try.prog 42 [.str s] (nums (rdNum s.data.toList)) := by
  refine pcalls_of rfl (by cases rdNum s.data.toList <;> rfl) (acalls_of mixed F_pack_number_ok (Nat.le_of_ble_eq_true rfl) ?_); simp only [F_pack_number, wk,if_true,if_false,forall_const,implies_true,ne_eq,eq_self,Nat.reduceEqDiff,Nat.reduceAdd,Nat.reduceMul,Nat.reduceSub,Nat.reduceLeDiff,Nat.reduceLT,Int.reduceEq,Int.reduceLT,Int.reduceLE,Int.reduceAdd,Int.reduceSub,Int.reduceMul,Int.reduceNeg,Int.reduceNe,reduceCtorEq,Int.reduceToNat,↓reduceIte]
  refine W_loop (fun n fr h => ∃ (k acc : Nat), k ≤ 9 ∧ n = 9 - k ∧ k ≤ s.size ∧ acc < 128 ^ k ∧ fr = [(0, .str s), (4, .int .u64 acc), (5, .int .i64 k)] ∧ rdNum s.data.toList = rdNumAt k acc (s.data.toList.drop k)) 9 ⟨0, 0, by omega, rfl, by omega, by simp, rfl, rfl⟩ ?_
  rintro n fr h ⟨k, acc, hk9, rfl, hks, hacc, rfl, hrd⟩
  simp only [wk,if_true,if_false,forall_const,implies_true,ne_eq,eq_self,Nat.reduceEqDiff,Nat.reduceAdd,Nat.reduceMul,Nat.reduceSub,Nat.reduceLeDiff,Nat.reduceLT,Int.reduceEq,Int.reduceLT,Int.reduceLE,Int.reduceAdd,Int.reduceSub,Int.reduceMul,Int.reduceNeg,Int.reduceNe,reduceCtorEq,Int.reduceToNat,↓reduceIte]
  refine ⟨fun hlt => ⟨fun h9 => ?_, fun h9 => ?_⟩, fun hge => ?_⟩
  · have hkl : k < s.size := by omega
    have hkd : k < s.data.toList.length := by simpa using hkl
    have hdrop : s.data.toList.drop k = s[k] :: s.data.toList.drop (k + 1) := by rw [List.drop_eq_getElem_cons hkd]; rfl
    have hb := s[k].toNat_lt
    (repeat (refine And.intro (by first | omega | exact inR_of (by omega) (by omega) | exact ⟨by omega, by omega⟩ | exact ⟨by omega, by omega, by omega⟩ | rfl) ?_))
    rw [show (k : Int).toNat = k by omega, byteAt_eq hkl, and_127 _ hb, shl_7k _ k (by omega) (by omega), or_acc _ _ k (by omega) (by omega) hacc]
    rw [hdrop, rdNumAt, if_neg (by omega)] at hrd
    have hp1 : 128 ^ k ≤ 128 ^ 8 := Nat.pow_le_pow_right (by omega) (by omega)
    have hp2 : s[k].toNat % 128 * 128 ^ k ≤ 127 * 128 ^ 8 := Nat.mul_le_mul (by omega) hp1
    have hp3 : acc + s[k].toNat % 128 * 128 ^ k < 128 ^ (k + 1) := by
      have : s[k].toNat % 128 * 128 ^ k ≤ 127 * 128 ^ k := Nat.mul_le_mul (by omega) (Nat.le_refl _)
      rw [Nat.pow_succ]; omega
    have hsm : ¬ 128 ≤ s[k].toNat → s[k].toNat % 128 = s[k].toNat := fun h => Nat.mod_eq_of_lt (by omega)
    have hA : ¬ 128 ≤ s[k].toNat → ¬ (0 < k ∧ s[k].toNat = 0) → (4611686018427387904 : Int) < ((acc + s[k].toNat % 128 * 128 ^ k : Nat) : Int) → AV.tup [.int .i64 0, .int .i64 0] = nums (rdNum s.data.toList) := by
      intro h1 h2 h3
      rw [hsm h1] at h3
      rw [hrd, if_neg h2, if_neg h1, if_pos (by omega)]; rfl
    have hB : ¬ 128 ≤ s[k].toNat → ¬ (0 < k ∧ s[k].toNat = 0) → ¬ (4611686018427387904 : Int) < ((acc + s[k].toNat % 128 * 128 ^ k : Nat) : Int) → inR ((k : Int) + 1) ∧ AV.tup [.int .i64 (IntKind.i64.wrap ((acc + s[k].toNat % 128 * 128 ^ k : Nat) : Int)), .int .i64 ((k : Int) + 1)] = nums (rdNum s.data.toList) := by
      intro h1 h2 h3
      rw [hsm h1] at h3 ⊢
      refine ⟨inR_of (by omega) (by omega), ?_⟩
      rw [hrd, if_neg h2, if_neg h1, if_neg (by omega), wrap_small (by omega) (by omega)]
      rfl
    refine ⟨fun hc => ⟨inR_of (by omega) (by omega), 9 - (k + 1), by omega, k + 1, _, by omega, rfl, by omega, hp3, rfl, ?_⟩, fun hc => ⟨fun h0 => ⟨fun hz => ⟨hA (by omega) (by omega), hB (by omega) (by omega)⟩, fun hz => ?_⟩, fun h0 => ⟨hA (by omega) (by omega), hB (by omega) (by omega)⟩⟩⟩
    · rw [hrd, if_neg (by omega), if_pos (by omega)]
    · rw [hrd, if_pos (by omega)]; rfl
  · rw [hrd, rdNumAt_nine (by omega)]; rfl
  · rw [hrd, List.drop_eq_nil_of_le (by simp; omega)]; rfl
theorem a_from {h : Hp} (S : ByteArray) : ACalls Try.prog 19 [.str S] h (fun a h' => a = .ptr h.length 0 ∧ h' = h ++ [iObj S (false, 0)]) := by
  refine acalls_of mixed F_pack_From_ok (Nat.le_of_ble_eq_true rfl) ?_; simp only [F_pack_From, wk,if_true,if_false,forall_const,implies_true,ne_eq,eq_self,Nat.reduceEqDiff,Nat.reduceAdd,Nat.reduceMul,Nat.reduceSub,Nat.reduceLeDiff,Nat.reduceLT,Int.reduceEq,Int.reduceLT,Int.reduceLE,Int.reduceAdd,Int.reduceSub,Int.reduceMul,Int.reduceNeg,Int.reduceNe,reduceCtorEq,Int.reduceToNat,↓reduceIte]
  rfl
theorem a_left {h : Hp} {id : Nat} {S : ByteArray} {s : Bool × Nat} (ho : h[id]? = some (iObj S s)) (hs : S.size ≤ 1000000000000) (hp : s.2 ≤ S.size) :
    ACalls Try.prog 43 [.ptr id 0] h (fun a h' => a = .int .i64 (if s.1 then 0 else ((S.size - s.2 : Nat) : Int)) ∧ h = h') := by
  obtain ⟨bad, p⟩ := s
  simp only [iObj] at ho hp ⊢
  refine acalls_of mixed F_pack_In_Left_ok (Nat.le_of_ble_eq_true rfl) ?_; simp only [F_pack_In_Left, wk,if_true,if_false,forall_const,implies_true,ne_eq,eq_self,Nat.reduceEqDiff,Nat.reduceAdd,Nat.reduceMul,Nat.reduceSub,Nat.reduceLeDiff,Nat.reduceLT,Int.reduceEq,Int.reduceLT,Int.reduceLE,Int.reduceAdd,Int.reduceSub,Int.reduceMul,Int.reduceNeg,Int.reduceNe,reduceCtorEq,Int.reduceToNat,↓reduceIte]
  refine ACalls.use (a_well ho) ?_; rintro _ _ ⟨rfl, rfl⟩; simp only [wk,if_true,if_false,forall_const,implies_true,ne_eq,eq_self,Nat.reduceEqDiff,Nat.reduceAdd,Nat.reduceMul,Nat.reduceSub,Nat.reduceLeDiff,Nat.reduceLT,Int.reduceEq,Int.reduceLT,Int.reduceLE,Int.reduceAdd,Int.reduceSub,Int.reduceMul,Int.reduceNeg,Int.reduceNe,reduceCtorEq,Int.reduceToNat,↓reduceIte, ho]
  refine ⟨fun hb => ?_, fun hb => ?_⟩ <;> subst hb
  · rfl
  · exact ⟨inR_of (by omega) (by omega), int_eq (by simp; omega)⟩
theorem a_idone {h : Hp} {id : Nat} {S : ByteArray} {s : Bool × Nat} (ho : h[id]? = some (iObj S s)) (hs : S.size ≤ 1000000000000) (hp : s.2 ≤ S.size) :
    ACalls Try.prog 22 [.ptr id 0] h (fun a h' => a = .int .i64 (eI (s.1 || decide (s.2 < S.size))) ∧ h' = h.set id (iObj S (s.1 || decide (s.2 < S.size), s.2))) := by
  obtain ⟨bad, p⟩ := s
  simp only [iObj] at ho hp ⊢
  refine acalls_of mixed F_pack_In_Done_ok (Nat.le_of_ble_eq_true rfl) ?_; simp only [F_pack_In_Done, wk,if_true,if_false,forall_const,implies_true,ne_eq,eq_self,Nat.reduceEqDiff,Nat.reduceAdd,Nat.reduceMul,Nat.reduceSub,Nat.reduceLeDiff,Nat.reduceLT,Int.reduceEq,Int.reduceLT,Int.reduceLE,Int.reduceAdd,Int.reduceSub,Int.reduceMul,Int.reduceNeg,Int.reduceNe,reduceCtorEq,Int.reduceToNat,↓reduceIte]
  refine ACalls.use (a_left (s := (bad, p)) ho hs hp) ?_; rintro _ _ ⟨rfl, rfl⟩; simp only [wk,if_true,if_false,forall_const,implies_true,ne_eq,eq_self,Nat.reduceEqDiff,Nat.reduceAdd,Nat.reduceMul,Nat.reduceSub,Nat.reduceLeDiff,Nat.reduceLT,Int.reduceEq,Int.reduceLT,Int.reduceLE,Int.reduceAdd,Int.reduceSub,Int.reduceMul,Int.reduceNeg,Int.reduceNe,reduceCtorEq,Int.reduceToNat,↓reduceIte, ho]
  have hself' := hself ho
  cases bad with
  | true => exact ⟨fun h => absurd h (by simp), fun _ => ⟨rfl, hself'.symm⟩⟩
  | false =>
    refine ⟨fun hl => ?_, fun hl => ?_⟩
    · have hlt : p < S.size := by simp at hl; omega
      refine ACalls.use (a_fail ho) ?_; rintro _ _ ⟨rfl, rfl⟩; simp only [wk,if_true,if_false,forall_const,implies_true,ne_eq,eq_self,Nat.reduceEqDiff,Nat.reduceAdd,Nat.reduceMul,Nat.reduceSub,Nat.reduceLeDiff,Nat.reduceLT,Int.reduceEq,Int.reduceLT,Int.reduceLE,Int.reduceAdd,Int.reduceSub,Int.reduceMul,Int.reduceNeg,Int.reduceNe,reduceCtorEq,Int.reduceToNat,↓reduceIte, hset ho]
      rw [decide_eq_true hlt]; exact ⟨rfl, rfl⟩
    · have hlt : ¬ p < S.size := by simp at hl; omega
      rw [decide_eq_false hlt]; exact ⟨rfl, hself'.symm⟩
def stO {α : Type} (r : Option (α × Nat)) (q : Nat) : Bool × Nat :=
  match r with
  | some (_, p) => (false, p)
  | none => (true, q)
def vI : Option (Nat × Nat) → AV
  | some (n, _) => .int .i64 n
  | none => .int .i64 0
def vS : Option (ByteArray × Nat) → AV
  | some (s, _) => .str s
  | none => .str ⟨#[]⟩
def rNum (S : ByteArray) (most : Int) (p : Nat) : Option (Nat × Nat) :=
  match rdNum (S.data.toList.drop p) with
  | some (n, m) => if (n : Int) ≤ most then some (n, p + m) else none
  | none => none
theorem extract_end (S : ByteArray) (p : Nat) : (S.extract p S.size).data.toList = S.data.toList.drop p := by
  simp only [ByteArray.data_extract, Array.toList_extract, List.extract_eq_take_drop]
  rw [List.take_of_length_le (by simp)]
theorem rNum_le {S : ByteArray} {most : Int} {p n q : Nat} (h : rNum S most p = some (n, q)) (hp : p ≤ S.size) : p < q ∧ q ≤ S.size ∧ n ≤ 4611686018427387904 ∧ (n : Int) ≤ most := by
  unfold rNum at h
  split at h
  · next n' m hr =>
    have := rdNumAt_size _ _ _ _ _ hr
    simp at this
    split at h
    · simp only [Option.some.injEq, Prod.mk.injEq] at h; omega
    · cases h
  · cases h
set_option maxHeartbeats 1000000 in
theorem a_inum {h : Hp} {id : Nat} {S : ByteArray} {s : Bool × Nat} (most : Int) (ho : h[id]? = some (iObj S s)) (hs : S.size ≤ 1000000000000) (hp : s.2 ≤ S.size) :
    ACalls Try.prog 21 [.ptr id 0, .int .i64 most] h (fun a h' => a = vI (if s.1 then none else rNum S most s.2) ∧ h' = h.set id (iObj S (stO (if s.1 then none else rNum S most s.2) s.2))) := by
  obtain ⟨bad, p⟩ := s
  simp only [iObj] at ho hp ⊢
  refine acalls_of mixed F_pack_In_Num_ok (Nat.le_of_ble_eq_true rfl) ?_; simp only [F_pack_In_Num, wk,if_true,if_false,forall_const,implies_true,ne_eq,eq_self,Nat.reduceEqDiff,Nat.reduceAdd,Nat.reduceMul,Nat.reduceSub,Nat.reduceLeDiff,Nat.reduceLT,Int.reduceEq,Int.reduceLT,Int.reduceLE,Int.reduceAdd,Int.reduceSub,Int.reduceMul,Int.reduceNeg,Int.reduceNe,reduceCtorEq,Int.reduceToNat,↓reduceIte]
  refine ACalls.use (a_well ho) ?_; rintro _ _ ⟨rfl, rfl⟩; simp only [wk,if_true,if_false,forall_const,implies_true,ne_eq,eq_self,Nat.reduceEqDiff,Nat.reduceAdd,Nat.reduceMul,Nat.reduceSub,Nat.reduceLeDiff,Nat.reduceLT,Int.reduceEq,Int.reduceLT,Int.reduceLE,Int.reduceAdd,Int.reduceSub,Int.reduceMul,Int.reduceNeg,Int.reduceNe,reduceCtorEq,Int.reduceToNat,↓reduceIte, ho]
  refine ⟨fun hb => ?_, fun hb => ?_⟩ <;> subst hb
  · exact ⟨rfl, (hself ho).symm⟩
  refine ⟨⟨by omega, by omega, by omega⟩, ?_⟩
  rw [show (p : Int).toNat = p by omega, show (S.size : Int).toNat = S.size by omega]
  refine ⟨_, p_number (S.extract p S.size) (by simp; omega), ?_⟩
  rw [extract_end]
  simp only [rNum, Bool.false_eq_true, if_false]
  cases hr : rdNum (S.data.toList.drop p) with
  | none =>
    simp only [wk,if_true,if_false,forall_const,implies_true,ne_eq,eq_self,Nat.reduceEqDiff,Nat.reduceAdd,Nat.reduceMul,Nat.reduceSub,Nat.reduceLeDiff,Nat.reduceLT,Int.reduceEq,Int.reduceLT,Int.reduceLE,Int.reduceAdd,Int.reduceSub,Int.reduceMul,Int.reduceNeg,Int.reduceNe,reduceCtorEq,Int.reduceToNat,↓reduceIte, nums]
    refine ACalls.use (a_fail ho) ?_; rintro _ _ ⟨rfl, rfl⟩; simp only [wk,if_true,if_false,forall_const,implies_true,ne_eq,eq_self,Nat.reduceEqDiff,Nat.reduceAdd,Nat.reduceMul,Nat.reduceSub,Nat.reduceLeDiff,Nat.reduceLT,Int.reduceEq,Int.reduceLT,Int.reduceLE,Int.reduceAdd,Int.reduceSub,Int.reduceMul,Int.reduceNeg,Int.reduceNe,reduceCtorEq,Int.reduceToNat,↓reduceIte, hset ho]
    exact ⟨rfl, rfl⟩
  | some nm =>
    obtain ⟨n, m⟩ := nm
    have hsz := rdNumAt_size _ _ _ _ _ hr
    simp at hsz
    simp only [wk,if_true,if_false,forall_const,implies_true,ne_eq,eq_self,Nat.reduceEqDiff,Nat.reduceAdd,Nat.reduceMul,Nat.reduceSub,Nat.reduceLeDiff,Nat.reduceLT,Int.reduceEq,Int.reduceLT,Int.reduceLE,Int.reduceAdd,Int.reduceSub,Int.reduceMul,Int.reduceNeg,Int.reduceNe,reduceCtorEq,Int.reduceToNat,↓reduceIte, nums]
    refine ⟨fun hm => ⟨fun hgt => ?_, fun hle => ?_⟩, fun hm => by omega⟩
    · refine ACalls.use (a_fail ho) ?_; rintro _ _ ⟨rfl, rfl⟩; simp only [wk,if_true,if_false,forall_const,implies_true,ne_eq,eq_self,Nat.reduceEqDiff,Nat.reduceAdd,Nat.reduceMul,Nat.reduceSub,Nat.reduceLeDiff,Nat.reduceLT,Int.reduceEq,Int.reduceLT,Int.reduceLE,Int.reduceAdd,Int.reduceSub,Int.reduceMul,Int.reduceNeg,Int.reduceNe,reduceCtorEq,Int.reduceToNat,↓reduceIte, hset ho]
      rw [if_neg (by omega)]; exact ⟨rfl, rfl⟩
    · simp only [wk,if_true,if_false,forall_const,implies_true,ne_eq,eq_self,Nat.reduceEqDiff,Nat.reduceAdd,Nat.reduceMul,Nat.reduceSub,Nat.reduceLeDiff,Nat.reduceLT,Int.reduceEq,Int.reduceLT,Int.reduceLE,Int.reduceAdd,Int.reduceSub,Int.reduceMul,Int.reduceNeg,Int.reduceNe,reduceCtorEq,Int.reduceToNat,↓reduceIte, ho]
      (repeat (refine And.intro (by first | omega | exact inR_of (by omega) (by omega) | exact ⟨by omega, by omega⟩ | exact ⟨by omega, by omega, by omega⟩ | rfl) ?_))
      rw [if_pos (by omega)]
      exact ⟨rfl, rfl⟩
set_option maxHeartbeats 1000000 in
theorem a_take {h : Hp} {id : Nat} {S : ByteArray} {s : Bool × Nat} (n : Nat) (ho : h[id]? = some (iObj S s)) (hs : S.size ≤ 1000000000000) (hp : s.2 ≤ S.size) (hn : n ≤ 4611686018427387904) :
    ACalls Try.prog 57 [.ptr id 0, .int .i64 n] h (fun a h' => a = vS (if s.1 ∨ S.size < s.2 + n then none else some (S.extract s.2 (s.2 + n), s.2 + n)) ∧ h' = h.set id (iObj S (stO (if s.1 ∨ S.size < s.2 + n then none else some (S.extract s.2 (s.2 + n), s.2 + n)) s.2))) := by
  obtain ⟨bad, p⟩ := s
  simp only [iObj] at ho hp ⊢
  refine acalls_of mixed F_pack_In_take_ok (Nat.le_of_ble_eq_true rfl) ?_; simp only [F_pack_In_take, wk,if_true,if_false,forall_const,implies_true,ne_eq,eq_self,Nat.reduceEqDiff,Nat.reduceAdd,Nat.reduceMul,Nat.reduceSub,Nat.reduceLeDiff,Nat.reduceLT,Int.reduceEq,Int.reduceLT,Int.reduceLE,Int.reduceAdd,Int.reduceSub,Int.reduceMul,Int.reduceNeg,Int.reduceNe,reduceCtorEq,Int.reduceToNat,↓reduceIte]
  refine ⟨_, _, (a_well ho).mono (fun _ _ h => ⟨h.1, h.2.symm⟩), SealEq.refl h, ?_⟩
  simp only [wk,if_true,if_false,forall_const,implies_true,ne_eq,eq_self,Nat.reduceEqDiff,Nat.reduceAdd,Nat.reduceMul,Nat.reduceSub,Nat.reduceLeDiff,Nat.reduceLT,Int.reduceEq,Int.reduceLT,Int.reduceLE,Int.reduceAdd,Int.reduceSub,Int.reduceMul,Int.reduceNeg,Int.reduceNe,reduceCtorEq,Int.reduceToNat,↓reduceIte, ho]
  refine ⟨fun hb => ⟨inR_of (by omega) (by omega), fun hgt => ?_, fun hle => ?_⟩, fun hb => ?_⟩ <;> subst hb
  · refine ACalls.use (a_fail ho) ?_; rintro _ _ ⟨rfl, rfl⟩; simp only [wk,if_true,if_false,forall_const,implies_true,ne_eq,eq_self,Nat.reduceEqDiff,Nat.reduceAdd,Nat.reduceMul,Nat.reduceSub,Nat.reduceLeDiff,Nat.reduceLT,Int.reduceEq,Int.reduceLT,Int.reduceLE,Int.reduceAdd,Int.reduceSub,Int.reduceMul,Int.reduceNeg,Int.reduceNe,reduceCtorEq,Int.reduceToNat,↓reduceIte, hset ho]
    refine ACalls.use (a_well (hset ho _)) ?_; rintro _ _ ⟨rfl, rfl⟩; simp only [wk,if_true,if_false,forall_const,implies_true,ne_eq,eq_self,Nat.reduceEqDiff,Nat.reduceAdd,Nat.reduceMul,Nat.reduceSub,Nat.reduceLeDiff,Nat.reduceLT,Int.reduceEq,Int.reduceLT,Int.reduceLE,Int.reduceAdd,Int.reduceSub,Int.reduceMul,Int.reduceNeg,Int.reduceNe,reduceCtorEq,Int.reduceToNat,↓reduceIte, hset ho]
    rw [if_pos (Or.inr (by omega))]; exact ⟨rfl, rfl⟩
  · refine ACalls.use (a_well ho) ?_; rintro _ _ ⟨rfl, rfl⟩; simp only [wk,if_true,if_false,forall_const,implies_true,ne_eq,eq_self,Nat.reduceEqDiff,Nat.reduceAdd,Nat.reduceMul,Nat.reduceSub,Nat.reduceLeDiff,Nat.reduceLT,Int.reduceEq,Int.reduceLT,Int.reduceLE,Int.reduceAdd,Int.reduceSub,Int.reduceMul,Int.reduceNeg,Int.reduceNe,reduceCtorEq,Int.reduceToNat,↓reduceIte, ho]
    (repeat (refine And.intro (by first | omega | exact inR_of (by omega) (by omega) | exact ⟨by omega, by omega⟩ | exact ⟨by omega, by omega, by omega⟩ | rfl) ?_))
    rw [if_neg (by simp; omega), show (p : Int).toNat = p by omega, show ((p : Int) + n).toNat = p + n by omega]
    exact ⟨rfl, rfl⟩
  · refine ACalls.use (a_well ho) ?_; rintro _ _ ⟨rfl, rfl⟩; simp only [wk,if_true,if_false,forall_const,implies_true,ne_eq,eq_self,Nat.reduceEqDiff,Nat.reduceAdd,Nat.reduceMul,Nat.reduceSub,Nat.reduceLeDiff,Nat.reduceLT,Int.reduceEq,Int.reduceLT,Int.reduceLE,Int.reduceAdd,Int.reduceSub,Int.reduceMul,Int.reduceNeg,Int.reduceNe,reduceCtorEq,Int.reduceToNat,↓reduceIte, ho]
    exact ⟨rfl, (hself ho).symm⟩
end Go.Proofs.Ytpjlkefadnbgdaa

/- What pack's In does: counts, texts, words, sets. -/
-- tight
namespace Go.Proofs.Ytpjlkefadnbgdaa
set_option linter.unusedSimpArgs false
set_option linter.unusedVariables false
open Go.RowKit Go.Lib

def rTake (S : ByteArray) (n p : Nat) : Option (ByteArray × Nat) := if S.size < p + n then none else some (S.extract p (p + n), p + n)
theorem a_take' {h : Hp} {id : Nat} {S : ByteArray} {s : Bool × Nat} (n : Nat) (ho : h[id]? = some (iObj S s)) (hs : S.size ≤ 1000000000000) (hp : s.2 ≤ S.size) (hn : n ≤ 4611686018427387904) :
    ACalls Try.prog 57 [.ptr id 0, .int .i64 n] h (fun a h' => a = vS (if s.1 then none else rTake S n s.2) ∧ h' = h.set id (iObj S (stO (if s.1 then none else rTake S n s.2) s.2))) := by
  have := a_take n ho hs hp hn
  have e : (if s.1 = true ∨ S.size < s.2 + n then none else some (S.extract s.2 (s.2 + n), s.2 + n)) = (if s.1 = true then none else rTake S n s.2) := by
    unfold rTake
    by_cases h1 : s.1 = true
    · rw [if_pos (Or.inl h1), if_pos h1]
    · rw [if_neg h1]
      by_cases h2 : S.size < s.2 + n
      · rw [if_pos (Or.inr h2), if_pos h2]
      · rw [if_neg (by simp [h1, h2]), if_neg h2]
  rw [e] at this
  exact this
def rCount (S : ByteArray) (most p : Nat) : Option (Nat × Nat) := if S.size < p + 1 then none else if 1 ≤ byteAt S p ∧ byteAt S p ≤ most then some (byteAt S p, p + 1) else none
def qCount (S : ByteArray) (bad : Bool) (p : Nat) : Nat := if bad ∨ S.size < p + 1 then p else p + 1
theorem byteAt_extract {S : ByteArray} {p n : Nat} (h : p + n ≤ S.size) (hn : 0 < n) : byteAt (S.extract p (p + n)) 0 = byteAt S p := by
  rw [byteAt_eq (by simp; omega), byteAt_eq (by omega)]
  simp [ByteArray.getElem_extract]
theorem byteAt_lt (S : ByteArray) (p : Nat) : byteAt S p < 256 := by
  unfold byteAt
  cases S.data.toList[p]? with
  | none => simp
  | some b => exact b.toNat_lt
theorem deg_vS (r : Option (ByteArray × Nat)) : deg (vS r) = vS r := by cases r <;> rfl
theorem wrap_byte (n : Nat) (h : n < 256) : IntKind.i64.wrap (n : Int) = n := by rw [IntKind.wrap_i64]; omega
set_option maxHeartbeats 1000000 in
theorem a_count {h : Hp} {id : Nat} {S : ByteArray} {s : Bool × Nat} (most : Nat) (ho : h[id]? = some (iObj S s)) (hs : S.size ≤ 1000000000000) (hp : s.2 ≤ S.size) :
    ACalls Try.prog 58 [.ptr id 0, .int .i64 most] h (fun a h' => a = vI (if s.1 then none else rCount S most s.2) ∧ h' = h.set id (iObj S (stO (if s.1 then none else rCount S most s.2) (qCount S s.1 s.2)))) := by
  obtain ⟨bad, p⟩ := s
  refine acalls_of mixed F_pack_In_count_ok (Nat.le_of_ble_eq_true rfl) ?_; simp only [F_pack_In_count, wk,if_true,if_false,forall_const,implies_true,ne_eq,eq_self,Nat.reduceEqDiff,Nat.reduceAdd,Nat.reduceMul,Nat.reduceSub,Nat.reduceLeDiff,Nat.reduceLT,Int.reduceEq,Int.reduceLT,Int.reduceLE,Int.reduceAdd,Int.reduceSub,Int.reduceMul,Int.reduceNeg,Int.reduceNe,reduceCtorEq,Int.reduceToNat,↓reduceIte]
  refine ACalls.use (a_take' (s := (bad, p)) 1 ho hs hp (by omega)) ?_; rintro _ _ ⟨rfl, rfl⟩; simp only [wk,if_true,if_false,forall_const,implies_true,ne_eq,eq_self,Nat.reduceEqDiff,Nat.reduceAdd,Nat.reduceMul,Nat.reduceSub,Nat.reduceLeDiff,Nat.reduceLT,Int.reduceEq,Int.reduceLT,Int.reduceLE,Int.reduceAdd,Int.reduceSub,Int.reduceMul,Int.reduceNeg,Int.reduceNe,reduceCtorEq,Int.reduceToNat,↓reduceIte]
  have hbt := byteAt_lt S p
  cases bad with
  | true =>
    simp only [if_true, stO, vS, wk,if_true,if_false,forall_const,implies_true,ne_eq,eq_self,Nat.reduceEqDiff,Nat.reduceAdd,Nat.reduceMul,Nat.reduceSub,Nat.reduceLeDiff,Nat.reduceLT,Int.reduceEq,Int.reduceLT,Int.reduceLE,Int.reduceAdd,Int.reduceSub,Int.reduceMul,Int.reduceNeg,Int.reduceNe,reduceCtorEq,Int.reduceToNat,↓reduceIte]
    refine ACalls.use (a_well (bad := true) (hset ho _)) ?_; rintro _ _ ⟨rfl, rfl⟩; simp only [wk,if_true,if_false,forall_const,implies_true,ne_eq,eq_self,Nat.reduceEqDiff,Nat.reduceAdd,Nat.reduceMul,Nat.reduceSub,Nat.reduceLeDiff,Nat.reduceLT,Int.reduceEq,Int.reduceLT,Int.reduceLE,Int.reduceAdd,Int.reduceSub,Int.reduceMul,Int.reduceNeg,Int.reduceNe,reduceCtorEq,Int.reduceToNat,↓reduceIte, hset ho]
    exact ⟨rfl, by simp [qCount, stO]⟩
  | false =>
    simp only [Bool.false_eq_true, if_false, rTake, rCount, qCount, false_or]
    by_cases hz : S.size < p + 1
    · simp only [if_pos hz, stO, vS, wk,if_true,if_false,forall_const,implies_true,ne_eq,eq_self,Nat.reduceEqDiff,Nat.reduceAdd,Nat.reduceMul,Nat.reduceSub,Nat.reduceLeDiff,Nat.reduceLT,Int.reduceEq,Int.reduceLT,Int.reduceLE,Int.reduceAdd,Int.reduceSub,Int.reduceMul,Int.reduceNeg,Int.reduceNe,reduceCtorEq,Int.reduceToNat,↓reduceIte]
      refine ACalls.use (a_well (bad := true) (hset ho _)) ?_; rintro _ _ ⟨rfl, rfl⟩; simp only [wk,if_true,if_false,forall_const,implies_true,ne_eq,eq_self,Nat.reduceEqDiff,Nat.reduceAdd,Nat.reduceMul,Nat.reduceSub,Nat.reduceLeDiff,Nat.reduceLT,Int.reduceEq,Int.reduceLT,Int.reduceLE,Int.reduceAdd,Int.reduceSub,Int.reduceMul,Int.reduceNeg,Int.reduceNe,reduceCtorEq,Int.reduceToNat,↓reduceIte, hset ho]
      rfl
    · simp only [if_neg hz, stO, vS, wk,if_true,if_false,forall_const,implies_true,ne_eq,eq_self,Nat.reduceEqDiff,Nat.reduceAdd,Nat.reduceMul,Nat.reduceSub,Nat.reduceLeDiff,Nat.reduceLT,Int.reduceEq,Int.reduceLT,Int.reduceLE,Int.reduceAdd,Int.reduceSub,Int.reduceMul,Int.reduceNeg,Int.reduceNe,reduceCtorEq,Int.reduceToNat,↓reduceIte]
      refine ACalls.use (a_well (bad := false) (hset ho _)) ?_; rintro _ _ ⟨rfl, rfl⟩; simp only [wk,if_true,if_false,forall_const,implies_true,ne_eq,eq_self,Nat.reduceEqDiff,Nat.reduceAdd,Nat.reduceMul,Nat.reduceSub,Nat.reduceLeDiff,Nat.reduceLT,Int.reduceEq,Int.reduceLT,Int.reduceLE,Int.reduceAdd,Int.reduceSub,Int.reduceMul,Int.reduceNeg,Int.reduceNe,reduceCtorEq,Int.reduceToNat,↓reduceIte, hset ho]
      refine ⟨by simp; omega, ?_⟩
      rw [byteAt_extract (by omega) (by omega), wrap_byte _ hbt]
      refine ⟨fun h1 => ⟨fun h2 => ?_, fun h2 => ?_⟩, fun h1 => ?_⟩
      · refine ACalls.use (a_fail (hset ho _)) ?_; rintro _ _ ⟨rfl, rfl⟩; simp only [wk,if_true,if_false,forall_const,implies_true,ne_eq,eq_self,Nat.reduceEqDiff,Nat.reduceAdd,Nat.reduceMul,Nat.reduceSub,Nat.reduceLeDiff,Nat.reduceLT,Int.reduceEq,Int.reduceLT,Int.reduceLE,Int.reduceAdd,Int.reduceSub,Int.reduceMul,Int.reduceNeg,Int.reduceNe,reduceCtorEq,Int.reduceToNat,↓reduceIte, hset ho]
        rw [if_neg (by omega)]; exact ⟨rfl, rfl⟩
      · rw [if_pos (by omega)]; exact ⟨rfl, rfl⟩
      · refine ACalls.use (a_fail (hset ho _)) ?_; rintro _ _ ⟨rfl, rfl⟩; simp only [wk,if_true,if_false,forall_const,implies_true,ne_eq,eq_self,Nat.reduceEqDiff,Nat.reduceAdd,Nat.reduceMul,Nat.reduceSub,Nat.reduceLeDiff,Nat.reduceLT,Int.reduceEq,Int.reduceLT,Int.reduceLE,Int.reduceAdd,Int.reduceSub,Int.reduceMul,Int.reduceNeg,Int.reduceNe,reduceCtorEq,Int.reduceToNat,↓reduceIte, hset ho]
        rw [if_neg (by omega)]; exact ⟨rfl, rfl⟩
def rText (S : ByteArray) (most : Int) (p : Nat) : Option (ByteArray × Nat) :=
  match rNum S most p with
  | some (n, q) => rTake S n q
  | none => none
set_option maxHeartbeats 1000000 in
theorem a_itext {h : Hp} {id : Nat} {S : ByteArray} {s : Bool × Nat} (most : Int) (ho : h[id]? = some (iObj S s)) (hs : S.size ≤ 1000000000000) (hp : s.2 ≤ S.size) :
    ∃ q, q ≤ S.size ∧ ACalls Try.prog 55 [.ptr id 0, .int .i64 most] h (fun a h' => a = vS (if s.1 then none else rText S most s.2) ∧ h' = h.set id (iObj S (stO (if s.1 then none else rText S most s.2) q))) := by
  obtain ⟨bad, p⟩ := s
  simp only at hp
  refine ⟨(stO (if bad then none else rNum S most p) p).2, ?_, ?_⟩
  · cases hr : (if bad then none else rNum S most p) with
    | none => exact hp
    | some x =>
      split at hr
      · cases hr
      · have := rNum_le hr hp
        simp only [stO]; omega
  refine acalls_of mixed F_pack_In_Text_ok (Nat.le_of_ble_eq_true rfl) ?_; simp only [F_pack_In_Text, wk,if_true,if_false,forall_const,implies_true,ne_eq,eq_self,Nat.reduceEqDiff,Nat.reduceAdd,Nat.reduceMul,Nat.reduceSub,Nat.reduceLeDiff,Nat.reduceLT,Int.reduceEq,Int.reduceLT,Int.reduceLE,Int.reduceAdd,Int.reduceSub,Int.reduceMul,Int.reduceNeg,Int.reduceNe,reduceCtorEq,Int.reduceToNat,↓reduceIte]
  refine ACalls.use (a_inum (s := (bad, p)) most ho hs hp) ?_; rintro _ _ ⟨rfl, rfl⟩; simp only [wk,if_true,if_false,forall_const,implies_true,ne_eq,eq_self,Nat.reduceEqDiff,Nat.reduceAdd,Nat.reduceMul,Nat.reduceSub,Nat.reduceLeDiff,Nat.reduceLT,Int.reduceEq,Int.reduceLT,Int.reduceLE,Int.reduceAdd,Int.reduceSub,Int.reduceMul,Int.reduceNeg,Int.reduceNe,reduceCtorEq,Int.reduceToNat,↓reduceIte, hset ho, iObj]
  cases hr : (if bad = true then none else rNum S most p) with
  | none =>
    have hr' : (if bad = true then none else rText S most p) = none := by
      cases bad with
      | true => rfl
      | false =>
        simp only [Bool.false_eq_true, if_false] at hr ⊢
        simp only [rText, hr]
    rw [hr']
    simp only [vI, stO, wk,if_true,if_false,forall_const,implies_true,ne_eq,eq_self,Nat.reduceEqDiff,Nat.reduceAdd,Nat.reduceMul,Nat.reduceSub,Nat.reduceLeDiff,Nat.reduceLT,Int.reduceEq,Int.reduceLT,Int.reduceLE,Int.reduceAdd,Int.reduceSub,Int.reduceMul,Int.reduceNeg,Int.reduceNe,reduceCtorEq,Int.reduceToNat,↓reduceIte]
    refine ⟨fun hgt => by omega, fun _ => ?_⟩
    refine ACalls.use (a_take' (s := (true, p)) 0 (hset ho _) hs hp (by omega)) ?_; rintro _ _ ⟨rfl, rfl⟩; simp only [wk,if_true,if_false,forall_const,implies_true,ne_eq,eq_self,Nat.reduceEqDiff,Nat.reduceAdd,Nat.reduceMul,Nat.reduceSub,Nat.reduceLeDiff,Nat.reduceLT,Int.reduceEq,Int.reduceLT,Int.reduceLE,Int.reduceAdd,Int.reduceSub,Int.reduceMul,Int.reduceNeg,Int.reduceNe,reduceCtorEq,Int.reduceToNat,↓reduceIte, hset ho]
    exact ⟨rfl, rfl⟩
  | some x =>
    obtain ⟨n, q⟩ := x
    have hb : bad = false := by cases bad with
      | true => simp at hr
      | false => rfl
    subst hb
    simp only [Bool.false_eq_true, if_false] at hr ⊢
    have hle := rNum_le hr hp
    have hr' : rText S most p = rTake S n q := by simp only [rText, hr]
    rw [hr']
    simp only [vI, stO, wk,if_true,if_false,forall_const,implies_true,ne_eq,eq_self,Nat.reduceEqDiff,Nat.reduceAdd,Nat.reduceMul,Nat.reduceSub,Nat.reduceLeDiff,Nat.reduceLT,Int.reduceEq,Int.reduceLT,Int.reduceLE,Int.reduceAdd,Int.reduceSub,Int.reduceMul,Int.reduceNeg,Int.reduceNe,reduceCtorEq,Int.reduceToNat,↓reduceIte]
    refine ⟨fun hgt => ?_, fun hng => ?_⟩
    · refine ACalls.use (a_fail (bad := false) (hset ho _)) ?_; rintro _ _ ⟨rfl, rfl⟩; simp only [wk,if_true,if_false,forall_const,implies_true,ne_eq,eq_self,Nat.reduceEqDiff,Nat.reduceAdd,Nat.reduceMul,Nat.reduceSub,Nat.reduceLeDiff,Nat.reduceLT,Int.reduceEq,Int.reduceLT,Int.reduceLE,Int.reduceAdd,Int.reduceSub,Int.reduceMul,Int.reduceNeg,Int.reduceNe,reduceCtorEq,Int.reduceToNat,↓reduceIte, hset ho]
      simp only [rTake]
      rw [if_pos (by omega)]; exact ⟨rfl, rfl⟩
    · refine ACalls.use (a_take' (s := (false, q)) n (hset ho _) hs hle.2.1 (by omega)) ?_; rintro _ _ ⟨rfl, rfl⟩; simp only [wk,if_true,if_false,forall_const,implies_true,ne_eq,eq_self,Nat.reduceEqDiff,Nat.reduceAdd,Nat.reduceMul,Nat.reduceSub,Nat.reduceLeDiff,Nat.reduceLT,Int.reduceEq,Int.reduceLT,Int.reduceLE,Int.reduceAdd,Int.reduceSub,Int.reduceMul,Int.reduceNeg,Int.reduceNe,reduceCtorEq,Int.reduceToNat,↓reduceIte, hset ho, deg_vS]
      (try first | exact ⟨rfl, rfl⟩ | rfl | trivial)
def rWord (S : ByteArray) (p : Nat) : Option (ByteArray × Nat) :=
  if S.size < p + 1 then none else if S.size < p + 1 + 2 * byteAt S p then none else
  if wordMay (S.extract (p + 1) (p + 1 + 2 * byteAt S p)) then some (S.extract (p + 1) (p + 1 + 2 * byteAt S p), p + 1 + 2 * byteAt S p) else none
theorem rWord_eq (S : ByteArray) (p : Nat) : rWord S p = match rCount S 8 p with
    | some (n, q) => (match rTake S (2 * n) q with
      | some (w, q') => if wordMay w then some (w, q') else none
      | none => none)
    | none => none := by
  unfold rWord rCount
  by_cases h1 : S.size < p + 1
  · rw [if_pos h1, if_pos h1]
  · rw [if_neg h1, if_neg h1]
    by_cases h2 : 1 ≤ byteAt S p ∧ byteAt S p ≤ 8
    · rw [if_pos h2]
      simp only [rTake]
      by_cases h3 : S.size < p + 1 + 2 * byteAt S p
      · rw [if_pos h3, if_pos h3]
      · rw [if_neg h3, if_neg h3]
    · rw [if_neg h2]
      by_cases h3 : S.size < p + 1 + 2 * byteAt S p
      · rw [if_pos h3]
      · rw [if_neg h3, if_neg]
        intro hw
        have := wordMay_size hw
        simp at this
        omega
theorem wordMay_empty : wordMay ⟨#[]⟩ = false := by
  cases h : wordMay ⟨#[]⟩ with
  | false => rfl
  | true => have := wordMay_size h; exact absurd this.2.1 (by decide)
theorem rTake_le {S w : ByteArray} {n p q : Nat} (h : rTake S n p = some (w, q)) : q = p + n ∧ q ≤ S.size ∧ w = S.extract p q := by
  unfold rTake at h
  split at h
  · cases h
  · simp only [Option.some.injEq, Prod.mk.injEq] at h; obtain ⟨rfl, rfl⟩ := h; exact ⟨rfl, by omega, rfl⟩
theorem rCount_le {S : ByteArray} {most n p q : Nat} (h : rCount S most p = some (n, q)) : q = p + 1 ∧ q ≤ S.size ∧ 1 ≤ n ∧ n ≤ most ∧ n = byteAt S p := by
  unfold rCount at h
  split at h
  · cases h
  · split at h
    · simp only [Option.some.injEq, Prod.mk.injEq] at h; omega
    · cases h
theorem qCount_le {S : ByteArray} {bad : Bool} {p : Nat} (hp : p ≤ S.size) : qCount S bad p ≤ S.size := by
  unfold qCount
  split
  · exact hp
  · next h => simp at h; omega
set_option maxHeartbeats 1000000 in
theorem a_iword {h : Hp} {id : Nat} {S : ByteArray} {s : Bool × Nat} (ho : h[id]? = some (iObj S s)) (hs : S.size ≤ 1000000000000) (hp : s.2 ≤ S.size) :
    ∃ q, q ≤ S.size ∧ ACalls Try.prog 41 [.ptr id 0] h (fun a h' => a = vS (if s.1 then none else rWord S s.2) ∧ h' = h.set id (iObj S (stO (if s.1 then none else rWord S s.2) q))) := by
  obtain ⟨bad, p⟩ := s
  simp only at hp ⊢
  have hq1 := qCount_le (S := S) (bad := bad) hp
  have hgo : ∀ q, W Try.prog F_pack_In_Word.code (args0 0 [.ptr id 0]) h (kret F_pack_In_Word.rs (fun a h' => a = vS (if bad then none else rWord S p) ∧ h' = h.set id (iObj S (stO (if bad then none else rWord S p) q)))) → ACalls Try.prog 41 [.ptr id 0] h (fun a h' => a = vS (if bad then none else rWord S p) ∧ h' = h.set id (iObj S (stO (if bad then none else rWord S p) q))) := fun q hw => acalls_of mixed F_pack_In_Word_ok (Nat.le_of_ble_eq_true rfl) hw
  cases hr : (if bad = true then none else rCount S 8 p) with
  | none =>
    have hrw : (if bad = true then none else rWord S p) = none := by
      cases bad with
      | true => rfl
      | false =>
        simp only [Bool.false_eq_true, if_false] at hr ⊢
        rw [rWord_eq, hr]
    refine ⟨qCount S bad p, hq1, hgo _ ?_⟩
    rw [hrw]
    simp only [F_pack_In_Word, wk,if_true,if_false,forall_const,implies_true,ne_eq,eq_self,Nat.reduceEqDiff,Nat.reduceAdd,Nat.reduceMul,Nat.reduceSub,Nat.reduceLeDiff,Nat.reduceLT,Int.reduceEq,Int.reduceLT,Int.reduceLE,Int.reduceAdd,Int.reduceSub,Int.reduceMul,Int.reduceNeg,Int.reduceNe,reduceCtorEq,Int.reduceToNat,↓reduceIte]
    have hc := a_count (s := (bad, p)) 8 ho hs hp
    simp only [hr, vI, stO] at hc
    refine ACalls.use (hc) ?_; rintro _ _ ⟨rfl, rfl⟩; simp only [wk,if_true,if_false,forall_const,implies_true,ne_eq,eq_self,Nat.reduceEqDiff,Nat.reduceAdd,Nat.reduceMul,Nat.reduceSub,Nat.reduceLeDiff,Nat.reduceLT,Int.reduceEq,Int.reduceLT,Int.reduceLE,Int.reduceAdd,Int.reduceSub,Int.reduceMul,Int.reduceNeg,Int.reduceNe,reduceCtorEq,Int.reduceToNat,↓reduceIte, hset ho]
    refine ⟨inR_of (by omega) (by omega), ?_⟩
    refine ACalls.use (a_take' (s := (true, qCount S bad p)) 0 (hset ho _) hs hq1 (by omega)) ?_; rintro _ _ ⟨rfl, rfl⟩; simp only [wk,if_true,if_false,forall_const,implies_true,ne_eq,eq_self,Nat.reduceEqDiff,Nat.reduceAdd,Nat.reduceMul,Nat.reduceSub,Nat.reduceLeDiff,Nat.reduceLT,Int.reduceEq,Int.reduceLT,Int.reduceLE,Int.reduceAdd,Int.reduceSub,Int.reduceMul,Int.reduceNeg,Int.reduceNe,reduceCtorEq,Int.reduceToNat,↓reduceIte, hset ho, stO, vS, iObj]
    refine PCalls.use (p_wmay ⟨#[]⟩ (by decide)) ?_; simp only [wk,if_true,if_false,forall_const,implies_true,ne_eq,eq_self,Nat.reduceEqDiff,Nat.reduceAdd,Nat.reduceMul,Nat.reduceSub,Nat.reduceLeDiff,Nat.reduceLT,Int.reduceEq,Int.reduceLT,Int.reduceLE,Int.reduceAdd,Int.reduceSub,Int.reduceMul,Int.reduceNeg,Int.reduceNe,reduceCtorEq,Int.reduceToNat,↓reduceIte]
    rw [wordMay_empty]
    simp only [wk,if_true,if_false,forall_const,implies_true,ne_eq,eq_self,Nat.reduceEqDiff,Nat.reduceAdd,Nat.reduceMul,Nat.reduceSub,Nat.reduceLeDiff,Nat.reduceLT,Int.reduceEq,Int.reduceLT,Int.reduceLE,Int.reduceAdd,Int.reduceSub,Int.reduceMul,Int.reduceNeg,Int.reduceNe,reduceCtorEq,Int.reduceToNat,↓reduceIte]
    refine ACalls.use (a_fail (hset ho _)) ?_; rintro _ _ ⟨rfl, rfl⟩; simp only [wk,if_true,if_false,forall_const,implies_true,ne_eq,eq_self,Nat.reduceEqDiff,Nat.reduceAdd,Nat.reduceMul,Nat.reduceSub,Nat.reduceLeDiff,Nat.reduceLT,Int.reduceEq,Int.reduceLT,Int.reduceLE,Int.reduceAdd,Int.reduceSub,Int.reduceMul,Int.reduceNeg,Int.reduceNe,reduceCtorEq,Int.reduceToNat,↓reduceIte, hset ho]
    (try first | exact ⟨rfl, rfl⟩ | rfl | trivial)
  | some x =>
    obtain ⟨n, q⟩ := x
    have hb : bad = false := by cases bad with
      | true => simp at hr
      | false => rfl
    subst hb
    simp only [Bool.false_eq_true, if_false] at hr hgo ⊢
    have hle := rCount_le hr
    cases hr2 : rTake S (2 * n) q with
    | none =>
      have hrw : rWord S p = none := by rw [rWord_eq, hr]; simp only [hr2]
      refine ⟨q, hle.2.1, hgo _ ?_⟩
      rw [hrw]
      simp only [F_pack_In_Word, wk,if_true,if_false,forall_const,implies_true,ne_eq,eq_self,Nat.reduceEqDiff,Nat.reduceAdd,Nat.reduceMul,Nat.reduceSub,Nat.reduceLeDiff,Nat.reduceLT,Int.reduceEq,Int.reduceLT,Int.reduceLE,Int.reduceAdd,Int.reduceSub,Int.reduceMul,Int.reduceNeg,Int.reduceNe,reduceCtorEq,Int.reduceToNat,↓reduceIte]
      have hc := a_count (s := (false, p)) 8 ho hs hp
      simp only [Bool.false_eq_true, if_false, hr, vI, stO] at hc
      refine ACalls.use (hc) ?_; rintro _ _ ⟨rfl, rfl⟩; simp only [wk,if_true,if_false,forall_const,implies_true,ne_eq,eq_self,Nat.reduceEqDiff,Nat.reduceAdd,Nat.reduceMul,Nat.reduceSub,Nat.reduceLeDiff,Nat.reduceLT,Int.reduceEq,Int.reduceLT,Int.reduceLE,Int.reduceAdd,Int.reduceSub,Int.reduceMul,Int.reduceNeg,Int.reduceNe,reduceCtorEq,Int.reduceToNat,↓reduceIte, hset ho]
      refine ⟨inR_of (by omega) (by omega), ?_⟩
      have ht := a_take' (s := (false, q)) (2 * n) (hset ho (iObj S (false, q))) hs hle.2.1 (by omega)
      simp only [Bool.false_eq_true, if_false, hr2, vS, stO] at ht
      rw [show ((2 : Int) * (n : Int)) = ((2 * n : Nat) : Int) by omega]
      refine ACalls.use (ht) ?_; rintro _ _ ⟨rfl, rfl⟩; simp only [wk,if_true,if_false,forall_const,implies_true,ne_eq,eq_self,Nat.reduceEqDiff,Nat.reduceAdd,Nat.reduceMul,Nat.reduceSub,Nat.reduceLeDiff,Nat.reduceLT,Int.reduceEq,Int.reduceLT,Int.reduceLE,Int.reduceAdd,Int.reduceSub,Int.reduceMul,Int.reduceNeg,Int.reduceNe,reduceCtorEq,Int.reduceToNat,↓reduceIte, hset ho]
      refine PCalls.use (p_wmay ⟨#[]⟩ (by decide)) ?_; simp only [wk,if_true,if_false,forall_const,implies_true,ne_eq,eq_self,Nat.reduceEqDiff,Nat.reduceAdd,Nat.reduceMul,Nat.reduceSub,Nat.reduceLeDiff,Nat.reduceLT,Int.reduceEq,Int.reduceLT,Int.reduceLE,Int.reduceAdd,Int.reduceSub,Int.reduceMul,Int.reduceNeg,Int.reduceNe,reduceCtorEq,Int.reduceToNat,↓reduceIte]
      rw [wordMay_empty]
      simp only [wk,if_true,if_false,forall_const,implies_true,ne_eq,eq_self,Nat.reduceEqDiff,Nat.reduceAdd,Nat.reduceMul,Nat.reduceSub,Nat.reduceLeDiff,Nat.reduceLT,Int.reduceEq,Int.reduceLT,Int.reduceLE,Int.reduceAdd,Int.reduceSub,Int.reduceMul,Int.reduceNeg,Int.reduceNe,reduceCtorEq,Int.reduceToNat,↓reduceIte]
      refine ACalls.use (a_fail (bad := true) (hset ho _)) ?_; rintro _ _ ⟨rfl, rfl⟩; simp only [wk,if_true,if_false,forall_const,implies_true,ne_eq,eq_self,Nat.reduceEqDiff,Nat.reduceAdd,Nat.reduceMul,Nat.reduceSub,Nat.reduceLeDiff,Nat.reduceLT,Int.reduceEq,Int.reduceLT,Int.reduceLE,Int.reduceAdd,Int.reduceSub,Int.reduceMul,Int.reduceNeg,Int.reduceNe,reduceCtorEq,Int.reduceToNat,↓reduceIte, hset ho]
      (try first | exact ⟨rfl, rfl⟩ | rfl | trivial)
    | some y =>
      obtain ⟨w, q2⟩ := y
      have hle2 := rTake_le hr2
      refine ⟨q2, hle2.2.1, hgo _ ?_⟩
      have hrw : rWord S p = if wordMay w then some (w, q2) else none := by rw [rWord_eq, hr]; simp only [hr2]
      rw [hrw]
      simp only [F_pack_In_Word, wk,if_true,if_false,forall_const,implies_true,ne_eq,eq_self,Nat.reduceEqDiff,Nat.reduceAdd,Nat.reduceMul,Nat.reduceSub,Nat.reduceLeDiff,Nat.reduceLT,Int.reduceEq,Int.reduceLT,Int.reduceLE,Int.reduceAdd,Int.reduceSub,Int.reduceMul,Int.reduceNeg,Int.reduceNe,reduceCtorEq,Int.reduceToNat,↓reduceIte]
      have hc := a_count (s := (false, p)) 8 ho hs hp
      simp only [Bool.false_eq_true, if_false, hr, vI, stO] at hc
      refine ACalls.use (hc) ?_; rintro _ _ ⟨rfl, rfl⟩; simp only [wk,if_true,if_false,forall_const,implies_true,ne_eq,eq_self,Nat.reduceEqDiff,Nat.reduceAdd,Nat.reduceMul,Nat.reduceSub,Nat.reduceLeDiff,Nat.reduceLT,Int.reduceEq,Int.reduceLT,Int.reduceLE,Int.reduceAdd,Int.reduceSub,Int.reduceMul,Int.reduceNeg,Int.reduceNe,reduceCtorEq,Int.reduceToNat,↓reduceIte, hset ho]
      refine ⟨inR_of (by omega) (by omega), ?_⟩
      have ht := a_take' (s := (false, q)) (2 * n) (hset ho (iObj S (false, q))) hs hle.2.1 (by omega)
      simp only [Bool.false_eq_true, if_false, hr2, vS, stO] at ht
      rw [show ((2 : Int) * (n : Int)) = ((2 * n : Nat) : Int) by omega]
      refine ACalls.use (ht) ?_; rintro _ _ ⟨rfl, rfl⟩; simp only [wk,if_true,if_false,forall_const,implies_true,ne_eq,eq_self,Nat.reduceEqDiff,Nat.reduceAdd,Nat.reduceMul,Nat.reduceSub,Nat.reduceLeDiff,Nat.reduceLT,Int.reduceEq,Int.reduceLT,Int.reduceLE,Int.reduceAdd,Int.reduceSub,Int.reduceMul,Int.reduceNeg,Int.reduceNe,reduceCtorEq,Int.reduceToNat,↓reduceIte, hset ho]
      refine PCalls.use (p_wmay w (by rw [hle2.2.2]; simp; omega)) ?_; simp only [wk,if_true,if_false,forall_const,implies_true,ne_eq,eq_self,Nat.reduceEqDiff,Nat.reduceAdd,Nat.reduceMul,Nat.reduceSub,Nat.reduceLeDiff,Nat.reduceLT,Int.reduceEq,Int.reduceLT,Int.reduceLE,Int.reduceAdd,Int.reduceSub,Int.reduceMul,Int.reduceNeg,Int.reduceNe,reduceCtorEq,Int.reduceToNat,↓reduceIte]
      refine ⟨fun hw => ?_, fun hw => ?_⟩
      · refine ACalls.use (a_fail (bad := false) (hset ho _)) ?_; rintro _ _ ⟨rfl, rfl⟩; simp only [wk,if_true,if_false,forall_const,implies_true,ne_eq,eq_self,Nat.reduceEqDiff,Nat.reduceAdd,Nat.reduceMul,Nat.reduceSub,Nat.reduceLeDiff,Nat.reduceLT,Int.reduceEq,Int.reduceLT,Int.reduceLE,Int.reduceAdd,Int.reduceSub,Int.reduceMul,Int.reduceNeg,Int.reduceNe,reduceCtorEq,Int.reduceToNat,↓reduceIte, hset ho]
        rw [hw]; (try first | exact ⟨rfl, rfl⟩ | rfl | trivial)
      · rw [hw]; (try first | exact ⟨rfl, rfl⟩ | rfl | trivial)
def rWords (S : ByteArray) (p : Nat) : Nat → Option (List ByteArray × Nat)
  | 0 => some ([], p)
  | k + 1 => match rWords S p k with
    | some (l, q) => (match rWord S q with
      | some (w, q') => some (l ++ [w], q')
      | none => none)
    | none => none
def rSet (S : ByteArray) (p : Nat) : Option (List ByteArray × Nat) :=
  if S.size < p + 1 then none else
  match rWords S (p + 1) (byteAt S p) with
  | some (l, q) => if setMay l then some (l, q) else none
  | none => none
theorem rWord_le {S w : ByteArray} {p q : Nat} (h : rWord S p = some (w, q)) : p < q ∧ q ≤ S.size ∧ wordMay w = true ∧ w = S.extract (p + 1) q ∧ q = p + 1 + 2 * byteAt S p := by
  unfold rWord at h
  split at h
  · cases h
  · split at h
    · cases h
    · split at h
      · next hw =>
        simp only [Option.some.injEq, Prod.mk.injEq] at h
        obtain ⟨rfl, rfl⟩ := h
        exact ⟨by omega, by omega, hw, rfl, rfl⟩
      · cases h
theorem rWords_le {S : ByteArray} {p : Nat} (hp : p ≤ S.size) : ∀ {k : Nat} {l : List ByteArray} {q : Nat}, rWords S p k = some (l, q) → l.length = k ∧ p ≤ q ∧ q ≤ S.size ∧ ∀ w ∈ l, wordMay w = true
  | 0, l, q, h => by
    simp only [rWords, Option.some.injEq, Prod.mk.injEq] at h
    obtain ⟨rfl, rfl⟩ := h
    exact ⟨rfl, Nat.le_refl _, hp, fun w hw => by simp at hw⟩
  | k + 1, l, q, h => by
    simp only [rWords] at h
    split at h
    · next l' q' hr =>
      have ih := rWords_le hp hr
      split at h
      · next w q2 hr2 =>
        simp only [Option.some.injEq, Prod.mk.injEq] at h
        obtain ⟨rfl, rfl⟩ := h
        have h2 := rWord_le hr2
        refine ⟨by simp; omega, by omega, h2.2.1, fun x hx => ?_⟩
        simp only [List.mem_append, List.mem_singleton] at hx
        rcases hx with hx | rfl
        · exact ih.2.2.2 x hx
        · exact h2.2.2.1
      · cases h
    · cases h
def vL : Option (List ByteArray × Nat) → AV
  | some (l, _) => .lst .ro l.length (l.map .str)
  | none => .lst .clip 0 []
theorem rSet_eq (S : ByteArray) (p : Nat) (hp : p ≤ S.size) : rSet S p = match rCount S 16 p with
    | some (n, q) => (match rWords S q n with
      | some (l, q') => if setMay l then some (l, q') else none
      | none => none)
    | none => none := by
  unfold rSet rCount
  by_cases h1 : S.size < p + 1
  · rw [if_pos h1, if_pos h1]
  · rw [if_neg h1, if_neg h1]
    by_cases h2 : 1 ≤ byteAt S p ∧ byteAt S p ≤ 16
    · rw [if_pos h2]
    · rw [if_neg h2]
      cases hr : rWords S (p + 1) (byteAt S p) with
      | none => rfl
      | some x =>
        obtain ⟨l, q⟩ := x
        have := rWords_le (by omega) hr
        simp only
        rw [if_neg]
        intro hm
        have := (setMay_words hm).1
        omega
theorem vS_str (r : Option (ByteArray × Nat)) : ∃ w, vS r = .str w ∧ (∀ x q, r = some (x, q) → x = w) := by
  cases r with
  | none => exact ⟨_, rfl, fun _ _ h => by cases h⟩
  | some x => exact ⟨_, rfl, fun _ _ h => by cases h; rfl⟩
set_option maxRecDepth 100000 in
set_option maxHeartbeats 2000000 in
theorem a_iset {h : Hp} {id : Nat} {S : ByteArray} {s : Bool × Nat} (ho : h[id]? = some (iObj S s)) (hs : S.size ≤ 1000000000000) (hp : s.2 ≤ S.size) :
    ACalls Try.prog 56 [.ptr id 0] h (fun a h' => a = vL (if s.1 then none else rSet S s.2) ∧ ∃ q, q ≤ S.size ∧ h' = h.set id (iObj S (stO (if s.1 then none else rSet S s.2) q))) := by
  obtain ⟨bad, p⟩ := s
  simp only at hp ⊢
  have hq1 := qCount_le (S := S) (bad := bad) hp
  refine acalls_of mixed F_pack_In_Set_ok (Nat.le_of_ble_eq_true rfl) ?_; simp only [F_pack_In_Set, wk,if_true,if_false,forall_const,implies_true,ne_eq,eq_self,Nat.reduceEqDiff,Nat.reduceAdd,Nat.reduceMul,Nat.reduceSub,Nat.reduceLeDiff,Nat.reduceLT,Int.reduceEq,Int.reduceLT,Int.reduceLE,Int.reduceAdd,Int.reduceSub,Int.reduceMul,Int.reduceNeg,Int.reduceNe,reduceCtorEq,Int.reduceToNat,↓reduceIte]
  have hc := a_count (s := (bad, p)) 16 ho hs hp
  cases hr : (if bad = true then none else rCount S 16 p) with
  | none =>
    have hrw : (if bad = true then none else rSet S p) = none := by
      cases bad with
      | true => rfl
      | false =>
        simp only [Bool.false_eq_true, if_false] at hr ⊢
        rw [rSet_eq S p hp, hr]
    rw [hrw]
    simp only [hr, vI, stO] at hc
    refine ACalls.use (hc) ?_; rintro _ _ ⟨rfl, rfl⟩; simp only [wk,if_true,if_false,forall_const,implies_true,ne_eq,eq_self,Nat.reduceEqDiff,Nat.reduceAdd,Nat.reduceMul,Nat.reduceSub,Nat.reduceLeDiff,Nat.reduceLT,Int.reduceEq,Int.reduceLT,Int.reduceLE,Int.reduceAdd,Int.reduceSub,Int.reduceMul,Int.reduceNeg,Int.reduceNe,reduceCtorEq,Int.reduceToNat,↓reduceIte, hset ho]
    (repeat (refine And.intro (by first | omega | exact inR_of (by omega) (by omega) | exact ⟨by omega, by omega⟩ | exact ⟨by omega, by omega, by omega⟩ | rfl) ?_))
    refine W_loop (fun k fr h' => k = 0 ∧ fr = [(0, .ptr id 0), (4, .lst (.own 31) 0 []), (9, .int .i64 0), (10, .int .i64 0)] ∧ h' = h.set id (iObj S (true, qCount S bad p))) 0 ⟨rfl, rfl, rfl⟩ ?_
    rintro k fr h' ⟨rfl, rfl, rfl⟩
    simp only [wk,if_true,if_false,forall_const,implies_true,ne_eq,eq_self,Nat.reduceEqDiff,Nat.reduceAdd,Nat.reduceMul,Nat.reduceSub,Nat.reduceLeDiff,Nat.reduceLT,Int.reduceEq,Int.reduceLT,Int.reduceLE,Int.reduceAdd,Int.reduceSub,Int.reduceMul,Int.reduceNeg,Int.reduceNe,reduceCtorEq,Int.reduceToNat,↓reduceIte]
    refine ACalls.use (a_well (bad := true) (hset ho _)) ?_; rintro _ _ ⟨rfl, rfl⟩; simp only [wk,if_true,if_false,forall_const,implies_true,ne_eq,eq_self,Nat.reduceEqDiff,Nat.reduceAdd,Nat.reduceMul,Nat.reduceSub,Nat.reduceLeDiff,Nat.reduceLT,Int.reduceEq,Int.reduceLT,Int.reduceLE,Int.reduceAdd,Int.reduceSub,Int.reduceMul,Int.reduceNeg,Int.reduceNe,reduceCtorEq,Int.reduceToNat,↓reduceIte, hset ho]
    refine ACalls.use (a_fail (bad := true) (hset ho _)) ?_; rintro _ _ ⟨rfl, rfl⟩; simp only [wk,if_true,if_false,forall_const,implies_true,ne_eq,eq_self,Nat.reduceEqDiff,Nat.reduceAdd,Nat.reduceMul,Nat.reduceSub,Nat.reduceLeDiff,Nat.reduceLT,Int.reduceEq,Int.reduceLT,Int.reduceLE,Int.reduceAdd,Int.reduceSub,Int.reduceMul,Int.reduceNeg,Int.reduceNe,reduceCtorEq,Int.reduceToNat,↓reduceIte, hset ho]
    exact ⟨rfl, _, hq1, rfl⟩
  | some x =>
    obtain ⟨n, q⟩ := x
    have hb : bad = false := by cases bad with
      | true => simp at hr
      | false => rfl
    subst hb
    simp only [Bool.false_eq_true, if_false] at hr hc ⊢
    have hle := rCount_le hr
    have hrw := rSet_eq S p hp
    rw [hr] at hrw
    simp only at hrw
    rw [hrw]
    simp only [hr, vI, stO] at hc
    refine ACalls.use (hc) ?_; rintro _ _ ⟨rfl, rfl⟩; simp only [wk,if_true,if_false,forall_const,implies_true,ne_eq,eq_self,Nat.reduceEqDiff,Nat.reduceAdd,Nat.reduceMul,Nat.reduceSub,Nat.reduceLeDiff,Nat.reduceLT,Int.reduceEq,Int.reduceLT,Int.reduceLE,Int.reduceAdd,Int.reduceSub,Int.reduceMul,Int.reduceNeg,Int.reduceNe,reduceCtorEq,Int.reduceToNat,↓reduceIte, hset ho]
    refine ⟨⟨by omega, by omega, by omega⟩, ?_⟩
    refine W_loop (fun k fr h' => ∃ (i : Nat) (ws : List ByteArray) (q' : Nat), i ≤ n ∧ k = n - i ∧ ws.length = i ∧ q' ≤ S.size ∧ fr = [(0, .ptr id 0), (4, .lst (.own 31) i (ws.map .str)), (9, .int .i64 n), (10, .int .i64 i)] ∧ h' = h.set id (iObj S (stO (rWords S q i) q')) ∧ ∀ l q'', rWords S q i = some (l, q'') → ws = l) n ⟨0, [], q, by omega, by omega, rfl, hle.2.1, rfl, rfl, fun l q'' h => by simp only [rWords, Option.some.injEq, Prod.mk.injEq] at h; exact h.1⟩ ?_
    rintro k fr h' ⟨i, ws, q', hi, rfl, hwl, hq', rfl, rfl, hws⟩
    have hst : (stO (rWords S q i) q').2 ≤ S.size := by
      cases hw : rWords S q i with
      | none => exact hq'
      | some x => exact (rWords_le hle.2.1 hw).2.2.1
    simp only [wk,if_true,if_false,forall_const,implies_true,ne_eq,eq_self,Nat.reduceEqDiff,Nat.reduceAdd,Nat.reduceMul,Nat.reduceSub,Nat.reduceLeDiff,Nat.reduceLT,Int.reduceEq,Int.reduceLT,Int.reduceLE,Int.reduceAdd,Int.reduceSub,Int.reduceMul,Int.reduceNeg,Int.reduceNe,reduceCtorEq,Int.reduceToNat,↓reduceIte]
    refine ⟨fun hlt => ?_, fun hge => ?_⟩
    · obtain ⟨q2, hq2, hword⟩ := a_iword (s := stO (rWords S q i) q') (hset ho (iObj S (stO (rWords S q i) q'))) hs hst
      have hstep : stO (if (stO (rWords S q i) q').1 = true then none else rWord S (stO (rWords S q i) q').2) q2 = stO (rWords S q (i + 1)) q2 := by
        cases hw : rWords S q i with
        | none => simp only [rWords, hw, stO, if_true]
        | some x =>
          obtain ⟨l, q3⟩ := x
          simp only [rWords, hw, stO, Bool.false_eq_true, if_false]
          cases rWord S q3 <;> rfl
      obtain ⟨w, hwv, hwx⟩ := vS_str (if (stO (rWords S q i) q').1 = true then none else rWord S (stO (rWords S q i) q').2)
      have hval : ∀ l q'', rWords S q (i + 1) = some (l, q'') → ws ++ [w] = l := by
        intro l q'' he
        cases hw : rWords S q i with
        | none => simp only [rWords, hw] at he; cases he
        | some x =>
          obtain ⟨l', q3⟩ := x
          simp only [rWords, hw] at he
          simp only [hw, stO, Bool.false_eq_true, if_false] at hwx
          cases hw2 : rWord S q3 with
          | none => rw [hw2] at he; cases he
          | some y =>
            obtain ⟨w', q4⟩ := y
            rw [hw2] at he
            simp only [Option.some.injEq, Prod.mk.injEq] at he
            rw [hws l' q3 hw, ← hwx w' q4 hw2, he.1]
      rw [hwv, hstep] at hword
      refine ACalls.use (hword) ?_; rintro _ _ ⟨rfl, rfl⟩; simp only [wk,if_true,if_false,forall_const,implies_true,ne_eq,eq_self,Nat.reduceEqDiff,Nat.reduceAdd,Nat.reduceMul,Nat.reduceSub,Nat.reduceLeDiff,Nat.reduceLT,Int.reduceEq,Int.reduceLT,Int.reduceLE,Int.reduceAdd,Int.reduceSub,Int.reduceMul,Int.reduceNeg,Int.reduceNe,reduceCtorEq,Int.reduceToNat,↓reduceIte]
      (repeat (refine And.intro (by first | omega | exact inR_of (by omega) (by omega) | exact ⟨by omega, by omega⟩ | exact ⟨by omega, by omega, by omega⟩ | rfl) ?_))
      exact ⟨n - (i + 1), by omega, i + 1, ws ++ [w], q2, by omega, rfl, by simp [hwl], hq2, by simp, rfl, hval⟩
    · have hin : i = n := by omega
      subst hin
      cases hw : rWords S q i with
      | none =>
        simp only [stO, wk,if_true,if_false,forall_const,implies_true,ne_eq,eq_self,Nat.reduceEqDiff,Nat.reduceAdd,Nat.reduceMul,Nat.reduceSub,Nat.reduceLeDiff,Nat.reduceLT,Int.reduceEq,Int.reduceLT,Int.reduceLE,Int.reduceAdd,Int.reduceSub,Int.reduceMul,Int.reduceNeg,Int.reduceNe,reduceCtorEq,Int.reduceToNat,↓reduceIte]
        refine ACalls.use (a_well (bad := true) (hset ho _)) ?_; rintro _ _ ⟨rfl, rfl⟩; simp only [wk,if_true,if_false,forall_const,implies_true,ne_eq,eq_self,Nat.reduceEqDiff,Nat.reduceAdd,Nat.reduceMul,Nat.reduceSub,Nat.reduceLeDiff,Nat.reduceLT,Int.reduceEq,Int.reduceLT,Int.reduceLE,Int.reduceAdd,Int.reduceSub,Int.reduceMul,Int.reduceNeg,Int.reduceNe,reduceCtorEq,Int.reduceToNat,↓reduceIte, hset ho]
        refine ACalls.use (a_fail (bad := true) (hset ho _)) ?_; rintro _ _ ⟨rfl, rfl⟩; simp only [wk,if_true,if_false,forall_const,implies_true,ne_eq,eq_self,Nat.reduceEqDiff,Nat.reduceAdd,Nat.reduceMul,Nat.reduceSub,Nat.reduceLeDiff,Nat.reduceLT,Int.reduceEq,Int.reduceLT,Int.reduceLE,Int.reduceAdd,Int.reduceSub,Int.reduceMul,Int.reduceNeg,Int.reduceNe,reduceCtorEq,Int.reduceToNat,↓reduceIte, hset ho]
        exact ⟨rfl, _, hq', rfl⟩
      | some x =>
        obtain ⟨l, q3⟩ := x
        have hl := hws l q3 hw
        subst hl
        have hwl' := rWords_le hle.2.1 hw
        simp only [stO, wk,if_true,if_false,forall_const,implies_true,ne_eq,eq_self,Nat.reduceEqDiff,Nat.reduceAdd,Nat.reduceMul,Nat.reduceSub,Nat.reduceLeDiff,Nat.reduceLT,Int.reduceEq,Int.reduceLT,Int.reduceLE,Int.reduceAdd,Int.reduceSub,Int.reduceMul,Int.reduceNeg,Int.reduceNe,reduceCtorEq,Int.reduceToNat,↓reduceIte]
        refine ACalls.use (a_well (bad := false) (hset ho _)) ?_; rintro _ _ ⟨rfl, rfl⟩; simp only [wk,if_true,if_false,forall_const,implies_true,ne_eq,eq_self,Nat.reduceEqDiff,Nat.reduceAdd,Nat.reduceMul,Nat.reduceSub,Nat.reduceLeDiff,Nat.reduceLT,Int.reduceEq,Int.reduceLT,Int.reduceLE,Int.reduceAdd,Int.reduceSub,Int.reduceMul,Int.reduceNeg,Int.reduceNe,reduceCtorEq,Int.reduceToNat,↓reduceIte, hset ho]
        rw [← hwl]
        refine PCalls.use (p_smay ws (by omega) (fun x hx => by have := wordMay_size (hwl'.2.2.2 x hx); omega)) ?_; simp only [wk,if_true,if_false,forall_const,implies_true,ne_eq,eq_self,Nat.reduceEqDiff,Nat.reduceAdd,Nat.reduceMul,Nat.reduceSub,Nat.reduceLeDiff,Nat.reduceLT,Int.reduceEq,Int.reduceLT,Int.reduceLE,Int.reduceAdd,Int.reduceSub,Int.reduceMul,Int.reduceNeg,Int.reduceNe,reduceCtorEq,Int.reduceToNat,↓reduceIte]
        refine ⟨fun hm => ?_, fun hm => ?_⟩
        · refine ACalls.use (a_fail (bad := false) (hset ho _)) ?_; rintro _ _ ⟨rfl, rfl⟩; simp only [wk,if_true,if_false,forall_const,implies_true,ne_eq,eq_self,Nat.reduceEqDiff,Nat.reduceAdd,Nat.reduceMul,Nat.reduceSub,Nat.reduceLeDiff,Nat.reduceLT,Int.reduceEq,Int.reduceLT,Int.reduceLE,Int.reduceAdd,Int.reduceSub,Int.reduceMul,Int.reduceNeg,Int.reduceNe,reduceCtorEq,Int.reduceToNat,↓reduceIte, hset ho]
          rw [hm]; exact ⟨rfl, _, hwl'.2.2.1, rfl⟩
        · rw [hm]; exact ⟨rfl, q3, hwl'.2.2.1, rfl⟩
end Go.Proofs.Ytpjlkefadnbgdaa

/- The plain law of reading: what is read was written so. -/
namespace Go.Proofs.Ytpjlkefadnbgdaa
set_option linter.unusedSimpArgs false
set_option linter.unusedVariables false
open Go.RowKit Go.Lib

def upTo (S : ByteArray) (p : Nat) : List UInt8 := S.data.toList.take p
theorem upTo_add (S : ByteArray) (p m : Nat) : upTo S (p + m) = upTo S p ++ (S.data.toList.drop p).take m := by
  unfold upTo; rw [List.take_add]
theorem upTo_size (S : ByteArray) : upTo S S.size = S.data.toList := by unfold upTo; rw [List.take_of_length_le (by simp)]
theorem ext_list (S : ByteArray) (p m : Nat) : (S.extract p (p + m)).data.toList = (S.data.toList.drop p).take m := by
  simp [List.extract_eq_take_drop]
theorem upTo_num {S : ByteArray} {most : Int} {p n q : Nat} (h : rNum S most p = some (n, q)) : upTo S q = upTo S p ++ num n := by
  unfold rNum at h
  split at h
  · next n' m hr =>
    split at h
    · simp only [Option.some.injEq, Prod.mk.injEq] at h
      obtain ⟨rfl, rfl⟩ := h
      rw [upTo_add, rdNum_back hr]
    · cases h
  · cases h
theorem upTo_take {S w : ByteArray} {n p q : Nat} (h : rTake S n p = some (w, q)) : upTo S q = upTo S p ++ w.data.toList ∧ w.size = n := by
  obtain ⟨rfl, h2, rfl⟩ := rTake_le h
  rw [upTo_add, ext_list]
  exact ⟨rfl, by simp; omega⟩
theorem upTo_text {S w : ByteArray} {most : Int} {p q : Nat} (h : rText S most p = some (w, q)) : upTo S q = upTo S p ++ (num w.size ++ w.data.toList) := by
  unfold rText at h
  split at h
  · next n q1 hr =>
    obtain ⟨h1, h2⟩ := upTo_take h
    rw [h1, upTo_num hr, h2, List.append_assoc]
  · cases h
theorem upTo_word {S w : ByteArray} {p q : Nat} (h : rWord S p = some (w, q)) : upTo S q = upTo S p ++ wordBytes w := by
  obtain ⟨h1, h2, h3, h4, h5⟩ := rWord_le h
  have hlt : p < S.data.toList.length := by simp; omega
  have hw : w.size = 2 * byteAt S p := by rw [h4]; simp; omega
  have hb := byteAt_lt S p
  have e : byteAt S p = S.data.toList[p].toNat := by
    unfold byteAt
    rw [List.getElem?_eq_getElem hlt]; rfl
  rw [show q = p + (1 + 2 * byteAt S p) by omega, upTo_add, List.drop_eq_getElem_cons hlt, Nat.add_comm 1, List.take_succ_cons, wordBytes]
  congr 2
  · rw [hw, show 2 * byteAt S p / 2 = byteAt S p by omega, e]; simp
  · rw [h4, show q = p + 1 + 2 * byteAt S p by omega, ext_list]
theorem upTo_words {S : ByteArray} {p : Nat} : ∀ {k : Nat} {l : List ByteArray} {q : Nat}, rWords S p k = some (l, q) → upTo S q = upTo S p ++ l.flatMap wordBytes
  | 0, l, q, h => by
    simp only [rWords, Option.some.injEq, Prod.mk.injEq] at h
    obtain ⟨rfl, rfl⟩ := h
    simp
  | k + 1, l, q, h => by
    simp only [rWords] at h
    split at h
    · next l' q' hr =>
      split at h
      · next w q2 hr2 =>
        simp only [Option.some.injEq, Prod.mk.injEq] at h
        obtain ⟨rfl, rfl⟩ := h
        rw [upTo_word hr2, upTo_words hr]
        simp
      · cases h
    · cases h
theorem upTo_set {S : ByteArray} {l : List ByteArray} {p q : Nat} (h : rSet S p = some (l, q)) : upTo S q = upTo S p ++ setBytes l ∧ setMay l = true ∧ p < q ∧ q ≤ S.size := by
  unfold rSet at h
  split at h
  · cases h
  · next hlt =>
    split at h
    · next l' q' hr =>
      split at h
      · next hm =>
        simp only [Option.some.injEq, Prod.mk.injEq] at h
        obtain ⟨rfl, rfl⟩ := h
        have hl := rWords_le (by omega) hr
        have hp : p < S.data.toList.length := by simp; omega
        refine ⟨?_, hm, by omega, hl.2.2.1⟩
        have e : byteAt S p = S.data.toList[p].toNat := by
          unfold byteAt
          rw [List.getElem?_eq_getElem hp]; rfl
        rw [upTo_words hr, upTo_add, List.drop_eq_getElem_cons hp, setBytes, hl.1, e]
        simp
      · cases h
    · cases h
theorem rText_le {S w : ByteArray} {most : Int} {p q : Nat} (h : rText S most p = some (w, q)) (hp : p ≤ S.size) : p < q ∧ q ≤ S.size ∧ w.size ≤ S.size := by
  unfold rText at h
  split at h
  · next n q1 hr =>
    have h1 := rNum_le hr hp
    obtain ⟨h2, h3, h4⟩ := rTake_le h
    exact ⟨by omega, h3, by rw [h4]; simp; omega⟩
  · cases h
end Go.Proofs.Ytpjlkefadnbgdaa

/- The plain law of writing: what is written is read. -/
namespace Go.Proofs.Ytpjlkefadnbgdaa
set_option linter.unusedSimpArgs false
set_option linter.unusedVariables false
open Go.RowKit Go.Lib

end Go.Proofs.Ytpjlkefadnbgdaa
