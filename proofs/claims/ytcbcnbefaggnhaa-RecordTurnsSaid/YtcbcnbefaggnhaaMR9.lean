/- Texts of one proof, laid together: Ab14 Ak Az Aw FnD FnS. -/
import Derived.Test.YtcbcnbefaggnhaaMR8
import Derived.Test.YtcbcnbefaggnhaaProg

/- The abstract layer, fifteenth part: how code is walked. -/
namespace Go.Proofs.Ytcbcnbefaggnhaa
set_option linter.unusedSimpArgs false
set_option linter.unusedVariables false
open Go.RowKit Go.Lib

section
variable (P : Program)
theorem W_skip (fr : Fr) (h : Hp) (Q : Exit → Fr → Hp → Prop) : W P .skip fr h Q = Q .normal fr h := id rfl
theorem W_ops (l : List AStm) (fr : Fr) (h : Hp) (Q : Exit → Fr → Hp → Prop) : W P (.ops l) fr h Q = WOps P l fr h (Q .normal) := id rfl
theorem W_draw (v : List Nat) (l : List AStm) (fr : Fr) (h : Hp) (Q : Exit → Fr → Hp → Prop) : W P (.draw v l) fr h Q = VOps P l fr h (kdraw v Q) := id rfl
theorem W_seq (a b : ACode) (fr : Fr) (h : Hp) (Q : Exit → Fr → Hp → Prop) : W P (.seq a b) fr h Q = W P a fr h (kseq P b Q) := id rfl
theorem W_cond (c : Opd) (a b : ACode) (fr : Fr) (h : Hp) (Q : Exit → Fr → Hp → Prop) : W P (.cond c a b) fr h Q = match ev fr c with
    | some (.bool p) => (p = true → W P a fr h Q) ∧ (p = false → W P b fr h Q)
    | _ => False := id rfl
theorem W_block (i : Nat) (a : ACode) (fr : Fr) (h : Hp) (Q : Exit → Fr → Hp → Prop) : W P (.block i a) fr h Q = W P a fr h (kblock i Q) := id rfl
theorem W_exit (i : Nat) (fr : Fr) (h : Hp) (Q : Exit → Fr → Hp → Prop) : W P (.exit i) fr h Q = Q (.exit i) fr h := id rfl
theorem W_ret (fr : Fr) (h : Hp) (Q : Exit → Fr → Hp → Prop) : W P .ret fr h Q = Q .ret fr h := id rfl
theorem W_keep (l : List Nat) (a : ACode) (fr : Fr) (h : Hp) (Q : Exit → Fr → Hp → Prop) : W P (.keep l a) fr h Q = W P a (restr l fr) h Q := id rfl
theorem W_loop {P : Program} {vars : List Nat} {a : ACode} {fr : Fr} {h : Hp} {Q : Exit → Fr → Hp → Prop} (I : Nat → Fr → Hp → Prop) (n : Nat) (h0 : I n (restr vars fr) h) (hr : ∀ n fr h, I n fr h → W P a fr h (kloop vars I n Q)) : W P (.loop vars a) fr h Q := ⟨I, ⟨n, h0⟩, hr⟩
theorem kseq_normal (b : ACode) (Q : Exit → Fr → Hp → Prop) (fr : Fr) (h : Hp) : kseq P b Q .normal fr h = W P b fr h Q := id rfl
theorem kseq_exit (b : ACode) (Q : Exit → Fr → Hp → Prop) (i : Nat) (fr : Fr) (h : Hp) : kseq P b Q (.exit i) fr h = Q (.exit i) fr h := id rfl
theorem kseq_ret (b : ACode) (Q : Exit → Fr → Hp → Prop) (fr : Fr) (h : Hp) : kseq P b Q .ret fr h = Q .ret fr h := id rfl
theorem kblock_normal (i : Nat) (Q : Exit → Fr → Hp → Prop) (fr : Fr) (h : Hp) : kblock i Q .normal fr h = Q .normal fr h := id rfl
theorem kblock_exit (i j : Nat) (Q : Exit → Fr → Hp → Prop) (fr : Fr) (h : Hp) : kblock i Q (.exit j) fr h = if j = i then Q .normal fr h else Q (.exit j) fr h := id rfl
theorem kblock_ret (i : Nat) (Q : Exit → Fr → Hp → Prop) (fr : Fr) (h : Hp) : kblock i Q .ret fr h = Q .ret fr h := id rfl
theorem kloop_normal (v : List Nat) (I : Nat → Fr → Hp → Prop) (n : Nat) (Q : Exit → Fr → Hp → Prop) (fr : Fr) (h : Hp) : kloop v I n Q .normal fr h = ∃ m, m < n ∧ I m (restr v fr) h := id rfl
theorem kloop_exit (v : List Nat) (I : Nat → Fr → Hp → Prop) (n : Nat) (Q : Exit → Fr → Hp → Prop) (i : Nat) (fr : Fr) (h : Hp) : kloop v I n Q (.exit i) fr h = Q (.exit i) fr h := id rfl
theorem kloop_ret (v : List Nat) (I : Nat → Fr → Hp → Prop) (n : Nat) (Q : Exit → Fr → Hp → Prop) (fr : Fr) (h : Hp) : kloop v I n Q .ret fr h = Q .ret fr h := id rfl
theorem kret_normal (rs : List RV) (R : AV → Hp → Prop) (fr : Fr) (h : Hp) : kret rs R .normal fr h = resL fr h rs (res1 (fun a => R a h)) := id rfl
theorem kret_ret (rs : List RV) (R : AV → Hp → Prop) (fr : Fr) (h : Hp) : kret rs R .ret fr h = resL fr h rs (res1 (fun a => R a h)) := id rfl
theorem kdraw_eq (v : List Nat) (Q : Exit → Fr → Hp → Prop) (fr : Fr) (h : Hp) : kdraw v Q fr h = Q .normal (restr v fr) h := id rfl
theorem kval_eq (d : Option Nat) (fr : Fr) (h : Hp) (K : Fr → Hp → Prop) (a : AV) : kval d fr h K a = K (put d a fr) h := id rfl
theorem kv_eq (h : Hp) (R : AV → Hp → Prop) (a : AV) : kv h R a = R a h := id rfl
theorem kput_eq (d : Option Nat) (o : AOp) (fr : Fr) (K : Fr → Hp → Prop) (a : AV) (h : Hp) : kput d o fr K a h = K (put d a (tk o fr)) h := id rfl
theorem kbox_eq (d : Option Nat) (fr : Fr) (h : Hp) (K : Fr → Hp → Prop) (l : List AV) : kbox d fr h K l = K (put d (.ptr h.length 0) fr) (h ++ [some (false, l)]) := id rfl
theorem kobj_eq (h : Hp) (R : AV → Hp → Prop) (l : List AV) : kobj h R l = R (.ptr h.length 0) (h ++ [some (false, l)]) := id rfl
theorem klst_eq (d : Option Nat) (e n : Nat) (fr : Fr) (h : Hp) (K : Fr → Hp → Prop) (l : List AV) : klst d e n fr h K l = K (put d (.lst (.own e) n l) fr) h := id rfl
theorem krow_eq (e n : Nat) (h : Hp) (R : AV → Hp → Prop) (l : List AV) : krow e n h R l = R (.lst (.own e) n l) h := id rfl
theorem kcall_eq (d : Option Nat) (fr : Fr) (K : Fr → Hp → Prop) (a : AV) (h : Hp) : kcall d fr K a h = K (put d a fr) h := id rfl
theorem put_some (k : Nat) (a : AV) (fr : Fr) : put (some k) a fr = (k, a) :: fr := id rfl
theorem put_none (a : AV) (fr : Fr) : put none a fr = fr := id rfl
theorem lk_nil (k : Nat) : lk [] k = none := id rfl
theorem restr_nil (fr : Fr) : restr [] fr = [] := id rfl
theorem restr_cons (k : Nat) (r : List Nat) (fr : Fr) : restr (k :: r) fr = match lk fr k with
    | some a => (k, a) :: restr r fr
    | none => restr r fr := id rfl
theorem ev_t (fr : Fr) (k : Nat) : ev fr (.t k) = (lk fr k).map deg := id rfl
theorem ev_c (fr : Fr) (a : AV) : ev fr (.c a) = some a := id rfl
theorem ev_f (fr : Fr) (i : FuncId) : ev fr (.f i) = some (.fn i []) := id rfl
theorem evs_nil (fr : Fr) : evs fr [] = some [] := id rfl
theorem evs_cons (fr : Fr) (x : Opd) (r : List Opd) : evs fr (x :: r) = match ev fr x, evs fr r with
    | some a, some l => some (a :: l)
    | _, _ => none := id rfl
theorem evD_none (fr : Fr) (d : AV) : evD fr d none = some d := id rfl
theorem evD_some (fr : Fr) (d : AV) (x : Opd) : evD fr d (some x) = ev fr x := id rfl
theorem degr_nil (k : Nat) : degr k [] = [] := id rfl
theorem degr_cons (k j : Nat) (a : AV) (r : Fr) : degr k ((j, a) :: r) = (j, if j = k then deg a else a) :: degr k r := id rfl
theorem args0_nil (k : Nat) : args0 k [] = [] := id rfl
theorem args0_cons (k : Nat) (a : AV) (l : List AV) : args0 k (a :: l) = (k, a) :: args0 (k + 1) l := id rfl
theorem buildK_nil (fr : Fr) (t : List AV) (K : List AV → Prop) : buildK fr t [] K = K t := id rfl
theorem buildK_cons (fr : Fr) (t : List AV) (o s : Nat) (x : Opd) (r : List (Nat × Nat × Opd)) (K : List AV → Prop) : buildK fr t ((o, s, x) :: r) K = match ev fr x with
    | some a => (isTup a = false ∧ (cellsOf a).length = s ∧ o + s ≤ t.length) ∧ buildK fr (splice t o (cellsOf a)) r K
    | none => False := id rfl
theorem upgK_nil (l : List AV) (K : List AV → Prop) : upgK [] l K = K l := id rfl
theorem upgK_cons (i e s : Nat) (r : List (Nat × Nat × Nat)) (l : List AV) (K : List AV → Prop) : upgK ((i, e, s) :: r) l K = match l[i]? with
    | some (.lst .clip n c) => c.length = n * s ∧ upgK r (l.set i (.lst (.own e) n c)) K
    | _ => False := id rfl
theorem resL_nil (fr : Fr) (h : Hp) (K : List AV → Prop) : resL fr h [] K = K [] := id rfl
theorem resL_t (fr : Fr) (h : Hp) (k : Nat) (r : List RV) (K : List AV → Prop) : resL fr h (.t k :: r) K = match ev fr (.t k) with
    | some a => resL fr h r (fun l => K (a :: l))
    | none => False := id rfl
theorem resL_c (fr : Fr) (h : Hp) (k : Nat) (s : Option Nat) (r : List RV) (K : List AV → Prop) : resL fr h (.c k s :: r) K = val fr h (.load s (.t k)) (fun a => resL fr h r (fun l => K (a :: l))) := id rfl
theorem res1_one (K : AV → Prop) (a : AV) : res1 K [a] = K a := id rfl
theorem res1_nil (K : AV → Prop) : res1 K [] = K (.tup []) := id rfl
theorem res1_two (K : AV → Prop) (a b : AV) (l : List AV) : res1 K (a :: b :: l) = K (.tup (a :: b :: l)) := id rfl
end

theorem lk_cons' (j k : Nat) (a : AV) (r : Fr) : lk ((j, a) :: r) k = if j = k then some a else lk r k := id rfl
theorem splice_nil' {α : Type} (l : List α) (o : Nat) : splice l o [] = l := id rfl
theorem splice_cons' {α : Type} (l : List α) (o : Nat) (v : α) (r : List α) : splice l o (v :: r) = splice (l.set o v) (o + 1) r := id rfl
theorem WOps_nil' (P : Program) (fr : Fr) (h : Hp) (K : Fr → Hp → Prop) : WOps P [] fr h K = K fr h := id rfl
theorem WOps_cons' (P : Program) (d : Option Nat) (o : AOp) (f : Option (FB × List Nat)) (r : List AStm) (fr : Fr) (h : Hp) (K : Fr → Hp → Prop) : WOps P (⟨d, none, o, f⟩ :: r) fr h K = wop P d o fr h (kops P r K) := id rfl
theorem WOps_gd' (P : Program) (d : Option Nat) (q : Nat) (want : Bool) (o : AOp) (f : Option (FB × List Nat)) (r : List AStm) (fr : Fr) (h : Hp) (K : Fr → Hp → Prop) : WOps P (⟨d, some (q, want), o, f⟩ :: r) fr h K = match lk fr q with
      | some (.bool p) => (p = want → wop P d o ((q, .bool want) :: fr) h (kops P r K)) ∧ (p = !want → WOps P r (put d (.tup []) ((q, .bool (!want)) :: fr)) h K)
      | some (.tup []) => WOps P r (put d (.tup []) fr) h K
      | _ => False := id rfl
theorem kops_eq' (P : Program) (r : List AStm) (K : Fr → Hp → Prop) (fr : Fr) (h : Hp) : kops P r K fr h = WOps P r fr h K := id rfl
theorem VOps_nil' (P : Program) (fr : Fr) (h : Hp) (K : Fr → Hp → Prop) : VOps P [] fr h K = K fr h := id rfl
theorem VOps_cons' (P : Program) (d : Option Nat) (o : AOp) (r : List AStm) (fr : Fr) (h : Hp) (K : Fr → Hp → Prop) : VOps P (⟨d, none, o, none⟩ :: r) fr h K = eff P o fr h (kput d o fr (kvops P r K)) := id rfl
theorem VOps_gd' (P : Program) (d : Option Nat) (q : Nat) (want : Bool) (o : AOp) (r : List AStm) (fr : Fr) (h : Hp) (K : Fr → Hp → Prop) : VOps P (⟨d, some (q, want), o, none⟩ :: r) fr h K = match lk fr q with
      | some (.bool p) => (p = want → eff P o ((q, .bool want) :: fr) h (kput d o ((q, .bool want) :: fr) (kvops P r K))) ∧ (p = !want → VOps P r (put d (.tup []) ((q, .bool (!want)) :: fr)) h K)
      | some (.tup []) => VOps P r (put d (.tup []) fr) h K
      | _ => False := id rfl
theorem VOps_ft' (P : Program) (d : Option Nat) (o : AOp) (b : FB) (ps : List Nat) (r : List AStm) (fr : Fr) (h : Hp) (K : Fr → Hp → Prop) : VOps P (⟨d, none, o, some (b, ps)⟩ :: r) fr h K = (apart fr (fbId b fr h) ps ∧ effF P b o fr h (kput d o fr (kvops P r K))) := id rfl
theorem VOps_gdft' (P : Program) (d : Option Nat) (q : Nat) (want : Bool) (o : AOp) (b : FB) (ps : List Nat) (r : List AStm) (fr : Fr) (h : Hp) (K : Fr → Hp → Prop) : VOps P (⟨d, some (q, want), o, some (b, ps)⟩ :: r) fr h K = match lk fr q with
      | some (.bool p) => (p = want → apart ((q, .bool want) :: fr) (fbId b ((q, .bool want) :: fr) h) ps ∧ effF P b o ((q, .bool want) :: fr) h (kput d o ((q, .bool want) :: fr) (kvops P r K))) ∧ (p = !want → VOps P r (put d (.tup []) ((q, .bool (!want)) :: fr)) h K)
      | some (.tup []) => VOps P r (put d (.tup []) fr) h K
      | _ => False := id rfl
theorem apart_nil (fr : Fr) (i : Option Nat) : apart fr i [] = True := id rfl
theorem apart_cons (fr : Fr) (i : Option Nat) (p : Nat) (r : List Nat) : apart fr i (p :: r) = ((match i, ptrId (lk fr p) with
    | some a, some b => a ≠ b
    | _, _ => False) ∧ apart fr i r) := id rfl
theorem ptrId_ptr (i o : Nat) : ptrId (some (.ptr i o)) = some i := id rfl
theorem ptrId_hs (i n : Nat) : ptrId (some (.hs i n)) = some i := id rfl
theorem sameId_eq (x : Option AV) (i : Option Nat) : sameId x i = (match ptrId x, i with
  | some a, some b => a = b
  | _, _ => False) := id rfl
theorem fbId_s (k : Nat) (fr : Fr) (h : Hp) : fbId (.s k) fr h = ptrId (lk fr k) := id rfl
theorem fbId_h (k : Nat) (fr : Fr) (h : Hp) : fbId (.h k) fr h = if k < h.length then some (h.length - 1 - k) else none := id rfl
theorem effF_load (P : Program) (b : FB) (s : Option Nat) (x : Opd) (fr : Fr) (h : Hp) (R : AV → Hp → Prop) : effF P b (.load s x) fr h R = (sameId (ev fr x) (fbId b fr h) ∧ eff P (.load s x) fr h R) := id rfl
theorem effF_loado (P : Program) (b : FB) (x : Opd) (fr : Fr) (h : Hp) (R : AV → Hp → Prop) : effF P b (.loado x) fr h R = (sameId (ev fr x) (fbId b fr h) ∧ eff P (.loado x) fr h R) := id rfl
theorem effF_store (P : Program) (b : FB) (n : Nat) (a x : Opd) (fr : Fr) (h : Hp) (R : AV → Hp → Prop) : effF P b (.store n a x) fr h R = (sameId (ev fr a) (fbId b fr h) ∧ eff P (.store n a x) fr h R) := id rfl
theorem effF_stores (P : Program) (b : FB) (n : Nat) (a x : Opd) (fr : Fr) (h : Hp) (R : AV → Hp → Prop) : effF P b (.stores n a x) fr h R = (sameId (ev fr a) (fbId b fr h) ∧ eff P (.stores n a x) fr h R) := id rfl
theorem effF_storeo (P : Program) (b : FB) (a : Opd) (k : Nat) (fr : Fr) (h : Hp) (R : AV → Hp → Prop) : effF P b (.storeo a k) fr h R = (sameId (ev fr a) (fbId b fr h) ∧ eff P (.storeo a k) fr h R) := id rfl
theorem effF_calli (P : Program) (b : FB) (f : Opd) (args : List Opd) (fr : Fr) (h : Hp) (R : AV → Hp → Prop) : effF P b (.calli f args) fr h R = (match ev fr f, evs fr args, fbId b fr h with
    | some (.fn f' caps), some l, some id => ∃ v l0 l1, h[id]? = some (some (false, l0)) ∧ (∀ h0 : Hp, h0[id]? = some (some (false, l0)) → ACalls P f' (l ++ caps) h0 (fun a h' => a = v ∧ h' = h0.set id (some (false, l1)))) ∧ R v (h.set id (some (false, l1)))
    | _, _, _ => False) := id rfl
theorem effF_new (P : Program) (b : FB) (l : List AV) (u : List (Nat × Nat × Nat)) (fr : Fr) (h : Hp) (R : AV → Hp → Prop) : effF P b (.new l u) fr h R = (match fbId b fr h with
    | some id => h[id]? = some none ∧ upgK u l (fun l' => R (.ptr id 0) (h.set id (some (false, l'))))
    | none => False) := id rfl
theorem effF_box (P : Program) (b : FB) (x : Opd) (u : List (Nat × Nat × Nat)) (fr : Fr) (h : Hp) (R : AV → Hp → Prop) : effF P b (.box x u) fr h R = (match fbId b fr h, ev fr x with
    | some id, some a => h[id]? = some none ∧ isTup a = false ∧ upgK u (cellsOf a) (fun l' => R (.ptr id 0) (h.set id (some (false, l'))))
    | _, _ => False) := id rfl
theorem effF_mkn (P : Program) (b : FB) (e s y : Nat) (z : List AV) (c : Opd) (fr : Fr) (h : Hp) (R : AV → Hp → Prop) : effF P b (.mkn e s y z c) fr h R = (match fbId b fr h, ev fr c with
    | some id, some (.int _ n) => h[id]? = some none ∧ (0 ≤ n ∧ y * n ≤ 140737488355328 ∧ n ≤ 9223372036854775807) ∧ R (.hs id n.toNat) (h.set id (some (false, (List.range (n.toNat * s)).map fun i => z.getD (i % s) .nilp)))
    | _, _ => False) := id rfl
theorem W_holes (P : Program) (m : Nat) (a : ACode) (fr : Fr) (h : Hp) (Q : Exit → Fr → Hp → Prop) : W P (.holes m a) fr h Q = W P a fr (h ++ List.replicate m none) Q := id rfl
theorem rep0 : List.replicate 0 (none : Option (Bool × List AV)) = [] := id rfl
theorem repS (n : Nat) : List.replicate (n + 1) (none : Option (Bool × List AV)) = none :: List.replicate n none := id rfl
theorem rep2 : List.replicate 2 (none : Option (Bool × List AV)) = [none, none] := id rfl
theorem rep3 : List.replicate 3 (none : Option (Bool × List AV)) = [none, none, none] := id rfl
theorem kvops_eq' (P : Program) (r : List AStm) (K : Fr → Hp → Prop) (fr : Fr) (h : Hp) : kvops P r K fr h = VOps P r fr h K := id rfl
theorem frees_str : ∀ l : List ByteArray, free.frees (l.map AV.str) = true
  | [] => rfl
  | _ :: l => by simp [free.frees, free, frees_str l]
theorem frees_u8 : ∀ l : List UInt8, free.frees (l.map fun b => AV.int .u8 b.toNat) = true
  | [] => rfl
  | _ :: l => by simp [free.frees, free, frees_u8 l]
theorem frees_u16 : ∀ l : List Nat, free.frees (l.map fun (b : Nat) => AV.int .u16 (b : Int)) = true
  | [] => rfl
  | _ :: l => by simp [free.frees, free, frees_u16 l]
theorem inR_of {z : Int} (h1 : -9223372036854775808 ≤ z) (h2 : z ≤ 9223372036854775807) : inR z := ⟨h1, h2⟩
/-- what the call does, is enough -/
theorem ACalls.use {P : Program} {f : FuncId} {args : List AV} {h : Hp} {R R' : AV → Hp → Prop} (hc : ACalls P f args h R) (hr : ∀ a h', R a h' → R' a h') : ACalls P f args h R' := hc.mono hr
theorem mixed : Try.prog.follows .mixedOrders = true := by kernel_rfl

end Go.Proofs.Ytcbcnbefaggnhaa

/- The abstract layer: a full slice may be handed where one is only read. -/
namespace Go.Proofs.Ytcbcnbefaggnhaa
set_option linter.unusedSimpArgs false
set_option linter.unusedVariables false
open Go.RowKit Go.Lib

def ro : AV → AV
  | .lst .clip n l => .lst .ro n l
  | a => a
theorem Rep.ro {g : Gh} {v : Value} {a : AV} (h : Rep g v a) : Rep g v (ro a) := by
  cases h with
  | lst b off n c f vs l h1 h2 h3 h4 h5 => cases f with
    | clip => exact .lst b off n c .ro vs l h1 h2 h3 (fun h => by cases h) h5
    | _ => exact .lst b off n c _ vs l h1 h2 h3 h4 h5
  | lst0 a c f h => cases f with
    | clip => exact .lst0 a c .ro (fun h => by cases h)
    | _ => exact .lst0 a c _ h
  | itr b s p => exact .itr _ _ _
  | opq v h h' => exact .opq _ h h'
  | _ => first | exact .bool _ | exact .int _ _ | exact .str _ | exact .nilp | (exact .ptr _ _ _ ‹_›) | (exact .fp _ _ _ _ ‹_› ‹_› ‹_›) | (exact .hs _ _ _ _ ‹_› ‹_›) | (exact .agg _ _ ‹_› ‹_› ‹_›) | (exact .tup _ _ ‹_› ‹_›) | (exact .fn _ _ _ ‹_› ‹_›) | exact .nilf
theorem RepL.ro {g : Gh} : ∀ {vs : List Value} {l : List AV}, RepL g vs l → RepL g vs (l.map ro)
  | _, _, .nil => .nil
  | _, _, .cons h hl => .cons h.ro (RepL.ro hl)
theorem plain_ro {a : AV} (h : plain a = true) : plain (ro a) = true := by
  cases a with
  | lst f n l => cases f <;> first | rfl | exact h
  | _ => exact h
theorem free_ro (a : AV) : free (ro a) = free a := by
  cases a with
  | lst f n l => cases f <;> simp [Go.Proofs.Ytcbcnbefaggnhaa.ro, free]
  | _ => rfl
theorem frees_ro : ∀ l : List AV, free.frees (l.map ro) = free.frees l
  | [] => rfl
  | a :: l => by simp only [List.map_cons, free.frees, free_ro, frees_ro l]
theorem ACalls.ro {P : Program} {f : FuncId} {args : List AV} {h : Hp} {R : AV → Hp → Prop} (hc : ACalls P f (args.map ro) h R) : ACalls P f args h R :=
  ⟨hc.1, fun g w vargs h1 h2 h3 h4 => hc.2 g w vargs h1 h2 h3.ro (fun a ha => by
    obtain ⟨b, hb, rfl⟩ := List.mem_map.1 ha
    exact plain_ro (h4 b hb))⟩
theorem PCalls.ro {P : Program} {f : FuncId} {args : List AV} {v : AV} (hc : PCalls P f (args.map ro) v) : PCalls P f args v :=
  ⟨by rw [← frees_ro]; exact hc.1, hc.2.1, ACalls.ro hc.2.2⟩
/-- a result, as one that is only read -/
def rod : AV → AV
  | .tup l => .tup (l.map ro)
  | a => ro a
theorem Rep.rod {g : Gh} {v : Value} {a : AV} (h : Rep g v a) : Rep g v (rod a) := by
  cases h with
  | tup vs l h1 h2 => exact .tup vs _ (fun a ha => by obtain ⟨b, hb, rfl⟩ := List.mem_map.1 ha; exact plain_ro (h1 b hb)) h2.ro
  | lst b off n c f vs l h1 h2 h3 h4 h5 => exact (Rep.lst b off n c f vs l h1 h2 h3 h4 h5).ro
  | lst0 a c f h => exact (Rep.lst0 a c f h).ro
  | itr b s p => exact .itr _ _ _
  | opq v h h' => exact .opq _ h h'
  | _ => first | exact .bool _ | exact .int _ _ | exact .str _ | exact .nilp | (exact .ptr _ _ _ ‹_›) | (exact .fp _ _ _ _ ‹_› ‹_› ‹_›) | (exact .hs _ _ _ _ ‹_› ‹_›) | (exact .agg _ _ ‹_› ‹_› ‹_›) | (exact .fn _ _ _ ‹_› ‹_›) | exact .nilf
theorem plain_rod {a : AV} (h : plain a = true) : plain (rod a) = true := by
  cases a with
  | lst f n l => exact plain_ro h
  | _ => first | rfl | exact h
theorem ACalls.weak {P : Program} {f : FuncId} {args : List AV} {h : Hp} {R : AV → Hp → Prop} (hc : ACalls P f args h (fun a h' => R (Go.Proofs.Ytcbcnbefaggnhaa.rod a) h')) : ACalls P f args h R :=
  ⟨hc.1, fun g w vargs h1 h2 h3 h4 => (hc.2 g w vargs h1 h2 h3 h4).mono fun _ _ ⟨x, a, h', g', q1, q2, q3, q4, q5, q6, q7⟩ => ⟨x, _, h', g', q1, q2, q3, q4, q5.rod, plain_rod q6, q7⟩⟩
theorem rod_ro (n : Nat) (l : List AV) : rod (.lst .ro n l) = .lst .ro n l := id rfl
theorem rod_clip (n : Nat) (l : List AV) : rod (.lst .clip n l) = .lst .ro n l := id rfl
theorem rod_tup (l : List AV) : rod (.tup l) = .tup (l.map ro) := id rfl
theorem ro_ro (n : Nat) (l : List AV) : ro (.lst .ro n l) = .lst .ro n l := id rfl
theorem ro_clip (n : Nat) (l : List AV) : ro (.lst .clip n l) = .lst .ro n l := id rfl
theorem ro_int (k : IntKind) (n : Int) : ro (.int k n) = .int k n := id rfl
theorem ro_str (s : ByteArray) : ro (.str s) = .str s := id rfl
theorem ro_bool (b : Bool) : ro (.bool b) = .bool b := id rfl
end Go.Proofs.Ytcbcnbefaggnhaa

/- The abstract layer: full slices as ones that are only read, however deep; results that are objects as ones that stay. -/
namespace Go.Proofs.Ytcbcnbefaggnhaa
set_option linter.unusedSimpArgs false
set_option linter.unusedVariables false
open Go.RowKit Go.Lib

mutual
def rdp : AV → AV
  | .lst .clip n l => .lst .ro n (rdps l)
  | .lst f n l => .lst f n (rdps l)
  | .agg l => .agg (rdps l)
  | .tup l => .tup (rdps l)
  | .fp l => .fp (rdps l)
  | .fn f l => .fn f (rdps l)
  | a => a
def rdps : List AV → List AV
  | [] => []
  | a :: l => rdp a :: rdps l
end
theorem rdps_len : ∀ l : List AV, (rdps l).length = l.length
  | [] => rfl
  | _ :: l => by simp only [rdps, List.length_cons, rdps_len l]
theorem plain_rdp (a : AV) (h : plain a = true) : plain (rdp a) = true := by
  cases a with
  | lst f n l => cases f <;> first | (simp [plain] at h; done) | simp [rdp, plain]
  | itr s p => simp [plain] at h
  | _ => simp [rdp, plain]
theorem plains_rdp : ∀ {l : List AV}, plains l → plains (rdps l)
  | [], _ => by intro a ha; simp [rdps] at ha
  | a :: l, h => by
    intro b hb
    simp only [rdps, List.mem_cons] at hb
    rcases hb with rfl | hb
    · exact plain_rdp a (h a (by simp))
    · exact plains_rdp (fun x hx => h x (by simp [hx])) b hb
mutual
theorem Rep.rdp {g : Gh} : ∀ {v : Value} {a : AV}, Rep g v a → Rep g v (rdp a)
  | _, _, .bool b => by simp only [Go.Proofs.Ytcbcnbefaggnhaa.rdp]; exact .bool b
  | _, _, .int k n => by simp only [Go.Proofs.Ytcbcnbefaggnhaa.rdp]; exact .int k n
  | _, _, .str s => by simp only [Go.Proofs.Ytcbcnbefaggnhaa.rdp]; exact .str s
  | _, _, .nilp => by simp only [Go.Proofs.Ytcbcnbefaggnhaa.rdp]; exact .nilp
  | _, _, .ptr id off b h => by simp only [Go.Proofs.Ytcbcnbefaggnhaa.rdp]; exact .ptr id off b h
  | _, _, .fp b off vs l h hp hl => by simp only [Go.Proofs.Ytcbcnbefaggnhaa.rdp]; exact .fp b off vs _ h (plains_rdp hp) (RepL.rdp hl)
  | _, _, .lst b off n c .clip vs l h hp h1 h2 hl => by simp only [Go.Proofs.Ytcbcnbefaggnhaa.rdp]; exact .lst b off n c .ro vs _ h (plains_rdp hp) h1 (fun e => by cases e) (RepL.rdp hl)
  | _, _, .lst b off n c .ro vs l h hp h1 h2 hl => by simp only [Go.Proofs.Ytcbcnbefaggnhaa.rdp]; exact .lst b off n c .ro vs _ h (plains_rdp hp) h1 (fun e => by cases e) (RepL.rdp hl)
  | _, _, .lst b off n c (.own e) vs l h hp h1 h2 hl => by simp only [Go.Proofs.Ytcbcnbefaggnhaa.rdp]; exact .lst b off n c (.own e) vs _ h (plains_rdp hp) h1 (fun e => by cases e) (RepL.rdp hl)
  | _, _, .lst0 a c .clip h => by simp only [Go.Proofs.Ytcbcnbefaggnhaa.rdp, rdps]; exact .lst0 a c .ro (fun e => by cases e)
  | _, _, .lst0 a c .ro h => by simp only [Go.Proofs.Ytcbcnbefaggnhaa.rdp, rdps]; exact .lst0 a c .ro (fun e => by cases e)
  | _, _, .lst0 a c (.own e) h => by simp only [Go.Proofs.Ytcbcnbefaggnhaa.rdp, rdps]; exact .lst0 a c (.own e) (fun e => by cases e)
  | _, _, .hs id b n c h h1 => by simp only [Go.Proofs.Ytcbcnbefaggnhaa.rdp]; exact .hs id b n c h h1
  | _, _, .agg vs l h hp hl => by simp only [Go.Proofs.Ytcbcnbefaggnhaa.rdp]; exact .agg vs _ h (plains_rdp hp) (RepL.rdp hl)
  | _, _, .tup vs l hp hl => by simp only [Go.Proofs.Ytcbcnbefaggnhaa.rdp]; exact .tup vs _ (plains_rdp hp) (RepL.rdp hl)
  | _, _, .fn f vs l hp hl => by simp only [Go.Proofs.Ytcbcnbefaggnhaa.rdp]; exact .fn f vs _ (plains_rdp hp) (RepL.rdp hl)
  | _, _, .nilf => by simp only [Go.Proofs.Ytcbcnbefaggnhaa.rdp]; exact .nilf
  | _, _, .opq v h h' => by simp only [Go.Proofs.Ytcbcnbefaggnhaa.rdp]; exact .opq v h h'
  | _, _, .itr b s p => by simp only [Go.Proofs.Ytcbcnbefaggnhaa.rdp]; exact .itr b s p
theorem RepL.rdp {g : Gh} : ∀ {vs : List Value} {l : List AV}, RepL g vs l → RepL g vs (rdps l)
  | _, _, .nil => by simp only [rdps]; exact .nil
  | _, _, .cons h hl => by simp only [rdps]; exact .cons (Rep.rdp h) (RepL.rdp hl)
end
/-- a result, as one that is only read -/
theorem ACalls.deep {P : Program} {f : FuncId} {args : List AV} {h : Hp} {R : AV → Hp → Prop} (hc : ACalls P f args h (fun a h' => R (rdp a) h')) : ACalls P f args h R :=
  ⟨hc.1, fun g w vargs h1 h2 h3 h4 => (hc.2 g w vargs h1 h2 h3 h4).mono fun _ _ ⟨x, a, h', g', q1, q2, q3, q4, q5, q6, q7⟩ => ⟨x, _, h', g', q1, q2, q3, q4, q5.rdp, plain_rdp _ q6, q7⟩⟩
/-- arguments, as ones that are only read -/
theorem ACalls.argd {P : Program} {f : FuncId} {args : List AV} {h : Hp} {R : AV → Hp → Prop} (hc : ACalls P f (rdps args) h R) : ACalls P f args h R :=
  ⟨hc.1, fun g w vargs h1 h2 h3 h4 => hc.2 g w vargs h1 h2 h3.rdp (plains_rdp h4)⟩
mutual
theorem free_rdp : ∀ a : AV, free (rdp a) = free a
  | .lst .clip n l => by simp only [rdp, free, frees_rdp l]
  | .lst .ro n l => by simp only [rdp, free, frees_rdp l]
  | .lst (.own e) n l => by simp only [rdp, free, frees_rdp l]
  | .agg l => by simp only [rdp, free, frees_rdp l]
  | .tup l => by simp only [rdp, free, frees_rdp l]
  | .fp l => by simp only [rdp, free, frees_rdp l]
  | .fn f l => by simp only [rdp, free, frees_rdp l]
  | .bool _ => by simp only [rdp]
  | .int _ _ => by simp only [rdp]
  | .str _ => by simp only [rdp]
  | .nilp => by simp only [rdp]
  | .ptr _ _ => by simp only [rdp]
  | .hs _ _ => by simp only [rdp]
  | .nilf => by simp only [rdp]
  | .opq => by simp only [rdp]
  | .itr _ _ => by simp only [rdp]
theorem frees_rdp : ∀ l : List AV, free.frees (rdps l) = free.frees l
  | [] => rfl
  | a :: l => by simp only [rdps, free.frees, free_rdp a, frees_rdp l]
end
theorem PCalls.argd {P : Program} {f : FuncId} {args : List AV} {v : AV} (hc : PCalls P f (rdps args) v) : PCalls P f args v :=
  ⟨by rw [← frees_rdp]; exact hc.1, hc.2.1, ACalls.argd hc.2.2⟩
theorem rdps_nil : rdps [] = [] := by simp only [rdps]
theorem rdps_cons (a : AV) (l : List AV) : rdps (a :: l) = rdp a :: rdps l := by simp only [rdps]
theorem rdp_bool (b : Bool) : rdp (.bool b) = .bool b := by simp only [rdp]
theorem rdp_int (k : IntKind) (n : Int) : rdp (.int k n) = .int k n := by simp only [rdp]
theorem rdp_str (s : ByteArray) : rdp (.str s) = .str s := by simp only [rdp]
theorem rdp_nilp : rdp .nilp = .nilp := by simp only [rdp]
theorem rdp_hs (i n : Nat) : rdp (.hs i n) = .hs i n := by simp only [rdp]
theorem rdp_ptr (i n : Nat) : rdp (.ptr i n) = .ptr i n := by simp only [rdp]
theorem rdp_ro (n : Nat) (l : List AV) : rdp (.lst .ro n l) = .lst .ro n (rdps l) := by simp only [rdp]
theorem rdp_clip (n : Nat) (l : List AV) : rdp (.lst .clip n l) = .lst .ro n (rdps l) := by simp only [rdp]
theorem rdp_agg (l : List AV) : rdp (.agg l) = .agg (rdps l) := by simp only [rdp]
theorem rdp_tup (l : List AV) : rdp (.tup l) = .tup (rdps l) := by simp only [rdp]
theorem rdps_str : ∀ l : List ByteArray, rdps (l.map .str) = l.map .str
  | [] => rdps_nil
  | a :: l => by simp only [List.map_cons, rdps_cons, rdp_str, rdps_str l]
theorem rdps_app : ∀ l m : List AV, rdps (l ++ m) = rdps l ++ rdps m
  | [], m => by rw [rdps_nil]; rfl
  | a :: l, m => by simp only [List.cons_append, rdps_cons, rdps_app l m]
theorem rdpw : type_of% (And.intro @rdps_nil (And.intro @rdps_cons (And.intro @rdp_bool (And.intro @rdp_int (And.intro @rdp_str (And.intro @rdp_nilp (And.intro @rdp_hs (And.intro @rdp_ptr (And.intro @rdp_ro (And.intro @rdp_clip (And.intro @rdp_agg (And.intro @rdp_tup @rdps_str)))))))))))) :=
  And.intro @rdps_nil (And.intro @rdps_cons (And.intro @rdp_bool (And.intro @rdp_int (And.intro @rdp_str (And.intro @rdp_nilp (And.intro @rdp_hs (And.intro @rdp_ptr (And.intro @rdp_ro (And.intro @rdp_clip (And.intro @rdp_agg (And.intro @rdp_tup @rdps_str)))))))))))
theorem valL (fr : Fr) (h : Hp) (s : Option Nat) (x : Opd) (K : AV → Prop) : val fr h (.load s x) K = (match ev fr x with
    | some (.ptr id off) => (match h[id]? with
      | some (some (_, l)) => loadK s (l.drop off) K
      | _ => False)
    | some (.fp l) => loadK s l K
    | _ => False) := id rfl
end Go.Proofs.Ytcbcnbefaggnhaa

/- The abstract layer: objects that nobody asks for any more are forgotten; objects that are handed out are only read from then on. -/
namespace Go.Proofs.Ytcbcnbefaggnhaa
set_option linter.unusedSimpArgs false
set_option linter.unusedVariables false
open Go.RowKit Go.Lib

/-- leads to objects below n alone -/
def low (n : Nat) : AV → Bool
  | .ptr i _ => decide (i < n)
  | .hs i _ => decide (i < n)
  | .fp l | .lst _ _ l | .agg l | .tup l | .fn _ l => lows l
  | _ => true
where lows : List AV → Bool
  | [] => true
  | a :: l => low n a && lows l
def Gh.cut (g : Gh) (n : Nat) : Gh := { g with io := fun i => if i < n then g.io i else none }
theorem cut_io {g : Gh} {n i b : Nat} (h : (g.cut n).io i = some b) : g.io i = some b ∧ i < n := by
  simp only [Gh.cut] at h
  split at h
  · next hi => exact ⟨h, hi⟩
  · cases h
theorem io_cut {g : Gh} {n i b : Nat} (h : g.io i = some b) (hi : i < n) : (g.cut n).io i = some b := by
  simp only [Gh.cut, if_pos hi]; exact h
mutual
theorem Rep.cut {g : Gh} (n : Nat) : ∀ {v : Value} {a : AV}, Rep g v a → low n a = true → Rep (g.cut n) v a
  | _, _, .bool b, _ => .bool b
  | _, _, .int k m, _ => .int k m
  | _, _, .str s, _ => .str s
  | _, _, .nilp, _ => .nilp
  | _, _, .ptr id off b h, hl => .ptr id off b (io_cut h (by simpa [low] using hl))
  | _, _, .fp b off vs l h hp hr, hl => .fp b off vs l h hp (RepL.cut n hr (by simpa [low] using hl))
  | _, _, .lst b off m c f vs l h hp h1 h2 hr, hl => .lst b off m c f vs l h hp h1 h2 (RepL.cut n hr (by simpa [low] using hl))
  | _, _, .lst0 a c f h, _ => .lst0 a c f h
  | _, _, .hs id b m c h h1, hl => .hs id b m c (io_cut h (by simpa [low] using hl)) h1
  | _, _, .agg vs l h hp hr, hl => .agg vs l h hp (RepL.cut n hr (by simpa [low] using hl))
  | _, _, .tup vs l hp hr, hl => .tup vs l hp (RepL.cut n hr (by simpa [low] using hl))
  | _, _, .fn f vs l hp hr, hl => .fn f vs l hp (RepL.cut n hr (by simpa [low] using hl))
  | _, _, .nilf, _ => .nilf
  | _, _, .opq v h h', _ => .opq v h h'
  | _, _, .itr b s p, _ => .itr b s p
theorem RepL.cut {g : Gh} (n : Nat) : ∀ {vs : List Value} {l : List AV}, RepL g vs l → low.lows n l = true → RepL (g.cut n) vs l
  | _, _, .nil, _ => .nil
  | _, _, .cons h hr, hl => by
    simp only [low.lows, Bool.and_eq_true] at hl
    exact .cons (Rep.cut n h hl.1) (RepL.cut n hr hl.2)
end
mutual
theorem Rep.low {g : Gh} {n : Nat} (hd : ∀ i b, g.io i = some b → i < n) : ∀ {v : Value} {a : AV}, Rep g v a → low n a = true
  | _, _, .bool b => by simp [Go.Proofs.Ytcbcnbefaggnhaa.low]
  | _, _, .int k m => by simp [Go.Proofs.Ytcbcnbefaggnhaa.low]
  | _, _, .str s => by simp [Go.Proofs.Ytcbcnbefaggnhaa.low]
  | _, _, .nilp => by simp [Go.Proofs.Ytcbcnbefaggnhaa.low]
  | _, _, .ptr id off b h => by simpa [Go.Proofs.Ytcbcnbefaggnhaa.low] using hd id b h
  | _, _, .fp b off vs l h hp hr => by simpa [Go.Proofs.Ytcbcnbefaggnhaa.low] using RepL.low hd hr
  | _, _, .lst b off m c f vs l h hp h1 h2 hr => by simpa [Go.Proofs.Ytcbcnbefaggnhaa.low] using RepL.low hd hr
  | _, _, .lst0 a c f h => by simp [Go.Proofs.Ytcbcnbefaggnhaa.low, low.lows]
  | _, _, .hs id b m c h h1 => by simpa [Go.Proofs.Ytcbcnbefaggnhaa.low] using hd id b h
  | _, _, .agg vs l h hp hr => by simpa [Go.Proofs.Ytcbcnbefaggnhaa.low] using RepL.low hd hr
  | _, _, .tup vs l hp hr => by simpa [Go.Proofs.Ytcbcnbefaggnhaa.low] using RepL.low hd hr
  | _, _, .fn f vs l hp hr => by simpa [Go.Proofs.Ytcbcnbefaggnhaa.low] using RepL.low hd hr
  | _, _, .nilf => by simp [Go.Proofs.Ytcbcnbefaggnhaa.low]
  | _, _, .opq v h h' => by simp [Go.Proofs.Ytcbcnbefaggnhaa.low]
  | _, _, .itr b s p => by simp [Go.Proofs.Ytcbcnbefaggnhaa.low]
theorem RepL.low {g : Gh} {n : Nat} (hd : ∀ i b, g.io i = some b → i < n) : ∀ {vs : List Value} {l : List AV}, RepL g vs l → low.lows n l = true
  | _, _, .nil => by simp [low.lows]
  | _, _, .cons h hr => by simp [low.lows, Rep.low hd h, RepL.low hd hr]
end
mutual
theorem low_free {n : Nat} : ∀ {a : AV}, free a = true → low n a = true
  | .bool _, _ => by simp [low]
  | .int _ _, _ => by simp [low]
  | .str _, _ => by simp [low]
  | .nilp, _ => by simp [low]
  | .nilf, _ => by simp [low]
  | .opq, _ => by simp [low]
  | .itr _ _, _ => by simp [low]
  | .ptr _ _, h => by simp [free] at h
  | .hs _ _, h => by simp [free] at h
  | .fp l, h => by simpa [low] using lows_free (l := l) (by simpa [free] using h)
  | .lst _ _ l, h => by simpa [low] using lows_free (l := l) (by simpa [free] using h)
  | .agg l, h => by simpa [low] using lows_free (l := l) (by simpa [free] using h)
  | .tup l, h => by simpa [low] using lows_free (l := l) (by simpa [free] using h)
  | .fn _ l, h => by simpa [low] using lows_free (l := l) (by simpa [free] using h)
theorem lows_free {n : Nat} : ∀ {l : List AV}, free.frees l = true → low.lows n l = true
  | [], _ => by simp [low.lows]
  | a :: l, h => by
    simp only [free.frees, Bool.and_eq_true] at h
    simp [low.lows, low_free (n := n) h.1, lows_free (n := n) h.2]
end
/-- What is made behind the heap's end, and not handed out, is forgotten. -/
theorem ACalls.trim {P : Program} {f : FuncId} {args : List AV} {h : Hp} {R : AV → Hp → Prop}
    (hc : ACalls P f args h (fun a h' => ∃ h2 ex, h' = h2 ++ ex ∧ h.length ≤ h2.length ∧ low h2.length a = true ∧ (∀ (j : Nat) s l, h2[j]? = some (some (s, l)) → (∃ s', h[j]? = some (some (s', l))) ∨ low.lows h2.length l = true) ∧ R a h2)) : ACalls P f args h R := by
  refine ⟨hc.1, fun g w vargs hs hns hr hpl => (hc.2 g w vargs hs hns hr hpl).mono ?_⟩
  rintro e w1 ⟨x, a, h', g', rfl, ev, hs', hns', hx, hpa, h2, ex, rfl, hlen, hlow, hcells, hR⟩
  refine ⟨x, a, h2, g'.cut h2.length, rfl, ?_, ?_, hns', hx.cut _ hlow, hpa, hR⟩
  · refine ⟨⟨ev.le.C, fun i b hi => io_cut (ev.le.io i b hi) (by have := (hs.dom i b hi).1; omega)⟩, ev.F, fun b hb => ?_, ev.os, ev.tape, ev.output, ev.size⟩
    obtain ⟨q1, q2, q3, q4⟩ := ev.Fb b hb
    exact ⟨q1, q2, q3, fun i hi => q4 i (cut_io hi).1⟩
  · refine ⟨hs'.prot, fun id s l hl => ?_, fun i j b hi hj => hs'.inj i j b (cut_io hi).1 (cut_io hj).1, fun i b hi => ⟨(cut_io hi).2, (hs'.dom i b (cut_io hi).1).2⟩, hs'.flt, hs'.olt, fun i hi => ?_⟩
    · have hid : id < h2.length := (List.getElem?_eq_some_iff.1 hl).1
      obtain ⟨b, arr, e, p1, p2, p3, p4, p5, p6, p7, p8, p9⟩ := hs'.obj id s l (by rw [List.getElem?_append_left hid]; exact hl)
      have hlw : low.lows h2.length l = true := by
        rcases hcells id s l hl with ⟨s', h0⟩ | h0
        · obtain ⟨_, _, _, _, _, r3, _⟩ := hs.obj id s' l h0
          exact RepL.low (fun i b hi => by have := (hs.dom i b hi).1; omega) r3
        · exact h0
      refine ⟨b, arr, e, io_cut p1 hid, p2, p3.cut _ hlw, p4, fun i v a q1 q2 => (p5 i v a q1 q2).keep fun b' o1 o3 o4 => ⟨rfl, o1, fun _ => rfl, o3, fun j hj => o4 j (cut_io hj).1⟩, p6, p7, p8, p9⟩
    · have hid : i < h2.length := (List.getElem?_eq_some_iff.1 hi).1
      simp only [Gh.cut, if_pos hid]
      exact hs'.hole i (by rw [List.getElem?_append_left hid]; exact hi)
mutual
/-- objects as lists that are only read -/
def fz (h : Hp) : AV → AV
  | .hs id n => match h[id]? with
    | some (some (_, l)) => .lst .ro n (l.map deg)
    | _ => .hs id n
  | .agg l => .agg (fzs h l)
  | .tup l => .tup (fzs h l)
  | a => a
def fzs (h : Hp) : List AV → List AV
  | [] => []
  | a :: l => fz h a :: fzs h l
end
theorem plain_fz {h : Hp} (a : AV) (hp : plain a = true) : plain (fz h a) = true := by
  cases a with
  | hs id n =>
    simp only [fz]
    split <;> rfl
  | lst f n l => simp only [fz]; exact hp
  | itr s p => simp [plain] at hp
  | _ => simp [fz, plain]
theorem plains_fz {h : Hp} : ∀ {l : List AV}, plains l → plains (fzs h l)
  | [], _ => by intro a ha; simp [fzs] at ha
  | a :: l, hp => by
    intro b hb
    simp only [fzs, List.mem_cons] at hb
    rcases hb with rfl | hb
    · exact plain_fz a (hp a (by simp))
    · exact plains_fz (fun x hx => hp x (by simp [hx])) b hb
open Classical in
/-- all cells of objects stay from now on -/
noncomputable def Gh.ice (g : Gh) (h : Hp) (w : World) : Gh :=
  { g with io := fun _ => none, C := fun b o => match g.C b o with
    | some v => some v
    | none => if ∃ id s l, g.io id = some b ∧ h[id]? = some (some (s, l)) then (w.cell? ⟨b, o, none⟩).filter (fun v => v.oneCell') else none }
theorem ice_le {g : Gh} {h : Hp} {w : World} {b o : Nat} {v : Value} (hc : g.C b o = some v) : (g.ice h w).C b o = some v := by simp only [Gh.ice, hc]
theorem ice_obj {P : Program} {g : Gh} {h : Hp} {w : World} {id : Nat} {s : Bool} {l : List AV} (hs : Sim P g h w) (hl : h[id]? = some (some (s, l))) :
    ∃ b arr, g.io id = some b ∧ CellsAt (g.ice h w) b 0 arr ∧ RepL g arr l := by
  obtain ⟨b, arr, e, p1, p2, p3, p4, p5, p6, p7, p8, p9⟩ := hs.obj id s l hl
  refine ⟨b, arr.toList, p1, fun i v hv => ?_, p3⟩
  cases hC : g.C b (0 + i) with
  | some u =>
    have h1 := (hs.prot _ _ _ hC).1
    rw [Nat.zero_add, cell_of_row w b i arr e (0, 0) p2] at h1
    have : v = u := by
      rw [Array.getElem?_toList] at hv
      rw [hv] at h1
      simpa using h1
    subst this
    exact ice_le hC
  | none =>
    simp only [Gh.ice, hC]
    rw [if_pos ⟨id, s, l, p1, hl⟩]
    simp only [Option.filter_eq_some_iff]
    refine ⟨?_, p4 v (List.mem_of_getElem? hv)⟩
    rw [Nat.zero_add, cell_of_row w b i arr e (0, 0) p2]
    simpa using hv
mutual
theorem Rep.ice {P : Program} {g : Gh} {h : Hp} {w : World} (hs : Sim P g h w) : ∀ {v : Value} {a : AV}, Rep g v a → free (fz h a) = true → Rep (g.ice h w) v (fz h a)
  | _, _, .bool b, _ => by simp only [fz]; exact .bool b
  | _, _, .int k m, _ => by simp only [fz]; exact .int k m
  | _, _, .str s, _ => by simp only [fz]; exact .str s
  | _, _, .nilp, _ => by simp only [fz]; exact .nilp
  | _, _, .ptr id off b hb, hf => by simp [fz, free] at hf
  | _, _, .fp b off vs l hc hp hr, hf => by
    simp only [fz] at hf ⊢
    exact Rep.free (g := g) (fun _ _ _ hc => ice_le hc) (.fp b off vs l hc hp hr) hf
  | _, _, .lst b off m c f vs l hc hp h1 h2 hr, hf => by
    simp only [fz] at hf ⊢
    exact Rep.free (g := g) (fun _ _ _ hc => ice_le hc) (.lst b off m c f vs l hc hp h1 h2 hr) hf
  | _, _, .lst0 a c f hc, _ => by simp only [fz]; exact .lst0 a c f hc
  | _, _, .hs id b m c hb h1, hf => by
    simp only [fz] at hf ⊢
    split at hf
    · next s l hl =>
      obtain ⟨b', arr, q1, q2, q3⟩ := ice_obj hs hl
      obtain rfl : b = b' := by rw [hb] at q1; simpa using q1
      simp only [free] at hf
      refine .lst b 0 m c .ro arr _ q2 (fun a ha => ?_) h1 (fun e => by cases e) (RepL.free (g := g) (fun _ _ _ hc => ice_le hc) q3.deg hf)
      obtain ⟨a', _, rfl⟩ := List.mem_map.1 ha
      exact plain_deg a'
    · simp [free] at hf
  | _, _, .agg vs l h1 hp hr, hf => by
    simp only [fz, free] at hf ⊢
    exact .agg vs _ h1 (plains_fz hp) (RepL.ice hs hr hf)
  | _, _, .tup vs l hp hr, hf => by
    simp only [fz, free] at hf ⊢
    exact .tup vs _ (plains_fz hp) (RepL.ice hs hr hf)
  | _, _, .fn f vs l hp hr, hf => by
    simp only [fz] at hf ⊢
    exact Rep.free (g := g) (fun _ _ _ hc => ice_le hc) (.fn f vs l hp hr) hf
  | _, _, .nilf, _ => by simp only [fz]; exact .nilf
  | _, _, .opq v h h', _ => by simp only [fz]; exact .opq v h h'
  | _, _, .itr b s p, _ => by simp only [fz]; exact .itr b s p
theorem RepL.ice {P : Program} {g : Gh} {h : Hp} {w : World} (hs : Sim P g h w) : ∀ {vs : List Value} {l : List AV}, RepL g vs l → free.frees (fzs h l) = true → RepL (g.ice h w) vs (fzs h l)
  | _, _, .nil, _ => by simp only [fzs]; exact .nil
  | _, _, .cons h0 hr, hf => by
    simp only [fzs, free.frees, Bool.and_eq_true] at hf ⊢
    exact .cons (Rep.ice hs h0 hf.1) (RepL.ice hs hr hf.2)
end
/-- What is handed out is only read from then on. -/
theorem pcalls_fz {P : Program} {f : FuncId} {args : List AV} {v : AV} (ha : free.frees args = true) (hv : free v = true) (hc : ACalls P f args [] (fun a h' => fz h' a = v)) : PCalls P f args v := by
  refine ⟨ha, hv, hc.1, fun g w vargs hs hns hr hpl => (hc.2 g w vargs hs hns hr hpl).mono ?_⟩
  rintro e w1 ⟨x, a, h1, g1, rfl, r1, r2, r3, r4, r5, rfl⟩
  refine ⟨x, _, [], g1.ice h1 w1, rfl, ⟨⟨fun b o u hu => ice_le (r1.le.C b o u hu), fun i b hi => absurd (hs.dom i b hi).1 (by simp)⟩, r1.F, fun b hb => ?_, r1.os, r1.tape, r1.output, r1.size⟩, ?_, r3, Rep.ice r2 r4 hv, plain_fz _ r5, rfl, rfl⟩
  · obtain ⟨q1, q2, q3, q4⟩ := r1.Fb b hb
    refine ⟨q1, fun o => ?_, q3, fun i hi => by cases hi⟩
    simp only [Gh.ice]
    split
    · next u hu => rw [← q2 o]; exact hu.symm
    · next hu =>
      rw [if_neg]
      · rw [← q2 o]; exact hu.symm
      · rintro ⟨id, s, l, k1, k2⟩
        obtain ⟨b', arr, e, p1, p2, p3, p4, p5, p6, p7, p8, p9⟩ := r2.obj id s l k2
        rw [k1] at p1
        simp only [Option.some.injEq] at p1
        subst p1
        exact p8 ((r1.F b).2 hb)
  · refine ⟨fun b o u hu => ?_, (fun id s l hl => by simp at hl), (fun i j b hi => by cases hi), (fun i b hi => by cases hi), r2.flt, r2.olt, (fun i hi => by simp at hi)⟩
    simp only [Gh.ice] at hu
    split at hu
    · next u' hu' => simp only [Option.some.injEq] at hu; subst hu; exact r2.prot b o _ hu'
    · split at hu
      · simp only [Option.filter_eq_some_iff] at hu; exact hu
      · cases hu
theorem fz_hs {h : Hp} {id n : Nat} {s : Bool} {l : List AV} (hl : h[id]? = some (some (s, l))) : fz h (.hs id n) = .lst .ro n (l.map deg) := by simp only [fz, hl]
theorem fz_int (h : Hp) (k : IntKind) (n : Int) : fz h (.int k n) = .int k n := by simp only [fz]
theorem fz_str (h : Hp) (s : ByteArray) : fz h (.str s) = .str s := by simp only [fz]
theorem fz_bool (h : Hp) (b : Bool) : fz h (.bool b) = .bool b := by simp only [fz]
theorem fz_agg (h : Hp) (l : List AV) : fz h (.agg l) = .agg (fzs h l) := by simp only [fz]
theorem fz_tup (h : Hp) (l : List AV) : fz h (.tup l) = .tup (fzs h l) := by simp only [fz]
theorem fz_lst (h : Hp) (f : Fl) (n : Nat) (l : List AV) : fz h (.lst f n l) = .lst f n l := by simp only [fz]
theorem fzs_nil (h : Hp) : fzs h [] = [] := by simp only [fzs]
theorem fzs_cons (h : Hp) (a : AV) (l : List AV) : fzs h (a :: l) = fz h a :: fzs h l := by simp only [fzs]
end Go.Proofs.Ytcbcnbefaggnhaa

/- The functions' abstract code, written by a program (acode.py), and that it is theirs. -/
namespace Go.Proofs.Ytcbcnbefaggnhaa
open Go.RowKit

/- behind: Q -/
def J_law21_RecordDoes_j1 : ACode :=
  .keep [2, 5] (.seq (.ops [⟨some 103, none, .load (some 2) (.t 5), none⟩,
      ⟨some 104, none, .load (some 2) (.t 2), none⟩,
      ⟨some 105, none, .call (.f 20) [(.t 103), (.t 104)], none⟩,
      ⟨some 4, none, .mv (.t 105), none⟩])
           (.ret))

/- behind: Q -/
def J_law21_RecordDoes_j2 : ACode :=
  .keep [2, 5, 6, 76, 77] (.ops [⟨some 102, none, .bin .add (.t 77) (.c (.int .i64 1)), none⟩,
      ⟨some 77, none, .mv (.t 102), none⟩])

/- behind: Q = kloop [2, 5, 6, 12, 76, 77, 86, 87] I n (kblock 2 (kblock 1 (kseq P (J_law21_RecordDoes_j2) Q))) -/
def J_law21_RecordDoes_j3 : ACode :=
  .seq (.ops [⟨some 88, none, .bin .lss (.t 87) (.t 86), none⟩])
                      (.keep [2, 5, 6, 12, 76, 77, 86, 87, 88] (.seq (.cond (.t 88)
                        (.skip)
                        (.exit 2))
                       (.keep [2, 5, 6, 12, 76, 77, 86, 87] (.seq (.block 3 (.seq (.ops [⟨some 89, none, .mv (.t 87), none⟩,
      ⟨some 13, none, .mv (.t 89), none⟩])
                          (.keep [2, 5, 6, 12, 13, 76, 77, 86, 87] (.ops [⟨some 90, none, .fld 1 (.t 6), none⟩,
      ⟨some 91, none, .load none (.t 90), none⟩,
      ⟨some 92, none, .mv (.t 12), none⟩,
      ⟨some 93, none, .idxa 3 (.t 91) (.t 92), none⟩,
      ⟨some 94, none, .fld 1 (.t 93), none⟩,
      ⟨some 95, none, .load none (.t 94), none⟩,
      ⟨some 96, none, .mv (.t 13), none⟩,
      ⟨some 97, none, .idxa 2 (.t 95) (.t 96), none⟩,
      ⟨some 98, none, .fld 1 (.t 97), none⟩,
      ⟨some 99, none, .load none (.t 98), none⟩,
      ⟨some 100, none, .idxa 1 (.t 99) (.c (.int .i64 0)), none⟩,
      ⟨none, none, .store 1 (.t 100) (.c (.str ⟨#[63]⟩)), none⟩]))))
                        (.keep [2, 5, 6, 12, 76, 77, 86, 87] (.ops [⟨some 101, none, .bin .add (.t 87) (.c (.int .i64 1)), none⟩,
      ⟨some 87, none, .mv (.t 101), none⟩]))))))

/- behind: Q = kloop [2, 5, 6, 76, 77] I n (kblock 0 (kseq P (J_law21_RecordDoes_j1) Q)) -/
def J_law21_RecordDoes_j4 : ACode :=
  .seq (.ops [⟨some 78, none, .bin .lss (.t 77) (.t 76), none⟩])
              (.keep [2, 5, 6, 76, 77, 78] (.seq (.cond (.t 78)
                (.skip)
                (.exit 0))
               (.keep [2, 5, 6, 76, 77] (.seq (.block 1 (.seq (.ops [⟨some 79, none, .mv (.t 77), none⟩,
      ⟨some 12, none, .mv (.t 79), none⟩])
                  (.keep [2, 5, 6, 12, 76, 77] (.seq (.ops [⟨some 80, none, .fld 1 (.t 6), none⟩,
      ⟨some 81, none, .load none (.t 80), none⟩,
      ⟨some 82, none, .mv (.t 12), none⟩,
      ⟨some 83, none, .idxa 3 (.t 81) (.t 82), none⟩,
      ⟨some 84, none, .fld 1 (.t 83), none⟩,
      ⟨some 85, none, .load none (.t 84), none⟩,
      ⟨some 86, none, .lenl (.t 85), none⟩,
      ⟨some 87, none, .mv (.c (.int .i64 0)), none⟩])
                   (.keep [2, 5, 6, 12, 76, 77, 86, 87] (.block 2 (.loop [2, 5, 6, 12, 76, 77, 86, 87] (J_law21_RecordDoes_j3))))))))
                (J_law21_RecordDoes_j2)))))

/-- attorney/attorneylaw21.RecordDoes -/
def J_law21_RecordDoes : AFn :=
  ⟨106, [.t 4], .seq (.ops [⟨some 2, none, .box (.t 0) [], none⟩,
      ⟨some 3, none, .box (.t 1) [], none⟩,
      ⟨some 4, none, .mv (.c (.bool false)), none⟩])
   (.keep [2, 3] (.seq (.seq (.ops [⟨some 14, none, .call (.f 14) [], none⟩,
      ⟨some 15, none, .not (.t 14), none⟩])
     (.keep [2, 3, 15] (.cond (.t 15)
      (.seq (.ops [⟨some 4, none, .mv (.c (.bool false)), none⟩])
       (.ret))
      (.skip))))
    (.keep [2, 3] (.seq (.seq (.ops [⟨some 16, none, .load (some 2) (.t 2), none⟩,
      ⟨some 17, none, .call (.f 15) [(.t 16)], none⟩,
      ⟨some 18, none, .mv (.t 17), none⟩,
      ⟨some 19, (some (18, false)), .fld 3 (.t 3), none⟩,
      ⟨some 20, (some (18, false)), .load (some 2) (.t 19), none⟩,
      ⟨some 21, (some (18, false)), .call (.f 16) [(.t 20)], none⟩,
      ⟨some 22, none, .pick (.t 18) (.c (.bool true)) (.t 21), none⟩])
      (.keep [2, 3, 22] (.cond (.t 22)
       (.seq (.ops [⟨some 4, none, .mv (.c (.bool true)), none⟩])
        (.ret))
       (.skip))))
     (.keep [2, 3] (.seq (.ops [⟨some 23, none, .load (some 2) (.t 2), none⟩,
      ⟨some 24, none, .call (.f 17) [(.t 23)], none⟩,
      ⟨some 5, none, .new [(.int .i64 0), (.lst .clip 0 [])] [(1, 43, 3)], none⟩,
      ⟨none, none, .stores 2 (.t 5) (.t 24), none⟩])
      (.keep [2, 3, 5] (.seq (.ops [⟨some 26, none, .load (some 2) (.t 5), none⟩,
      ⟨some 27, none, .load (some 5) (.t 3), none⟩,
      ⟨some 28, none, .call (.f 18) [(.t 26), (.t 27)], none⟩,
      ⟨some 25, none, .mv (.t 28), none⟩,
      ⟨some 29, none, .ext 0 (.t 25), none⟩,
      ⟨some 30, none, .ext 1 (.t 25), none⟩,
      ⟨some 31, none, .ext 2 (.t 25), none⟩,
      ⟨some 6, none, .new [(.int .i64 0), (.lst .clip 0 [])] [(1, 43, 3)], none⟩,
      ⟨none, none, .stores 2 (.t 6) (.t 29), none⟩,
      ⟨some 7, none, .mv (.t 30), none⟩,
      ⟨some 8, none, .mv (.t 31), none⟩])
       (.keep [2, 3, 5, 6, 7, 8] (.seq (.ops [⟨some 33, none, .load (some 2) (.t 2), none⟩,
      ⟨some 34, none, .load (some 5) (.t 3), none⟩,
      ⟨some 35, none, .call (.f 19) [(.t 33), (.t 34)], none⟩,
      ⟨some 32, none, .mv (.t 35), none⟩,
      ⟨some 36, none, .ext 0 (.t 32), none⟩,
      ⟨some 37, none, .ext 1 (.t 32), none⟩,
      ⟨some 38, none, .ext 2 (.t 32), none⟩,
      ⟨some 9, none, .new [(.int .i64 0), (.lst .clip 0 [])] [(1, 43, 3)], none⟩,
      ⟨none, none, .stores 2 (.t 9) (.t 36), none⟩,
      ⟨some 10, none, .mv (.t 37), none⟩,
      ⟨some 11, none, .mv (.t 38), none⟩])
        (.keep [2, 3, 5, 6, 7, 8, 9, 10, 11] (.seq (.seq (.draw [2, 5, 6, 73] [⟨some 39, none, .lds (some 2) (.t 6), none⟩,
      ⟨some 40, none, .lds (some 2) (.t 9), none⟩,
      ⟨some 41, none, .call (.f 20) [(.t 39), (.t 40)], none⟩,
      ⟨some 42, none, .not (.t 41), none⟩,
      ⟨some 43, none, .mv (.t 42), none⟩,
      ⟨some 44, (some (43, false)), .mv (.t 7), none⟩,
      ⟨some 45, (some (43, false)), .mv (.t 10), none⟩,
      ⟨some 46, (some (43, false)), .bin .neq (.t 44) (.t 45), none⟩,
      ⟨some 47, none, .pick (.t 43) (.c (.bool true)) (.t 46), none⟩,
      ⟨some 48, none, .mv (.t 47), none⟩,
      ⟨some 49, (some (48, false)), .mv (.t 8), none⟩,
      ⟨some 50, (some (48, false)), .mv (.t 11), none⟩,
      ⟨some 51, (some (48, false)), .bin .neq (.t 49) (.t 50), none⟩,
      ⟨some 52, none, .pick (.t 48) (.c (.bool true)) (.t 51), none⟩,
      ⟨some 53, none, .mv (.t 52), none⟩,
      ⟨some 54, (some (53, false)), .lds (some 2) (.t 5), none⟩,
      ⟨some 55, (some (53, false)), .call (.f 21) [(.t 54)], none⟩,
      ⟨some 56, (some (53, false)), .load (some 2) (.t 2), none⟩,
      ⟨some 57, (some (53, false)), .call (.f 22) [(.t 56)], none⟩,
      ⟨some 58, (some (53, false)), .bbin true (.t 55) (.t 57), none⟩,
      ⟨some 59, none, .pick (.t 53) (.c (.bool true)) (.t 58), none⟩,
      ⟨some 60, none, .mv (.t 59), none⟩,
      ⟨some 61, (some (60, false)), .load (some 5) (.t 3), none⟩,
      ⟨some 62, (some (60, false)), .call (.f 23) [(.t 61)], none⟩,
      ⟨some 63, (some (60, false)), .load (some 5) (.t 3), none⟩,
      ⟨some 64, (some (60, false)), .call (.f 24) [(.t 63)], none⟩,
      ⟨some 65, (some (60, false)), .bbin true (.t 62) (.t 64), none⟩,
      ⟨some 66, none, .pick (.t 60) (.c (.bool true)) (.t 65), none⟩,
      ⟨some 67, none, .mv (.t 66), none⟩,
      ⟨some 68, (some (67, false)), .load (some 5) (.t 3), none⟩,
      ⟨some 69, (some (67, false)), .call (.f 25) [(.t 68)], none⟩,
      ⟨some 70, (some (67, false)), .fld 1 (.t 3), none⟩,
      ⟨some 71, (some (67, false)), .load none (.t 70), none⟩,
      ⟨some 72, (some (67, false)), .bin .neq (.t 69) (.t 71), none⟩,
      ⟨some 73, none, .pick (.t 67) (.c (.bool true)) (.t 72), none⟩])
          (.keep [2, 5, 6, 73] (.cond (.t 73)
           (.seq (.ops [⟨some 4, none, .mv (.c (.bool false)), none⟩])
            (.ret))
           (.skip))))
         (.keep [2, 5, 6] (.seq (.seq (.ops [⟨some 74, none, .fld 1 (.t 6), none⟩,
      ⟨some 75, none, .load none (.t 74), none⟩,
      ⟨some 76, none, .lenl (.t 75), none⟩,
      ⟨some 77, none, .mv (.c (.int .i64 0)), none⟩])
           (.keep [2, 5, 6, 76, 77] (.block 0 (.loop [2, 5, 6, 76, 77] (J_law21_RecordDoes_j4)))))
          (J_law21_RecordDoes_j1)))))))))))))))⟩
theorem J_law21_RecordDoes_ok : chkFn Try.prog 3 J_law21_RecordDoes = true := by kernel_rfl

/-- attorney/attorneylaw21.RecordBytes -/
def J_law21_RecordBytes : AFn :=
  ⟨65, [.t 4], .seq (.ops [⟨some 2, none, .box (.t 0) [], none⟩,
      ⟨some 4, none, .mv (.c (.bool false)), none⟩])
   (.keep [1, 2] (.seq (.seq (.ops [⟨some 13, none, .call (.f 14) [], none⟩,
      ⟨some 14, none, .not (.t 13), none⟩])
     (.keep [1, 2, 14] (.cond (.t 14)
      (.seq (.ops [⟨some 4, none, .mv (.c (.bool false)), none⟩])
       (.ret))
      (.skip))))
    (.keep [1, 2] (.seq (.seq (.ops [⟨some 15, none, .load (some 2) (.t 2), none⟩,
      ⟨some 16, none, .call (.f 15) [(.t 15)], none⟩,
      ⟨some 17, none, .mv (.t 16), none⟩,
      ⟨some 18, (some (17, false)), .mv (.t 1), none⟩,
      ⟨some 19, (some (17, false)), .lens (.t 18), none⟩,
      ⟨some 20, (some (17, false)), .bin .gtr (.t 19) (.c (.int .i64 8192)), none⟩,
      ⟨some 21, none, .pick (.t 17) (.c (.bool true)) (.t 20), none⟩])
      (.keep [1, 2, 21] (.cond (.t 21)
       (.seq (.ops [⟨some 4, none, .mv (.c (.bool true)), none⟩])
        (.ret))
       (.skip))))
     (.keep [1, 2] (.seq (.ops [⟨some 23, none, .load (some 2) (.t 2), none⟩,
      ⟨some 24, none, .call (.f 26) [(.t 23)], none⟩,
      ⟨some 22, none, .mv (.t 24), none⟩,
      ⟨some 25, none, .ext 0 (.t 22), none⟩,
      ⟨some 26, none, .ext 1 (.t 22), none⟩,
      ⟨some 5, none, .mv (.t 25), none⟩,
      ⟨some 6, none, .mv (.t 26), none⟩])
      (.keep [1, 2, 5, 6] (.seq (.ops [⟨some 28, none, .load (some 2) (.t 2), none⟩,
      ⟨some 29, none, .call (.f 27) [(.t 28)], none⟩,
      ⟨some 27, none, .mv (.t 29), none⟩,
      ⟨some 30, none, .ext 0 (.t 27), none⟩,
      ⟨some 31, none, .ext 1 (.t 27), none⟩,
      ⟨some 7, none, .mv (.t 30), none⟩,
      ⟨some 8, none, .mv (.t 31), none⟩])
       (.keep [1, 5, 6, 7, 8] (.seq (.ops [⟨some 33, none, .mv (.t 1), none⟩,
      ⟨some 34, none, .call (.f 28) [(.t 33)], none⟩,
      ⟨some 32, none, .mv (.t 34), none⟩,
      ⟨some 35, none, .ext 0 (.t 32), none⟩,
      ⟨some 36, none, .ext 1 (.t 32), none⟩,
      ⟨some 9, none, .new [(.int .i64 0), (.lst .clip 0 [])] [(1, 43, 3)], none⟩,
      ⟨none, none, .stores 2 (.t 9) (.t 35), none⟩,
      ⟨some 10, none, .mv (.t 36), none⟩])
        (.keep [1, 5, 6, 7, 8, 9, 10] (.seq (.ops [⟨some 38, none, .mv (.t 1), none⟩,
      ⟨some 39, none, .call (.f 29) [(.t 38)], none⟩,
      ⟨some 37, none, .mv (.t 39), none⟩,
      ⟨some 40, none, .ext 0 (.t 37), none⟩,
      ⟨some 41, none, .ext 1 (.t 37), none⟩,
      ⟨some 11, none, .new [(.int .i64 0), (.lst .clip 0 [])] [(1, 43, 3)], none⟩,
      ⟨none, none, .stores 2 (.t 11) (.t 40), none⟩,
      ⟨some 12, none, .mv (.t 41), none⟩])
         (.keep [5, 6, 7, 8, 9, 10, 11, 12] (.seq (.ops [⟨some 42, none, .mv (.t 5), none⟩,
      ⟨some 43, none, .mv (.t 7), none⟩,
      ⟨some 44, none, .bin .eql (.t 42) (.t 43), none⟩,
      ⟨some 45, none, .mv (.t 44), none⟩,
      ⟨some 46, (some (45, true)), .mv (.t 6), none⟩,
      ⟨some 47, (some (45, true)), .mv (.t 8), none⟩,
      ⟨some 48, (some (45, true)), .bin .eql (.t 46) (.t 47), none⟩,
      ⟨some 49, none, .pick (.t 45) (.t 48) (.c (.bool false)), none⟩,
      ⟨some 50, none, .mv (.t 49), none⟩,
      ⟨some 51, (some (50, true)), .load (some 2) (.t 9), none⟩,
      ⟨some 52, (some (50, true)), .load (some 2) (.t 11), none⟩,
      ⟨some 53, (some (50, true)), .call (.f 20) [(.t 51), (.t 52)], none⟩,
      ⟨some 54, none, .pick (.t 50) (.t 53) (.c (.bool false)), none⟩,
      ⟨some 55, none, .mv (.t 54), none⟩,
      ⟨some 56, (some (55, true)), .mv (.t 10), none⟩,
      ⟨some 57, (some (55, true)), .mv (.t 12), none⟩,
      ⟨some 58, (some (55, true)), .bin .eql (.t 56) (.t 57), none⟩,
      ⟨some 59, none, .pick (.t 55) (.t 58) (.c (.bool false)), none⟩,
      ⟨some 60, none, .mv (.t 59), none⟩,
      ⟨some 61, (some (60, true)), .load (some 2) (.t 9), none⟩,
      ⟨some 62, (some (60, true)), .load (some 2) (.t 11), none⟩,
      ⟨some 63, (some (60, true)), .call (.f 30) [(.t 61), (.t 62)], none⟩,
      ⟨some 64, none, .pick (.t 60) (.t 63) (.c (.bool false)), none⟩,
      ⟨some 4, none, .mv (.t 64), none⟩])
          (.ret)))))))))))))))⟩
theorem J_law21_RecordBytes_ok : chkFn Try.prog 4 J_law21_RecordBytes = true := by kernel_rfl

/- behind: Q -/
def J_law21_RecordBack_j1 : ACode :=
  .keep [1] (.seq (.ops [⟨some 49, none, .mv (.t 1), none⟩,
      ⟨some 50, none, .call (.f 28) [(.t 49)], none⟩,
      ⟨some 48, none, .mv (.t 50), none⟩,
      ⟨some 51, none, .ext 0 (.t 48), none⟩,
      ⟨some 52, none, .ext 1 (.t 48), none⟩,
      ⟨some 9, none, .new [(.int .i64 0), (.lst .clip 0 [])] [(1, 43, 3)], none⟩,
      ⟨none, none, .stores 2 (.t 9) (.t 51), none⟩,
      ⟨some 10, none, .mv (.t 52), none⟩])
       (.keep [1, 9, 10] (.seq (.seq (.ops [⟨some 53, none, .mv (.t 10), none⟩,
      ⟨some 54, none, .bin .neq (.t 53) (.c (.int .i64 0)), none⟩])
         (.keep [1, 9, 54] (.cond (.t 54)
          (.seq (.ops [⟨some 55, none, .fld 0 (.t 9), none⟩,
      ⟨some 56, none, .load none (.t 55), none⟩,
      ⟨some 57, none, .bin .eql (.t 56) (.c (.int .i64 0)), none⟩,
      ⟨some 58, none, .mv (.t 57), none⟩,
      ⟨some 59, (some (58, true)), .fld 1 (.t 9), none⟩,
      ⟨some 60, (some (58, true)), .load none (.t 59), none⟩,
      ⟨some 61, (some (58, true)), .lenl (.t 60), none⟩,
      ⟨some 62, (some (58, true)), .bin .eql (.t 61) (.c (.int .i64 0)), none⟩,
      ⟨some 63, none, .pick (.t 58) (.t 62) (.c (.bool false)), none⟩,
      ⟨some 4, none, .mv (.t 63), none⟩])
           (.ret))
          (.skip))))
        (.keep [1, 9] (.seq (.ops [⟨some 65, none, .load (some 2) (.t 9), none⟩,
      ⟨some 66, none, .call (.f 26) [(.t 65)], none⟩,
      ⟨some 64, none, .mv (.t 66), none⟩,
      ⟨some 67, none, .ext 0 (.t 64), none⟩,
      ⟨some 68, none, .ext 1 (.t 64), none⟩,
      ⟨some 11, none, .mv (.t 67), none⟩,
      ⟨some 12, none, .mv (.t 68), none⟩])
         (.keep [1, 11, 12] (.seq (.ops [⟨some 69, none, .mv (.t 12), none⟩,
      ⟨some 70, none, .bin .eql (.t 69) (.c (.int .i64 0)), none⟩,
      ⟨some 71, none, .mv (.t 70), none⟩,
      ⟨some 72, (some (71, true)), .mv (.t 11), none⟩,
      ⟨some 73, (some (71, true)), .mv (.t 1), none⟩,
      ⟨some 74, (some (71, true)), .bin .eql (.t 72) (.t 73), none⟩,
      ⟨some 75, none, .pick (.t 71) (.t 74) (.c (.bool false)), none⟩,
      ⟨some 4, none, .mv (.t 75), none⟩])
          (.ret))))))))

/-- attorney/attorneylaw21.RecordBack -/
def J_law21_RecordBack : AFn :=
  ⟨76, [.t 4], .seq (.ops [⟨some 2, none, .box (.t 0) [], none⟩,
      ⟨some 4, none, .mv (.c (.bool false)), none⟩])
   (.keep [1, 2] (.seq (.seq (.ops [⟨some 13, none, .call (.f 14) [], none⟩,
      ⟨some 14, none, .not (.t 13), none⟩])
     (.keep [1, 2, 14] (.cond (.t 14)
      (.seq (.ops [⟨some 4, none, .mv (.c (.bool false)), none⟩])
       (.ret))
      (.skip))))
    (.keep [1, 2] (.seq (.seq (.ops [⟨some 15, none, .load (some 2) (.t 2), none⟩,
      ⟨some 16, none, .call (.f 15) [(.t 15)], none⟩,
      ⟨some 17, none, .mv (.t 16), none⟩,
      ⟨some 18, (some (17, false)), .mv (.t 1), none⟩,
      ⟨some 19, (some (17, false)), .lens (.t 18), none⟩,
      ⟨some 20, (some (17, false)), .bin .gtr (.t 19) (.c (.int .i64 8192)), none⟩,
      ⟨some 21, none, .pick (.t 17) (.c (.bool true)) (.t 20), none⟩])
      (.keep [1, 2, 21] (.cond (.t 21)
       (.seq (.ops [⟨some 4, none, .mv (.c (.bool true)), none⟩])
        (.ret))
       (.skip))))
     (.keep [1, 2] (.seq (.seq (.ops [⟨some 23, none, .load (some 2) (.t 2), none⟩,
      ⟨some 24, none, .call (.f 26) [(.t 23)], none⟩,
      ⟨some 22, none, .mv (.t 24), none⟩,
      ⟨some 25, none, .ext 0 (.t 22), none⟩,
      ⟨some 26, none, .ext 1 (.t 22), none⟩,
      ⟨some 5, none, .mv (.t 25), none⟩,
      ⟨some 6, none, .mv (.t 26), none⟩])
       (.keep [1, 2, 5, 6] (.seq (.ops [⟨some 27, none, .mv (.t 6), none⟩,
      ⟨some 28, none, .bin .eql (.t 27) (.c (.int .i64 0)), none⟩])
        (.keep [1, 2, 5, 28] (.cond (.t 28)
         (.seq (.ops [⟨some 30, none, .mv (.t 5), none⟩,
      ⟨some 31, none, .call (.f 28) [(.t 30)], none⟩,
      ⟨some 29, none, .mv (.t 31), none⟩,
      ⟨some 32, none, .ext 0 (.t 29), none⟩,
      ⟨some 33, none, .ext 1 (.t 29), none⟩,
      ⟨some 7, none, .new [(.int .i64 0), (.lst .clip 0 [])] [(1, 43, 3)], none⟩,
      ⟨none, none, .stores 2 (.t 7) (.t 32), none⟩,
      ⟨some 8, none, .mv (.t 33), none⟩])
          (.keep [1, 2, 7, 8] (.seq (.ops [⟨some 34, none, .mv (.t 8), none⟩,
      ⟨some 35, none, .bin .neq (.t 34) (.c (.int .i64 0)), none⟩,
      ⟨some 36, none, .mv (.t 35), none⟩,
      ⟨some 37, (some (36, false)), .load (some 2) (.t 2), none⟩,
      ⟨some 38, (some (36, false)), .load (some 2) (.t 7), none⟩,
      ⟨some 39, (some (36, false)), .call (.f 30) [(.t 37), (.t 38)], none⟩,
      ⟨some 40, (some (36, false)), .not (.t 39), none⟩,
      ⟨some 41, none, .pick (.t 36) (.c (.bool true)) (.t 40), none⟩])
           (.keep [1, 41] (.cond (.t 41)
            (.seq (.ops [⟨some 4, none, .mv (.c (.bool false)), none⟩])
             (.ret))
            (.skip))))))
         (.seq (.ops [⟨some 42, none, .mv (.t 5), none⟩,
      ⟨some 43, none, .bin .neq (.t 42) (.c (.str ⟨#[]⟩)), none⟩,
      ⟨some 44, none, .mv (.t 43), none⟩,
      ⟨some 45, (some (44, false)), .load (some 2) (.t 2), none⟩,
      ⟨some 46, (some (44, false)), .call (.f 21) [(.t 45)], none⟩,
      ⟨some 47, none, .pick (.t 44) (.c (.bool true)) (.t 46), none⟩])
          (.keep [1, 47] (.cond (.t 47)
           (.seq (.ops [⟨some 4, none, .mv (.c (.bool false)), none⟩])
            (.ret))
           (.skip)))))))))
      (J_law21_RecordBack_j1)))))))⟩
theorem J_law21_RecordBack_ok : chkFn Try.prog 5 J_law21_RecordBack = true := by kernel_rfl

/- behind: Q -/
def J_law21_RecordLeaves_j1 : ACode :=
  .keep [] (.seq (.ops [⟨some 4, none, .mv (.c (.bool true)), none⟩])
          (.ret))

/- behind: Q -/
def J_law21_RecordLeaves_j2 : ACode :=
  .keep [2, 3, 5, 6, 64, 65] (.ops [⟨some 158, none, .bin .add (.t 65) (.c (.int .i64 1)), none⟩,
      ⟨some 65, none, .mv (.t 158), none⟩])

/- behind: Q = kloop [2, 3, 5, 6, 64, 65] I n (kblock 0 (kseq P (J_law21_RecordLeaves_j1) Q)) -/
def J_law21_RecordLeaves_j3 : ACode :=
  .seq (.ops [⟨some 66, none, .bin .lss (.t 65) (.t 64), none⟩])
             (.keep [2, 3, 5, 6, 64, 65, 66] (.seq (.cond (.t 66)
               (.skip)
               (.exit 0))
              (.keep [2, 3, 5, 6, 64, 65] (.seq (.block 1 (.seq (.ops [⟨some 67, none, .mv (.t 65), none⟩,
      ⟨some 8, none, .mv (.t 67), none⟩])
                 (.keep [2, 3, 5, 6, 8, 64, 65] (.seq (.holes 2 (.draw [2, 3, 5, 6, 8, 9, 10, 64, 65] [⟨some 68, none, .fld 1 (.t 5), none⟩,
      ⟨some 69, none, .lds none (.t 68), none⟩,
      ⟨some 70, none, .mv (.t 8), none⟩,
      ⟨some 71, none, .idxa 3 (.t 69) (.t 70), none⟩,
      ⟨some 72, none, .load (some 3) (.t 71), none⟩,
      ⟨some 73, none, .fld 1 (.t 2), none⟩,
      ⟨some 74, none, .load none (.t 73), (some (.s 2, []))⟩,
      ⟨some 75, none, .mv (.t 8), none⟩,
      ⟨some 76, none, .idxa 3 (.t 74) (.t 75), none⟩,
      ⟨some 77, none, .lds (some 3) (.t 76), none⟩,
      ⟨some 9, none, .new [(.int .i64 0), (.lst .clip 0 []), (.int .i64 0)] [(1, 28, 2)], (some (.h 1, []))⟩,
      ⟨some 10, none, .new [(.int .i64 0), (.lst .clip 0 []), (.int .i64 0)] [(1, 28, 2)], (some (.h 0, []))⟩,
      ⟨none, none, .stores 3 (.t 9) (.t 72), (some (.h 1, [2]))⟩,
      ⟨none, none, .stores 3 (.t 10) (.t 77), (some (.h 0, []))⟩]))
                  (.keep [2, 3, 5, 6, 8, 9, 10, 64, 65] (.seq (.seq (.ops [⟨some 78, none, .mv (.t 8), none⟩,
      ⟨some 79, none, .fld 0 (.t 3), none⟩,
      ⟨some 80, none, .load none (.t 79), none⟩,
      ⟨some 81, none, .bin .neq (.t 78) (.t 80), none⟩])
                    (.keep [2, 3, 5, 6, 9, 10, 64, 65, 81] (.cond (.t 81)
                     (.seq (.seq (.ops [⟨some 82, none, .load (some 3) (.t 9), none⟩,
      ⟨some 83, none, .bsl 43 3 1 [(.int .i64 0), (.lst .clip 0 []), (.int .i64 0)] [(0, 3, (.t 82))], none⟩,
      ⟨some 84, none, .build [(.int .i64 0), (.lst .clip 0 [])] [(1, 1, (.t 83))], none⟩,
      ⟨some 85, none, .load (some 3) (.t 10), none⟩,
      ⟨some 86, none, .bsl 43 3 1 [(.int .i64 0), (.lst .clip 0 []), (.int .i64 0)] [(0, 3, (.t 85))], none⟩,
      ⟨some 87, none, .build [(.int .i64 0), (.lst .clip 0 [])] [(1, 1, (.t 86))], none⟩,
      ⟨some 88, none, .call (.f 30) [(.t 84), (.t 87)], none⟩,
      ⟨some 89, none, .not (.t 88), none⟩])
                       (.keep [2, 3, 5, 6, 64, 65, 89] (.cond (.t 89)
                        (.seq (.ops [⟨some 4, none, .mv (.c (.bool false)), none⟩])
                         (.ret))
                        (.skip))))
                      (.exit 1))
                     (.skip))))
                   (.keep [2, 3, 5, 6, 9, 10, 64, 65] (.seq (.seq (.ops [⟨some 90, none, .fld 0 (.t 9), none⟩,
      ⟨some 91, none, .load none (.t 90), none⟩,
      ⟨some 92, none, .mv (.t 6), none⟩,
      ⟨some 93, none, .bin .neq (.t 91) (.t 92), none⟩,
      ⟨some 94, none, .mv (.t 93), none⟩,
      ⟨some 95, (some (94, false)), .mv (.t 6), none⟩,
      ⟨some 96, (some (94, false)), .fld 0 (.t 10), none⟩,
      ⟨some 97, (some (94, false)), .load none (.t 96), none⟩,
      ⟨some 98, (some (94, false)), .fld 2 (.t 3), none⟩,
      ⟨some 99, (some (94, false)), .load none (.t 98), none⟩,
      ⟨some 100, (some (94, false)), .bin .add (.t 97) (.t 99), none⟩,
      ⟨some 101, (some (94, false)), .bin .neq (.t 95) (.t 100), none⟩,
      ⟨some 102, none, .pick (.t 94) (.c (.bool true)) (.t 101), none⟩])
                     (.keep [2, 3, 5, 6, 9, 10, 64, 65, 102] (.cond (.t 102)
                      (.seq (.ops [⟨some 4, none, .mv (.c (.bool false)), none⟩])
                       (.ret))
                      (.skip))))
                    (.keep [2, 3, 5, 6, 9, 10, 64, 65] (.seq (.ops [⟨some 103, none, .fld 1 (.t 9), none⟩,
      ⟨some 104, none, .load none (.t 103), none⟩,
      ⟨some 105, none, .lenl (.t 104), none⟩,
      ⟨some 106, none, .fld 1 (.t 10), none⟩,
      ⟨some 107, none, .load none (.t 106), none⟩,
      ⟨some 108, none, .lenl (.t 107), none⟩,
      ⟨some 109, none, .bin .sub (.t 105) (.t 108), none⟩,
      ⟨some 11, none, .mv (.t 109), none⟩])
                     (.keep [2, 3, 5, 6, 9, 10, 11, 64, 65] (.seq (.ops [⟨some 110, none, .fld 1 (.t 3), none⟩,
      ⟨some 111, none, .load none (.t 110), none⟩])
                      (.keep [2, 3, 5, 6, 9, 10, 11, 64, 65, 111] (.block 2 (.seq (.ops [⟨some 122, none, .bin .eql (.t 111) (.c (.int .i64 2)), none⟩,
      ⟨some 121, none, .mv (.t 122), none⟩])
                        (.keep [2, 3, 5, 6, 9, 10, 11, 64, 65, 111, 121] (.cond (.t 121)
                         (.seq (.draw [2, 3, 5, 6, 64, 65, 145] [⟨some 123, none, .mv (.t 11), none⟩,
      ⟨some 124, none, .bin .neq (.t 123) (.c (.int .i64 1)), none⟩,
      ⟨some 125, none, .mv (.t 124), none⟩,
      ⟨some 126, (some (125, false)), .fld 2 (.t 9), none⟩,
      ⟨some 127, (some (125, false)), .lds none (.t 126), none⟩,
      ⟨some 128, (some (125, false)), .fld 2 (.t 10), none⟩,
      ⟨some 129, (some (125, false)), .lds none (.t 128), none⟩,
      ⟨some 130, (some (125, false)), .bin .add (.t 129) (.c (.int .i64 1)), none⟩,
      ⟨some 131, (some (125, false)), .bin .neq (.t 127) (.t 130), none⟩,
      ⟨some 132, none, .pick (.t 125) (.c (.bool true)) (.t 131), none⟩,
      ⟨some 133, none, .mv (.t 132), none⟩,
      ⟨some 134, (some (133, false)), .fld 1 (.t 9), none⟩,
      ⟨some 135, (some (133, false)), .lds none (.t 134), none⟩,
      ⟨some 136, (some (133, false)), .fld 1 (.t 10), none⟩,
      ⟨some 137, (some (133, false)), .lds none (.t 136), none⟩,
      ⟨some 138, (some (133, false)), .lenl (.t 137), none⟩,
      ⟨some 139, (some (133, false)), .idxa 2 (.t 135) (.t 138), none⟩,
      ⟨some 140, (some (133, false)), .load (some 2) (.t 139), none⟩,
      ⟨some 141, (some (133, false)), .fld 3 (.t 3), none⟩,
      ⟨some 142, (some (133, false)), .load (some 2) (.t 141), none⟩,
      ⟨some 143, (some (133, false)), .call (.f 31) [(.t 140), (.t 142)], none⟩,
      ⟨some 144, (some (133, false)), .not (.t 143), none⟩,
      ⟨some 145, none, .pick (.t 133) (.c (.bool true)) (.t 144), none⟩])
                          (.keep [2, 3, 5, 6, 64, 65, 145] (.cond (.t 145)
                           (.seq (.ops [⟨some 4, none, .mv (.c (.bool false)), none⟩])
                            (.ret))
                           (.skip))))
                         (.seq (.ops [⟨some 147, none, .bin .eql (.t 111) (.c (.int .i64 3)), none⟩,
      ⟨some 146, none, .mv (.t 147), none⟩])
                          (.keep [2, 3, 5, 6, 9, 10, 11, 64, 65, 146] (.cond (.t 146)
                           (.seq (.ops [⟨some 148, none, .mv (.t 11), none⟩,
      ⟨some 149, none, .bin .neq (.t 148) (.c (.int .i64 (-1))), none⟩,
      ⟨some 150, none, .mv (.t 149), none⟩,
      ⟨some 151, (some (150, false)), .fld 2 (.t 9), none⟩,
      ⟨some 152, (some (150, false)), .load none (.t 151), none⟩,
      ⟨some 153, (some (150, false)), .fld 2 (.t 10), none⟩,
      ⟨some 154, (some (150, false)), .load none (.t 153), none⟩,
      ⟨some 155, (some (150, false)), .bin .add (.t 154) (.c (.int .i64 1)), none⟩,
      ⟨some 156, (some (150, false)), .bin .neq (.t 152) (.t 155), none⟩,
      ⟨some 157, none, .pick (.t 150) (.c (.bool true)) (.t 156), none⟩])
                            (.keep [2, 3, 5, 6, 64, 65, 157] (.cond (.t 157)
                             (.seq (.ops [⟨some 4, none, .mv (.c (.bool false)), none⟩])
                              (.ret))
                             (.skip))))
                           (.seq (.ops [⟨some 112, none, .mv (.t 11), none⟩,
      ⟨some 113, none, .bin .neq (.t 112) (.c (.int .i64 0)), none⟩,
      ⟨some 114, none, .mv (.t 113), none⟩,
      ⟨some 115, (some (114, false)), .fld 2 (.t 9), none⟩,
      ⟨some 116, (some (114, false)), .load none (.t 115), none⟩,
      ⟨some 117, (some (114, false)), .fld 2 (.t 10), none⟩,
      ⟨some 118, (some (114, false)), .load none (.t 117), none⟩,
      ⟨some 119, (some (114, false)), .bin .neq (.t 116) (.t 118), none⟩,
      ⟨some 120, none, .pick (.t 114) (.c (.bool true)) (.t 119), none⟩])
                            (.keep [2, 3, 5, 6, 64, 65, 120] (.cond (.t 120)
                             (.seq (.ops [⟨some 4, none, .mv (.c (.bool false)), none⟩])
                              (.ret))
                             (.skip))))))))))))))))))))))))
               (J_law21_RecordLeaves_j2)))))

/-- attorney/attorneylaw21.RecordLeaves -/
def J_law21_RecordLeaves : AFn :=
  ⟨159, [.t 4], .seq (.ops [⟨some 2, none, .box (.t 0) [], none⟩,
      ⟨some 3, none, .box (.t 1) [], none⟩,
      ⟨some 4, none, .mv (.c (.bool false)), none⟩])
   (.keep [2, 3] (.seq (.seq (.ops [⟨some 12, none, .call (.f 14) [], none⟩,
      ⟨some 13, none, .not (.t 12), none⟩])
     (.keep [2, 3, 13] (.cond (.t 13)
      (.seq (.ops [⟨some 4, none, .mv (.c (.bool false)), none⟩])
       (.ret))
      (.skip))))
    (.keep [2, 3] (.seq (.seq (.ops [⟨some 14, none, .load (some 2) (.t 2), none⟩,
      ⟨some 15, none, .call (.f 15) [(.t 14)], none⟩,
      ⟨some 16, none, .mv (.t 15), none⟩,
      ⟨some 17, (some (16, false)), .fld 3 (.t 3), none⟩,
      ⟨some 18, (some (16, false)), .load (some 2) (.t 17), none⟩,
      ⟨some 19, (some (16, false)), .call (.f 16) [(.t 18)], none⟩,
      ⟨some 20, none, .pick (.t 16) (.c (.bool true)) (.t 19), none⟩])
      (.keep [2, 3, 20] (.cond (.t 20)
       (.seq (.ops [⟨some 4, none, .mv (.c (.bool true)), none⟩])
        (.ret))
       (.skip))))
     (.keep [2, 3] (.seq (.ops [⟨some 22, none, .load (some 2) (.t 2), none⟩,
      ⟨some 23, none, .load (some 5) (.t 3), none⟩,
      ⟨some 24, none, .call (.f 18) [(.t 22), (.t 23)], none⟩,
      ⟨some 21, none, .mv (.t 24), none⟩,
      ⟨some 25, none, .ext 0 (.t 21), none⟩,
      ⟨some 26, none, .ext 1 (.t 21), none⟩,
      ⟨some 27, none, .ext 2 (.t 21), none⟩,
      ⟨some 5, none, .new [(.int .i64 0), (.lst .clip 0 [])] [(1, 43, 3)], none⟩,
      ⟨none, none, .stores 2 (.t 5) (.t 25), none⟩,
      ⟨some 6, none, .mv (.t 26), none⟩,
      ⟨some 7, none, .mv (.t 27), none⟩])
      (.keep [2, 3, 5, 6, 7] (.seq (.seq (.ops [⟨some 28, none, .mv (.t 7), none⟩,
      ⟨some 29, none, .bin .neq (.t 28) (.c (.int .i64 0)), none⟩])
        (.keep [2, 3, 5, 6, 29] (.cond (.t 29)
         (.seq (.ops [⟨some 30, none, .mv (.t 6), none⟩,
      ⟨some 31, none, .bin .eql (.t 30) (.c (.int .i64 0)), none⟩,
      ⟨some 32, none, .mv (.t 31), none⟩,
      ⟨some 33, (some (32, true)), .fld 1 (.t 5), none⟩,
      ⟨some 34, (some (32, true)), .load none (.t 33), none⟩,
      ⟨some 35, (some (32, true)), .lenl (.t 34), none⟩,
      ⟨some 36, (some (32, true)), .bin .eql (.t 35) (.c (.int .i64 0)), none⟩,
      ⟨some 37, none, .pick (.t 32) (.t 36) (.c (.bool false)), none⟩,
      ⟨some 38, none, .mv (.t 37), none⟩,
      ⟨some 39, (some (38, true)), .fld 0 (.t 5), none⟩,
      ⟨some 40, (some (38, true)), .load none (.t 39), none⟩,
      ⟨some 41, (some (38, true)), .bin .eql (.t 40) (.c (.int .i64 0)), none⟩,
      ⟨some 42, none, .pick (.t 38) (.t 41) (.c (.bool false)), none⟩,
      ⟨some 4, none, .mv (.t 42), none⟩])
          (.ret))
         (.skip))))
       (.keep [2, 3, 5, 6] (.seq (.seq (.ops [⟨some 43, none, .fld 0 (.t 5), none⟩,
      ⟨some 44, none, .load none (.t 43), none⟩,
      ⟨some 45, none, .fld 0 (.t 2), none⟩,
      ⟨some 46, none, .load none (.t 45), none⟩,
      ⟨some 47, none, .bin .neq (.t 44) (.t 46), none⟩,
      ⟨some 48, none, .mv (.t 47), none⟩,
      ⟨some 49, (some (48, false)), .fld 1 (.t 5), none⟩,
      ⟨some 50, (some (48, false)), .load none (.t 49), none⟩,
      ⟨some 51, (some (48, false)), .lenl (.t 50), none⟩,
      ⟨some 52, (some (48, false)), .fld 1 (.t 2), none⟩,
      ⟨some 53, (some (48, false)), .load none (.t 52), none⟩,
      ⟨some 54, (some (48, false)), .lenl (.t 53), none⟩,
      ⟨some 55, (some (48, false)), .bin .neq (.t 51) (.t 54), none⟩,
      ⟨some 56, none, .pick (.t 48) (.c (.bool true)) (.t 55), none⟩,
      ⟨some 57, none, .mv (.t 56), none⟩,
      ⟨some 58, (some (57, false)), .load (some 2) (.t 5), none⟩,
      ⟨some 59, (some (57, false)), .call (.f 21) [(.t 58)], none⟩,
      ⟨some 60, (some (57, false)), .not (.t 59), none⟩,
      ⟨some 61, none, .pick (.t 57) (.c (.bool true)) (.t 60), none⟩])
         (.keep [2, 3, 5, 6, 61] (.cond (.t 61)
          (.seq (.ops [⟨some 4, none, .mv (.c (.bool false)), none⟩])
           (.ret))
          (.skip))))
        (.keep [2, 3, 5, 6] (.seq (.seq (.ops [⟨some 62, none, .fld 1 (.t 5), none⟩,
      ⟨some 63, none, .load none (.t 62), none⟩,
      ⟨some 64, none, .lenl (.t 63), none⟩,
      ⟨some 65, none, .mv (.c (.int .i64 0)), none⟩])
          (.keep [2, 3, 5, 6, 64, 65] (.block 0 (.loop [2, 3, 5, 6, 64, 65] (J_law21_RecordLeaves_j3)))))
         (J_law21_RecordLeaves_j1)))))))))))))⟩
theorem J_law21_RecordLeaves_ok : chkFn Try.prog 6 J_law21_RecordLeaves = true := by kernel_rfl

/-- attorney/attorneylaw21.RecordTurns -/
def J_law21_RecordTurns : AFn :=
  ⟨115, [.t 6], .seq (.ops [⟨some 3, none, .box (.t 0) [], none⟩,
      ⟨some 5, none, .box (.t 2) [], none⟩,
      ⟨some 6, none, .mv (.c (.bool false)), none⟩])
   (.keep [1, 3, 5] (.seq (.seq (.ops [⟨some 20, none, .call (.f 14) [], none⟩,
      ⟨some 21, none, .not (.t 20), none⟩])
     (.keep [1, 3, 5, 21] (.cond (.t 21)
      (.seq (.ops [⟨some 6, none, .mv (.c (.bool false)), none⟩])
       (.ret))
      (.skip))))
    (.keep [1, 3, 5] (.seq (.seq (.ops [⟨some 22, none, .load (some 2) (.t 3), none⟩,
      ⟨some 23, none, .call (.f 15) [(.t 22)], none⟩,
      ⟨some 24, none, .mv (.t 23), none⟩,
      ⟨some 25, (some (24, false)), .load (some 2) (.t 5), none⟩,
      ⟨some 26, (some (24, false)), .call (.f 16) [(.t 25)], none⟩,
      ⟨some 27, none, .pick (.t 24) (.c (.bool true)) (.t 26), none⟩])
      (.keep [1, 3, 5, 27] (.cond (.t 27)
       (.seq (.ops [⟨some 6, none, .mv (.c (.bool true)), none⟩])
        (.ret))
       (.skip))))
     (.keep [1, 3, 5] (.seq (.ops [⟨some 28, none, .mv (.t 1), none⟩,
      ⟨some 29, none, .load (some 2) (.t 5), none⟩,
      ⟨some 30, none, .build [(.int .i64 0), (.int .i64 0), (.int .i64 0), (.int .i64 0), (.lst .clip 0 [])] [(0, 1, (.t 28)), (1, 1, (.c (.int .i64 2))), (3, 2, (.t 29))], none⟩,
      ⟨some 7, none, .new [(.int .i64 0), (.int .i64 0), (.int .i64 0), (.int .i64 0), (.lst .clip 0 [])] [], none⟩,
      ⟨none, none, .store 5 (.t 7) (.t 30), none⟩])
      (.keep [1, 3, 7] (.seq (.ops [⟨some 32, none, .load (some 2) (.t 3), none⟩,
      ⟨some 33, none, .load (some 5) (.t 7), none⟩,
      ⟨some 34, none, .call (.f 18) [(.t 32), (.t 33)], none⟩,
      ⟨some 31, none, .mv (.t 34), none⟩,
      ⟨some 35, none, .ext 0 (.t 31), none⟩,
      ⟨some 36, none, .ext 1 (.t 31), none⟩,
      ⟨some 37, none, .ext 2 (.t 31), none⟩,
      ⟨some 8, none, .new [(.int .i64 0), (.lst .clip 0 [])] [(1, 43, 3)], none⟩,
      ⟨none, none, .stores 2 (.t 8) (.t 35), none⟩,
      ⟨some 9, none, .mv (.t 36), none⟩,
      ⟨some 10, none, .mv (.t 37), none⟩])
       (.keep [1, 3, 7, 8, 10] (.seq (.seq (.ops [⟨some 38, none, .mv (.t 10), none⟩,
      ⟨some 39, none, .bin .neq (.t 38) (.c (.int .i64 0)), none⟩])
         (.keep [1, 3, 7, 8, 39] (.cond (.t 39)
          (.seq (.ops [⟨some 6, none, .mv (.c (.bool true)), none⟩])
           (.ret))
          (.skip))))
        (.keep [1, 3, 7, 8] (.seq (.seq (.ops [⟨some 41, none, .load (some 2) (.t 8), none⟩,
      ⟨some 42, none, .load (some 5) (.t 7), none⟩,
      ⟨some 43, none, .call (.f 18) [(.t 41), (.t 42)], none⟩,
      ⟨some 40, none, .mv (.t 43), none⟩,
      ⟨some 44, none, .ext 0 (.t 40), none⟩,
      ⟨some 45, none, .ext 1 (.t 40), none⟩,
      ⟨some 46, none, .ext 2 (.t 40), none⟩,
      ⟨some 11, none, .new [(.int .i64 0), (.lst .clip 0 [])] [(1, 43, 3)], none⟩,
      ⟨none, none, .stores 2 (.t 11) (.t 44), none⟩,
      ⟨some 12, none, .mv (.t 45), none⟩,
      ⟨some 13, none, .mv (.t 46), none⟩])
          (.keep [1, 3, 7, 8, 13] (.seq (.ops [⟨some 47, none, .mv (.t 13), none⟩,
      ⟨some 48, none, .bin .neq (.t 47) (.c (.int .i64 11)), none⟩,
      ⟨some 49, none, .mv (.t 48), none⟩,
      ⟨some 50, (some (49, true)), .mv (.t 13), none⟩,
      ⟨some 51, (some (49, true)), .bin .neq (.t 50) (.c (.int .i64 5)), none⟩,
      ⟨some 52, none, .pick (.t 49) (.t 51) (.c (.bool false)), none⟩])
           (.keep [1, 3, 7, 8, 52] (.cond (.t 52)
            (.seq (.ops [⟨some 6, none, .mv (.c (.bool false)), none⟩])
             (.ret))
            (.skip))))))
         (.keep [1, 3, 7, 8] (.seq (.ops [⟨some 53, none, .fld 1 (.t 7), none⟩,
      ⟨none, none, .store 1 (.t 53) (.c (.int .i64 3)), none⟩])
          (.keep [1, 3, 7, 8] (.seq (.ops [⟨some 55, none, .load (some 2) (.t 8), none⟩,
      ⟨some 56, none, .load (some 5) (.t 7), none⟩,
      ⟨some 57, none, .call (.f 18) [(.t 55), (.t 56)], none⟩,
      ⟨some 54, none, .mv (.t 57), none⟩,
      ⟨some 58, none, .ext 0 (.t 54), none⟩,
      ⟨some 59, none, .ext 1 (.t 54), none⟩,
      ⟨some 60, none, .ext 2 (.t 54), none⟩,
      ⟨some 14, none, .new [(.int .i64 0), (.lst .clip 0 [])] [(1, 43, 3)], none⟩,
      ⟨none, none, .stores 2 (.t 14) (.t 58), none⟩,
      ⟨some 15, none, .mv (.t 59), none⟩,
      ⟨some 16, none, .mv (.t 60), none⟩])
           (.keep [1, 3, 7, 8, 14, 16] (.seq (.seq (.ops [⟨some 61, none, .mv (.t 16), none⟩,
      ⟨some 62, none, .bin .neq (.t 61) (.c (.int .i64 0)), none⟩])
             (.keep [1, 3, 7, 8, 14, 16, 62] (.cond (.t 62)
              (.seq (.ops [⟨some 63, none, .mv (.t 16), none⟩,
      ⟨some 64, none, .bin .eql (.t 63) (.c (.int .i64 5)), none⟩,
      ⟨some 65, none, .mv (.t 64), none⟩,
      ⟨some 66, (some (65, true)), .fld 1 (.t 8), none⟩,
      ⟨some 67, (some (65, true)), .load none (.t 66), none⟩,
      ⟨some 68, (some (65, true)), .mv (.t 1), none⟩,
      ⟨some 69, (some (65, true)), .idxa 3 (.t 67) (.t 68), none⟩,
      ⟨some 70, (some (65, true)), .fld 2 (.t 69), none⟩,
      ⟨some 71, (some (65, true)), .load none (.t 70), none⟩,
      ⟨some 72, (some (65, true)), .bin .eql (.t 71) (.c (.int .i64 4611686018427387904)), none⟩,
      ⟨some 73, none, .pick (.t 65) (.t 72) (.c (.bool false)), none⟩,
      ⟨some 6, none, .mv (.t 73), none⟩])
               (.ret))
              (.skip))))
            (.keep [1, 3, 7, 14] (.seq (.seq (.ops [⟨some 75, none, .load (some 2) (.t 14), none⟩,
      ⟨some 76, none, .load (some 5) (.t 7), none⟩,
      ⟨some 77, none, .call (.f 18) [(.t 75), (.t 76)], none⟩,
      ⟨some 74, none, .mv (.t 77), none⟩,
      ⟨some 78, none, .ext 0 (.t 74), none⟩,
      ⟨some 79, none, .ext 1 (.t 74), none⟩,
      ⟨some 80, none, .ext 2 (.t 74), none⟩,
      ⟨some 17, none, .new [(.int .i64 0), (.lst .clip 0 [])] [(1, 43, 3)], none⟩,
      ⟨none, none, .stores 2 (.t 17) (.t 78), none⟩,
      ⟨some 18, none, .mv (.t 79), none⟩,
      ⟨some 19, none, .mv (.t 80), none⟩])
              (.keep [1, 3, 14, 19] (.seq (.ops [⟨some 81, none, .mv (.t 19), none⟩,
      ⟨some 82, none, .bin .neq (.t 81) (.c (.int .i64 10)), none⟩,
      ⟨some 83, none, .mv (.t 82), none⟩,
      ⟨some 84, (some (83, true)), .mv (.t 19), none⟩,
      ⟨some 85, (some (83, true)), .bin .neq (.t 84) (.c (.int .i64 5)), none⟩,
      ⟨some 86, none, .pick (.t 83) (.t 85) (.c (.bool false)), none⟩])
               (.keep [1, 3, 14, 86] (.cond (.t 86)
                (.seq (.ops [⟨some 6, none, .mv (.c (.bool false)), none⟩])
                 (.ret))
                (.skip))))))
             (.keep [1, 3, 14] (.seq (.seq (.draw [1, 3, 14, 100] [⟨some 87, none, .fld 1 (.t 14), none⟩,
      ⟨some 88, none, .lds none (.t 87), none⟩,
      ⟨some 89, none, .mv (.t 1), none⟩,
      ⟨some 90, none, .idxa 3 (.t 88) (.t 89), none⟩,
      ⟨some 91, none, .fld 2 (.t 90), none⟩,
      ⟨some 92, none, .load none (.t 91), none⟩,
      ⟨some 93, none, .fld 1 (.t 3), none⟩,
      ⟨some 94, none, .load none (.t 93), none⟩,
      ⟨some 95, none, .mv (.t 1), none⟩,
      ⟨some 96, none, .idxa 3 (.t 94) (.t 95), none⟩,
      ⟨some 97, none, .fld 2 (.t 96), none⟩,
      ⟨some 98, none, .load none (.t 97), none⟩,
      ⟨some 99, none, .bin .add (.t 98) (.c (.int .i64 2)), none⟩,
      ⟨some 100, none, .bin .neq (.t 92) (.t 99), none⟩])
               (.keep [1, 3, 14, 100] (.cond (.t 100)
                (.seq (.ops [⟨some 6, none, .mv (.c (.bool false)), none⟩])
                 (.ret))
                (.skip))))
              (.keep [1, 3, 14] (.seq (.draw [3, 14] [⟨some 101, none, .fld 1 (.t 14), none⟩,
      ⟨some 102, none, .lds none (.t 101), none⟩,
      ⟨some 103, none, .mv (.t 1), none⟩,
      ⟨some 104, none, .fld 1 (.t 3), none⟩,
      ⟨some 105, none, .load none (.t 104), none⟩,
      ⟨some 106, none, .mv (.t 1), none⟩,
      ⟨some 107, none, .idxa 3 (.t 105) (.t 106), none⟩,
      ⟨some 108, none, .fld 2 (.t 107), none⟩,
      ⟨some 109, none, .load none (.t 108), none⟩,
      ⟨some 110, none, .idxa 3 (.t 102) (.t 103), none⟩,
      ⟨some 111, none, .fld 2 (.t 110), none⟩,
      ⟨none, none, .store 1 (.t 111) (.t 109), none⟩])
               (.keep [3, 14] (.seq (.ops [⟨some 112, none, .load (some 2) (.t 14), none⟩,
      ⟨some 113, none, .load (some 2) (.t 3), none⟩,
      ⟨some 114, none, .call (.f 30) [(.t 112), (.t 113)], none⟩,
      ⟨some 6, none, .mv (.t 114), none⟩])
                (.ret)))))))))))))))))))))))))))⟩
theorem J_law21_RecordTurns_ok : chkFn Try.prog 7 J_law21_RecordTurns = true := by kernel_rfl

/-- attorney/attorneylaw21.awake -/
def J_law21_awake : AFn :=
  ⟨174, [.t 0], .seq (.ops [⟨some 0, none, .mv (.c (.bool false)), none⟩])
   (.keep [] (.seq (.ops [⟨some 17, none, .bsl 69 1 1 [(.int .u16 0)] [(0, 1, (.c (.int .u16 8193)))], none⟩,
      ⟨some 18, none, .call (.f 41) [(.t 17)], none⟩,
      ⟨some 19, none, .bsl 44 1 1 [(.str ⟨#[]⟩)] [(0, 1, (.t 18))], none⟩,
      ⟨some 20, none, .build [(.int .i64 0), (.lst .clip 0 [])] [(0, 1, (.c (.int .i64 1))), (1, 1, (.t 19))], none⟩,
      ⟨some 21, none, .bsl 28 2 1 [(.int .i64 0), (.lst .clip 0 [])] [(0, 2, (.t 20))], none⟩,
      ⟨some 22, none, .build [(.int .i64 0), (.lst .clip 0 []), (.int .i64 0)] [(0, 1, (.c (.int .i64 5))), (1, 1, (.t 21)), (2, 1, (.c (.int .i64 2)))], none⟩,
      ⟨some 23, none, .bsl 43 3 1 [(.int .i64 0), (.lst .clip 0 []), (.int .i64 0)] [(0, 3, (.t 22))], none⟩,
      ⟨some 24, none, .build [(.int .i64 0), (.lst .clip 0 [])] [(0, 1, (.c (.int .i64 3))), (1, 1, (.t 23))], none⟩,
      ⟨some 1, none, .new [(.int .i64 0), (.lst .clip 0 [])] [(1, 43, 3)], none⟩,
      ⟨none, none, .stores 2 (.t 1) (.t 24), none⟩])
    (.keep [1] (.seq (.ops [⟨some 26, none, .load (some 2) (.t 1), none⟩,
      ⟨some 27, none, .build [(.int .i64 0), (.int .i64 0), (.int .i64 0), (.int .i64 0), (.lst .clip 0 [])] [(1, 1, (.c (.int .i64 1))), (2, 1, (.c (.int .i64 3)))], none⟩,
      ⟨some 28, none, .call (.f 18) [(.t 26), (.t 27)], none⟩,
      ⟨some 25, none, .mv (.t 28), none⟩,
      ⟨some 29, none, .ext 0 (.t 25), none⟩,
      ⟨some 30, none, .ext 1 (.t 25), none⟩,
      ⟨some 31, none, .ext 2 (.t 25), none⟩,
      ⟨some 2, none, .new [(.int .i64 0), (.lst .clip 0 [])] [(1, 43, 3)], none⟩,
      ⟨none, none, .stores 2 (.t 2) (.t 29), none⟩,
      ⟨some 3, none, .mv (.t 30), none⟩,
      ⟨some 4, none, .mv (.t 31), none⟩])
     (.keep [1, 2, 3, 4] (.seq (.ops [⟨some 33, none, .load (some 2) (.t 1), none⟩,
      ⟨some 34, none, .build [(.int .i64 0), (.int .i64 0), (.int .i64 0), (.int .i64 0), (.lst .clip 0 [])] [(0, 1, (.c (.int .i64 1)))], none⟩,
      ⟨some 35, none, .call (.f 18) [(.t 33), (.t 34)], none⟩,
      ⟨some 32, none, .mv (.t 35), none⟩,
      ⟨some 36, none, .ext 0 (.t 32), none⟩,
      ⟨some 37, none, .ext 1 (.t 32), none⟩,
      ⟨some 38, none, .ext 2 (.t 32), none⟩,
      ⟨some 5, none, .new [(.int .i64 0), (.lst .clip 0 [])] [(1, 43, 3)], none⟩,
      ⟨none, none, .stores 2 (.t 5) (.t 36), none⟩,
      ⟨some 6, none, .mv (.t 37), none⟩,
      ⟨some 7, none, .mv (.t 38), none⟩])
      (.keep [1, 2, 3, 4, 7] (.seq (.draw [1, 2, 3, 4, 7, 8, 9, 10] [⟨some 40, none, .lds (some 2) (.t 1), none⟩,
      ⟨some 41, none, .fld 1 (.t 1), none⟩,
      ⟨some 42, none, .lds none (.t 41), none⟩,
      ⟨some 43, none, .idxa 3 (.t 42) (.c (.int .i64 0)), none⟩,
      ⟨some 44, none, .fld 1 (.t 43), none⟩,
      ⟨some 45, none, .load none (.t 44), none⟩,
      ⟨some 46, none, .idxa 2 (.t 45) (.c (.int .i64 0)), none⟩,
      ⟨some 47, none, .load (some 2) (.t 46), none⟩,
      ⟨some 48, none, .build [(.int .i64 0), (.int .i64 0), (.int .i64 0), (.int .i64 0), (.lst .clip 0 [])] [(1, 1, (.c (.int .i64 3))), (3, 2, (.t 47))], none⟩,
      ⟨some 49, none, .call (.f 18) [(.t 40), (.t 48)], none⟩,
      ⟨some 39, none, .mv (.t 49), none⟩,
      ⟨some 50, none, .ext 0 (.t 39), none⟩,
      ⟨some 51, none, .ext 1 (.t 39), none⟩,
      ⟨some 52, none, .ext 2 (.t 39), none⟩,
      ⟨some 8, none, .new [(.int .i64 0), (.lst .clip 0 [])] [(1, 43, 3)], none⟩,
      ⟨none, none, .stores 2 (.t 8) (.t 50), none⟩,
      ⟨some 9, none, .mv (.t 51), none⟩,
      ⟨some 10, none, .mv (.t 52), none⟩])
       (.keep [1, 2, 3, 4, 7, 8, 9, 10] (.seq (.ops [⟨some 54, none, .load (some 2) (.t 1), none⟩,
      ⟨some 55, none, .call (.f 26) [(.t 54)], none⟩,
      ⟨some 53, none, .mv (.t 55), none⟩,
      ⟨some 56, none, .ext 0 (.t 53), none⟩,
      ⟨some 57, none, .ext 1 (.t 53), none⟩,
      ⟨some 11, none, .mv (.t 56), none⟩,
      ⟨some 12, none, .mv (.t 57), none⟩])
        (.keep [1, 2, 3, 4, 7, 8, 9, 10, 11, 12] (.seq (.ops [⟨some 59, none, .mv (.t 11), none⟩,
      ⟨some 60, none, .call (.f 28) [(.t 59)], none⟩,
      ⟨some 58, none, .mv (.t 60), none⟩,
      ⟨some 61, none, .ext 0 (.t 58), none⟩,
      ⟨some 62, none, .ext 1 (.t 58), none⟩,
      ⟨some 13, none, .new [(.int .i64 0), (.lst .clip 0 [])] [(1, 43, 3)], none⟩,
      ⟨none, none, .stores 2 (.t 13) (.t 61), none⟩,
      ⟨some 14, none, .mv (.t 62), none⟩])
         (.keep [1, 2, 3, 4, 7, 8, 9, 10, 11, 12, 13, 14] (.seq (.ops [⟨some 64, none, .mv (.t 11), none⟩,
      ⟨some 65, none, .bin .add (.t 64) (.c (.str ⟨#[63]⟩)), none⟩,
      ⟨some 66, none, .call (.f 28) [(.t 65)], none⟩,
      ⟨some 63, none, .mv (.t 66), none⟩,
      ⟨some 67, none, .ext 0 (.t 63), none⟩,
      ⟨some 68, none, .ext 1 (.t 63), none⟩,
      ⟨some 15, none, .new [(.int .i64 0), (.lst .clip 0 [])] [(1, 43, 3)], none⟩,
      ⟨none, none, .stores 2 (.t 15) (.t 67), none⟩,
      ⟨some 16, none, .mv (.t 68), none⟩])
          (.keep [1, 2, 3, 4, 7, 8, 9, 10, 11, 12, 13, 14, 16] (.seq (.ops [⟨some 69, none, .mv (.t 4), none⟩,
      ⟨some 70, none, .bin .eql (.t 69) (.c (.int .i64 0)), none⟩,
      ⟨some 71, none, .mv (.t 70), none⟩,
      ⟨some 72, (some (71, true)), .mv (.t 3), none⟩,
      ⟨some 73, (some (71, true)), .bin .eql (.t 72) (.c (.int .i64 8)), none⟩,
      ⟨some 74, none, .pick (.t 71) (.t 73) (.c (.bool false)), none⟩,
      ⟨some 75, none, .mv (.t 74), none⟩,
      ⟨some 76, (some (75, true)), .fld 1 (.t 2), none⟩,
      ⟨some 77, (some (75, true)), .load none (.t 76), none⟩,
      ⟨some 78, (some (75, true)), .lenl (.t 77), none⟩,
      ⟨some 79, (some (75, true)), .bin .eql (.t 78) (.c (.int .i64 1)), none⟩,
      ⟨some 80, none, .pick (.t 75) (.t 79) (.c (.bool false)), none⟩,
      ⟨some 81, none, .mv (.t 80), none⟩,
      ⟨some 82, (some (81, true)), .fld 1 (.t 2), none⟩,
      ⟨some 83, (some (81, true)), .load none (.t 82), none⟩,
      ⟨some 84, (some (81, true)), .idxa 3 (.t 83) (.c (.int .i64 0)), none⟩,
      ⟨some 85, (some (81, true)), .fld 0 (.t 84), none⟩,
      ⟨some 86, (some (81, true)), .load none (.t 85), none⟩,
      ⟨some 87, (some (81, true)), .bin .eql (.t 86) (.c (.int .i64 8)), none⟩,
      ⟨some 88, none, .pick (.t 81) (.t 87) (.c (.bool false)), none⟩,
      ⟨some 89, none, .mv (.t 88), none⟩,
      ⟨some 90, (some (89, true)), .mv (.t 7), none⟩,
      ⟨some 91, (some (89, true)), .bin .eql (.t 90) (.c (.int .i64 10)), none⟩,
      ⟨some 92, none, .pick (.t 89) (.t 91) (.c (.bool false)), none⟩,
      ⟨some 93, none, .mv (.t 92), none⟩,
      ⟨some 94, (some (93, true)), .mv (.t 10), none⟩,
      ⟨some 95, (some (93, true)), .bin .eql (.t 94) (.c (.int .i64 0)), none⟩,
      ⟨some 96, none, .pick (.t 93) (.t 95) (.c (.bool false)), none⟩,
      ⟨some 97, none, .mv (.t 96), none⟩,
      ⟨some 98, (some (97, true)), .mv (.t 9), none⟩,
      ⟨some 99, (some (97, true)), .bin .eql (.t 98) (.c (.int .i64 5)), none⟩,
      ⟨some 100, none, .pick (.t 97) (.t 99) (.c (.bool false)), none⟩,
      ⟨some 101, none, .mv (.t 100), none⟩,
      ⟨some 102, (some (101, true)), .fld 1 (.t 8), none⟩,
      ⟨some 103, (some (101, true)), .load none (.t 102), none⟩,
      ⟨some 104, (some (101, true)), .lenl (.t 103), none⟩,
      ⟨some 105, (some (101, true)), .bin .eql (.t 104) (.c (.int .i64 1)), none⟩,
      ⟨some 106, none, .pick (.t 101) (.t 105) (.c (.bool false)), none⟩,
      ⟨some 107, none, .mv (.t 106), none⟩,
      ⟨some 108, (some (107, true)), .fld 1 (.t 8), none⟩,
      ⟨some 109, (some (107, true)), .load none (.t 108), none⟩,
      ⟨some 110, (some (107, true)), .idxa 3 (.t 109) (.c (.int .i64 0)), none⟩,
      ⟨some 111, (some (107, true)), .fld 1 (.t 110), none⟩,
      ⟨some 112, (some (107, true)), .load none (.t 111), none⟩,
      ⟨some 113, (some (107, true)), .lenl (.t 112), none⟩,
      ⟨some 114, (some (107, true)), .bin .eql (.t 113) (.c (.int .i64 0)), none⟩,
      ⟨some 115, none, .pick (.t 107) (.t 114) (.c (.bool false)), none⟩,
      ⟨some 116, none, .mv (.t 115), none⟩,
      ⟨some 117, (some (116, true)), .fld 1 (.t 8), none⟩,
      ⟨some 118, (some (116, true)), .load none (.t 117), none⟩,
      ⟨some 119, (some (116, true)), .idxa 3 (.t 118) (.c (.int .i64 0)), none⟩,
      ⟨some 120, (some (116, true)), .fld 2 (.t 119), none⟩,
      ⟨some 121, (some (116, true)), .load none (.t 120), none⟩,
      ⟨some 122, (some (116, true)), .bin .eql (.t 121) (.c (.int .i64 3)), none⟩,
      ⟨some 123, none, .pick (.t 116) (.t 122) (.c (.bool false)), none⟩,
      ⟨some 124, none, .mv (.t 123), none⟩,
      ⟨some 125, (some (124, true)), .mv (.t 11), none⟩,
      ⟨some 126, (some (124, true)), .bin .eql (.t 125) (.c (.str ⟨#[3, 1, 5, 2, 1, 1, 1, 1, 32, 1]⟩)), none⟩,
      ⟨some 127, none, .pick (.t 124) (.t 126) (.c (.bool false)), none⟩,
      ⟨some 128, none, .mv (.t 127), none⟩,
      ⟨some 129, (some (128, true)), .mv (.t 12), none⟩,
      ⟨some 130, (some (128, true)), .bin .eql (.t 129) (.c (.int .i64 0)), none⟩,
      ⟨some 131, none, .pick (.t 128) (.t 130) (.c (.bool false)), none⟩,
      ⟨some 132, none, .mv (.t 131), none⟩,
      ⟨some 133, (some (132, true)), .load (some 2) (.t 1), none⟩,
      ⟨some 134, (some (132, true)), .load (some 2) (.t 13), none⟩,
      ⟨some 135, (some (132, true)), .call (.f 30) [(.t 133), (.t 134)], none⟩,
      ⟨some 136, none, .pick (.t 132) (.t 135) (.c (.bool false)), none⟩,
      ⟨some 137, none, .mv (.t 136), none⟩,
      ⟨some 138, (some (137, true)), .load (some 2) (.t 1), none⟩,
      ⟨some 139, (some (137, true)), .load (some 2) (.t 2), none⟩,
      ⟨some 140, (some (137, true)), .call (.f 30) [(.t 138), (.t 139)], none⟩,
      ⟨some 141, (some (137, true)), .not (.t 140), none⟩,
      ⟨some 142, none, .pick (.t 137) (.t 141) (.c (.bool false)), none⟩,
      ⟨some 143, none, .mv (.t 142), none⟩,
      ⟨some 144, (some (143, true)), .mv (.t 14), none⟩,
      ⟨some 145, (some (143, true)), .bin .eql (.t 144) (.c (.int .i64 0)), none⟩,
      ⟨some 146, none, .pick (.t 143) (.t 145) (.c (.bool false)), none⟩,
      ⟨some 147, none, .mv (.t 146), none⟩,
      ⟨some 148, (some (147, true)), .mv (.t 16), none⟩,
      ⟨some 149, (some (147, true)), .bin .eql (.t 148) (.c (.int .i64 2)), none⟩,
      ⟨some 150, none, .pick (.t 147) (.t 149) (.c (.bool false)), none⟩,
      ⟨some 151, none, .mv (.t 150), none⟩,
      ⟨some 152, (some (151, true)), .load (some 2) (.t 1), none⟩,
      ⟨some 153, (some (151, true)), .call (.f 21) [(.t 152)], none⟩,
      ⟨some 154, none, .pick (.t 151) (.t 153) (.c (.bool false)), none⟩,
      ⟨some 155, none, .mv (.t 154), none⟩,
      ⟨some 156, (some (155, true)), .build [(.int .i64 0), (.lst .clip 0 [])] [(0, 1, (.c (.int .i64 (-1))))], none⟩,
      ⟨some 157, (some (155, true)), .call (.f 21) [(.t 156)], none⟩,
      ⟨some 158, (some (155, true)), .not (.t 157), none⟩,
      ⟨some 159, none, .pick (.t 155) (.t 158) (.c (.bool false)), none⟩,
      ⟨some 160, none, .mv (.t 159), none⟩,
      ⟨some 161, (some (160, true)), .build [(.int .i64 0), (.int .i64 0), (.int .i64 0), (.int .i64 0), (.lst .clip 0 [])] [], none⟩,
      ⟨some 162, (some (160, true)), .call (.f 23) [(.t 161)], none⟩,
      ⟨some 163, none, .pick (.t 160) (.t 162) (.c (.bool false)), none⟩,
      ⟨some 164, none, .mv (.t 163), none⟩,
      ⟨some 165, (some (164, true)), .build [(.int .i64 0), (.int .i64 0), (.int .i64 0), (.int .i64 0), (.lst .clip 0 [])] [(2, 1, (.c (.int .i64 1)))], none⟩,
      ⟨some 166, (some (164, true)), .call (.f 23) [(.t 165)], none⟩,
      ⟨some 167, (some (164, true)), .not (.t 166), none⟩,
      ⟨some 168, none, .pick (.t 164) (.t 167) (.c (.bool false)), none⟩,
      ⟨some 169, none, .mv (.t 168), none⟩,
      ⟨some 170, (some (169, true)), .build [(.int .i64 0), (.int .i64 0), (.int .i64 0), (.int .i64 0), (.lst .clip 0 [])] [(1, 1, (.c (.int .i64 2)))], none⟩,
      ⟨some 171, (some (169, true)), .call (.f 25) [(.t 170)], none⟩,
      ⟨some 172, (some (169, true)), .bin .eql (.t 171) (.c (.int .i64 2)), none⟩,
      ⟨some 173, none, .pick (.t 169) (.t 172) (.c (.bool false)), none⟩,
      ⟨some 0, none, .mv (.t 173), none⟩])
           (.ret)))))))))))))))))⟩
theorem J_law21_awake_ok : chkFn Try.prog 14 J_law21_awake = true := by kernel_rfl

/- behind: Q -/
def J_law21_large_j1 : ACode :=
  .keep [] (.seq (.ops [⟨some 2, none, .mv (.c (.bool false)), none⟩])
      (.ret))

/- behind: Q -/
def J_law21_large_j2 : ACode :=
  .keep [1, 11, 12] (.ops [⟨some 44, none, .bin .add (.t 12) (.c (.int .i64 1)), none⟩,
      ⟨some 12, none, .mv (.t 44), none⟩])

/- behind: Q = kloop [1, 3, 11, 12, 29, 30] I n (kblock 2 (kblock 1 (kseq P (J_law21_large_j2) Q))) -/
def J_law21_large_j3 : ACode :=
  .seq (.ops [⟨some 31, none, .bin .lss (.t 30) (.t 29), none⟩])
                  (.keep [1, 3, 11, 12, 29, 30, 31] (.seq (.cond (.t 31)
                    (.skip)
                    (.exit 2))
                   (.keep [1, 3, 11, 12, 29, 30] (.seq (.block 3 (.seq (.ops [⟨some 32, none, .mv (.t 30), none⟩,
      ⟨some 4, none, .mv (.t 32), none⟩])
                      (.keep [1, 3, 4, 11, 12, 29, 30] (.seq (.ops [⟨some 33, none, .fld 1 (.t 1), none⟩,
      ⟨some 34, none, .load none (.t 33), none⟩,
      ⟨some 35, none, .mv (.t 3), none⟩,
      ⟨some 36, none, .idxa 3 (.t 34) (.t 35), none⟩,
      ⟨some 37, none, .fld 1 (.t 36), none⟩,
      ⟨some 38, none, .load none (.t 37), none⟩,
      ⟨some 39, none, .mv (.t 4), none⟩,
      ⟨some 40, none, .idxa 2 (.t 38) (.t 39), none⟩,
      ⟨some 41, none, .load (some 2) (.t 40), none⟩,
      ⟨some 42, none, .call (.f 16) [(.t 41)], none⟩])
                       (.keep [1, 3, 11, 12, 29, 30, 42] (.cond (.t 42)
                        (.seq (.ops [⟨some 2, none, .mv (.c (.bool true)), none⟩])
                         (.ret))
                        (.skip)))))))
                    (.keep [1, 3, 11, 12, 29, 30] (.ops [⟨some 43, none, .bin .add (.t 30) (.c (.int .i64 1)), none⟩,
      ⟨some 30, none, .mv (.t 43), none⟩]))))))

/- behind: Q = kloop [1, 11, 12] I n (kblock 0 (kseq P (J_law21_large_j1) Q)) -/
def J_law21_large_j4 : ACode :=
  .seq (.ops [⟨some 13, none, .bin .lss (.t 12) (.t 11), none⟩])
         (.keep [1, 11, 12, 13] (.seq (.cond (.t 13)
           (.skip)
           (.exit 0))
          (.keep [1, 11, 12] (.seq (.block 1 (.seq (.ops [⟨some 14, none, .mv (.t 12), none⟩,
      ⟨some 3, none, .mv (.t 14), none⟩])
             (.keep [1, 3, 11, 12] (.seq (.seq (.ops [⟨some 15, none, .fld 1 (.t 1), none⟩,
      ⟨some 16, none, .load none (.t 15), none⟩,
      ⟨some 17, none, .mv (.t 3), none⟩,
      ⟨some 18, none, .idxa 3 (.t 16) (.t 17), none⟩,
      ⟨some 19, none, .fld 1 (.t 18), none⟩,
      ⟨some 20, none, .load none (.t 19), none⟩,
      ⟨some 21, none, .lenl (.t 20), none⟩,
      ⟨some 22, none, .bin .gtr (.t 21) (.c (.int .i64 30)), none⟩])
               (.keep [1, 3, 11, 12, 22] (.cond (.t 22)
                (.seq (.ops [⟨some 2, none, .mv (.c (.bool true)), none⟩])
                 (.ret))
                (.skip))))
              (.keep [1, 3, 11, 12] (.seq (.ops [⟨some 23, none, .fld 1 (.t 1), none⟩,
      ⟨some 24, none, .load none (.t 23), none⟩,
      ⟨some 25, none, .mv (.t 3), none⟩,
      ⟨some 26, none, .idxa 3 (.t 24) (.t 25), none⟩,
      ⟨some 27, none, .fld 1 (.t 26), none⟩,
      ⟨some 28, none, .load none (.t 27), none⟩,
      ⟨some 29, none, .lenl (.t 28), none⟩,
      ⟨some 30, none, .mv (.c (.int .i64 0)), none⟩])
               (.keep [1, 3, 11, 12, 29, 30] (.block 2 (.loop [1, 3, 11, 12, 29, 30] (J_law21_large_j3))))))))))
           (J_law21_large_j2)))))

/-- attorney/attorneylaw21.large -/
def J_law21_large : AFn :=
  ⟨45, [.t 2], .seq (.ops [⟨some 1, none, .box (.t 0) [], none⟩,
      ⟨some 2, none, .mv (.c (.bool false)), none⟩])
   (.keep [1] (.seq (.seq (.ops [⟨some 5, none, .fld 1 (.t 1), none⟩,
      ⟨some 6, none, .load none (.t 5), none⟩,
      ⟨some 7, none, .lenl (.t 6), none⟩,
      ⟨some 8, none, .bin .gtr (.t 7) (.c (.int .i64 10)), none⟩])
     (.keep [1, 8] (.cond (.t 8)
      (.seq (.ops [⟨some 2, none, .mv (.c (.bool true)), none⟩])
       (.ret))
      (.skip))))
    (.keep [1] (.seq (.seq (.ops [⟨some 9, none, .fld 1 (.t 1), none⟩,
      ⟨some 10, none, .load none (.t 9), none⟩,
      ⟨some 11, none, .lenl (.t 10), none⟩,
      ⟨some 12, none, .mv (.c (.int .i64 0)), none⟩])
      (.keep [1, 11, 12] (.block 0 (.loop [1, 11, 12] (J_law21_large_j4)))))
     (J_law21_large_j1)))))⟩
theorem J_law21_large_ok : chkFn Try.prog 15 J_law21_large = true := by kernel_rfl

/- behind: Q -/
def J_law21_wide_j1 : ACode :=
  .keep [] (.seq (.ops [⟨some 2, none, .mv (.c (.bool false)), none⟩])
      (.ret))

/- behind: Q = kloop [1, 10, 11] I n (kblock 0 (kseq P (J_law21_wide_j1) Q)) -/
def J_law21_wide_j2 : ACode :=
  .seq (.ops [⟨some 12, none, .bin .lss (.t 11) (.t 10), none⟩])
         (.keep [1, 10, 11, 12] (.seq (.cond (.t 12)
           (.skip)
           (.exit 0))
          (.keep [1, 10, 11] (.seq (.block 1 (.seq (.ops [⟨some 13, none, .mv (.t 11), none⟩,
      ⟨some 3, none, .mv (.t 13), none⟩])
             (.keep [1, 3, 10, 11] (.seq (.ops [⟨some 14, none, .fld 1 (.t 1), none⟩,
      ⟨some 15, none, .load none (.t 14), none⟩,
      ⟨some 16, none, .mv (.t 3), none⟩,
      ⟨some 17, none, .idxa 1 (.t 15) (.t 16), none⟩,
      ⟨some 18, none, .load none (.t 17), none⟩,
      ⟨some 19, none, .lens (.t 18), none⟩,
      ⟨some 20, none, .bin .gtr (.t 19) (.c (.int .i64 100)), none⟩])
              (.keep [1, 10, 11, 20] (.cond (.t 20)
               (.seq (.ops [⟨some 2, none, .mv (.c (.bool true)), none⟩])
                (.ret))
               (.skip)))))))
           (.keep [1, 10, 11] (.ops [⟨some 21, none, .bin .add (.t 11) (.c (.int .i64 1)), none⟩,
      ⟨some 11, none, .mv (.t 21), none⟩]))))))

/-- attorney/attorneylaw21.wide -/
def J_law21_wide : AFn :=
  ⟨22, [.t 2], .seq (.ops [⟨some 1, none, .box (.t 0) [], none⟩,
      ⟨some 2, none, .mv (.c (.bool false)), none⟩])
   (.keep [1] (.seq (.seq (.ops [⟨some 4, none, .fld 1 (.t 1), none⟩,
      ⟨some 5, none, .load none (.t 4), none⟩,
      ⟨some 6, none, .lenl (.t 5), none⟩,
      ⟨some 7, none, .bin .gtr (.t 6) (.c (.int .i64 30)), none⟩])
     (.keep [1, 7] (.cond (.t 7)
      (.seq (.ops [⟨some 2, none, .mv (.c (.bool true)), none⟩])
       (.ret))
      (.skip))))
    (.keep [1] (.seq (.seq (.ops [⟨some 8, none, .fld 1 (.t 1), none⟩,
      ⟨some 9, none, .load none (.t 8), none⟩,
      ⟨some 10, none, .lenl (.t 9), none⟩,
      ⟨some 11, none, .mv (.c (.int .i64 0)), none⟩])
      (.keep [1, 10, 11] (.block 0 (.loop [1, 10, 11] (J_law21_wide_j2)))))
     (J_law21_wide_j1)))))⟩
theorem J_law21_wide_ok : chkFn Try.prog 16 J_law21_wide = true := by kernel_rfl

/- behind: Q -/
def J_ref21_Copied_j1 : ACode :=
  .keep [2, 3] (.seq (.ops [⟨some 69, none, .load (some 2) (.t 3), none⟩,
      ⟨none, none, .store 2 (.t 2) (.t 69), none⟩])
      (.ret))

/- behind: Q -/
def J_ref21_Copied_j2 : ACode :=
  .keep [1, 2, 3, 4] (.ops [⟨some 16, none, .mv (.t 4), none⟩,
      ⟨some 17, none, .bin .add (.t 16) (.c (.int .i64 1)), none⟩,
      ⟨some 4, none, .mv (.t 17), none⟩])

/- behind: (kblock 1 (kseq P (J_ref21_Copied_j2) Q)) -/
def J_ref21_Copied_j3 : ACode :=
  .keep [1, 2, 3, 4, 5] (.ops [⟨some 63, none, .fld 1 (.t 3), none⟩,
      ⟨some 64, none, .loado (.t 63), none⟩,
      ⟨some 65, none, .load (some 3) (.t 5), none⟩,
      ⟨some 66, none, .bsl 43 3 1 [(.int .i64 0), (.lst .clip 0 []), (.int .i64 0)] [(0, 3, (.t 65))], none⟩,
      ⟨some 67, none, .appo 43 3 40 64 (.t 66), none⟩,
      ⟨some 68, none, .fld 1 (.t 3), none⟩,
      ⟨none, none, .storeo (.t 68) 67, none⟩])

/- behind: Q = kloop [1, 2, 3, 4, 5, 6] I n (kblock 2 (kseq P (J_ref21_Copied_j3) (kblock 1 (kseq P (J_ref21_Copied_j2) Q)))) -/
def J_ref21_Copied_j4 : ACode :=
  .seq (.seq (.ops [⟨some 31, none, .mv (.t 6), none⟩,
      ⟨some 32, none, .fld 1 (.t 1), none⟩,
      ⟨some 33, none, .load none (.t 32), none⟩,
      ⟨some 34, none, .mv (.t 4), none⟩,
      ⟨some 35, none, .idxa 3 (.t 33) (.t 34), none⟩,
      ⟨some 36, none, .fld 1 (.t 35), none⟩,
      ⟨some 37, none, .load none (.t 36), none⟩,
      ⟨some 38, none, .lenl (.t 37), none⟩,
      ⟨some 39, none, .bin .lss (.t 31) (.t 38), none⟩])
                  (.keep [1, 2, 3, 4, 5, 6, 39] (.cond (.t 39)
                   (.skip)
                   (.exit 2))))
                 (.keep [1, 2, 3, 4, 5, 6] (.seq (.block 3 (.seq (.ops [⟨some 42, none, .fld 1 (.t 1), none⟩,
      ⟨some 43, none, .load none (.t 42), none⟩,
      ⟨some 44, none, .mv (.t 4), none⟩,
      ⟨some 45, none, .idxa 3 (.t 43) (.t 44), none⟩,
      ⟨some 46, none, .fld 1 (.t 45), none⟩,
      ⟨some 47, none, .load none (.t 46), none⟩,
      ⟨some 48, none, .mv (.t 6), none⟩,
      ⟨some 49, none, .idxa 2 (.t 47) (.t 48), none⟩,
      ⟨some 50, none, .load (some 2) (.t 49), none⟩,
      ⟨some 7, none, .new [(.int .i64 0), (.lst .clip 0 [])] [], none⟩,
      ⟨none, none, .stores 2 (.t 7) (.t 50), none⟩])
                    (.keep [1, 2, 3, 4, 5, 6, 7] (.draw [1, 2, 3, 4, 5, 6] [⟨some 51, none, .fld 1 (.t 5), none⟩,
      ⟨some 52, none, .loado (.t 51), none⟩,
      ⟨some 53, none, .fld 0 (.t 7), none⟩,
      ⟨some 54, none, .lds none (.t 53), none⟩,
      ⟨some 55, none, .bsl 44 1 0 [] [], none⟩,
      ⟨some 56, none, .fld 1 (.t 7), none⟩,
      ⟨some 57, none, .lds none (.t 56), none⟩,
      ⟨some 58, none, .appo 44 1 16 55 (.t 57), none⟩,
      ⟨some 59, none, .build [(.int .i64 0), (.lst .clip 0 [])] [(0, 1, (.t 54)), (1, 1, (.t 58))], none⟩,
      ⟨some 60, none, .bsl 28 2 1 [(.int .i64 0), (.lst .clip 0 [])] [(0, 2, (.t 59))], none⟩,
      ⟨some 61, none, .appo 28 2 32 52 (.t 60), none⟩,
      ⟨some 62, none, .fld 1 (.t 5), none⟩,
      ⟨none, none, .storeo (.t 62) 61, none⟩]))))
                  (.keep [1, 2, 3, 4, 5, 6] (.ops [⟨some 40, none, .mv (.t 6), none⟩,
      ⟨some 41, none, .bin .add (.t 40) (.c (.int .i64 1)), none⟩,
      ⟨some 6, none, .mv (.t 41), none⟩]))))

/- behind: Q = kloop [1, 2, 3, 4] I n (kblock 0 (kseq P (J_ref21_Copied_j1) Q)) -/
def J_ref21_Copied_j5 : ACode :=
  .seq (.seq (.ops [⟨some 11, none, .mv (.t 4), none⟩,
      ⟨some 12, none, .fld 1 (.t 1), none⟩,
      ⟨some 13, none, .load none (.t 12), none⟩,
      ⟨some 14, none, .lenl (.t 13), none⟩,
      ⟨some 15, none, .bin .lss (.t 11) (.t 14), none⟩])
          (.keep [1, 2, 3, 4, 15] (.cond (.t 15)
           (.skip)
           (.exit 0))))
         (.keep [1, 2, 3, 4] (.seq (.block 1 (.seq (.draw [1, 2, 3, 4, 5] [⟨some 18, none, .fld 1 (.t 1), none⟩,
      ⟨some 19, none, .load none (.t 18), none⟩,
      ⟨some 20, none, .mv (.t 4), none⟩,
      ⟨some 21, none, .idxa 3 (.t 19) (.t 20), none⟩,
      ⟨some 22, none, .fld 0 (.t 21), none⟩,
      ⟨some 23, none, .load none (.t 22), none⟩,
      ⟨some 24, none, .fld 1 (.t 1), none⟩,
      ⟨some 25, none, .load none (.t 24), none⟩,
      ⟨some 26, none, .mv (.t 4), none⟩,
      ⟨some 27, none, .idxa 3 (.t 25) (.t 26), none⟩,
      ⟨some 28, none, .fld 2 (.t 27), none⟩,
      ⟨some 29, none, .load none (.t 28), none⟩,
      ⟨some 30, none, .build [(.int .i64 0), (.lst .clip 0 []), (.int .i64 0)] [(0, 1, (.t 23)), (2, 1, (.t 29))], none⟩,
      ⟨some 5, none, .new [(.int .i64 0), (.lst .clip 0 []), (.int .i64 0)] [(1, 28, 2)], none⟩,
      ⟨none, none, .store 3 (.t 5) (.t 30), none⟩])
            (.keep [1, 2, 3, 4, 5] (.seq (.seq (.ops [⟨some 6, none, .mv (.c (.int .i64 0)), none⟩])
              (.keep [1, 2, 3, 4, 5, 6] (.block 2 (.loop [1, 2, 3, 4, 5, 6] (J_ref21_Copied_j4)))))
             (J_ref21_Copied_j3)))))
          (J_ref21_Copied_j2)))

/-- attorney/attorneyref21.Copied -/
def J_ref21_Copied : AFn :=
  ⟨70, [.c 2 (some 2)], .seq (.ops [⟨some 1, none, .box (.t 0) [], none⟩,
      ⟨some 2, none, .new [(.int .i64 0), (.lst .clip 0 [])] [(1, 43, 3)], none⟩])
   (.keep [1, 2] (.seq (.ops [⟨some 8, none, .fld 0 (.t 1), none⟩,
      ⟨some 9, none, .load none (.t 8), none⟩,
      ⟨some 10, none, .build [(.int .i64 0), (.lst .clip 0 [])] [(0, 1, (.t 9))], none⟩,
      ⟨some 3, none, .new [(.int .i64 0), (.lst .clip 0 [])] [(1, 43, 3)], none⟩,
      ⟨none, none, .storeu 2 [(1, 43, 3)] (.t 3) (.t 10), none⟩])
    (.keep [1, 2, 3] (.seq (.seq (.ops [⟨some 4, none, .mv (.c (.int .i64 0)), none⟩])
      (.keep [1, 2, 3, 4] (.block 0 (.loop [1, 2, 3, 4] (J_ref21_Copied_j5)))))
     (J_ref21_Copied_j1)))))⟩
theorem J_ref21_Copied_ok : chkFn Try.prog 17 J_ref21_Copied = true := by kernel_rfl

/- behind: Q -/
def J_record_Do_j1 : ACode :=
  .keep [4, 7, 8, 9] (.seq (.seq (.ops [⟨some 66, none, .mv (.t 9), none⟩,
      ⟨some 67, none, .bin .neq (.t 66) (.c (.int .i64 0)), none⟩])
           (.keep [4, 7, 8, 9, 67] (.cond (.t 67)
            (.seq (.ops [⟨some 68, none, .build [(.int .i64 0), (.lst .clip 0 [])] [], none⟩,
      ⟨some 69, none, .mv (.t 9), none⟩,
      ⟨none, none, .store 2 (.t 4) (.t 68), none⟩,
      ⟨some 5, none, .mv (.c (.int .i64 0)), none⟩,
      ⟨some 6, none, .mv (.t 69), none⟩])
             (.ret))
            (.skip))))
          (.keep [4, 7, 8] (.seq (.draw [4, 5, 6] [⟨some 70, none, .lds (some 2) (.t 7), none⟩,
      ⟨some 71, none, .mv (.t 8), none⟩,
      ⟨some 72, none, .nilck (.t 71), none⟩,
      ⟨some 73, none, .fld 0 (.t 72), none⟩,
      ⟨some 74, none, .load none (.t 73), (some (.s 8, [4]))⟩,
      ⟨none, none, .store 2 (.t 4) (.t 70), (some (.s 4, [8]))⟩,
      ⟨some 5, none, .mv (.t 74), none⟩,
      ⟨some 6, none, .mv (.c (.int .i64 0)), none⟩])
           (.ret))))

/-- attorney/record.Do -/
def J_record_Do : AFn :=
  ⟨75, [.c 4 (some 2), .t 5, .t 6], .seq (.ops [⟨some 2, none, .box (.t 0) [], none⟩,
      ⟨some 3, none, .box (.t 1) [], none⟩,
      ⟨some 4, none, .new [(.int .i64 0), (.lst .clip 0 [])] [(1, 43, 3)], none⟩,
      ⟨some 5, none, .mv (.c (.int .i64 0)), none⟩,
      ⟨some 6, none, .mv (.c (.int .i64 0)), none⟩])
   (.keep [2, 3, 4] (.seq (.seq (.ops [⟨some 10, none, .load (some 2) (.t 2), none⟩,
      ⟨some 11, none, .call (.f 21) [(.t 10)], none⟩,
      ⟨some 12, none, .not (.t 11), none⟩,
      ⟨some 13, none, .mv (.t 12), none⟩,
      ⟨some 14, (some (13, false)), .load (some 5) (.t 3), none⟩,
      ⟨some 15, (some (13, false)), .call (.f 23) [(.t 14)], none⟩,
      ⟨some 16, (some (13, false)), .not (.t 15), none⟩,
      ⟨some 17, none, .pick (.t 13) (.c (.bool true)) (.t 16), none⟩])
     (.keep [2, 3, 4, 17] (.cond (.t 17)
      (.seq (.ops [⟨some 18, none, .build [(.int .i64 0), (.lst .clip 0 [])] [], none⟩,
      ⟨none, none, .store 2 (.t 4) (.t 18), none⟩,
      ⟨some 5, none, .mv (.c (.int .i64 0)), none⟩,
      ⟨some 6, none, .mv (.c (.int .i64 2)), none⟩])
       (.ret))
      (.skip))))
    (.keep [2, 3, 4] (.seq (.seq (.ops [⟨some 19, none, .fld 0 (.t 3), none⟩,
      ⟨some 20, none, .load none (.t 19), none⟩,
      ⟨some 21, none, .fld 1 (.t 2), none⟩,
      ⟨some 22, none, .load none (.t 21), none⟩,
      ⟨some 23, none, .lenl (.t 22), none⟩,
      ⟨some 24, none, .bin .geq (.t 20) (.t 23), none⟩])
      (.keep [2, 3, 4, 24] (.cond (.t 24)
       (.seq (.ops [⟨some 25, none, .build [(.int .i64 0), (.lst .clip 0 [])] [], none⟩,
      ⟨none, none, .store 2 (.t 4) (.t 25), none⟩,
      ⟨some 5, none, .mv (.c (.int .i64 0)), none⟩,
      ⟨some 6, none, .mv (.c (.int .i64 10)), none⟩])
        (.ret))
       (.skip))))
     (.keep [2, 3, 4] (.seq (.ops [⟨some 26, none, .load (some 2) (.t 2), none⟩,
      ⟨some 27, none, .call (.f 42) [(.t 26)], none⟩,
      ⟨some 7, none, .new [(.int .i64 0), (.lst .clip 0 [])] [(1, 43, 3)], none⟩,
      ⟨none, none, .stores 2 (.t 7) (.t 27), none⟩])
      (.keep [3, 4, 7] (.seq (.ops [⟨some 28, none, .fld 1 (.t 7), none⟩,
      ⟨some 29, none, .load none (.t 28), none⟩,
      ⟨some 30, none, .fld 0 (.t 3), none⟩,
      ⟨some 31, none, .load none (.t 30), none⟩,
      ⟨some 32, none, .idxa 3 (.t 29) (.t 31), none⟩,
      ⟨some 8, none, .mv (.t 32), none⟩])
       (.keep [3, 4, 7, 8] (.seq (.ops [⟨some 9, none, .mv (.c (.int .i64 0)), none⟩])
        (.keep [3, 4, 7, 8, 9] (.seq (.seq (.ops [⟨some 33, none, .fld 1 (.t 3), none⟩,
      ⟨some 34, none, .load none (.t 33), none⟩])
          (.keep [3, 4, 7, 8, 9, 34] (.block 0 (.seq (.ops [⟨some 36, none, .bin .eql (.t 34) (.c (.int .i64 1)), none⟩,
      ⟨some 35, none, .mv (.t 36), none⟩])
            (.keep [3, 4, 7, 8, 9, 34, 35] (.cond (.t 35)
             (.seq (.draw [3, 4, 7, 8, 9, 44] [⟨some 37, none, .mv (.t 8), none⟩,
      ⟨some 38, none, .nilck (.t 37), none⟩,
      ⟨some 39, none, .fld 0 (.t 38), none⟩,
      ⟨some 40, none, .load none (.t 39), none⟩,
      ⟨some 41, none, .fld 2 (.t 3), none⟩,
      ⟨some 42, none, .load none (.t 41), none⟩,
      ⟨some 43, none, .bin .sub (.c (.int .i64 4611686018427387904)) (.t 42), none⟩,
      ⟨some 44, none, .bin .gtr (.t 40) (.t 43), none⟩])
              (.keep [3, 4, 7, 8, 9, 44] (.cond (.t 44)
               (.ops [⟨some 9, none, .mv (.c (.int .i64 5)), none⟩])
               (.draw [4, 7, 8, 9] [⟨some 45, none, .mv (.t 8), none⟩,
      ⟨some 46, none, .nilck (.t 45), none⟩,
      ⟨some 47, none, .fld 0 (.t 46), none⟩,
      ⟨some 48, none, .load none (.t 47), none⟩,
      ⟨some 49, none, .fld 2 (.t 3), none⟩,
      ⟨some 50, none, .load none (.t 49), none⟩,
      ⟨some 51, none, .bin .add (.t 48) (.t 50), none⟩,
      ⟨some 52, none, .nilck (.t 45), none⟩,
      ⟨some 53, none, .fld 0 (.t 52), none⟩,
      ⟨none, none, .store 1 (.t 53) (.t 51), none⟩]))))
             (.seq (.ops [⟨some 55, none, .bin .eql (.t 34) (.c (.int .i64 2)), none⟩,
      ⟨some 54, none, .mv (.t 55), none⟩])
              (.keep [3, 4, 7, 8, 9, 34, 54] (.cond (.t 54)
               (.ops [⟨some 56, none, .mv (.t 8), none⟩,
      ⟨some 57, none, .fld 3 (.t 3), none⟩,
      ⟨some 58, none, .load (some 2) (.t 57), none⟩,
      ⟨some 59, none, .call (.f 43) [(.t 56), (.t 58), (.f 44)], none⟩,
      ⟨some 9, none, .mv (.t 59), none⟩])
               (.seq (.ops [⟨some 61, none, .bin .eql (.t 34) (.c (.int .i64 3)), none⟩,
      ⟨some 60, none, .mv (.t 61), none⟩])
                (.keep [3, 4, 7, 8, 9, 60] (.cond (.t 60)
                 (.ops [⟨some 62, none, .mv (.t 8), none⟩,
      ⟨some 63, none, .fld 3 (.t 3), none⟩,
      ⟨some 64, none, .load (some 2) (.t 63), none⟩,
      ⟨some 65, none, .call (.f 43) [(.t 62), (.t 64), (.f 45)], none⟩,
      ⟨some 9, none, .mv (.t 65), none⟩])
                 (.skip)))))))))))))
         (J_record_Do_j1)))))))))))))⟩
theorem J_record_Do_ok : chkFn Try.prog 18 J_record_Do = true := by kernel_rfl

/- behind: Q -/
def J_ref21_Do_j1 : ACode :=
  .keep [3, 4, 8, 9] (.seq (.ops [⟨some 91, none, .fld 1 (.t 8), none⟩,
      ⟨some 92, none, .load none (.t 91), none⟩,
      ⟨some 93, none, .fld 0 (.t 3), none⟩,
      ⟨some 94, none, .load none (.t 93), none⟩,
      ⟨some 95, none, .load (some 3) (.t 9), none⟩,
      ⟨some 96, none, .idxa 3 (.t 92) (.t 94), none⟩,
      ⟨none, none, .store 3 (.t 96) (.t 95), none⟩])
           (.keep [4, 8, 9] (.seq (.draw [4, 5, 6] [⟨some 97, none, .lds (some 2) (.t 8), none⟩,
      ⟨some 98, none, .fld 0 (.t 9), none⟩,
      ⟨some 99, none, .load none (.t 98), (some (.s 9, [4]))⟩,
      ⟨none, none, .store 2 (.t 4) (.t 97), (some (.s 4, [9]))⟩,
      ⟨some 5, none, .mv (.t 99), none⟩,
      ⟨some 6, none, .mv (.c (.int .i64 0)), none⟩])
            (.ret))))

/- behind: (kseq P (J_ref21_Do_j1) Q) -/
def J_ref21_Do_j2 : ACode :=
  .keep [3, 4, 7, 8, 9, 10, 12] (.seq (.seq (.ops [⟨some 78, none, .mv (.t 12), none⟩,
      ⟨some 79, none, .bin .neq (.t 78) (.c (.int .i64 0)), none⟩])
                  (.keep [3, 4, 7, 8, 9, 10, 12, 79] (.cond (.t 79)
                   (.seq (.ops [⟨some 80, none, .load (some 2) (.t 7), none⟩,
      ⟨some 81, none, .mv (.t 12), none⟩,
      ⟨none, none, .store 2 (.t 4) (.t 80), none⟩,
      ⟨some 5, none, .mv (.c (.int .i64 0)), none⟩,
      ⟨some 6, none, .mv (.t 81), none⟩])
                    (.ret))
                   (.skip))))
                 (.keep [3, 4, 8, 9, 10] (.seq (.ops [⟨some 82, none, .mv (.t 10), none⟩,
      ⟨some 83, none, .nilck (.t 82), none⟩,
      ⟨some 84, none, .fld 0 (.t 83), none⟩,
      ⟨some 85, none, .load none (.t 84), none⟩,
      ⟨some 86, none, .fld 1 (.t 9), none⟩,
      ⟨none, none, .store 1 (.t 86) (.t 85), none⟩])
                  (.keep [3, 4, 8, 9] (.ops [⟨some 87, none, .fld 2 (.t 9), none⟩,
      ⟨some 88, none, .load none (.t 87), none⟩,
      ⟨some 89, none, .bin .add (.t 88) (.c (.int .i64 1)), none⟩,
      ⟨some 90, none, .fld 2 (.t 9), none⟩,
      ⟨none, none, .store 1 (.t 90) (.t 89), none⟩])))))

/- behind: Q -/
def J_ref21_Do_j3 : ACode :=
  .keep [3, 4, 7, 8, 9] (.seq (.seq (.ops [⟨some 54, none, .fld 1 (.t 3), none⟩,
      ⟨some 55, none, .load none (.t 54), none⟩,
      ⟨some 56, none, .bin .geq (.t 55) (.c (.int .i64 2)), none⟩])
           (.keep [3, 4, 7, 8, 9, 56] (.cond (.t 56)
            (.seq (.seq (.ops [⟨some 57, none, .fld 2 (.t 9), none⟩,
      ⟨some 58, none, .load none (.t 57), none⟩,
      ⟨some 59, none, .bin .eql (.t 58) (.c (.int .i64 4611686018427387904)), none⟩])
              (.keep [3, 4, 7, 8, 9, 59] (.cond (.t 59)
               (.seq (.ops [⟨some 60, none, .load (some 2) (.t 7), none⟩,
      ⟨none, none, .store 2 (.t 4) (.t 60), none⟩,
      ⟨some 5, none, .mv (.c (.int .i64 0)), none⟩,
      ⟨some 6, none, .mv (.c (.int .i64 5)), none⟩])
                (.ret))
               (.skip))))
             (.keep [3, 4, 7, 8, 9] (.seq (.ops [⟨some 62, none, .fld 1 (.t 9), none⟩,
      ⟨some 63, none, .load none (.t 62), none⟩,
      ⟨some 64, none, .call (.f 46) [(.t 63)], none⟩,
      ⟨some 61, none, .mv (.t 64), none⟩,
      ⟨some 65, none, .ext 0 (.t 61), none⟩,
      ⟨some 66, none, .ext 1 (.t 61), none⟩,
      ⟨some 10, none, .mv (.t 65), none⟩,
      ⟨some 11, none, .mv (.t 66), none⟩])
              (.keep [3, 4, 7, 8, 9, 10] (.seq (.ops [⟨some 12, none, .mv (.c (.int .i64 0)), none⟩])
               (.keep [3, 4, 7, 8, 9, 10] (.seq (.seq (.ops [⟨some 67, none, .fld 1 (.t 3), none⟩,
      ⟨some 68, none, .load none (.t 67), none⟩,
      ⟨some 69, none, .bin .eql (.t 68) (.c (.int .i64 2)), none⟩])
                 (.keep [3, 4, 7, 8, 9, 10, 69] (.cond (.t 69)
                  (.ops [⟨some 70, none, .mv (.t 10), none⟩,
      ⟨some 71, none, .fld 3 (.t 3), none⟩,
      ⟨some 72, none, .load (some 2) (.t 71), none⟩,
      ⟨some 73, none, .call (.f 47) [(.t 70), (.t 72)], none⟩,
      ⟨some 12, none, .mv (.t 73), none⟩])
                  (.ops [⟨some 74, none, .mv (.t 10), none⟩,
      ⟨some 75, none, .fld 3 (.t 3), none⟩,
      ⟨some 76, none, .load (some 2) (.t 75), none⟩,
      ⟨some 77, none, .call (.f 48) [(.t 74), (.t 76)], none⟩,
      ⟨some 12, none, .mv (.t 77), none⟩]))))
                (J_ref21_Do_j2))))))))
            (.skip))))
          (J_ref21_Do_j1))

/-- attorney/attorneyref21.Do -/
def J_ref21_Do : AFn :=
  ⟨100, [.c 4 (some 2), .t 5, .t 6], .seq (.ops [⟨some 2, none, .box (.t 0) [], none⟩,
      ⟨some 3, none, .box (.t 1) [], none⟩,
      ⟨some 4, none, .new [(.int .i64 0), (.lst .clip 0 [])] [(1, 43, 3)], none⟩,
      ⟨some 5, none, .mv (.c (.int .i64 0)), none⟩,
      ⟨some 6, none, .mv (.c (.int .i64 0)), none⟩])
   (.keep [2, 3, 4] (.seq (.ops [⟨some 13, none, .build [(.int .i64 0), (.lst .clip 0 [])] [], none⟩,
      ⟨some 7, none, .new [(.int .i64 0), (.lst .clip 0 [])] [(1, 43, 3)], none⟩,
      ⟨none, none, .stores 2 (.t 7) (.t 13), none⟩])
    (.keep [2, 3, 4, 7] (.seq (.seq (.ops [⟨some 14, none, .load (some 2) (.t 2), none⟩,
      ⟨some 15, none, .call (.f 22) [(.t 14)], none⟩,
      ⟨some 16, none, .not (.t 15), none⟩,
      ⟨some 17, none, .mv (.t 16), none⟩,
      ⟨some 18, (some (17, false)), .load (some 5) (.t 3), none⟩,
      ⟨some 19, (some (17, false)), .call (.f 24) [(.t 18)], none⟩,
      ⟨some 20, (some (17, false)), .not (.t 19), none⟩,
      ⟨some 21, none, .pick (.t 17) (.c (.bool true)) (.t 20), none⟩])
      (.keep [2, 3, 4, 7, 21] (.cond (.t 21)
       (.seq (.ops [⟨some 22, none, .load (some 2) (.t 7), none⟩,
      ⟨none, none, .store 2 (.t 4) (.t 22), none⟩,
      ⟨some 5, none, .mv (.c (.int .i64 0)), none⟩,
      ⟨some 6, none, .mv (.c (.int .i64 2)), none⟩])
        (.ret))
       (.skip))))
     (.keep [2, 3, 4, 7] (.seq (.seq (.ops [⟨some 23, none, .fld 0 (.t 3), none⟩,
      ⟨some 24, none, .load none (.t 23), none⟩,
      ⟨some 25, none, .fld 1 (.t 2), none⟩,
      ⟨some 26, none, .load none (.t 25), none⟩,
      ⟨some 27, none, .lenl (.t 26), none⟩,
      ⟨some 28, none, .bin .geq (.t 24) (.t 27), none⟩])
       (.keep [2, 3, 4, 7, 28] (.cond (.t 28)
        (.seq (.ops [⟨some 29, none, .load (some 2) (.t 7), none⟩,
      ⟨none, none, .store 2 (.t 4) (.t 29), none⟩,
      ⟨some 5, none, .mv (.c (.int .i64 0)), none⟩,
      ⟨some 6, none, .mv (.c (.int .i64 10)), none⟩])
         (.ret))
        (.skip))))
      (.keep [2, 3, 4, 7] (.seq (.ops [⟨some 30, none, .load (some 2) (.t 2), none⟩,
      ⟨some 31, none, .call (.f 17) [(.t 30)], none⟩,
      ⟨some 8, none, .new [(.int .i64 0), (.lst .clip 0 [])] [(1, 43, 3)], none⟩,
      ⟨none, none, .stores 2 (.t 8) (.t 31), none⟩])
       (.keep [3, 4, 7, 8] (.seq (.ops [⟨some 32, none, .fld 1 (.t 8), none⟩,
      ⟨some 33, none, .load none (.t 32), none⟩,
      ⟨some 34, none, .fld 0 (.t 3), none⟩,
      ⟨some 35, none, .load none (.t 34), none⟩,
      ⟨some 36, none, .idxa 3 (.t 33) (.t 35), none⟩,
      ⟨some 37, none, .load (some 3) (.t 36), none⟩,
      ⟨some 9, none, .new [(.int .i64 0), (.lst .clip 0 []), (.int .i64 0)] [(1, 28, 2)], none⟩,
      ⟨none, none, .store 3 (.t 9) (.t 37), none⟩])
        (.keep [3, 4, 7, 8, 9] (.seq (.seq (.ops [⟨some 38, none, .fld 1 (.t 3), none⟩,
      ⟨some 39, none, .load none (.t 38), none⟩,
      ⟨some 40, none, .bin .eql (.t 39) (.c (.int .i64 1)), none⟩])
          (.keep [3, 4, 7, 8, 9, 40] (.cond (.t 40)
           (.seq (.seq (.ops [⟨some 41, none, .fld 0 (.t 9), none⟩,
      ⟨some 42, none, .load none (.t 41), none⟩,
      ⟨some 43, none, .fld 2 (.t 3), none⟩,
      ⟨some 44, none, .load none (.t 43), none⟩,
      ⟨some 45, none, .bin .sub (.c (.int .i64 4611686018427387904)) (.t 44), none⟩,
      ⟨some 46, none, .bin .gtr (.t 42) (.t 45), none⟩])
             (.keep [3, 4, 7, 8, 9, 46] (.cond (.t 46)
              (.seq (.ops [⟨some 47, none, .load (some 2) (.t 7), none⟩,
      ⟨none, none, .store 2 (.t 4) (.t 47), none⟩,
      ⟨some 5, none, .mv (.c (.int .i64 0)), none⟩,
      ⟨some 6, none, .mv (.c (.int .i64 5)), none⟩])
               (.ret))
              (.skip))))
            (.keep [3, 4, 7, 8, 9] (.ops [⟨some 48, none, .fld 0 (.t 9), none⟩,
      ⟨some 49, none, .load none (.t 48), none⟩,
      ⟨some 50, none, .fld 2 (.t 3), none⟩,
      ⟨some 51, none, .load none (.t 50), none⟩,
      ⟨some 52, none, .bin .add (.t 49) (.t 51), none⟩,
      ⟨some 53, none, .fld 0 (.t 9), none⟩,
      ⟨none, none, .store 1 (.t 53) (.t 52), none⟩])))
           (.skip))))
         (J_ref21_Do_j3)))))))))))))⟩
theorem J_ref21_Do_ok : chkFn Try.prog 19 J_ref21_Do = true := by kernel_rfl

/- behind: Q -/
def J_ref21_Same_j1 : ACode :=
  .keep [] (.seq (.ops [⟨some 4, none, .mv (.c (.bool true)), none⟩])
      (.ret))

/- behind: Q -/
def J_ref21_Same_j2 : ACode :=
  .keep [2, 3, 5] (.ops [⟨some 28, none, .mv (.t 5), none⟩,
      ⟨some 29, none, .bin .add (.t 28) (.c (.int .i64 1)), none⟩,
      ⟨some 5, none, .mv (.t 29), none⟩])

/- behind: Q = kloop [2, 3, 5, 6, 7, 8] I n (kblock 2 (kblock 1 (kseq P (J_ref21_Same_j2) Q))) -/
def J_ref21_Same_j3 : ACode :=
  .seq (.seq (.ops [⟨some 61, none, .mv (.t 8), none⟩,
      ⟨some 62, none, .fld 1 (.t 6), none⟩,
      ⟨some 63, none, .load none (.t 62), none⟩,
      ⟨some 64, none, .lenl (.t 63), none⟩,
      ⟨some 65, none, .bin .lss (.t 61) (.t 64), none⟩])
                   (.keep [2, 3, 5, 6, 7, 8, 65] (.cond (.t 65)
                    (.skip)
                    (.exit 2))))
                  (.keep [2, 3, 5, 6, 7, 8] (.seq (.block 3 (.seq (.draw [2, 3, 5, 6, 7, 8, 79] [⟨some 68, none, .fld 1 (.t 6), none⟩,
      ⟨some 69, none, .lds none (.t 68), none⟩,
      ⟨some 70, none, .mv (.t 8), none⟩,
      ⟨some 71, none, .idxa 2 (.t 69) (.t 70), none⟩,
      ⟨some 72, none, .load (some 2) (.t 71), none⟩,
      ⟨some 73, none, .fld 1 (.t 7), none⟩,
      ⟨some 74, none, .lds none (.t 73), none⟩,
      ⟨some 75, none, .mv (.t 8), none⟩,
      ⟨some 76, none, .idxa 2 (.t 74) (.t 75), none⟩,
      ⟨some 77, none, .load (some 2) (.t 76), none⟩,
      ⟨some 78, none, .call (.f 31) [(.t 72), (.t 77)], none⟩,
      ⟨some 79, none, .not (.t 78), none⟩])
                     (.keep [2, 3, 5, 6, 7, 8, 79] (.cond (.t 79)
                      (.seq (.ops [⟨some 4, none, .mv (.c (.bool false)), none⟩])
                       (.ret))
                      (.skip)))))
                   (.keep [2, 3, 5, 6, 7, 8] (.ops [⟨some 66, none, .mv (.t 8), none⟩,
      ⟨some 67, none, .bin .add (.t 66) (.c (.int .i64 1)), none⟩,
      ⟨some 8, none, .mv (.t 67), none⟩]))))

/- behind: Q = kloop [2, 3, 5] I n (kblock 0 (kseq P (J_ref21_Same_j1) Q)) -/
def J_ref21_Same_j4 : ACode :=
  .seq (.seq (.ops [⟨some 23, none, .mv (.t 5), none⟩,
      ⟨some 24, none, .fld 1 (.t 2), none⟩,
      ⟨some 25, none, .load none (.t 24), none⟩,
      ⟨some 26, none, .lenl (.t 25), none⟩,
      ⟨some 27, none, .bin .lss (.t 23) (.t 26), none⟩])
          (.keep [2, 3, 5, 27] (.cond (.t 27)
           (.skip)
           (.exit 0))))
         (.keep [2, 3, 5] (.seq (.block 1 (.seq (.ops [⟨some 30, none, .fld 1 (.t 2), none⟩,
      ⟨some 31, none, .load none (.t 30), none⟩,
      ⟨some 32, none, .mv (.t 5), none⟩,
      ⟨some 33, none, .idxa 3 (.t 31) (.t 32), none⟩,
      ⟨some 34, none, .load (some 3) (.t 33), none⟩,
      ⟨some 6, none, .new [(.int .i64 0), (.lst .clip 0 []), (.int .i64 0)] [(1, 28, 2)], none⟩,
      ⟨none, none, .stores 3 (.t 6) (.t 34), none⟩])
            (.keep [2, 3, 5, 6] (.seq (.ops [⟨some 35, none, .fld 1 (.t 3), none⟩,
      ⟨some 36, none, .load none (.t 35), none⟩,
      ⟨some 37, none, .mv (.t 5), none⟩,
      ⟨some 38, none, .idxa 3 (.t 36) (.t 37), none⟩,
      ⟨some 39, none, .load (some 3) (.t 38), none⟩,
      ⟨some 7, none, .new [(.int .i64 0), (.lst .clip 0 []), (.int .i64 0)] [(1, 28, 2)], none⟩,
      ⟨none, none, .stores 3 (.t 7) (.t 39), none⟩])
             (.keep [2, 3, 5, 6, 7] (.seq (.seq (.ops [⟨some 40, none, .fld 0 (.t 6), none⟩,
      ⟨some 41, none, .load none (.t 40), none⟩,
      ⟨some 42, none, .fld 0 (.t 7), none⟩,
      ⟨some 43, none, .load none (.t 42), none⟩,
      ⟨some 44, none, .bin .neq (.t 41) (.t 43), none⟩,
      ⟨some 45, none, .mv (.t 44), none⟩,
      ⟨some 46, (some (45, false)), .fld 2 (.t 6), none⟩,
      ⟨some 47, (some (45, false)), .load none (.t 46), none⟩,
      ⟨some 48, (some (45, false)), .fld 2 (.t 7), none⟩,
      ⟨some 49, (some (45, false)), .load none (.t 48), none⟩,
      ⟨some 50, (some (45, false)), .bin .neq (.t 47) (.t 49), none⟩,
      ⟨some 51, none, .pick (.t 45) (.c (.bool true)) (.t 50), none⟩,
      ⟨some 52, none, .mv (.t 51), none⟩,
      ⟨some 53, (some (52, false)), .fld 1 (.t 6), none⟩,
      ⟨some 54, (some (52, false)), .load none (.t 53), none⟩,
      ⟨some 55, (some (52, false)), .lenl (.t 54), none⟩,
      ⟨some 56, (some (52, false)), .fld 1 (.t 7), none⟩,
      ⟨some 57, (some (52, false)), .load none (.t 56), none⟩,
      ⟨some 58, (some (52, false)), .lenl (.t 57), none⟩,
      ⟨some 59, (some (52, false)), .bin .neq (.t 55) (.t 58), none⟩,
      ⟨some 60, none, .pick (.t 52) (.c (.bool true)) (.t 59), none⟩])
               (.keep [2, 3, 5, 6, 7, 60] (.cond (.t 60)
                (.seq (.ops [⟨some 4, none, .mv (.c (.bool false)), none⟩])
                 (.ret))
                (.skip))))
              (.keep [2, 3, 5, 6, 7] (.seq (.ops [⟨some 8, none, .mv (.c (.int .i64 0)), none⟩])
               (.keep [2, 3, 5, 6, 7, 8] (.block 2 (.loop [2, 3, 5, 6, 7, 8] (J_ref21_Same_j3))))))))))))
          (J_ref21_Same_j2)))

/-- attorney/attorneyref21.Same -/
def J_ref21_Same : AFn :=
  ⟨80, [.t 4], .seq (.ops [⟨some 2, none, .box (.t 0) [], none⟩,
      ⟨some 3, none, .box (.t 1) [], none⟩,
      ⟨some 4, none, .mv (.c (.bool false)), none⟩])
   (.keep [2, 3] (.seq (.seq (.ops [⟨some 9, none, .fld 0 (.t 2), none⟩,
      ⟨some 10, none, .load none (.t 9), none⟩,
      ⟨some 11, none, .fld 0 (.t 3), none⟩,
      ⟨some 12, none, .load none (.t 11), none⟩,
      ⟨some 13, none, .bin .neq (.t 10) (.t 12), none⟩,
      ⟨some 14, none, .mv (.t 13), none⟩,
      ⟨some 15, (some (14, false)), .fld 1 (.t 2), none⟩,
      ⟨some 16, (some (14, false)), .load none (.t 15), none⟩,
      ⟨some 17, (some (14, false)), .lenl (.t 16), none⟩,
      ⟨some 18, (some (14, false)), .fld 1 (.t 3), none⟩,
      ⟨some 19, (some (14, false)), .load none (.t 18), none⟩,
      ⟨some 20, (some (14, false)), .lenl (.t 19), none⟩,
      ⟨some 21, (some (14, false)), .bin .neq (.t 17) (.t 20), none⟩,
      ⟨some 22, none, .pick (.t 14) (.c (.bool true)) (.t 21), none⟩])
     (.keep [2, 3, 22] (.cond (.t 22)
      (.seq (.ops [⟨some 4, none, .mv (.c (.bool false)), none⟩])
       (.ret))
      (.skip))))
    (.keep [2, 3] (.seq (.seq (.ops [⟨some 5, none, .mv (.c (.int .i64 0)), none⟩])
      (.keep [2, 3, 5] (.block 0 (.loop [2, 3, 5] (J_ref21_Same_j4)))))
     (J_ref21_Same_j1)))))⟩
theorem J_ref21_Same_ok : chkFn Try.prog 20 J_ref21_Same = true := by kernel_rfl

/- behind: Q -/
def J_record_May_j1 : ACode :=
  .keep [] (.seq (.ops [⟨some 2, none, .mv (.c (.bool true)), none⟩])
      (.ret))

/- behind: Q = kloop [22, 23, 24] I n (kblock 0 (kseq P (J_record_May_j1) Q)) -/
def J_record_May_j2 : ACode :=
  .seq (.ops [⟨some 25, none, .bin .lss (.t 24) (.t 23), none⟩])
         (.keep [22, 23, 24, 25] (.seq (.cond (.t 25)
           (.skip)
           (.exit 0))
          (.keep [22, 23, 24] (.seq (.block 1 (.seq (.ops [⟨some 26, none, .idxa 3 (.t 22) (.t 24), none⟩,
      ⟨some 27, none, .load (some 3) (.t 26), none⟩,
      ⟨some 4, none, .new [(.int .i64 0), (.lst .clip 0 []), (.int .i64 0)] [(1, 28, 2)], none⟩,
      ⟨none, none, .stores 3 (.t 4) (.t 27), none⟩])
             (.keep [4, 22, 23, 24] (.seq (.seq (.ops [⟨some 28, none, .fld 0 (.t 4), none⟩,
      ⟨some 29, none, .load none (.t 28), none⟩,
      ⟨some 30, none, .call (.f 49) [(.t 29)], none⟩,
      ⟨some 31, none, .not (.t 30), none⟩,
      ⟨some 32, none, .mv (.t 31), none⟩,
      ⟨some 33, (some (32, false)), .fld 2 (.t 4), none⟩,
      ⟨some 34, (some (32, false)), .load none (.t 33), none⟩,
      ⟨some 35, (some (32, false)), .call (.f 49) [(.t 34)], none⟩,
      ⟨some 36, (some (32, false)), .not (.t 35), none⟩,
      ⟨some 37, none, .pick (.t 32) (.c (.bool true)) (.t 36), none⟩])
               (.keep [4, 22, 23, 24, 37] (.cond (.t 37)
                (.seq (.ops [⟨some 2, none, .mv (.c (.bool false)), none⟩])
                 (.ret))
                (.skip))))
              (.keep [4, 22, 23, 24] (.seq (.ops [⟨some 39, none, .fld 1 (.t 4), none⟩,
      ⟨some 40, none, .load none (.t 39), none⟩,
      ⟨some 41, none, .call (.f 50) [(.t 40)], none⟩,
      ⟨some 38, none, .mv (.t 41), none⟩,
      ⟨some 42, none, .ext 0 (.t 38), none⟩,
      ⟨some 43, none, .ext 1 (.t 38), none⟩,
      ⟨some 5, none, .mv (.t 42), none⟩,
      ⟨some 6, none, .mv (.t 43), none⟩])
               (.keep [6, 22, 23, 24] (.seq (.ops [⟨some 44, none, .mv (.t 6), none⟩,
      ⟨some 45, none, .bin .neq (.t 44) (.c (.int .i64 0)), none⟩])
                (.keep [22, 23, 24, 45] (.cond (.t 45)
                 (.seq (.ops [⟨some 2, none, .mv (.c (.bool false)), none⟩])
                  (.ret))
                 (.skip)))))))))))
           (.keep [22, 23, 24] (.ops [⟨some 46, none, .bin .add (.t 24) (.c (.int .i64 1)), none⟩,
      ⟨some 24, none, .mv (.t 46), none⟩]))))))

/-- attorney/record.May -/
def J_record_May : AFn :=
  ⟨47, [.t 2], .seq (.ops [⟨some 1, none, .box (.t 0) [], none⟩,
      ⟨some 2, none, .mv (.c (.bool false)), none⟩])
   (.keep [1] (.seq (.seq (.ops [⟨some 7, none, .fld 0 (.t 1), none⟩,
      ⟨some 8, none, .load none (.t 7), none⟩,
      ⟨some 9, none, .bin .lss (.t 8) (.c (.int .i64 0)), none⟩,
      ⟨some 10, none, .mv (.t 9), none⟩,
      ⟨some 11, (some (10, false)), .fld 0 (.t 1), none⟩,
      ⟨some 12, (some (10, false)), .load none (.t 11), none⟩,
      ⟨some 13, (some (10, false)), .bin .gtr (.t 12) (.c (.int .i64 40)), none⟩,
      ⟨some 14, none, .pick (.t 10) (.c (.bool true)) (.t 13), none⟩,
      ⟨some 15, none, .mv (.t 14), none⟩,
      ⟨some 16, (some (15, false)), .fld 1 (.t 1), none⟩,
      ⟨some 17, (some (15, false)), .load none (.t 16), none⟩,
      ⟨some 18, (some (15, false)), .lenl (.t 17), none⟩,
      ⟨some 19, (some (15, false)), .bin .gtr (.t 18) (.c (.int .i64 4)), none⟩,
      ⟨some 20, none, .pick (.t 15) (.c (.bool true)) (.t 19), none⟩])
     (.keep [1, 20] (.cond (.t 20)
      (.seq (.ops [⟨some 2, none, .mv (.c (.bool false)), none⟩])
       (.ret))
      (.skip))))
    (.keep [1] (.seq (.seq (.ops [⟨some 21, none, .fld 1 (.t 1), none⟩,
      ⟨some 22, none, .load none (.t 21), none⟩,
      ⟨some 23, none, .lenl (.t 22), none⟩,
      ⟨some 24, none, .mv (.c (.int .i64 0)), none⟩])
      (.keep [22, 23, 24] (.block 0 (.loop [22, 23, 24] (J_record_May_j2)))))
     (J_record_May_j1)))))⟩
theorem J_record_May_ok : chkFn Try.prog 21 J_record_May = true := by kernel_rfl

/- behind: Q -/
def J_ref21_May_j1 : ACode :=
  .keep [] (.seq (.ops [⟨some 2, none, .mv (.c (.bool true)), none⟩])
      (.ret))

/- behind: Q = kloop [1, 3] I n (kblock 0 (kseq P (J_ref21_May_j1) Q)) -/
def J_ref21_May_j2 : ACode :=
  .seq (.seq (.ops [⟨some 21, none, .mv (.t 3), none⟩,
      ⟨some 22, none, .fld 1 (.t 1), none⟩,
      ⟨some 23, none, .load none (.t 22), none⟩,
      ⟨some 24, none, .lenl (.t 23), none⟩,
      ⟨some 25, none, .bin .lss (.t 21) (.t 24), none⟩])
          (.keep [1, 3, 25] (.cond (.t 25)
           (.skip)
           (.exit 0))))
         (.keep [1, 3] (.seq (.block 1 (.seq (.ops [⟨some 28, none, .fld 1 (.t 1), none⟩,
      ⟨some 29, none, .load none (.t 28), none⟩,
      ⟨some 30, none, .mv (.t 3), none⟩,
      ⟨some 31, none, .idxa 3 (.t 29) (.t 30), none⟩,
      ⟨some 32, none, .load (some 3) (.t 31), none⟩,
      ⟨some 4, none, .new [(.int .i64 0), (.lst .clip 0 []), (.int .i64 0)] [(1, 28, 2)], none⟩,
      ⟨none, none, .stores 3 (.t 4) (.t 32), none⟩])
            (.keep [1, 3, 4] (.seq (.ops [⟨some 34, none, .fld 1 (.t 4), none⟩,
      ⟨some 35, none, .load none (.t 34), none⟩,
      ⟨some 36, none, .call (.f 46) [(.t 35)], none⟩,
      ⟨some 33, none, .mv (.t 36), none⟩,
      ⟨some 37, none, .ext 0 (.t 33), none⟩,
      ⟨some 38, none, .ext 1 (.t 33), none⟩,
      ⟨some 5, none, .mv (.t 37), none⟩,
      ⟨some 6, none, .mv (.t 38), none⟩])
             (.keep [1, 3, 4, 6] (.seq (.ops [⟨some 39, none, .fld 0 (.t 4), none⟩,
      ⟨some 40, none, .load none (.t 39), none⟩,
      ⟨some 41, none, .call (.f 51) [(.t 40)], none⟩,
      ⟨some 42, none, .not (.t 41), none⟩,
      ⟨some 43, none, .mv (.t 42), none⟩,
      ⟨some 44, (some (43, false)), .fld 2 (.t 4), none⟩,
      ⟨some 45, (some (43, false)), .load none (.t 44), none⟩,
      ⟨some 46, (some (43, false)), .call (.f 51) [(.t 45)], none⟩,
      ⟨some 47, (some (43, false)), .not (.t 46), none⟩,
      ⟨some 48, none, .pick (.t 43) (.c (.bool true)) (.t 47), none⟩,
      ⟨some 49, none, .mv (.t 48), none⟩,
      ⟨some 50, (some (49, false)), .mv (.t 6), none⟩,
      ⟨some 51, (some (49, false)), .bin .neq (.t 50) (.c (.int .i64 0)), none⟩,
      ⟨some 52, none, .pick (.t 49) (.c (.bool true)) (.t 51), none⟩])
              (.keep [1, 3, 52] (.cond (.t 52)
               (.seq (.ops [⟨some 2, none, .mv (.c (.bool false)), none⟩])
                (.ret))
               (.skip)))))))))
          (.keep [1, 3] (.ops [⟨some 26, none, .mv (.t 3), none⟩,
      ⟨some 27, none, .bin .add (.t 26) (.c (.int .i64 1)), none⟩,
      ⟨some 3, none, .mv (.t 27), none⟩]))))

/-- attorney/attorneyref21.May -/
def J_ref21_May : AFn :=
  ⟨53, [.t 2], .seq (.ops [⟨some 1, none, .box (.t 0) [], none⟩,
      ⟨some 2, none, .mv (.c (.bool false)), none⟩])
   (.keep [1] (.seq (.seq (.ops [⟨some 7, none, .fld 0 (.t 1), none⟩,
      ⟨some 8, none, .load none (.t 7), none⟩,
      ⟨some 9, none, .bin .lss (.t 8) (.c (.int .i64 0)), none⟩,
      ⟨some 10, none, .mv (.t 9), none⟩,
      ⟨some 11, (some (10, false)), .fld 0 (.t 1), none⟩,
      ⟨some 12, (some (10, false)), .load none (.t 11), none⟩,
      ⟨some 13, (some (10, false)), .bin .gtr (.t 12) (.c (.int .i64 40)), none⟩,
      ⟨some 14, none, .pick (.t 10) (.c (.bool true)) (.t 13), none⟩,
      ⟨some 15, none, .mv (.t 14), none⟩,
      ⟨some 16, (some (15, false)), .fld 1 (.t 1), none⟩,
      ⟨some 17, (some (15, false)), .load none (.t 16), none⟩,
      ⟨some 18, (some (15, false)), .lenl (.t 17), none⟩,
      ⟨some 19, (some (15, false)), .bin .gtr (.t 18) (.c (.int .i64 4)), none⟩,
      ⟨some 20, none, .pick (.t 15) (.c (.bool true)) (.t 19), none⟩])
     (.keep [1, 20] (.cond (.t 20)
      (.seq (.ops [⟨some 2, none, .mv (.c (.bool false)), none⟩])
       (.ret))
      (.skip))))
    (.keep [1] (.seq (.seq (.ops [⟨some 3, none, .mv (.c (.int .i64 0)), none⟩])
      (.keep [1, 3] (.block 0 (.loop [1, 3] (J_ref21_May_j2)))))
     (J_ref21_May_j1)))))⟩
theorem J_ref21_May_ok : chkFn Try.prog 22 J_ref21_May = true := by kernel_rfl

/- behind: (kblock 0 (kseq P _ Q)) -/
def J_record_Asks_j1 : ACode :=
  .keep [1, 42] (.cond (.t 42)
              (.seq (.ops [⟨some 45, none, .fld 2 (.t 1), none⟩,
      ⟨some 46, none, .load none (.t 45), none⟩,
      ⟨some 47, none, .bin .eql (.t 46) (.c (.int .i64 0)), none⟩,
      ⟨some 48, none, .mv (.t 47), none⟩,
      ⟨some 49, (some (48, true)), .fld 3 (.t 1), none⟩,
      ⟨some 50, (some (48, true)), .fld 0 (.t 49), none⟩,
      ⟨some 51, (some (48, true)), .load none (.t 50), none⟩,
      ⟨some 52, (some (48, true)), .bin .geq (.t 51) (.c (.int .i64 0)), none⟩,
      ⟨some 53, none, .pick (.t 48) (.t 52) (.c (.bool false)), none⟩,
      ⟨some 54, none, .mv (.t 53), none⟩,
      ⟨some 55, (some (54, true)), .fld 3 (.t 1), none⟩,
      ⟨some 56, (some (54, true)), .fld 0 (.t 55), none⟩,
      ⟨some 57, (some (54, true)), .load none (.t 56), none⟩,
      ⟨some 58, (some (54, true)), .bin .lss (.t 57) (.c (.int .i64 8)), none⟩,
      ⟨some 59, none, .pick (.t 54) (.t 58) (.c (.bool false)), none⟩,
      ⟨some 60, none, .mv (.t 59), none⟩,
      ⟨some 61, (some (60, true)), .fld 3 (.t 1), none⟩,
      ⟨some 62, (some (60, true)), .fld 1 (.t 61), none⟩,
      ⟨some 63, (some (60, true)), .load none (.t 62), none⟩,
      ⟨some 64, (some (60, true)), .call (.f 52) [(.t 63)], none⟩,
      ⟨some 65, none, .pick (.t 60) (.t 64) (.c (.bool false)), none⟩,
      ⟨some 2, none, .mv (.t 65), none⟩])
               (.ret))
              (.skip))

/-- attorney/record.Asks -/
def J_record_Asks : AFn :=
  ⟨66, [.t 2], .seq (.ops [⟨some 1, none, .box (.t 0) [], none⟩,
      ⟨some 2, none, .mv (.c (.bool false)), none⟩])
   (.keep [1] (.seq (.seq (.ops [⟨some 4, none, .fld 0 (.t 1), none⟩,
      ⟨some 5, none, .load none (.t 4), none⟩,
      ⟨some 6, none, .bin .lss (.t 5) (.c (.int .i64 0)), none⟩,
      ⟨some 7, none, .mv (.t 6), none⟩,
      ⟨some 8, (some (7, false)), .fld 0 (.t 1), none⟩,
      ⟨some 9, (some (7, false)), .load none (.t 8), none⟩,
      ⟨some 10, (some (7, false)), .bin .geq (.t 9) (.c (.int .i64 4)), none⟩,
      ⟨some 11, none, .pick (.t 7) (.c (.bool true)) (.t 10), none⟩,
      ⟨some 12, none, .mv (.t 11), none⟩,
      ⟨some 13, (some (12, false)), .fld 2 (.t 1), none⟩,
      ⟨some 14, (some (12, false)), .load none (.t 13), none⟩,
      ⟨some 15, (some (12, false)), .call (.f 49) [(.t 14)], none⟩,
      ⟨some 16, (some (12, false)), .not (.t 15), none⟩,
      ⟨some 17, none, .pick (.t 12) (.c (.bool true)) (.t 16), none⟩])
     (.keep [1, 17] (.cond (.t 17)
      (.seq (.ops [⟨some 2, none, .mv (.c (.bool false)), none⟩])
       (.ret))
      (.skip))))
    (.keep [1] (.seq (.ops [⟨some 18, none, .fld 3 (.t 1), none⟩,
      ⟨some 19, none, .fld 0 (.t 18), none⟩,
      ⟨some 20, none, .load none (.t 19), none⟩,
      ⟨some 21, none, .bin .eql (.t 20) (.c (.int .i64 0)), none⟩,
      ⟨some 22, none, .mv (.t 21), none⟩,
      ⟨some 23, (some (22, true)), .fld 3 (.t 1), none⟩,
      ⟨some 24, (some (22, true)), .fld 1 (.t 23), none⟩,
      ⟨some 25, (some (22, true)), .load none (.t 24), none⟩,
      ⟨some 26, (some (22, true)), .lenl (.t 25), none⟩,
      ⟨some 27, (some (22, true)), .bin .eql (.t 26) (.c (.int .i64 0)), none⟩,
      ⟨some 28, none, .pick (.t 22) (.t 27) (.c (.bool false)), none⟩,
      ⟨some 3, none, .mv (.t 28), none⟩])
     (.keep [1, 3] (.seq (.seq (.ops [⟨some 29, none, .fld 1 (.t 1), none⟩,
      ⟨some 30, none, .load none (.t 29), none⟩])
       (.keep [1, 3, 30] (.block 0 (.seq (.ops [⟨some 32, none, .bin .eql (.t 30) (.c (.int .i64 0)), none⟩,
      ⟨some 31, none, .mv (.t 32), none⟩])
         (.keep [1, 3, 30, 31] (.cond (.t 31)
          (.seq (.ops [⟨some 33, none, .fld 2 (.t 1), none⟩,
      ⟨some 34, none, .load none (.t 33), none⟩,
      ⟨some 35, none, .bin .eql (.t 34) (.c (.int .i64 0)), none⟩,
      ⟨some 36, none, .mv (.t 35), none⟩,
      ⟨some 37, (some (36, true)), .mv (.t 3), none⟩,
      ⟨some 38, none, .pick (.t 36) (.t 37) (.c (.bool false)), none⟩,
      ⟨some 2, none, .mv (.t 38), none⟩])
           (.ret))
          (.seq (.ops [⟨some 40, none, .bin .eql (.t 30) (.c (.int .i64 1)), none⟩,
      ⟨some 39, none, .mv (.t 40), none⟩])
           (.keep [1, 3, 30, 39] (.cond (.t 39)
            (.seq (.ops [⟨some 41, none, .mv (.t 3), none⟩,
      ⟨some 2, none, .mv (.t 41), none⟩])
             (.ret))
            (.seq (.seq (.ops [⟨some 43, none, .bin .eql (.t 30) (.c (.int .i64 2)), none⟩,
      ⟨some 42, none, .mv (.t 43), none⟩])
              (.keep [1, 30, 42] (.cond (.t 42)
               (.skip)
               (.ops [⟨some 44, none, .bin .eql (.t 30) (.c (.int .i64 3)), none⟩,
      ⟨some 42, none, .mv (.t 44), none⟩]))))
             (J_record_Asks_j1)))))))))))
      (.keep [] (.seq (.ops [⟨some 2, none, .mv (.c (.bool false)), none⟩])
       (.ret)))))))))⟩
theorem J_record_Asks_ok : chkFn Try.prog 23 J_record_Asks = true := by kernel_rfl

/-- attorney/attorneyref21.Asks -/
def J_ref21_Asks : AFn :=
  ⟨67, [.t 2], .seq (.ops [⟨some 1, none, .box (.t 0) [], none⟩,
      ⟨some 2, none, .mv (.c (.bool false)), none⟩])
   (.keep [1] (.seq (.seq (.ops [⟨some 3, none, .fld 0 (.t 1), none⟩,
      ⟨some 4, none, .load none (.t 3), none⟩,
      ⟨some 5, none, .bin .lss (.t 4) (.c (.int .i64 0)), none⟩,
      ⟨some 6, none, .mv (.t 5), none⟩,
      ⟨some 7, (some (6, false)), .fld 0 (.t 1), none⟩,
      ⟨some 8, (some (6, false)), .load none (.t 7), none⟩,
      ⟨some 9, (some (6, false)), .bin .gtr (.t 8) (.c (.int .i64 3)), none⟩,
      ⟨some 10, none, .pick (.t 6) (.c (.bool true)) (.t 9), none⟩,
      ⟨some 11, none, .mv (.t 10), none⟩,
      ⟨some 12, (some (11, false)), .fld 1 (.t 1), none⟩,
      ⟨some 13, (some (11, false)), .load none (.t 12), none⟩,
      ⟨some 14, (some (11, false)), .bin .lss (.t 13) (.c (.int .i64 0)), none⟩,
      ⟨some 15, none, .pick (.t 11) (.c (.bool true)) (.t 14), none⟩,
      ⟨some 16, none, .mv (.t 15), none⟩,
      ⟨some 17, (some (16, false)), .fld 1 (.t 1), none⟩,
      ⟨some 18, (some (16, false)), .load none (.t 17), none⟩,
      ⟨some 19, (some (16, false)), .bin .gtr (.t 18) (.c (.int .i64 3)), none⟩,
      ⟨some 20, none, .pick (.t 16) (.c (.bool true)) (.t 19), none⟩,
      ⟨some 21, none, .mv (.t 20), none⟩,
      ⟨some 22, (some (21, false)), .fld 2 (.t 1), none⟩,
      ⟨some 23, (some (21, false)), .load none (.t 22), none⟩,
      ⟨some 24, (some (21, false)), .call (.f 51) [(.t 23)], none⟩,
      ⟨some 25, (some (21, false)), .not (.t 24), none⟩,
      ⟨some 26, none, .pick (.t 21) (.c (.bool true)) (.t 25), none⟩,
      ⟨some 27, none, .mv (.t 26), none⟩,
      ⟨some 28, (some (27, false)), .fld 1 (.t 1), none⟩,
      ⟨some 29, (some (27, false)), .load none (.t 28), none⟩,
      ⟨some 30, (some (27, false)), .bin .neq (.t 29) (.c (.int .i64 1)), none⟩,
      ⟨some 31, (some (27, false)), .mv (.t 30), none⟩,
      ⟨some 32, (some (31, true)), .fld 2 (.t 1), none⟩,
      ⟨some 33, (some (31, true)), .load none (.t 32), none⟩,
      ⟨some 34, (some (31, true)), .bin .neq (.t 33) (.c (.int .i64 0)), none⟩,
      ⟨some 35, (some (27, false)), .pick (.t 31) (.t 34) (.c (.bool false)), none⟩,
      ⟨some 36, none, .pick (.t 27) (.c (.bool true)) (.t 35), none⟩])
     (.keep [1, 36] (.cond (.t 36)
      (.seq (.ops [⟨some 2, none, .mv (.c (.bool false)), none⟩])
       (.ret))
      (.skip))))
    (.keep [1] (.seq (.seq (.ops [⟨some 37, none, .fld 1 (.t 1), none⟩,
      ⟨some 38, none, .load none (.t 37), none⟩,
      ⟨some 39, none, .bin .lss (.t 38) (.c (.int .i64 2)), none⟩])
      (.keep [1, 39] (.cond (.t 39)
       (.seq (.ops [⟨some 40, none, .fld 3 (.t 1), none⟩,
      ⟨some 41, none, .fld 0 (.t 40), none⟩,
      ⟨some 42, none, .load none (.t 41), none⟩,
      ⟨some 43, none, .bin .eql (.t 42) (.c (.int .i64 0)), none⟩,
      ⟨some 44, none, .mv (.t 43), none⟩,
      ⟨some 45, (some (44, true)), .fld 3 (.t 1), none⟩,
      ⟨some 46, (some (44, true)), .fld 1 (.t 45), none⟩,
      ⟨some 47, (some (44, true)), .load none (.t 46), none⟩,
      ⟨some 48, (some (44, true)), .lenl (.t 47), none⟩,
      ⟨some 49, (some (44, true)), .bin .eql (.t 48) (.c (.int .i64 0)), none⟩,
      ⟨some 50, none, .pick (.t 44) (.t 49) (.c (.bool false)), none⟩,
      ⟨some 2, none, .mv (.t 50), none⟩])
        (.ret))
       (.skip))))
     (.keep [1] (.seq (.ops [⟨some 51, none, .fld 3 (.t 1), none⟩,
      ⟨some 52, none, .fld 0 (.t 51), none⟩,
      ⟨some 53, none, .load none (.t 52), none⟩,
      ⟨some 54, none, .bin .geq (.t 53) (.c (.int .i64 0)), none⟩,
      ⟨some 55, none, .mv (.t 54), none⟩,
      ⟨some 56, (some (55, true)), .fld 3 (.t 1), none⟩,
      ⟨some 57, (some (55, true)), .fld 0 (.t 56), none⟩,
      ⟨some 58, (some (55, true)), .load none (.t 57), none⟩,
      ⟨some 59, (some (55, true)), .bin .leq (.t 58) (.c (.int .i64 7)), none⟩,
      ⟨some 60, none, .pick (.t 55) (.t 59) (.c (.bool false)), none⟩,
      ⟨some 61, none, .mv (.t 60), none⟩,
      ⟨some 62, (some (61, true)), .fld 3 (.t 1), none⟩,
      ⟨some 63, (some (61, true)), .fld 1 (.t 62), none⟩,
      ⟨some 64, (some (61, true)), .load none (.t 63), none⟩,
      ⟨some 65, (some (61, true)), .call (.f 53) [(.t 64)], none⟩,
      ⟨some 66, none, .pick (.t 61) (.t 65) (.c (.bool false)), none⟩,
      ⟨some 2, none, .mv (.t 66), none⟩])
      (.ret)))))))⟩
theorem J_ref21_Asks_ok : chkFn Try.prog 24 J_ref21_Asks = true := by kernel_rfl

/-- attorney/record.Need -/
def J_record_Need : AFn :=
  ⟨5, [.t 2], .seq (.ops [⟨some 1, none, .box (.t 0) [], none⟩,
      ⟨some 2, none, .mv (.c (.int .i64 0)), none⟩])
   (.keep [1] (.seq (.ops [⟨some 3, none, .fld 1 (.t 1), none⟩,
      ⟨some 4, none, .load none (.t 3), none⟩,
      ⟨some 2, none, .mv (.t 4), none⟩])
    (.ret)))⟩
theorem J_record_Need_ok : chkFn Try.prog 25 J_record_Need = true := by kernel_rfl

/- behind: Q -/
def J_record_Encode_j1 : ACode :=
  .keep [4] (.seq (.ops [⟨some 51, none, .call (.f 56) [(.t 4)], none⟩,
      ⟨some 52, none, .ext 0 (.t 51), none⟩,
      ⟨some 53, none, .ext 1 (.t 51), none⟩,
      ⟨some 2, none, .mv (.t 52), none⟩,
      ⟨some 3, none, .mv (.t 53), none⟩])
         (.ret))

/- behind: Q -/
def J_record_Encode_j2 : ACode :=
  .keep [4, 20, 21, 22] (.ops [⟨some 50, none, .bin .add (.t 22) (.c (.int .i64 1)), none⟩,
      ⟨some 22, none, .mv (.t 50), none⟩])

/- behind: Q = kloop [4, 20, 21, 22, 37, 38, 39] I n (kblock 2 (kblock 1 (kseq P (J_record_Encode_j2) Q))) -/
def J_record_Encode_j3 : ACode :=
  .seq (.ops [⟨some 40, none, .bin .lss (.t 39) (.t 38), none⟩])
                       (.keep [4, 20, 21, 22, 37, 38, 39, 40] (.seq (.cond (.t 40)
                         (.skip)
                         (.exit 2))
                        (.keep [4, 20, 21, 22, 37, 38, 39] (.seq (.block 3 (.seq (.ops [⟨some 41, none, .idxa 2 (.t 37) (.t 39), none⟩,
      ⟨some 42, none, .load (some 2) (.t 41), none⟩,
      ⟨some 8, none, .new [(.int .i64 0), (.lst .clip 0 [])] [], none⟩,
      ⟨none, none, .stores 2 (.t 8) (.t 42), none⟩])
                           (.keep [4, 8, 20, 21, 22, 37, 38, 39] (.seq (.ops [⟨some 43, none, .fld 0 (.t 8), none⟩,
      ⟨some 44, none, .load none (.t 43), none⟩,
      ⟨some 45, none, .call (.f 54) [(.t 4), (.t 44)], none⟩])
                            (.keep [4, 8, 20, 21, 22, 37, 38, 39] (.ops [⟨some 46, none, .fld 1 (.t 8), none⟩,
      ⟨some 47, none, .load none (.t 46), none⟩,
      ⟨some 48, none, .call (.f 55) [(.t 4), (.t 47)], none⟩]))))))
                         (.keep [4, 20, 21, 22, 37, 38, 39] (.ops [⟨some 49, none, .bin .add (.t 39) (.c (.int .i64 1)), none⟩,
      ⟨some 39, none, .mv (.t 49), none⟩]))))))

/- behind: Q = kloop [4, 20, 21, 22] I n (kblock 0 (kseq P (J_record_Encode_j1) Q)) -/
def J_record_Encode_j4 : ACode :=
  .seq (.ops [⟨some 23, none, .bin .lss (.t 22) (.t 21), none⟩])
            (.keep [4, 20, 21, 22, 23] (.seq (.cond (.t 23)
              (.skip)
              (.exit 0))
             (.keep [4, 20, 21, 22] (.seq (.block 1 (.seq (.ops [⟨some 24, none, .idxa 3 (.t 20) (.t 22), none⟩,
      ⟨some 25, none, .load (some 3) (.t 24), none⟩,
      ⟨some 6, none, .new [(.int .i64 0), (.lst .clip 0 []), (.int .i64 0)] [(1, 28, 2)], none⟩,
      ⟨none, none, .stores 3 (.t 6) (.t 25), none⟩])
                (.keep [4, 6, 20, 21, 22] (.seq (.ops [⟨some 26, none, .fld 0 (.t 6), none⟩,
      ⟨some 27, none, .load none (.t 26), none⟩,
      ⟨some 28, none, .call (.f 54) [(.t 4), (.t 27)], none⟩])
                 (.keep [4, 6, 20, 21, 22] (.seq (.ops [⟨some 29, none, .fld 2 (.t 6), none⟩,
      ⟨some 30, none, .load none (.t 29), none⟩,
      ⟨some 31, none, .call (.f 54) [(.t 4), (.t 30)], none⟩])
                  (.keep [4, 6, 20, 21, 22] (.seq (.ops [⟨some 32, none, .fld 1 (.t 6), none⟩,
      ⟨some 33, none, .load none (.t 32), none⟩,
      ⟨some 34, none, .lenl (.t 33), none⟩,
      ⟨some 35, none, .call (.f 54) [(.t 4), (.t 34)], none⟩])
                   (.keep [4, 6, 20, 21, 22] (.seq (.ops [⟨some 36, none, .fld 1 (.t 6), none⟩,
      ⟨some 37, none, .load none (.t 36), none⟩,
      ⟨some 38, none, .lenl (.t 37), none⟩,
      ⟨some 39, none, .mv (.c (.int .i64 0)), none⟩])
                    (.keep [4, 20, 21, 22, 37, 38, 39] (.block 2 (.loop [4, 20, 21, 22, 37, 38, 39] (J_record_Encode_j3))))))))))))))
              (J_record_Encode_j2)))))

/-- attorney/record.Encode -/
def J_record_Encode : AFn :=
  ⟨54, [.t 2, .t 3], .seq (.ops [⟨some 1, none, .box (.t 0) [], none⟩,
      ⟨some 2, none, .mv (.c (.str ⟨#[]⟩)), none⟩,
      ⟨some 3, none, .mv (.c (.int .i64 0)), none⟩])
   (.keep [1] (.seq (.seq (.ops [⟨some 9, none, .load (some 2) (.t 1), none⟩,
      ⟨some 10, none, .call (.f 21) [(.t 9)], none⟩,
      ⟨some 11, none, .not (.t 10), none⟩])
     (.keep [1, 11] (.cond (.t 11)
      (.seq (.ops [⟨some 2, none, .mv (.c (.str ⟨#[]⟩)), none⟩,
      ⟨some 3, none, .mv (.c (.int .i64 2)), none⟩])
       (.ret))
      (.skip))))
    (.keep [1] (.seq (.ops [⟨some 4, none, .new [(.int .i64 0), (.lst .clip 0 [])] [(1, 5, 1)], none⟩])
     (.keep [1, 4] (.seq (.ops [⟨some 12, none, .fld 0 (.t 1), none⟩,
      ⟨some 13, none, .load none (.t 12), none⟩,
      ⟨some 14, none, .call (.f 54) [(.t 4), (.t 13)], none⟩])
      (.keep [1, 4] (.seq (.ops [⟨some 15, none, .fld 1 (.t 1), none⟩,
      ⟨some 16, none, .load none (.t 15), none⟩,
      ⟨some 17, none, .lenl (.t 16), none⟩,
      ⟨some 18, none, .call (.f 54) [(.t 4), (.t 17)], none⟩])
       (.keep [1, 4] (.seq (.seq (.ops [⟨some 19, none, .fld 1 (.t 1), none⟩,
      ⟨some 20, none, .load none (.t 19), none⟩,
      ⟨some 21, none, .lenl (.t 20), none⟩,
      ⟨some 22, none, .mv (.c (.int .i64 0)), none⟩])
         (.keep [4, 20, 21, 22] (.block 0 (.loop [4, 20, 21, 22] (J_record_Encode_j4)))))
        (J_record_Encode_j1)))))))))))⟩
theorem J_record_Encode_ok : chkFn Try.prog 26 J_record_Encode = true := by kernel_rfl

/- behind: Q -/
def J_ref21_Encode_j1 : ACode :=
  .keep [4] (.seq (.ops [⟨some 69, none, .mv (.t 4), none⟩,
      ⟨some 2, none, .mv (.t 69), none⟩,
      ⟨some 3, none, .mv (.c (.int .i64 0)), none⟩])
       (.ret))

/- behind: Q -/
def J_ref21_Encode_j2 : ACode :=
  .keep [1, 4, 5] (.ops [⟨some 24, none, .mv (.t 5), none⟩,
      ⟨some 25, none, .bin .add (.t 24) (.c (.int .i64 1)), none⟩,
      ⟨some 5, none, .mv (.t 25), none⟩])

/- behind: Q = kloop [1, 4, 5, 6, 7] I n (kblock 2 (kblock 1 (kseq P (J_ref21_Encode_j2) Q))) -/
def J_ref21_Encode_j3 : ACode :=
  .seq (.seq (.ops [⟨some 45, none, .mv (.t 7), none⟩,
      ⟨some 46, none, .fld 1 (.t 6), none⟩,
      ⟨some 47, none, .load none (.t 46), none⟩,
      ⟨some 48, none, .lenl (.t 47), none⟩,
      ⟨some 49, none, .bin .lss (.t 45) (.t 48), none⟩])
                   (.keep [1, 4, 5, 6, 7, 49] (.cond (.t 49)
                    (.skip)
                    (.exit 2))))
                  (.keep [1, 4, 5, 6, 7] (.seq (.block 3 (.draw [1, 4, 5, 6, 7] [⟨some 52, none, .mv (.t 4), none⟩,
      ⟨some 53, none, .fld 1 (.t 6), none⟩,
      ⟨some 54, none, .lds none (.t 53), none⟩,
      ⟨some 55, none, .mv (.t 7), none⟩,
      ⟨some 56, none, .idxa 2 (.t 54) (.t 55), none⟩,
      ⟨some 57, none, .fld 0 (.t 56), none⟩,
      ⟨some 58, none, .load none (.t 57), none⟩,
      ⟨some 59, none, .call (.f 57) [(.t 58)], none⟩,
      ⟨some 60, none, .fld 1 (.t 6), none⟩,
      ⟨some 61, none, .lds none (.t 60), none⟩,
      ⟨some 62, none, .mv (.t 7), none⟩,
      ⟨some 63, none, .idxa 2 (.t 61) (.t 62), none⟩,
      ⟨some 64, none, .fld 1 (.t 63), none⟩,
      ⟨some 65, none, .load none (.t 64), none⟩,
      ⟨some 66, none, .call (.f 58) [(.t 65)], none⟩,
      ⟨some 67, none, .bin .add (.t 59) (.t 66), none⟩,
      ⟨some 68, none, .bin .add (.t 52) (.t 67), none⟩,
      ⟨some 4, none, .mv (.t 68), none⟩]))
                   (.keep [1, 4, 5, 6, 7] (.ops [⟨some 50, none, .mv (.t 7), none⟩,
      ⟨some 51, none, .bin .add (.t 50) (.c (.int .i64 1)), none⟩,
      ⟨some 7, none, .mv (.t 51), none⟩]))))

/- behind: Q = kloop [1, 4, 5] I n (kblock 0 (kseq P (J_ref21_Encode_j1) Q)) -/
def J_ref21_Encode_j4 : ACode :=
  .seq (.seq (.ops [⟨some 19, none, .mv (.t 5), none⟩,
      ⟨some 20, none, .fld 1 (.t 1), none⟩,
      ⟨some 21, none, .load none (.t 20), none⟩,
      ⟨some 22, none, .lenl (.t 21), none⟩,
      ⟨some 23, none, .bin .lss (.t 19) (.t 22), none⟩])
           (.keep [1, 4, 5, 23] (.cond (.t 23)
            (.skip)
            (.exit 0))))
          (.keep [1, 4, 5] (.seq (.block 1 (.seq (.ops [⟨some 26, none, .fld 1 (.t 1), none⟩,
      ⟨some 27, none, .load none (.t 26), none⟩,
      ⟨some 28, none, .mv (.t 5), none⟩,
      ⟨some 29, none, .idxa 3 (.t 27) (.t 28), none⟩,
      ⟨some 30, none, .load (some 3) (.t 29), none⟩,
      ⟨some 6, none, .new [(.int .i64 0), (.lst .clip 0 []), (.int .i64 0)] [(1, 28, 2)], none⟩,
      ⟨none, none, .stores 3 (.t 6) (.t 30), none⟩])
             (.keep [1, 4, 5, 6] (.seq (.draw [1, 4, 5, 6] [⟨some 31, none, .mv (.t 4), none⟩,
      ⟨some 32, none, .fld 0 (.t 6), none⟩,
      ⟨some 33, none, .lds none (.t 32), none⟩,
      ⟨some 34, none, .call (.f 57) [(.t 33)], none⟩,
      ⟨some 35, none, .fld 2 (.t 6), none⟩,
      ⟨some 36, none, .lds none (.t 35), none⟩,
      ⟨some 37, none, .call (.f 57) [(.t 36)], none⟩,
      ⟨some 38, none, .bin .add (.t 34) (.t 37), none⟩,
      ⟨some 39, none, .fld 1 (.t 6), none⟩,
      ⟨some 40, none, .lds none (.t 39), none⟩,
      ⟨some 41, none, .lenl (.t 40), none⟩,
      ⟨some 42, none, .call (.f 57) [(.t 41)], none⟩,
      ⟨some 43, none, .bin .add (.t 38) (.t 42), none⟩,
      ⟨some 44, none, .bin .add (.t 31) (.t 43), none⟩,
      ⟨some 4, none, .mv (.t 44), none⟩])
              (.keep [1, 4, 5, 6] (.seq (.ops [⟨some 7, none, .mv (.c (.int .i64 0)), none⟩])
               (.keep [1, 4, 5, 6, 7] (.block 2 (.loop [1, 4, 5, 6, 7] (J_ref21_Encode_j3))))))))))
           (J_ref21_Encode_j2)))

/-- attorney/attorneyref21.Encode -/
def J_ref21_Encode : AFn :=
  ⟨70, [.t 2, .t 3], .seq (.ops [⟨some 1, none, .box (.t 0) [], none⟩,
      ⟨some 2, none, .mv (.c (.str ⟨#[]⟩)), none⟩,
      ⟨some 3, none, .mv (.c (.int .i64 0)), none⟩])
   (.keep [1] (.seq (.seq (.ops [⟨some 8, none, .load (some 2) (.t 1), none⟩,
      ⟨some 9, none, .call (.f 22) [(.t 8)], none⟩,
      ⟨some 10, none, .not (.t 9), none⟩])
     (.keep [1, 10] (.cond (.t 10)
      (.seq (.ops [⟨some 2, none, .mv (.c (.str ⟨#[]⟩)), none⟩,
      ⟨some 3, none, .mv (.c (.int .i64 2)), none⟩])
       (.ret))
      (.skip))))
    (.keep [1] (.seq (.draw [1, 4] [⟨some 11, none, .fld 0 (.t 1), none⟩,
      ⟨some 12, none, .load none (.t 11), none⟩,
      ⟨some 13, none, .call (.f 57) [(.t 12)], none⟩,
      ⟨some 14, none, .fld 1 (.t 1), none⟩,
      ⟨some 15, none, .load none (.t 14), none⟩,
      ⟨some 16, none, .lenl (.t 15), none⟩,
      ⟨some 17, none, .call (.f 57) [(.t 16)], none⟩,
      ⟨some 18, none, .bin .add (.t 13) (.t 17), none⟩,
      ⟨some 4, none, .mv (.t 18), none⟩])
     (.keep [1, 4] (.seq (.seq (.ops [⟨some 5, none, .mv (.c (.int .i64 0)), none⟩])
       (.keep [1, 4, 5] (.block 0 (.loop [1, 4, 5] (J_ref21_Encode_j4)))))
      (J_ref21_Encode_j1)))))))⟩
theorem J_ref21_Encode_ok : chkFn Try.prog 27 J_ref21_Encode = true := by kernel_rfl

/- behind: Q -/
def J_record_Decode_j1 : ACode :=
  .keep [2, 4, 5] (.seq (.seq (.ops [⟨some 43, none, .mv (.t 4), none⟩,
      ⟨some 44, none, .call (.f 62) [(.t 43)], none⟩,
      ⟨some 45, none, .bin .neq (.t 44) (.c (.int .i64 0)), none⟩,
      ⟨some 46, none, .mv (.t 45), none⟩,
      ⟨some 47, (some (46, false)), .load (some 2) (.t 5), none⟩,
      ⟨some 48, (some (46, false)), .call (.f 21) [(.t 47)], none⟩,
      ⟨some 49, (some (46, false)), .not (.t 48), none⟩,
      ⟨some 50, none, .pick (.t 46) (.c (.bool true)) (.t 49), none⟩])
        (.keep [2, 5, 50] (.cond (.t 50)
         (.seq (.ops [⟨some 51, none, .build [(.int .i64 0), (.lst .clip 0 [])] [], none⟩,
      ⟨none, none, .store 2 (.t 2) (.t 51), none⟩,
      ⟨some 3, none, .mv (.c (.int .i64 2)), none⟩])
          (.ret))
         (.skip))))
       (.keep [2, 5] (.seq (.ops [⟨some 52, none, .load (some 2) (.t 5), none⟩,
      ⟨none, none, .store 2 (.t 2) (.t 52), none⟩,
      ⟨some 3, none, .mv (.c (.int .i64 0)), none⟩])
        (.ret))))

/- behind: Q -/
def J_record_Decode_j2 : ACode :=
  .keep [2, 4, 5, 13, 14] (.ops [⟨some 42, none, .bin .add (.t 14) (.c (.int .i64 1)), none⟩,
      ⟨some 14, none, .mv (.t 42), none⟩])

/- behind: (kblock 1 (kseq P (J_record_Decode_j2) Q)) -/
def J_record_Decode_j3 : ACode :=
  .keep [2, 4, 5, 6, 13, 14] (.ops [⟨some 36, none, .fld 1 (.t 5), none⟩,
      ⟨some 37, none, .loado (.t 36), none⟩,
      ⟨some 38, none, .load (some 3) (.t 6), none⟩,
      ⟨some 39, none, .bsl 43 3 1 [(.int .i64 0), (.lst .clip 0 []), (.int .i64 0)] [(0, 3, (.t 38))], none⟩,
      ⟨some 40, none, .appo 43 3 40 37 (.t 39), none⟩,
      ⟨some 41, none, .fld 1 (.t 5), none⟩,
      ⟨none, none, .storeo (.t 41) 40, none⟩])

/- behind: Q = kloop [2, 4, 5, 6, 13, 14, 22, 23] I n (kblock 2 (kseq P (J_record_Decode_j3) (kblock 1 (kseq P (J_record_Decode_j2) Q)))) -/
def J_record_Decode_j4 : ACode :=
  .seq (.ops [⟨some 24, none, .bin .lss (.t 23) (.t 22), none⟩])
                   (.keep [2, 4, 5, 6, 13, 14, 22, 23, 24] (.seq (.cond (.t 24)
                     (.skip)
                     (.exit 2))
                    (.keep [2, 4, 5, 6, 13, 14, 22, 23] (.seq (.block 3 (.draw [2, 4, 5, 6, 13, 14, 22, 23] [⟨some 25, none, .fld 1 (.t 6), none⟩,
      ⟨some 26, none, .loado (.t 25), (some (.s 6, [4]))⟩,
      ⟨some 27, none, .mv (.t 4), none⟩,
      ⟨some 28, none, .calli (.f 60) [(.t 27), (.c (.int .i64 7))], (some (.s 4, [6]))⟩,
      ⟨some 29, none, .mv (.t 4), none⟩,
      ⟨some 30, none, .calli (.f 61) [(.t 29)], (some (.s 4, [6]))⟩,
      ⟨some 31, none, .build [(.int .i64 0), (.lst .clip 0 [])] [(0, 1, (.t 28)), (1, 1, (.t 30))], none⟩,
      ⟨some 32, none, .bsl 28 2 1 [(.int .i64 0), (.lst .clip 0 [])] [(0, 2, (.t 31))], none⟩,
      ⟨some 33, none, .appo 28 2 32 26 (.t 32), none⟩,
      ⟨some 34, none, .fld 1 (.t 6), none⟩,
      ⟨none, none, .storeo (.t 34) 33, none⟩]))
                     (.keep [2, 4, 5, 6, 13, 14, 22, 23] (.ops [⟨some 35, none, .bin .add (.t 23) (.c (.int .i64 1)), none⟩,
      ⟨some 23, none, .mv (.t 35), none⟩]))))))

/- behind: Q = kloop [2, 4, 5, 13, 14] I n (kblock 0 (kseq P (J_record_Decode_j1) Q)) -/
def J_record_Decode_j5 : ACode :=
  .seq (.ops [⟨some 15, none, .bin .lss (.t 14) (.t 13), none⟩])
          (.keep [2, 4, 5, 13, 14, 15] (.seq (.cond (.t 15)
            (.skip)
            (.exit 0))
           (.keep [2, 4, 5, 13, 14] (.seq (.block 1 (.seq (.ops [⟨some 16, none, .mv (.t 4), none⟩,
      ⟨some 17, none, .call (.f 60) [(.t 16), (.c (.int .i64 4611686018427387904))], none⟩,
      ⟨some 18, none, .mv (.t 4), none⟩,
      ⟨some 19, none, .call (.f 60) [(.t 18), (.c (.int .i64 4611686018427387904))], none⟩,
      ⟨some 20, none, .build [(.int .i64 0), (.lst .clip 0 []), (.int .i64 0)] [(0, 1, (.t 17)), (2, 1, (.t 19))], none⟩,
      ⟨some 6, none, .new [(.int .i64 0), (.lst .clip 0 []), (.int .i64 0)] [(1, 28, 2)], none⟩,
      ⟨none, none, .storeu 3 [(1, 28, 2)] (.t 6) (.t 20), none⟩])
              (.keep [2, 4, 5, 6, 13, 14] (.seq (.seq (.ops [⟨some 21, none, .mv (.t 4), none⟩,
      ⟨some 22, none, .call (.f 60) [(.t 21), (.c (.int .i64 12))], none⟩,
      ⟨some 23, none, .mv (.c (.int .i64 0)), none⟩])
                (.keep [2, 4, 5, 6, 13, 14, 22, 23] (.block 2 (.loop [2, 4, 5, 6, 13, 14, 22, 23] (J_record_Decode_j4)))))
               (J_record_Decode_j3)))))
            (J_record_Decode_j2)))))

/-- attorney/record.Decode -/
def J_record_Decode : AFn :=
  ⟨53, [.c 2 (some 2), .t 3], .seq (.ops [⟨some 2, none, .new [(.int .i64 0), (.lst .clip 0 [])] [(1, 43, 3)], none⟩,
      ⟨some 3, none, .mv (.c (.int .i64 0)), none⟩])
   (.keep [0, 2] (.seq (.ops [⟨some 7, none, .mv (.t 0), none⟩,
      ⟨some 8, none, .call (.f 59) [(.t 7)], none⟩,
      ⟨some 4, none, .mv (.t 8), none⟩])
    (.keep [2, 4] (.seq (.ops [⟨some 9, none, .mv (.t 4), none⟩,
      ⟨some 10, none, .call (.f 60) [(.t 9), (.c (.int .i64 40))], none⟩,
      ⟨some 11, none, .build [(.int .i64 0), (.lst .clip 0 [])] [(0, 1, (.t 10))], none⟩,
      ⟨some 5, none, .new [(.int .i64 0), (.lst .clip 0 [])] [(1, 43, 3)], none⟩,
      ⟨none, none, .storeu 2 [(1, 43, 3)] (.t 5) (.t 11), none⟩])
     (.keep [2, 4, 5] (.seq (.seq (.ops [⟨some 12, none, .mv (.t 4), none⟩,
      ⟨some 13, none, .call (.f 60) [(.t 12), (.c (.int .i64 4))], none⟩,
      ⟨some 14, none, .mv (.c (.int .i64 0)), none⟩])
       (.keep [2, 4, 5, 13, 14] (.block 0 (.loop [2, 4, 5, 13, 14] (J_record_Decode_j5)))))
      (J_record_Decode_j1)))))))⟩
theorem J_record_Decode_ok : chkFn Try.prog 28 J_record_Decode = true := by kernel_rfl

/- behind: Q -/
def J_ref21_Decode_j1 : ACode :=
  .keep [2, 4, 5] (.seq (.seq (.ops [⟨some 58, none, .mv (.t 4), none⟩,
      ⟨some 59, none, .call (.f 65) [(.t 58)], none⟩,
      ⟨some 60, none, .bin .neq (.t 59) (.c (.int .i64 0)), none⟩,
      ⟨some 61, none, .mv (.t 60), none⟩,
      ⟨some 62, (some (61, false)), .load (some 2) (.t 5), none⟩,
      ⟨some 63, (some (61, false)), .call (.f 22) [(.t 62)], none⟩,
      ⟨some 64, (some (61, false)), .not (.t 63), none⟩,
      ⟨some 65, none, .pick (.t 61) (.c (.bool true)) (.t 64), none⟩])
         (.keep [2, 5, 65] (.cond (.t 65)
          (.seq (.ops [⟨some 66, none, .build [(.int .i64 0), (.lst .clip 0 [])] [], none⟩,
      ⟨none, none, .store 2 (.t 2) (.t 66), none⟩,
      ⟨some 3, none, .mv (.c (.int .i64 2)), none⟩])
           (.ret))
          (.skip))))
        (.keep [2, 5] (.seq (.ops [⟨some 67, none, .load (some 2) (.t 5), none⟩,
      ⟨none, none, .store 2 (.t 2) (.t 67), none⟩,
      ⟨some 3, none, .mv (.c (.int .i64 0)), none⟩])
         (.ret))))

/- behind: Q -/
def J_ref21_Decode_j2 : ACode :=
  .keep [2, 4, 5, 6, 7] (.ops [⟨some 23, none, .mv (.t 7), none⟩,
      ⟨some 24, none, .bin .add (.t 23) (.c (.int .i64 1)), none⟩,
      ⟨some 7, none, .mv (.t 24), none⟩])

/- behind: (kblock 1 (kseq P (J_ref21_Decode_j2) Q)) -/
def J_ref21_Decode_j3 : ACode :=
  .keep [2, 4, 5, 6, 7, 8] (.ops [⟨some 52, none, .fld 1 (.t 5), none⟩,
      ⟨some 53, none, .loado (.t 52), none⟩,
      ⟨some 54, none, .load (some 3) (.t 8), none⟩,
      ⟨some 55, none, .bsl 43 3 1 [(.int .i64 0), (.lst .clip 0 []), (.int .i64 0)] [(0, 3, (.t 54))], none⟩,
      ⟨some 56, none, .appo 43 3 40 53 (.t 55), none⟩,
      ⟨some 57, none, .fld 1 (.t 5), none⟩,
      ⟨none, none, .storeo (.t 57) 56, none⟩])

/- behind: Q = kloop [2, 4, 5, 6, 7, 8, 9, 10] I n (kblock 2 (kseq P (J_ref21_Decode_j3) (kblock 1 (kseq P (J_ref21_Decode_j2) Q)))) -/
def J_ref21_Decode_j4 : ACode :=
  .seq (.seq (.ops [⟨some 34, none, .mv (.t 10), none⟩,
      ⟨some 35, none, .mv (.t 9), none⟩,
      ⟨some 36, none, .bin .lss (.t 34) (.t 35), none⟩])
                       (.keep [2, 4, 5, 6, 7, 8, 9, 10, 36] (.cond (.t 36)
                        (.skip)
                        (.exit 2))))
                      (.keep [2, 4, 5, 6, 7, 8, 9, 10] (.seq (.block 3 (.seq (.ops [⟨some 39, none, .build [(.int .i64 0), (.lst .clip 0 [])] [], none⟩,
      ⟨some 11, none, .new [(.int .i64 0), (.lst .clip 0 [])] [], none⟩,
      ⟨none, none, .store 2 (.t 11) (.t 39), none⟩])
                         (.keep [2, 4, 5, 6, 7, 8, 9, 10, 11] (.seq (.ops [⟨some 40, none, .mv (.t 4), none⟩,
      ⟨some 41, none, .call (.f 63) [(.t 40), (.c (.int .i64 7))], none⟩,
      ⟨some 42, none, .fld 0 (.t 11), none⟩,
      ⟨none, none, .store 1 (.t 42) (.t 41), none⟩])
                          (.keep [2, 4, 5, 6, 7, 8, 9, 10, 11] (.seq (.ops [⟨some 43, none, .mv (.t 4), none⟩,
      ⟨some 44, none, .call (.f 64) [(.t 43)], none⟩,
      ⟨some 45, none, .fld 1 (.t 11), none⟩,
      ⟨none, none, .store 1 (.t 45) (.t 44), none⟩])
                           (.keep [2, 4, 5, 6, 7, 8, 9, 10, 11] (.ops [⟨some 46, none, .fld 1 (.t 8), none⟩,
      ⟨some 47, none, .loado (.t 46), none⟩,
      ⟨some 48, none, .load (some 2) (.t 11), none⟩,
      ⟨some 49, none, .bsl 28 2 1 [(.int .i64 0), (.lst .clip 0 [])] [(0, 2, (.t 48))], none⟩,
      ⟨some 50, none, .appo 28 2 32 47 (.t 49), none⟩,
      ⟨some 51, none, .fld 1 (.t 8), none⟩,
      ⟨none, none, .storeo (.t 51) 50, none⟩]))))))))
                       (.keep [2, 4, 5, 6, 7, 8, 9, 10] (.ops [⟨some 37, none, .mv (.t 10), none⟩,
      ⟨some 38, none, .bin .add (.t 37) (.c (.int .i64 1)), none⟩,
      ⟨some 10, none, .mv (.t 38), none⟩]))))

/- behind: Q = kloop [2, 4, 5, 6, 7] I n (kblock 0 (kseq P (J_ref21_Decode_j1) Q)) -/
def J_ref21_Decode_j5 : ACode :=
  .seq (.seq (.ops [⟨some 20, none, .mv (.t 7), none⟩,
      ⟨some 21, none, .mv (.t 6), none⟩,
      ⟨some 22, none, .bin .lss (.t 20) (.t 21), none⟩])
            (.keep [2, 4, 5, 6, 7, 22] (.cond (.t 22)
             (.skip)
             (.exit 0))))
           (.keep [2, 4, 5, 6, 7] (.seq (.block 1 (.seq (.ops [⟨some 25, none, .build [(.int .i64 0), (.lst .clip 0 []), (.int .i64 0)] [], none⟩,
      ⟨some 8, none, .new [(.int .i64 0), (.lst .clip 0 []), (.int .i64 0)] [(1, 28, 2)], none⟩,
      ⟨none, none, .storeu 3 [(1, 28, 2)] (.t 8) (.t 25), none⟩])
              (.keep [2, 4, 5, 6, 7, 8] (.seq (.ops [⟨some 26, none, .mv (.t 4), none⟩,
      ⟨some 27, none, .call (.f 63) [(.t 26), (.c (.int .i64 4611686018427387904))], none⟩,
      ⟨some 28, none, .fld 0 (.t 8), none⟩,
      ⟨none, none, .store 1 (.t 28) (.t 27), none⟩])
               (.keep [2, 4, 5, 6, 7, 8] (.seq (.ops [⟨some 29, none, .mv (.t 4), none⟩,
      ⟨some 30, none, .call (.f 63) [(.t 29), (.c (.int .i64 4611686018427387904))], none⟩,
      ⟨some 31, none, .fld 2 (.t 8), none⟩,
      ⟨none, none, .store 1 (.t 31) (.t 30), none⟩])
                (.keep [2, 4, 5, 6, 7, 8] (.seq (.ops [⟨some 32, none, .mv (.t 4), none⟩,
      ⟨some 33, none, .call (.f 63) [(.t 32), (.c (.int .i64 12))], none⟩,
      ⟨some 9, none, .mv (.t 33), none⟩])
                 (.keep [2, 4, 5, 6, 7, 8, 9] (.seq (.seq (.ops [⟨some 10, none, .mv (.c (.int .i64 0)), none⟩])
                   (.keep [2, 4, 5, 6, 7, 8, 9, 10] (.block 2 (.loop [2, 4, 5, 6, 7, 8, 9, 10] (J_ref21_Decode_j4)))))
                  (J_ref21_Decode_j3)))))))))))
            (J_ref21_Decode_j2)))

/-- attorney/attorneyref21.Decode -/
def J_ref21_Decode : AFn :=
  ⟨68, [.c 2 (some 2), .t 3], .seq (.ops [⟨some 2, none, .new [(.int .i64 0), (.lst .clip 0 [])] [(1, 43, 3)], none⟩,
      ⟨some 3, none, .mv (.c (.int .i64 0)), none⟩])
   (.keep [0, 2] (.seq (.ops [⟨some 12, none, .mv (.t 0), none⟩,
      ⟨some 13, none, .build [(.str ⟨#[]⟩), (.int .i64 0), (.bool false)] [(0, 1, (.t 12))], none⟩,
      ⟨some 14, none, .box (.t 13) [], none⟩,
      ⟨some 4, none, .mv (.t 14), none⟩])
    (.keep [2, 4] (.seq (.ops [⟨some 15, none, .mv (.t 4), none⟩,
      ⟨some 16, none, .call (.f 63) [(.t 15), (.c (.int .i64 40))], none⟩,
      ⟨some 17, none, .build [(.int .i64 0), (.lst .clip 0 [])] [(0, 1, (.t 16))], none⟩,
      ⟨some 5, none, .new [(.int .i64 0), (.lst .clip 0 [])] [(1, 43, 3)], none⟩,
      ⟨none, none, .storeu 2 [(1, 43, 3)] (.t 5) (.t 17), none⟩])
     (.keep [2, 4, 5] (.seq (.ops [⟨some 18, none, .mv (.t 4), none⟩,
      ⟨some 19, none, .call (.f 63) [(.t 18), (.c (.int .i64 4))], none⟩,
      ⟨some 6, none, .mv (.t 19), none⟩])
      (.keep [2, 4, 5, 6] (.seq (.seq (.ops [⟨some 7, none, .mv (.c (.int .i64 0)), none⟩])
        (.keep [2, 4, 5, 6, 7] (.block 0 (.loop [2, 4, 5, 6, 7] (J_ref21_Decode_j5)))))
       (J_ref21_Decode_j1)))))))))⟩
theorem J_ref21_Decode_ok : chkFn Try.prog 29 J_ref21_Decode = true := by kernel_rfl

/- behind: Q -/
def J_record_Same_j1 : ACode :=
  .keep [] (.seq (.ops [⟨some 4, none, .mv (.c (.bool true)), none⟩])
      (.ret))

/- behind: Q -/
def J_record_Same_j2 : ACode :=
  .keep [3, 25, 26, 27] (.ops [⟨some 75, none, .bin .add (.t 27) (.c (.int .i64 1)), none⟩,
      ⟨some 27, none, .mv (.t 75), none⟩])

/- behind: Q = kloop [3, 7, 25, 26, 27, 59, 60, 61] I n (kblock 2 (kblock 1 (kseq P (J_record_Same_j2) Q))) -/
def J_record_Same_j3 : ACode :=
  .seq (.ops [⟨some 62, none, .bin .lss (.t 61) (.t 60), none⟩])
                   (.keep [3, 7, 25, 26, 27, 59, 60, 61, 62] (.seq (.cond (.t 62)
                     (.skip)
                     (.exit 2))
                    (.keep [3, 7, 25, 26, 27, 59, 60, 61] (.seq (.block 3 (.seq (.ops [⟨some 63, none, .mv (.t 61), none⟩,
      ⟨some 64, none, .idxa 2 (.t 59) (.t 61), none⟩,
      ⟨some 65, none, .load (some 2) (.t 64), none⟩,
      ⟨some 9, none, .new [(.int .i64 0), (.lst .clip 0 [])] [], none⟩,
      ⟨some 8, none, .mv (.t 63), none⟩,
      ⟨none, none, .stores 2 (.t 9) (.t 65), none⟩])
                       (.keep [3, 7, 8, 9, 25, 26, 27, 59, 60, 61] (.seq (.draw [3, 7, 25, 26, 27, 59, 60, 61, 73] [⟨some 66, none, .lds (some 2) (.t 9), none⟩,
      ⟨some 67, none, .fld 1 (.t 7), none⟩,
      ⟨some 68, none, .lds none (.t 67), none⟩,
      ⟨some 69, none, .mv (.t 8), none⟩,
      ⟨some 70, none, .idxa 2 (.t 68) (.t 69), none⟩,
      ⟨some 71, none, .load (some 2) (.t 70), none⟩,
      ⟨some 72, none, .call (.f 66) [(.t 66), (.t 71)], none⟩,
      ⟨some 73, none, .not (.t 72), none⟩])
                        (.keep [3, 7, 25, 26, 27, 59, 60, 61, 73] (.cond (.t 73)
                         (.seq (.ops [⟨some 4, none, .mv (.c (.bool false)), none⟩])
                          (.ret))
                         (.skip)))))))
                     (.keep [3, 7, 25, 26, 27, 59, 60, 61] (.ops [⟨some 74, none, .bin .add (.t 61) (.c (.int .i64 1)), none⟩,
      ⟨some 61, none, .mv (.t 74), none⟩]))))))

/- behind: Q = kloop [3, 25, 26, 27] I n (kblock 0 (kseq P (J_record_Same_j1) Q)) -/
def J_record_Same_j4 : ACode :=
  .seq (.ops [⟨some 28, none, .bin .lss (.t 27) (.t 26), none⟩])
         (.keep [3, 25, 26, 27, 28] (.seq (.cond (.t 28)
           (.skip)
           (.exit 0))
          (.keep [3, 25, 26, 27] (.seq (.block 1 (.seq (.ops [⟨some 29, none, .mv (.t 27), none⟩,
      ⟨some 30, none, .idxa 3 (.t 25) (.t 27), none⟩,
      ⟨some 31, none, .load (some 3) (.t 30), none⟩,
      ⟨some 6, none, .new [(.int .i64 0), (.lst .clip 0 []), (.int .i64 0)] [(1, 28, 2)], none⟩,
      ⟨some 5, none, .mv (.t 29), none⟩,
      ⟨none, none, .stores 3 (.t 6) (.t 31), none⟩])
             (.keep [3, 5, 6, 25, 26, 27] (.seq (.ops [⟨some 32, none, .fld 1 (.t 3), none⟩,
      ⟨some 33, none, .load none (.t 32), none⟩,
      ⟨some 34, none, .mv (.t 5), none⟩,
      ⟨some 35, none, .idxa 3 (.t 33) (.t 34), none⟩,
      ⟨some 36, none, .load (some 3) (.t 35), none⟩,
      ⟨some 7, none, .new [(.int .i64 0), (.lst .clip 0 []), (.int .i64 0)] [(1, 28, 2)], none⟩,
      ⟨none, none, .stores 3 (.t 7) (.t 36), none⟩])
              (.keep [3, 6, 7, 25, 26, 27] (.seq (.seq (.ops [⟨some 37, none, .fld 0 (.t 6), none⟩,
      ⟨some 38, none, .load none (.t 37), none⟩,
      ⟨some 39, none, .fld 0 (.t 7), none⟩,
      ⟨some 40, none, .load none (.t 39), none⟩,
      ⟨some 41, none, .bin .neq (.t 38) (.t 40), none⟩,
      ⟨some 42, none, .mv (.t 41), none⟩,
      ⟨some 43, (some (42, false)), .fld 2 (.t 6), none⟩,
      ⟨some 44, (some (42, false)), .load none (.t 43), none⟩,
      ⟨some 45, (some (42, false)), .fld 2 (.t 7), none⟩,
      ⟨some 46, (some (42, false)), .load none (.t 45), none⟩,
      ⟨some 47, (some (42, false)), .bin .neq (.t 44) (.t 46), none⟩,
      ⟨some 48, none, .pick (.t 42) (.c (.bool true)) (.t 47), none⟩,
      ⟨some 49, none, .mv (.t 48), none⟩,
      ⟨some 50, (some (49, false)), .fld 1 (.t 6), none⟩,
      ⟨some 51, (some (49, false)), .load none (.t 50), none⟩,
      ⟨some 52, (some (49, false)), .lenl (.t 51), none⟩,
      ⟨some 53, (some (49, false)), .fld 1 (.t 7), none⟩,
      ⟨some 54, (some (49, false)), .load none (.t 53), none⟩,
      ⟨some 55, (some (49, false)), .lenl (.t 54), none⟩,
      ⟨some 56, (some (49, false)), .bin .neq (.t 52) (.t 55), none⟩,
      ⟨some 57, none, .pick (.t 49) (.c (.bool true)) (.t 56), none⟩])
                (.keep [3, 6, 7, 25, 26, 27, 57] (.cond (.t 57)
                 (.seq (.ops [⟨some 4, none, .mv (.c (.bool false)), none⟩])
                  (.ret))
                 (.skip))))
               (.keep [3, 6, 7, 25, 26, 27] (.seq (.ops [⟨some 58, none, .fld 1 (.t 6), none⟩,
      ⟨some 59, none, .load none (.t 58), none⟩,
      ⟨some 60, none, .lenl (.t 59), none⟩,
      ⟨some 61, none, .mv (.c (.int .i64 0)), none⟩])
                (.keep [3, 7, 25, 26, 27, 59, 60, 61] (.block 2 (.loop [3, 7, 25, 26, 27, 59, 60, 61] (J_record_Same_j3))))))))))))
           (J_record_Same_j2)))))

/-- attorney/record.Same -/
def J_record_Same : AFn :=
  ⟨76, [.t 4], .seq (.ops [⟨some 2, none, .box (.t 0) [], none⟩,
      ⟨some 3, none, .box (.t 1) [], none⟩,
      ⟨some 4, none, .mv (.c (.bool false)), none⟩])
   (.keep [2, 3] (.seq (.seq (.ops [⟨some 10, none, .fld 0 (.t 2), none⟩,
      ⟨some 11, none, .load none (.t 10), none⟩,
      ⟨some 12, none, .fld 0 (.t 3), none⟩,
      ⟨some 13, none, .load none (.t 12), none⟩,
      ⟨some 14, none, .bin .neq (.t 11) (.t 13), none⟩,
      ⟨some 15, none, .mv (.t 14), none⟩,
      ⟨some 16, (some (15, false)), .fld 1 (.t 2), none⟩,
      ⟨some 17, (some (15, false)), .load none (.t 16), none⟩,
      ⟨some 18, (some (15, false)), .lenl (.t 17), none⟩,
      ⟨some 19, (some (15, false)), .fld 1 (.t 3), none⟩,
      ⟨some 20, (some (15, false)), .load none (.t 19), none⟩,
      ⟨some 21, (some (15, false)), .lenl (.t 20), none⟩,
      ⟨some 22, (some (15, false)), .bin .neq (.t 18) (.t 21), none⟩,
      ⟨some 23, none, .pick (.t 15) (.c (.bool true)) (.t 22), none⟩])
     (.keep [2, 3, 23] (.cond (.t 23)
      (.seq (.ops [⟨some 4, none, .mv (.c (.bool false)), none⟩])
       (.ret))
      (.skip))))
    (.keep [2, 3] (.seq (.seq (.ops [⟨some 24, none, .fld 1 (.t 2), none⟩,
      ⟨some 25, none, .load none (.t 24), none⟩,
      ⟨some 26, none, .lenl (.t 25), none⟩,
      ⟨some 27, none, .mv (.c (.int .i64 0)), none⟩])
      (.keep [3, 25, 26, 27] (.block 0 (.loop [3, 25, 26, 27] (J_record_Same_j4)))))
     (J_record_Same_j1)))))⟩
theorem J_record_Same_ok : chkFn Try.prog 30 J_record_Same = true := by kernel_rfl

/-- attorney/attorneyref16.Same -/
def J_ref16_Same : AFn :=
  ⟨17, [.t 4], .seq (.ops [⟨some 2, none, .box (.t 0) [], none⟩,
      ⟨some 3, none, .box (.t 1) [], none⟩,
      ⟨some 4, none, .mv (.c (.bool false)), none⟩])
   (.keep [2, 3] (.seq (.ops [⟨some 5, none, .fld 0 (.t 2), none⟩,
      ⟨some 6, none, .load none (.t 5), none⟩,
      ⟨some 7, none, .fld 0 (.t 3), none⟩,
      ⟨some 8, none, .load none (.t 7), none⟩,
      ⟨some 9, none, .bin .eql (.t 6) (.t 8), none⟩,
      ⟨some 10, none, .mv (.t 9), none⟩,
      ⟨some 11, (some (10, true)), .fld 1 (.t 2), none⟩,
      ⟨some 12, (some (10, true)), .load none (.t 11), none⟩,
      ⟨some 13, (some (10, true)), .fld 1 (.t 3), none⟩,
      ⟨some 14, (some (10, true)), .load none (.t 13), none⟩,
      ⟨some 15, (some (10, true)), .call (.f 67) [(.t 12), (.t 14)], none⟩,
      ⟨some 16, none, .pick (.t 10) (.t 15) (.c (.bool false)), none⟩,
      ⟨some 4, none, .mv (.t 16), none⟩])
    (.ret)))⟩
theorem J_ref16_Same_ok : chkFn Try.prog 31 J_ref16_Same = true := by kernel_rfl

/- behind: Q -/
def J_record_copied_j1 : ACode :=
  .keep [2, 3] (.seq (.ops [⟨some 31, none, .load (some 2) (.t 3), none⟩,
      ⟨none, none, .store 2 (.t 2) (.t 31), none⟩])
      (.ret))

/- behind: Q = kloop [2, 3, 14, 15, 16] I n (kblock 0 (kseq P (J_record_copied_j1) Q)) -/
def J_record_copied_j2 : ACode :=
  .seq (.ops [⟨some 17, none, .bin .lss (.t 16) (.t 15), none⟩])
         (.keep [2, 3, 14, 15, 16, 17] (.seq (.cond (.t 17)
           (.skip)
           (.exit 0))
          (.keep [2, 3, 14, 15, 16] (.seq (.block 1 (.seq (.ops [⟨some 18, none, .mv (.t 16), none⟩,
      ⟨some 19, none, .idxa 3 (.t 14) (.t 16), none⟩,
      ⟨some 20, none, .load (some 3) (.t 19), none⟩,
      ⟨some 5, none, .new [(.int .i64 0), (.lst .clip 0 []), (.int .i64 0)] [(1, 28, 2)], none⟩,
      ⟨some 4, none, .mv (.t 18), none⟩,
      ⟨none, none, .store 3 (.t 5) (.t 20), none⟩])
             (.keep [2, 3, 4, 5, 14, 15, 16] (.seq (.ops [⟨some 21, none, .fld 1 (.t 5), none⟩,
      ⟨some 22, none, .load none (.t 21), none⟩,
      ⟨some 23, none, .call (.f 81) [(.t 22)], none⟩,
      ⟨some 24, none, .fld 1 (.t 5), none⟩,
      ⟨none, none, .store 1 (.t 24) (.t 23), none⟩])
              (.keep [2, 3, 4, 5, 14, 15, 16] (.ops [⟨some 25, none, .fld 1 (.t 3), none⟩,
      ⟨some 26, none, .load none (.t 25), none⟩,
      ⟨some 27, none, .mv (.t 4), none⟩,
      ⟨some 28, none, .load (some 3) (.t 5), none⟩,
      ⟨some 29, none, .idxa 3 (.t 26) (.t 27), none⟩,
      ⟨none, none, .store 3 (.t 29) (.t 28), none⟩]))))))
           (.keep [2, 3, 14, 15, 16] (.ops [⟨some 30, none, .bin .add (.t 16) (.c (.int .i64 1)), none⟩,
      ⟨some 16, none, .mv (.t 30), none⟩]))))))

/-- attorney/record.copied -/
def J_record_copied : AFn :=
  ⟨32, [.c 2 (some 2)], .seq (.ops [⟨some 1, none, .box (.t 0) [], none⟩,
      ⟨some 2, none, .new [(.int .i64 0), (.lst .clip 0 [])] [(1, 43, 3)], none⟩])
   (.keep [1, 2] (.seq (.holes 2 (.draw [1, 2, 3] [⟨some 6, none, .fld 0 (.t 1), none⟩,
      ⟨some 7, none, .load none (.t 6), none⟩,
      ⟨some 8, none, .fld 1 (.t 1), none⟩,
      ⟨some 9, none, .load none (.t 8), none⟩,
      ⟨some 10, none, .lenl (.t 9), none⟩,
      ⟨some 11, none, .mkn 43 3 40 [(.int .i64 0), (.lst .clip 0 []), (.int .i64 0)] (.t 10), (some (.h 1, []))⟩,
      ⟨some 12, none, .build [(.int .i64 0), (.lst .clip 0 [])] [(0, 1, (.t 7)), (1, 1, (.t 11))], none⟩,
      ⟨some 3, none, .new [(.int .i64 0), (.lst .clip 0 [])] [(1, 43, 3)], (some (.h 0, []))⟩,
      ⟨none, none, .stores 2 (.t 3) (.t 12), (some (.h 0, []))⟩]))
    (.keep [1, 2, 3] (.seq (.seq (.ops [⟨some 13, none, .fld 1 (.t 1), none⟩,
      ⟨some 14, none, .load none (.t 13), none⟩,
      ⟨some 15, none, .lenl (.t 14), none⟩,
      ⟨some 16, none, .mv (.c (.int .i64 0)), none⟩])
      (.keep [2, 3, 14, 15, 16] (.block 0 (.loop [2, 3, 14, 15, 16] (J_record_copied_j2)))))
     (J_record_copied_j1)))))⟩
theorem J_record_copied_ok : chkFn Try.prog 42 J_record_copied = true := by kernel_rfl

/-- attorney/record.turn -/
def J_record_turn : AFn :=
  ⟨46, [.t 6], .seq (.ops [⟨some 4, none, .box (.t 1) [], none⟩,
      ⟨some 6, none, .mv (.c (.int .i64 0)), none⟩])
   (.keep [0, 2, 4] (.seq (.seq (.ops [⟨some 10, none, .mv (.t 0), none⟩,
      ⟨some 11, none, .nilck (.t 10), none⟩,
      ⟨some 12, none, .fld 2 (.t 11), none⟩,
      ⟨some 13, none, .load none (.t 12), none⟩,
      ⟨some 14, none, .bin .geq (.t 13) (.c (.int .i64 4611686018427387904)), none⟩])
     (.keep [0, 2, 4, 14] (.cond (.t 14)
      (.seq (.ops [⟨some 6, none, .mv (.c (.int .i64 5)), none⟩])
       (.ret))
      (.skip))))
    (.keep [0, 2, 4] (.seq (.ops [⟨some 16, none, .mv (.t 0), none⟩,
      ⟨some 17, none, .nilck (.t 16), none⟩,
      ⟨some 18, none, .fld 1 (.t 17), none⟩,
      ⟨some 19, none, .load none (.t 18), none⟩,
      ⟨some 20, none, .call (.f 50) [(.t 19)], none⟩,
      ⟨some 15, none, .mv (.t 20), none⟩,
      ⟨some 21, none, .ext 0 (.t 15), none⟩,
      ⟨some 22, none, .ext 1 (.t 15), none⟩,
      ⟨some 7, none, .mv (.t 21), none⟩,
      ⟨some 8, none, .mv (.t 22), none⟩])
     (.keep [0, 2, 4, 7, 8] (.seq (.seq (.ops [⟨some 23, none, .mv (.t 8), none⟩,
      ⟨some 24, none, .bin .neq (.t 23) (.c (.int .i64 0)), none⟩])
       (.keep [0, 2, 4, 7, 8, 24] (.cond (.t 24)
        (.seq (.ops [⟨some 25, none, .mv (.t 8), none⟩,
      ⟨some 6, none, .mv (.t 25), none⟩])
         (.ret))
        (.skip))))
      (.keep [0, 2, 4, 7] (.seq (.seq (.ops [⟨some 26, none, .mv (.t 2), none⟩,
      ⟨some 27, none, .mv (.t 7), none⟩,
      ⟨some 28, none, .load (some 2) (.t 4), none⟩,
      ⟨some 29, none, .call (.t 26) [(.t 27), (.t 28)], none⟩,
      ⟨some 9, none, .mv (.t 29), none⟩])
        (.keep [0, 7, 9] (.seq (.ops [⟨some 30, none, .mv (.t 9), none⟩,
      ⟨some 31, none, .bin .neq (.t 30) (.c (.int .i64 0)), none⟩])
         (.keep [0, 7, 9, 31] (.cond (.t 31)
          (.seq (.ops [⟨some 32, none, .mv (.t 9), none⟩,
      ⟨some 6, none, .mv (.t 32), none⟩])
           (.ret))
          (.skip))))))
       (.keep [0, 7] (.seq (.ops [⟨some 33, none, .mv (.t 0), none⟩,
      ⟨some 34, none, .mv (.t 7), none⟩,
      ⟨some 35, none, .call (.f 82) [(.t 34)], none⟩,
      ⟨some 36, none, .call (.f 81) [(.t 35)], none⟩,
      ⟨some 37, none, .nilck (.t 33), none⟩,
      ⟨some 38, none, .fld 1 (.t 37), none⟩,
      ⟨none, none, .store 1 (.t 38) (.t 36), none⟩])
        (.keep [0] (.seq (.ops [⟨some 39, none, .mv (.t 0), none⟩,
      ⟨some 40, none, .nilck (.t 39), none⟩,
      ⟨some 41, none, .fld 2 (.t 40), none⟩,
      ⟨some 42, none, .load none (.t 41), none⟩,
      ⟨some 43, none, .bin .add (.t 42) (.c (.int .i64 1)), none⟩,
      ⟨some 44, none, .nilck (.t 39), none⟩,
      ⟨some 45, none, .fld 2 (.t 44), none⟩,
      ⟨none, none, .store 1 (.t 45) (.t 43), none⟩])
         (.keep [] (.seq (.ops [⟨some 6, none, .mv (.c (.int .i64 0)), none⟩])
          (.ret)))))))))))))))⟩
theorem J_record_turn_ok : chkFn Try.prog 43 J_record_turn = true := by kernel_rfl

/-- (*attorney/acl.List).Add -/
def J_acl_List_Add : AFn :=
  ⟨44, [.t 4], .seq (.ops [⟨some 3, none, .box (.t 1) [], none⟩,
      ⟨some 4, none, .mv (.c (.int .i64 0)), none⟩])
   (.keep [0, 3] (.seq (.ops [⟨some 6, none, .mv (.t 0), none⟩,
      ⟨some 7, none, .nilck (.t 6), none⟩,
      ⟨some 8, none, .fld 0 (.t 7), none⟩,
      ⟨some 9, none, .load none (.t 8), none⟩,
      ⟨some 10, none, .lenl (.t 9), none⟩,
      ⟨some 5, none, .mv (.t 10), none⟩])
    (.keep [0, 3, 5] (.seq (.block 0 (.seq (.ops [⟨some 12, none, .load (some 2) (.t 3), none⟩,
      ⟨some 13, none, .call (.f 83) [(.t 12)], none⟩,
      ⟨some 14, none, .not (.t 13), none⟩,
      ⟨some 11, none, .mv (.t 14), none⟩])
       (.keep [0, 3, 5, 11] (.cond (.t 11)
        (.seq (.ops [⟨some 4, none, .mv (.c (.int .i64 2)), none⟩])
         (.ret))
        (.seq (.ops [⟨some 16, none, .mv (.t 0), none⟩,
      ⟨some 17, none, .load (some 2) (.t 3), none⟩,
      ⟨some 18, none, .call (.f 84) [(.t 16), (.t 17)], none⟩,
      ⟨some 19, none, .bin .geq (.t 18) (.c (.int .i64 0)), none⟩,
      ⟨some 15, none, .mv (.t 19), none⟩])
         (.keep [0, 3, 5, 15] (.cond (.t 15)
          (.seq (.ops [⟨some 4, none, .mv (.c (.int .i64 11)), none⟩])
           (.ret))
          (.seq (.ops [⟨some 21, none, .mv (.t 5), none⟩,
      ⟨some 22, none, .bin .geq (.t 21) (.c (.int .i64 12)), none⟩,
      ⟨some 20, none, .mv (.t 22), none⟩])
           (.keep [0, 3, 5, 20] (.cond (.t 20)
            (.seq (.ops [⟨some 4, none, .mv (.c (.int .i64 3)), none⟩])
             (.ret))
            (.skip)))))))))))
     (.keep [0, 3, 5] (.seq (.draw [0] [⟨some 23, none, .mv (.t 0), none⟩,
      ⟨some 24, none, .mv (.t 0), none⟩,
      ⟨some 25, none, .nilck (.t 24), none⟩,
      ⟨some 26, none, .fld 0 (.t 25), none⟩,
      ⟨some 27, none, .load none (.t 26), none⟩,
      ⟨some 28, none, .mv (.t 5), none⟩,
      ⟨some 29, none, .mv (.t 5), none⟩,
      ⟨some 30, none, .slcl 2 (.t 27) none (some (.t 28)) (some (.t 29)), none⟩,
      ⟨some 31, none, .load (some 2) (.t 3), none⟩,
      ⟨some 32, none, .call (.f 85) [(.t 31)], none⟩,
      ⟨some 33, none, .bsl 28 2 1 [(.int .i64 0), (.lst .clip 0 [])] [(0, 2, (.t 32))], none⟩,
      ⟨some 34, none, .app 28 2 32 (.t 30) (.t 33), none⟩,
      ⟨some 35, none, .nilck (.t 23), none⟩,
      ⟨some 36, none, .fld 0 (.t 35), none⟩,
      ⟨none, none, .storeo (.t 36) 34, none⟩])
      (.keep [0] (.seq (.ops [⟨some 37, none, .mv (.t 0), none⟩,
      ⟨some 38, none, .nilck (.t 37), none⟩,
      ⟨some 39, none, .fld 1 (.t 38), none⟩,
      ⟨some 40, none, .load none (.t 39), none⟩,
      ⟨some 41, none, .bin .add (.t 40) (.c (.int .i64 1)), none⟩,
      ⟨some 42, none, .nilck (.t 37), none⟩,
      ⟨some 43, none, .fld 1 (.t 42), none⟩,
      ⟨none, none, .store 1 (.t 43) (.t 41), none⟩])
       (.keep [] (.seq (.ops [⟨some 4, none, .mv (.c (.int .i64 0)), none⟩])
        (.ret)))))))))))⟩
theorem J_acl_List_Add_ok : chkFn Try.prog 44 J_acl_List_Add = true := by kernel_rfl

/-- (*attorney/acl.List).Remove -/
def J_acl_List_Remove : AFn :=
  ⟨39, [.t 4], .seq (.ops [⟨some 3, none, .box (.t 1) [], none⟩,
      ⟨some 4, none, .mv (.c (.int .i64 0)), none⟩])
   (.keep [0, 3] (.seq (.seq (.ops [⟨some 6, none, .load (some 2) (.t 3), none⟩,
      ⟨some 7, none, .call (.f 83) [(.t 6)], none⟩,
      ⟨some 8, none, .not (.t 7), none⟩])
     (.keep [0, 3, 8] (.cond (.t 8)
      (.seq (.ops [⟨some 4, none, .mv (.c (.int .i64 2)), none⟩])
       (.ret))
      (.skip))))
    (.keep [0, 3] (.seq (.ops [⟨some 9, none, .mv (.t 0), none⟩,
      ⟨some 10, none, .load (some 2) (.t 3), none⟩,
      ⟨some 11, none, .call (.f 84) [(.t 9), (.t 10)], none⟩,
      ⟨some 5, none, .mv (.t 11), none⟩])
     (.keep [0, 5] (.seq (.seq (.ops [⟨some 12, none, .mv (.t 5), none⟩,
      ⟨some 13, none, .bin .lss (.t 12) (.c (.int .i64 0)), none⟩])
       (.keep [0, 5, 13] (.cond (.t 13)
        (.seq (.ops [⟨some 4, none, .mv (.c (.int .i64 10)), none⟩])
         (.ret))
        (.skip))))
      (.keep [0, 5] (.seq (.draw [0] [⟨some 14, none, .mv (.t 0), none⟩,
      ⟨some 15, none, .mv (.t 0), none⟩,
      ⟨some 16, none, .nilck (.t 15), none⟩,
      ⟨some 17, none, .fld 0 (.t 16), none⟩,
      ⟨some 18, none, .load none (.t 17), none⟩,
      ⟨some 19, none, .mv (.t 5), none⟩,
      ⟨some 20, none, .mv (.t 5), none⟩,
      ⟨some 21, none, .slcl 2 (.t 18) none (some (.t 19)) (some (.t 20)), none⟩,
      ⟨some 22, none, .mv (.t 0), none⟩,
      ⟨some 23, none, .nilck (.t 22), none⟩,
      ⟨some 24, none, .fld 0 (.t 23), none⟩,
      ⟨some 25, none, .load none (.t 24), none⟩,
      ⟨some 26, none, .mv (.t 5), none⟩,
      ⟨some 27, none, .bin .add (.t 26) (.c (.int .i64 1)), none⟩,
      ⟨some 28, none, .slcl 2 (.t 25) (some (.t 27)) none none, none⟩,
      ⟨some 29, none, .app 28 2 32 (.t 21) (.t 28), none⟩,
      ⟨some 30, none, .nilck (.t 14), none⟩,
      ⟨some 31, none, .fld 0 (.t 30), none⟩,
      ⟨none, none, .storeo (.t 31) 29, none⟩])
       (.keep [0] (.seq (.ops [⟨some 32, none, .mv (.t 0), none⟩,
      ⟨some 33, none, .nilck (.t 32), none⟩,
      ⟨some 34, none, .fld 1 (.t 33), none⟩,
      ⟨some 35, none, .load none (.t 34), none⟩,
      ⟨some 36, none, .bin .add (.t 35) (.c (.int .i64 1)), none⟩,
      ⟨some 37, none, .nilck (.t 32), none⟩,
      ⟨some 38, none, .fld 1 (.t 37), none⟩,
      ⟨none, none, .store 1 (.t 38) (.t 36), none⟩])
        (.keep [] (.seq (.ops [⟨some 4, none, .mv (.c (.int .i64 0)), none⟩])
         (.ret)))))))))))))⟩
theorem J_acl_List_Remove_ok : chkFn Try.prog 45 J_acl_List_Remove = true := by kernel_rfl

/- behind: Q -/
def J_ref16_New_j1 : ACode :=
  .keep [4] (.seq (.ops [⟨some 24, none, .mv (.t 4), none⟩,
      ⟨some 25, none, .nilck (.t 24), none⟩,
      ⟨some 26, none, .fld 1 (.t 25), none⟩,
      ⟨none, none, .store 1 (.t 26) (.c (.int .i64 0)), none⟩])
      (.keep [4] (.seq (.ops [⟨some 27, none, .mv (.t 4), none⟩,
      ⟨some 2, none, .mv (.t 27), none⟩,
      ⟨some 3, none, .mv (.c (.int .i64 0)), none⟩])
       (.ret))))

/- behind: Q = kloop [0, 4, 5] I n (kblock 0 (kseq P (J_ref16_New_j1) Q)) -/
def J_ref16_New_j2 : ACode :=
  .seq (.seq (.ops [⟨some 9, none, .mv (.t 5), none⟩,
      ⟨some 10, none, .mv (.t 0), none⟩,
      ⟨some 11, none, .lenl (.t 10), none⟩,
      ⟨some 12, none, .bin .lss (.t 9) (.t 11), none⟩])
          (.keep [0, 4, 5, 12] (.cond (.t 12)
           (.skip)
           (.exit 0))))
         (.keep [0, 4, 5] (.seq (.block 1 (.seq (.ops [⟨some 15, none, .mv (.t 4), none⟩,
      ⟨some 16, none, .mv (.t 0), none⟩,
      ⟨some 17, none, .mv (.t 5), none⟩,
      ⟨some 18, none, .idxa 2 (.t 16) (.t 17), none⟩,
      ⟨some 19, none, .load (some 2) (.t 18), none⟩,
      ⟨some 20, none, .call (.f 47) [(.t 15), (.t 19)], none⟩,
      ⟨some 6, none, .mv (.t 20), none⟩])
            (.keep [0, 4, 5, 6] (.seq (.ops [⟨some 21, none, .mv (.t 6), none⟩,
      ⟨some 22, none, .bin .neq (.t 21) (.c (.int .i64 0)), none⟩])
             (.keep [0, 4, 5, 6, 22] (.cond (.t 22)
              (.seq (.ops [⟨some 23, none, .mv (.t 6), none⟩,
      ⟨some 2, none, .mv (.c .nilp), none⟩,
      ⟨some 3, none, .mv (.t 23), none⟩])
               (.ret))
              (.skip)))))))
          (.keep [0, 4, 5] (.ops [⟨some 13, none, .mv (.t 5), none⟩,
      ⟨some 14, none, .bin .add (.t 13) (.c (.int .i64 1)), none⟩,
      ⟨some 5, none, .mv (.t 14), none⟩]))))

/-- attorney/attorneyref16.New -/
def J_ref16_New : AFn :=
  ⟨28, [.t 2, .t 3], .seq (.ops [⟨some 2, none, .mv (.c .nilp), none⟩,
      ⟨some 3, none, .mv (.c (.int .i64 0)), none⟩])
   (.keep [0] (.seq (.ops [⟨some 7, none, .build [(.lst .clip 0 []), (.int .i64 0)] [], none⟩,
      ⟨some 8, none, .box (.t 7) [], none⟩,
      ⟨some 4, none, .mv (.t 8), none⟩])
    (.keep [0, 4] (.seq (.seq (.ops [⟨some 5, none, .mv (.c (.int .i64 0)), none⟩])
      (.keep [0, 4, 5] (.block 0 (.loop [0, 4, 5] (J_ref16_New_j2)))))
     (J_ref16_New_j1)))))⟩
theorem J_ref16_New_ok : chkFn Try.prog 46 J_ref16_New = true := by kernel_rfl

/- behind: Q -/
def J_ref16_List_Add_j1 : ACode :=
  .keep [0, 3] (.seq (.seq (.ops [⟨some 27, none, .mv (.t 0), none⟩,
      ⟨some 28, none, .nilck (.t 27), none⟩,
      ⟨some 29, none, .fld 0 (.t 28), none⟩,
      ⟨some 30, none, .load none (.t 29), none⟩,
      ⟨some 31, none, .lenl (.t 30), none⟩,
      ⟨some 32, none, .bin .geq (.t 31) (.c (.int .i64 12)), none⟩])
       (.keep [0, 3, 32] (.cond (.t 32)
        (.seq (.ops [⟨some 4, none, .mv (.c (.int .i64 3)), none⟩])
         (.ret))
        (.skip))))
      (.keep [0, 3] (.seq (.ops [⟨some 33, none, .bsl 44 1 0 [] [], none⟩,
      ⟨some 34, none, .fld 1 (.t 3), none⟩,
      ⟨some 35, none, .load none (.t 34), none⟩,
      ⟨some 36, none, .appo 44 1 16 33 (.t 35), none⟩,
      ⟨some 37, none, .fld 1 (.t 3), none⟩,
      ⟨none, none, .storeo (.t 37) 36, none⟩])
       (.keep [0, 3] (.seq (.draw [0] [⟨some 38, none, .mv (.t 0), none⟩,
      ⟨some 39, none, .bsl 28 2 0 [] [], none⟩,
      ⟨some 40, none, .mv (.t 0), none⟩,
      ⟨some 41, none, .nilck (.t 40), none⟩,
      ⟨some 42, none, .fld 0 (.t 41), none⟩,
      ⟨some 43, none, .load none (.t 42), none⟩,
      ⟨some 44, none, .appo 28 2 32 39 (.t 43), none⟩,
      ⟨some 45, none, .load (some 2) (.t 3), none⟩,
      ⟨some 46, none, .bsl 28 2 1 [(.int .i64 0), (.lst .clip 0 [])] [(0, 2, (.t 45))], none⟩,
      ⟨some 47, none, .appo 28 2 32 44 (.t 46), none⟩,
      ⟨some 48, none, .nilck (.t 38), none⟩,
      ⟨some 49, none, .fld 0 (.t 48), none⟩,
      ⟨none, none, .storeo (.t 49) 47, none⟩])
        (.keep [0] (.seq (.ops [⟨some 50, none, .mv (.t 0), none⟩,
      ⟨some 51, none, .nilck (.t 50), none⟩,
      ⟨some 52, none, .fld 1 (.t 51), none⟩,
      ⟨some 53, none, .load none (.t 52), none⟩,
      ⟨some 54, none, .bin .add (.t 53) (.c (.int .i64 1)), none⟩,
      ⟨some 55, none, .nilck (.t 50), none⟩,
      ⟨some 56, none, .fld 1 (.t 55), none⟩,
      ⟨none, none, .store 1 (.t 56) (.t 54), none⟩])
         (.keep [] (.seq (.ops [⟨some 4, none, .mv (.c (.int .i64 0)), none⟩])
          (.ret))))))))))

/- behind: Q = kloop [0, 3, 5] I n (kblock 0 (kseq P (J_ref16_List_Add_j1) Q)) -/
def J_ref16_List_Add_j2 : ACode :=
  .seq (.seq (.ops [⟨some 9, none, .mv (.t 5), none⟩,
      ⟨some 10, none, .mv (.t 0), none⟩,
      ⟨some 11, none, .nilck (.t 10), none⟩,
      ⟨some 12, none, .fld 0 (.t 11), none⟩,
      ⟨some 13, none, .load none (.t 12), none⟩,
      ⟨some 14, none, .lenl (.t 13), none⟩,
      ⟨some 15, none, .bin .lss (.t 9) (.t 14), none⟩])
          (.keep [0, 3, 5, 15] (.cond (.t 15)
           (.skip)
           (.exit 0))))
         (.keep [0, 3, 5] (.seq (.block 1 (.seq (.draw [0, 3, 5, 26] [⟨some 18, none, .mv (.t 0), none⟩,
      ⟨some 19, none, .nilck (.t 18), none⟩,
      ⟨some 20, none, .fld 0 (.t 19), none⟩,
      ⟨some 21, none, .load none (.t 20), none⟩,
      ⟨some 22, none, .mv (.t 5), none⟩,
      ⟨some 23, none, .idxa 2 (.t 21) (.t 22), none⟩,
      ⟨some 24, none, .load (some 2) (.t 23), none⟩,
      ⟨some 25, none, .load (some 2) (.t 3), none⟩,
      ⟨some 26, none, .call (.f 31) [(.t 24), (.t 25)], none⟩])
            (.keep [0, 3, 5, 26] (.cond (.t 26)
             (.seq (.ops [⟨some 4, none, .mv (.c (.int .i64 11)), none⟩])
              (.ret))
             (.skip)))))
          (.keep [0, 3, 5] (.ops [⟨some 16, none, .mv (.t 5), none⟩,
      ⟨some 17, none, .bin .add (.t 16) (.c (.int .i64 1)), none⟩,
      ⟨some 5, none, .mv (.t 17), none⟩]))))

/-- (*attorney/attorneyref16.List).Add -/
def J_ref16_List_Add : AFn :=
  ⟨57, [.t 4], .seq (.ops [⟨some 3, none, .box (.t 1) [], none⟩,
      ⟨some 4, none, .mv (.c (.int .i64 0)), none⟩])
   (.keep [0, 3] (.seq (.seq (.ops [⟨some 6, none, .load (some 2) (.t 3), none⟩,
      ⟨some 7, none, .call (.f 86) [(.t 6)], none⟩,
      ⟨some 8, none, .not (.t 7), none⟩])
     (.keep [0, 3, 8] (.cond (.t 8)
      (.seq (.ops [⟨some 4, none, .mv (.c (.int .i64 2)), none⟩])
       (.ret))
      (.skip))))
    (.keep [0, 3] (.seq (.seq (.ops [⟨some 5, none, .mv (.c (.int .i64 0)), none⟩])
      (.keep [0, 3, 5] (.block 0 (.loop [0, 3, 5] (J_ref16_List_Add_j2)))))
     (J_ref16_List_Add_j1)))))⟩
theorem J_ref16_List_Add_ok : chkFn Try.prog 47 J_ref16_List_Add = true := by kernel_rfl

/- behind: Q -/
def J_ref16_List_Remove_j1 : ACode :=
  .keep [0, 5] (.seq (.seq (.ops [⟨some 40, none, .mv (.t 5), none⟩,
      ⟨some 41, none, .lenl (.t 40), none⟩,
      ⟨some 42, none, .mv (.t 0), none⟩,
      ⟨some 43, none, .nilck (.t 42), none⟩,
      ⟨some 44, none, .fld 0 (.t 43), none⟩,
      ⟨some 45, none, .load none (.t 44), none⟩,
      ⟨some 46, none, .lenl (.t 45), none⟩,
      ⟨some 47, none, .bin .eql (.t 41) (.t 46), none⟩])
        (.keep [0, 5, 47] (.cond (.t 47)
         (.seq (.ops [⟨some 4, none, .mv (.c (.int .i64 10)), none⟩])
          (.ret))
         (.skip))))
       (.keep [0, 5] (.seq (.ops [⟨some 48, none, .mv (.t 0), none⟩,
      ⟨some 49, none, .mv (.t 5), none⟩,
      ⟨some 50, none, .nilck (.t 48), none⟩,
      ⟨some 51, none, .fld 0 (.t 50), none⟩,
      ⟨none, none, .store 1 (.t 51) (.t 49), none⟩])
        (.keep [0] (.seq (.ops [⟨some 52, none, .mv (.t 0), none⟩,
      ⟨some 53, none, .nilck (.t 52), none⟩,
      ⟨some 54, none, .fld 1 (.t 53), none⟩,
      ⟨some 55, none, .load none (.t 54), none⟩,
      ⟨some 56, none, .bin .add (.t 55) (.c (.int .i64 1)), none⟩,
      ⟨some 57, none, .nilck (.t 52), none⟩,
      ⟨some 58, none, .fld 1 (.t 57), none⟩,
      ⟨none, none, .store 1 (.t 58) (.t 56), none⟩])
         (.keep [] (.seq (.ops [⟨some 4, none, .mv (.c (.int .i64 0)), none⟩])
          (.ret))))))))

/- behind: Q -/
def J_ref16_List_Remove_j2 : ACode :=
  .keep [0, 3, 5, 6] (.ops [⟨some 18, none, .mv (.t 6), none⟩,
      ⟨some 19, none, .bin .add (.t 18) (.c (.int .i64 1)), none⟩,
      ⟨some 6, none, .mv (.t 19), none⟩])

/- behind: Q = kloop [0, 3, 5, 6] I n (kblock 0 (kseq P (J_ref16_List_Remove_j1) Q)) -/
def J_ref16_List_Remove_j3 : ACode :=
  .seq (.seq (.ops [⟨some 11, none, .mv (.t 6), none⟩,
      ⟨some 12, none, .mv (.t 0), none⟩,
      ⟨some 13, none, .nilck (.t 12), none⟩,
      ⟨some 14, none, .fld 0 (.t 13), none⟩,
      ⟨some 15, none, .load none (.t 14), none⟩,
      ⟨some 16, none, .lenl (.t 15), none⟩,
      ⟨some 17, none, .bin .lss (.t 11) (.t 16), none⟩])
           (.keep [0, 3, 5, 6, 17] (.cond (.t 17)
            (.skip)
            (.exit 0))))
          (.keep [0, 3, 5, 6] (.seq (.block 1 (.seq (.draw [0, 3, 5, 6, 29] [⟨some 20, none, .mv (.t 0), none⟩,
      ⟨some 21, none, .nilck (.t 20), none⟩,
      ⟨some 22, none, .fld 0 (.t 21), none⟩,
      ⟨some 23, none, .load none (.t 22), none⟩,
      ⟨some 24, none, .mv (.t 6), none⟩,
      ⟨some 25, none, .idxa 2 (.t 23) (.t 24), none⟩,
      ⟨some 26, none, .load (some 2) (.t 25), none⟩,
      ⟨some 27, none, .load (some 2) (.t 3), none⟩,
      ⟨some 28, none, .call (.f 31) [(.t 26), (.t 27)], none⟩,
      ⟨some 29, none, .not (.t 28), none⟩])
             (.keep [0, 3, 5, 6, 29] (.cond (.t 29)
              (.ops [⟨some 30, none, .mvo 5, none⟩,
      ⟨some 31, none, .mv (.t 0), none⟩,
      ⟨some 32, none, .nilck (.t 31), none⟩,
      ⟨some 33, none, .fld 0 (.t 32), none⟩,
      ⟨some 34, none, .load none (.t 33), none⟩,
      ⟨some 35, none, .mv (.t 6), none⟩,
      ⟨some 36, none, .idxa 2 (.t 34) (.t 35), none⟩,
      ⟨some 37, none, .load (some 2) (.t 36), none⟩,
      ⟨some 38, none, .bsl 28 2 1 [(.int .i64 0), (.lst .clip 0 [])] [(0, 2, (.t 37))], none⟩,
      ⟨some 39, none, .appo 28 2 32 30 (.t 38), none⟩,
      ⟨some 5, none, .mvo 39, none⟩])
              (.skip)))))
           (J_ref16_List_Remove_j2)))

/-- (*attorney/attorneyref16.List).Remove -/
def J_ref16_List_Remove : AFn :=
  ⟨59, [.t 4], .seq (.ops [⟨some 3, none, .box (.t 1) [], none⟩,
      ⟨some 4, none, .mv (.c (.int .i64 0)), none⟩])
   (.keep [0, 3] (.seq (.seq (.ops [⟨some 7, none, .load (some 2) (.t 3), none⟩,
      ⟨some 8, none, .call (.f 86) [(.t 7)], none⟩,
      ⟨some 9, none, .not (.t 8), none⟩])
     (.keep [0, 3, 9] (.cond (.t 9)
      (.seq (.ops [⟨some 4, none, .mv (.c (.int .i64 2)), none⟩])
       (.ret))
      (.skip))))
    (.keep [0, 3] (.seq (.ops [⟨some 10, none, .bsl 28 2 0 [] [], none⟩,
      ⟨some 5, none, .mvo 10, none⟩])
     (.keep [0, 3, 5] (.seq (.seq (.ops [⟨some 6, none, .mv (.c (.int .i64 0)), none⟩])
       (.keep [0, 3, 5, 6] (.block 0 (.loop [0, 3, 5, 6] (J_ref16_List_Remove_j3)))))
      (J_ref16_List_Remove_j1)))))))⟩
theorem J_ref16_List_Remove_ok : chkFn Try.prog 48 J_ref16_List_Remove = true := by kernel_rfl

/-- attorney/record.number -/
def J_record_number : AFn :=
  ⟨9, [.t 2], .seq (.ops [⟨some 2, none, .mv (.c (.bool false)), none⟩])
   (.keep [0] (.seq (.ops [⟨some 3, none, .mv (.t 0), none⟩,
      ⟨some 4, none, .bin .geq (.t 3) (.c (.int .i64 0)), none⟩,
      ⟨some 5, none, .mv (.t 4), none⟩,
      ⟨some 6, (some (5, true)), .mv (.t 0), none⟩,
      ⟨some 7, (some (5, true)), .bin .leq (.t 6) (.c (.int .i64 4611686018427387904)), none⟩,
      ⟨some 8, none, .pick (.t 5) (.t 7) (.c (.bool false)), none⟩,
      ⟨some 2, none, .mv (.t 8), none⟩])
    (.ret)))⟩
theorem J_record_number_ok : chkFn Try.prog 49 J_record_number = true := by kernel_rfl

/- behind: Q -/
def J_acl_New_j1 : ACode :=
  .keep [4] (.seq (.ops [⟨some 23, none, .mv (.t 4), none⟩,
      ⟨some 24, none, .nilck (.t 23), none⟩,
      ⟨some 25, none, .fld 1 (.t 24), none⟩,
      ⟨none, none, .store 1 (.t 25) (.c (.int .i64 0)), none⟩])
      (.keep [4] (.seq (.ops [⟨some 26, none, .mv (.t 4), none⟩,
      ⟨some 2, none, .mv (.t 26), none⟩,
      ⟨some 3, none, .mv (.c (.int .i64 0)), none⟩])
       (.ret))))

/- behind: Q = kloop [4, 10, 11, 12] I n (kblock 0 (kseq P (J_acl_New_j1) Q)) -/
def J_acl_New_j2 : ACode :=
  .seq (.ops [⟨some 13, none, .bin .lss (.t 12) (.t 11), none⟩])
         (.keep [4, 10, 11, 12, 13] (.seq (.cond (.t 13)
           (.skip)
           (.exit 0))
          (.keep [4, 10, 11, 12] (.seq (.block 1 (.seq (.ops [⟨some 14, none, .idxa 2 (.t 10) (.t 12), none⟩,
      ⟨some 15, none, .load (some 2) (.t 14), none⟩,
      ⟨some 6, none, .new [(.int .i64 0), (.lst .clip 0 [])] [], none⟩,
      ⟨none, none, .stores 2 (.t 6) (.t 15), none⟩])
             (.keep [4, 6, 10, 11, 12] (.seq (.ops [⟨some 16, none, .mv (.t 4), none⟩,
      ⟨some 17, none, .load (some 2) (.t 6), none⟩,
      ⟨some 18, none, .call (.f 44) [(.t 16), (.t 17)], none⟩,
      ⟨some 7, none, .mv (.t 18), none⟩])
              (.keep [4, 7, 10, 11, 12] (.seq (.ops [⟨some 19, none, .mv (.t 7), none⟩,
      ⟨some 20, none, .bin .neq (.t 19) (.c (.int .i64 0)), none⟩])
               (.keep [4, 7, 10, 11, 12, 20] (.cond (.t 20)
                (.seq (.ops [⟨some 21, none, .mv (.t 7), none⟩,
      ⟨some 2, none, .mv (.c .nilp), none⟩,
      ⟨some 3, none, .mv (.t 21), none⟩])
                 (.ret))
                (.skip)))))))))
           (.keep [4, 10, 11, 12] (.ops [⟨some 22, none, .bin .add (.t 12) (.c (.int .i64 1)), none⟩,
      ⟨some 12, none, .mv (.t 22), none⟩]))))))

/-- attorney/acl.New -/
def J_acl_New : AFn :=
  ⟨27, [.t 2, .t 3], .seq (.ops [⟨some 2, none, .mv (.c .nilp), none⟩,
      ⟨some 3, none, .mv (.c (.int .i64 0)), none⟩])
   (.keep [0] (.seq (.ops [⟨some 8, none, .build [(.lst .clip 0 []), (.int .i64 0)] [], none⟩,
      ⟨some 9, none, .box (.t 8) [], none⟩,
      ⟨some 4, none, .mv (.t 9), none⟩])
    (.keep [0, 4] (.seq (.seq (.ops [⟨some 10, none, .mv (.t 0), none⟩,
      ⟨some 11, none, .lenl (.t 10), none⟩,
      ⟨some 12, none, .mv (.c (.int .i64 0)), none⟩])
      (.keep [4, 10, 11, 12] (.block 0 (.loop [4, 10, 11, 12] (J_acl_New_j2)))))
     (J_acl_New_j1)))))⟩
theorem J_acl_New_ok : chkFn Try.prog 50 J_acl_New = true := by kernel_rfl

/-- attorney/attorneyref21.num -/
def J_ref21_num : AFn :=
  ⟨9, [.t 2], .seq (.ops [⟨some 2, none, .mv (.c (.bool false)), none⟩])
   (.keep [0] (.seq (.ops [⟨some 3, none, .mv (.t 0), none⟩,
      ⟨some 4, none, .bin .geq (.t 3) (.c (.int .i64 0)), none⟩,
      ⟨some 5, none, .mv (.t 4), none⟩,
      ⟨some 6, (some (5, true)), .mv (.t 0), none⟩,
      ⟨some 7, (some (5, true)), .bin .leq (.t 6) (.c (.int .i64 4611686018427387904)), none⟩,
      ⟨some 8, none, .pick (.t 5) (.t 7) (.c (.bool false)), none⟩,
      ⟨some 2, none, .mv (.t 8), none⟩])
    (.ret)))⟩
theorem J_ref21_num_ok : chkFn Try.prog 51 J_ref21_num = true := by kernel_rfl

/-- attorney/acl.Same -/
def J_acl_Same : AFn :=
  ⟨17, [.t 4], .seq (.ops [⟨some 2, none, .box (.t 0) [], none⟩,
      ⟨some 3, none, .box (.t 1) [], none⟩,
      ⟨some 4, none, .mv (.c (.bool false)), none⟩])
   (.keep [2, 3] (.seq (.ops [⟨some 5, none, .fld 0 (.t 2), none⟩,
      ⟨some 6, none, .load none (.t 5), none⟩,
      ⟨some 7, none, .fld 0 (.t 3), none⟩,
      ⟨some 8, none, .load none (.t 7), none⟩,
      ⟨some 9, none, .bin .eql (.t 6) (.t 8), none⟩,
      ⟨some 10, none, .mv (.t 9), none⟩,
      ⟨some 11, (some (10, true)), .fld 1 (.t 2), none⟩,
      ⟨some 12, (some (10, true)), .load none (.t 11), none⟩,
      ⟨some 13, (some (10, true)), .fld 1 (.t 3), none⟩,
      ⟨some 14, (some (10, true)), .load none (.t 13), none⟩,
      ⟨some 15, (some (10, true)), .call (.f 100) [(.t 12), (.t 14)], none⟩,
      ⟨some 16, none, .pick (.t 10) (.t 15) (.c (.bool false)), none⟩,
      ⟨some 4, none, .mv (.t 16), none⟩])
    (.ret)))⟩
theorem J_acl_Same_ok : chkFn Try.prog 66 J_acl_Same = true := by kernel_rfl

/- behind: Q -/
def J_record_entries_j1 : ACode :=
  .keep [3] (.seq (.ops [⟨some 26, none, .mv (.t 3), none⟩,
      ⟨some 2, none, .mv (.t 26), none⟩])
      (.ret))

/- behind: Q = kloop [3, 9, 10, 11] I n (kblock 0 (kseq P (J_record_entries_j1) Q)) -/
def J_record_entries_j2 : ACode :=
  .seq (.ops [⟨some 12, none, .bin .lss (.t 11) (.t 10), none⟩])
         (.keep [3, 9, 10, 11, 12] (.seq (.cond (.t 12)
           (.skip)
           (.exit 0))
          (.keep [3, 9, 10, 11] (.seq (.block 1 (.seq (.ops [⟨some 13, none, .mv (.t 11), none⟩,
      ⟨some 14, none, .idxa 2 (.t 9) (.t 11), none⟩,
      ⟨some 15, none, .load (some 2) (.t 14), none⟩,
      ⟨some 5, none, .new [(.int .i64 0), (.lst .clip 0 [])] [], none⟩,
      ⟨some 4, none, .mv (.t 13), none⟩,
      ⟨none, none, .stores 2 (.t 5) (.t 15), none⟩])
             (.keep [3, 4, 5, 9, 10, 11] (.draw [3, 9, 10, 11] [⟨some 16, none, .mv (.t 3), none⟩,
      ⟨some 17, none, .mv (.t 4), none⟩,
      ⟨some 18, none, .fld 0 (.t 5), none⟩,
      ⟨some 19, none, .lds none (.t 18), none⟩,
      ⟨some 20, none, .fld 1 (.t 5), none⟩,
      ⟨some 21, none, .lds none (.t 20), none⟩,
      ⟨some 22, none, .app 44 1 16 (.c (.lst .clip 0 [])) (.t 21), none⟩,
      ⟨some 23, none, .build [(.int .i64 0), (.lst .clip 0 [])] [(0, 1, (.t 19)), (1, 1, (.t 22))], none⟩,
      ⟨some 24, none, .idxa 2 (.t 16) (.t 17), none⟩,
      ⟨none, none, .store 2 (.t 24) (.t 23), none⟩]))))
           (.keep [3, 9, 10, 11] (.ops [⟨some 25, none, .bin .add (.t 11) (.c (.int .i64 1)), none⟩,
      ⟨some 11, none, .mv (.t 25), none⟩]))))))

/-- attorney/record.entries -/
def J_record_entries : AFn :=
  ⟨27, [.t 2], .seq (.ops [⟨some 2, none, .mv (.c (.lst .clip 0 [])), none⟩])
   (.keep [0] (.seq (.ops [⟨some 6, none, .mv (.t 0), none⟩,
      ⟨some 7, none, .lenl (.t 6), none⟩,
      ⟨some 8, none, .mkn 28 2 32 [(.int .i64 0), (.lst .clip 0 [])] (.t 7), none⟩,
      ⟨some 3, none, .mv (.t 8), none⟩])
    (.keep [0, 3] (.seq (.seq (.ops [⟨some 9, none, .mv (.t 0), none⟩,
      ⟨some 10, none, .lenl (.t 9), none⟩,
      ⟨some 11, none, .mv (.c (.int .i64 0)), none⟩])
      (.keep [3, 9, 10, 11] (.block 0 (.loop [3, 9, 10, 11] (J_record_entries_j2)))))
     (J_record_entries_j1)))))⟩
theorem J_record_entries_ok : chkFn Try.prog 81 J_record_entries = true := by kernel_rfl

/- behind: Q -/
def J_acl_List_All_j1 : ACode :=
  .keep [3] (.seq (.ops [⟨some 21, none, .mv (.t 3), none⟩,
      ⟨some 2, none, .mv (.t 21), none⟩])
      (.ret))

/- behind: Q = kloop [3, 9, 10, 11] I n (kblock 0 (kseq P (J_acl_List_All_j1) Q)) -/
def J_acl_List_All_j2 : ACode :=
  .seq (.ops [⟨some 12, none, .bin .lss (.t 11) (.t 10), none⟩])
         (.keep [3, 9, 10, 11, 12] (.seq (.cond (.t 12)
           (.skip)
           (.exit 0))
          (.keep [3, 9, 10, 11] (.seq (.block 1 (.seq (.ops [⟨some 13, none, .idxa 2 (.t 9) (.t 11), none⟩,
      ⟨some 14, none, .load (some 2) (.t 13), none⟩,
      ⟨some 5, none, .new [(.int .i64 0), (.lst .clip 0 [])] [], none⟩,
      ⟨none, none, .stores 2 (.t 5) (.t 14), none⟩])
             (.keep [3, 5, 9, 10, 11] (.ops [⟨some 15, none, .mvo 3, none⟩,
      ⟨some 16, none, .load (some 2) (.t 5), none⟩,
      ⟨some 17, none, .call (.f 85) [(.t 16)], none⟩,
      ⟨some 18, none, .bsl 28 2 1 [(.int .i64 0), (.lst .clip 0 [])] [(0, 2, (.t 17))], none⟩,
      ⟨some 19, none, .appo 28 2 32 15 (.t 18), none⟩,
      ⟨some 3, none, .mvo 19, none⟩]))))
           (.keep [3, 9, 10, 11] (.ops [⟨some 20, none, .bin .add (.t 11) (.c (.int .i64 1)), none⟩,
      ⟨some 11, none, .mv (.t 20), none⟩]))))))

/-- (*attorney/acl.List).All -/
def J_acl_List_All : AFn :=
  ⟨22, [.t 2], .seq (.ops [⟨some 2, none, .mv (.c (.lst .clip 0 [])), none⟩])
   (.keep [0] (.seq (.ops [⟨some 3, none, .mvu 28 2 (.c (.lst .clip 0 [])), none⟩])
    (.keep [0, 3] (.seq (.seq (.ops [⟨some 6, none, .mv (.t 0), none⟩,
      ⟨some 7, none, .nilck (.t 6), none⟩,
      ⟨some 8, none, .fld 0 (.t 7), none⟩,
      ⟨some 9, none, .load none (.t 8), none⟩,
      ⟨some 10, none, .lenl (.t 9), none⟩,
      ⟨some 11, none, .mv (.c (.int .i64 0)), none⟩])
      (.keep [3, 9, 10, 11] (.block 0 (.loop [3, 9, 10, 11] (J_acl_List_All_j2)))))
     (J_acl_List_All_j1)))))⟩
theorem J_acl_List_All_ok : chkFn Try.prog 82 J_acl_List_All = true := by kernel_rfl

/-- attorney/acl.may -/
def J_acl_may : AFn :=
  ⟨16, [.t 2], .seq (.ops [⟨some 1, none, .box (.t 0) [], none⟩,
      ⟨some 2, none, .mv (.c (.bool false)), none⟩])
   (.keep [1] (.seq (.ops [⟨some 3, none, .fld 0 (.t 1), none⟩,
      ⟨some 4, none, .load none (.t 3), none⟩,
      ⟨some 5, none, .bin .geq (.t 4) (.c (.int .i64 0)), none⟩,
      ⟨some 6, none, .mv (.t 5), none⟩,
      ⟨some 7, (some (6, true)), .fld 0 (.t 1), none⟩,
      ⟨some 8, (some (6, true)), .load none (.t 7), none⟩,
      ⟨some 9, (some (6, true)), .bin .lss (.t 8) (.c (.int .i64 8)), none⟩,
      ⟨some 10, none, .pick (.t 6) (.t 9) (.c (.bool false)), none⟩,
      ⟨some 11, none, .mv (.t 10), none⟩,
      ⟨some 12, (some (11, true)), .fld 1 (.t 1), none⟩,
      ⟨some 13, (some (11, true)), .load none (.t 12), none⟩,
      ⟨some 14, (some (11, true)), .call (.f 52) [(.t 13)], none⟩,
      ⟨some 15, none, .pick (.t 11) (.t 14) (.c (.bool false)), none⟩,
      ⟨some 2, none, .mv (.t 15), none⟩])
    (.ret)))⟩
theorem J_acl_may_ok : chkFn Try.prog 83 J_acl_may = true := by kernel_rfl

/-- (*attorney/acl.List).find -/
def J_acl_List_find : AFn :=
  ⟨11, [.t 4], .seq (.ops [⟨some 3, none, .box (.t 1) [], none⟩,
      ⟨some 4, none, .mv (.c (.int .i64 0)), none⟩])
   (.keep [0, 3] (.seq (.ops [⟨some 5, none, .mv (.t 0), none⟩,
      ⟨some 6, none, .nilck (.t 5), none⟩,
      ⟨some 7, none, .fld 0 (.t 6), none⟩,
      ⟨some 8, none, .load none (.t 7), none⟩,
      ⟨some 9, none, .mkfn 119 [(.t 3)], none⟩,
      ⟨some 10, none, .call (.f 118) [(.t 8), (.t 9)], none⟩,
      ⟨some 4, none, .mv (.t 10), none⟩])
    (.ret)))⟩
theorem J_acl_List_find_ok : chkFn Try.prog 84 J_acl_List_find = true := by kernel_rfl

/-- attorney/acl.clone -/
def J_acl_clone : AFn :=
  ⟨8, [.c 2 (some 2)], .seq (.ops [⟨some 1, none, .box (.t 0) [], none⟩,
      ⟨some 2, none, .new [(.int .i64 0), (.lst .clip 0 [])] [], none⟩])
   (.keep [1, 2] (.seq (.ops [⟨some 3, none, .fld 1 (.t 1), none⟩,
      ⟨some 4, none, .load none (.t 3), none⟩,
      ⟨some 5, none, .call (.f 120) [(.t 4)], none⟩,
      ⟨some 6, none, .fld 1 (.t 1), none⟩,
      ⟨none, none, .store 1 (.t 6) (.t 5), none⟩])
    (.keep [1, 2] (.seq (.ops [⟨some 7, none, .load (some 2) (.t 1), none⟩,
      ⟨none, none, .store 2 (.t 2) (.t 7), none⟩])
     (.ret)))))⟩
theorem J_acl_clone_ok : chkFn Try.prog 85 J_acl_clone = true := by kernel_rfl

/-- attorney/attorneyref16.may -/
def J_ref16_may : AFn :=
  ⟨16, [.t 2], .seq (.ops [⟨some 1, none, .box (.t 0) [], none⟩,
      ⟨some 2, none, .mv (.c (.bool false)), none⟩])
   (.keep [1] (.seq (.ops [⟨some 3, none, .fld 0 (.t 1), none⟩,
      ⟨some 4, none, .load none (.t 3), none⟩,
      ⟨some 5, none, .bin .geq (.t 4) (.c (.int .i64 0)), none⟩,
      ⟨some 6, none, .mv (.t 5), none⟩,
      ⟨some 7, (some (6, true)), .fld 0 (.t 1), none⟩,
      ⟨some 8, (some (6, true)), .load none (.t 7), none⟩,
      ⟨some 9, (some (6, true)), .bin .leq (.t 8) (.c (.int .i64 7)), none⟩,
      ⟨some 10, none, .pick (.t 6) (.t 9) (.c (.bool false)), none⟩,
      ⟨some 11, none, .mv (.t 10), none⟩,
      ⟨some 12, (some (11, true)), .fld 1 (.t 1), none⟩,
      ⟨some 13, (some (11, true)), .load none (.t 12), none⟩,
      ⟨some 14, (some (11, true)), .call (.f 53) [(.t 13)], none⟩,
      ⟨some 15, none, .pick (.t 11) (.t 14) (.c (.bool false)), none⟩,
      ⟨some 2, none, .mv (.t 15), none⟩])
    (.ret)))⟩
theorem J_ref16_may_ok : chkFn Try.prog 86 J_ref16_may = true := by kernel_rfl

/-- (*attorney/acl.List).find$1 -/
def J_acl_List_find_1 : AFn :=
  ⟨7, [.t 3], .seq (.ops [⟨some 2, none, .box (.t 0) [], none⟩,
      ⟨some 3, none, .mv (.c (.bool false)), none⟩])
   (.keep [1, 2] (.seq (.ops [⟨some 4, none, .load (some 2) (.t 1), none⟩,
      ⟨some 5, none, .load (some 2) (.t 2), none⟩,
      ⟨some 6, none, .call (.f 66) [(.t 4), (.t 5)], none⟩,
      ⟨some 3, none, .mv (.t 6), none⟩])
    (.ret)))⟩
theorem J_acl_List_find_1_ok : chkFn Try.prog 119 J_acl_List_find_1 = true := by kernel_rfl

end Go.Proofs.Ytcbcnbefaggnhaa

/- The functions' abstract code, written by a program (acode.py), and that it is theirs. -/
namespace Go.Proofs.Ytcbcnbefaggnhaa
open Go.RowKit

/- behind: Q -/
def J_ref02_Of_j1 : ACode :=
  .keep [3] (.seq (.ops [⟨some 27, none, .mv (.t 3), none⟩,
      ⟨some 28, none, .b2s (.t 27), none⟩,
      ⟨some 2, none, .mv (.t 28), none⟩])
      (.ret))

/- behind: Q = kloop [0, 3, 4] I n (kblock 0 (kseq P (J_ref02_Of_j1) Q)) -/
def J_ref02_Of_j2 : ACode :=
  .seq (.seq (.ops [⟨some 6, none, .mv (.t 4), none⟩,
      ⟨some 7, none, .mv (.t 0), none⟩,
      ⟨some 8, none, .lenl (.t 7), none⟩,
      ⟨some 9, none, .bin .lss (.t 6) (.t 8), none⟩])
          (.keep [0, 3, 4, 9] (.cond (.t 9)
           (.skip)
           (.exit 0))))
         (.keep [0, 3, 4] (.seq (.block 1 (.draw [0, 3, 4] [⟨some 12, none, .mvo 3, none⟩,
      ⟨some 13, none, .mv (.t 0), none⟩,
      ⟨some 14, none, .mv (.t 4), none⟩,
      ⟨some 15, none, .idxa 1 (.t 13) (.t 14), none⟩,
      ⟨some 16, none, .load none (.t 15), none⟩,
      ⟨some 17, none, .bin .quo (.t 16) (.c (.int .u16 256)), none⟩,
      ⟨some 18, none, .conv .u8 (.t 17), none⟩,
      ⟨some 19, none, .mv (.t 0), none⟩,
      ⟨some 20, none, .mv (.t 4), none⟩,
      ⟨some 21, none, .idxa 1 (.t 19) (.t 20), none⟩,
      ⟨some 22, none, .load none (.t 21), none⟩,
      ⟨some 23, none, .bin .rem (.t 22) (.c (.int .u16 256)), none⟩,
      ⟨some 24, none, .conv .u8 (.t 23), none⟩,
      ⟨some 25, none, .bsl 5 1 2 [(.int .u8 0), (.int .u8 0)] [(0, 1, (.t 18)), (1, 1, (.t 24))], none⟩,
      ⟨some 26, none, .appo 5 1 1 12 (.t 25), none⟩,
      ⟨some 3, none, .mvo 26, none⟩]))
          (.keep [0, 3, 4] (.ops [⟨some 10, none, .mv (.t 4), none⟩,
      ⟨some 11, none, .bin .add (.t 10) (.c (.int .i64 1)), none⟩,
      ⟨some 4, none, .mv (.t 11), none⟩]))))

/-- attorney/attorneyref02.Of -/
def J_ref02_Of : AFn :=
  ⟨29, [.t 2], .seq (.ops [⟨some 2, none, .mv (.c (.str ⟨#[]⟩)), none⟩])
   (.keep [0] (.seq (.ops [⟨some 5, none, .bsl 5 1 0 [] [], none⟩,
      ⟨some 3, none, .mvo 5, none⟩])
    (.keep [0, 3] (.seq (.seq (.ops [⟨some 4, none, .mv (.c (.int .i64 0)), none⟩])
      (.keep [0, 3, 4] (.block 0 (.loop [0, 3, 4] (J_ref02_Of_j2)))))
     (J_ref02_Of_j1)))))⟩
theorem J_ref02_Of_ok : chkFn Try.prog 41 J_ref02_Of = true := by kernel_rfl

/- behind: Q -/
def J_set_May_j1 : ACode :=
  .keep [] (.seq (.ops [⟨some 2, none, .mv (.c (.bool true)), none⟩])
      (.ret))

/- behind: Q = kloop [0, 13, 14, 15] I n (kblock 0 (kseq P (J_set_May_j1) Q)) -/
def J_set_May_j2 : ACode :=
  .seq (.ops [⟨some 16, none, .bin .lss (.t 15) (.t 14), none⟩])
         (.keep [0, 13, 14, 15, 16] (.seq (.cond (.t 16)
           (.skip)
           (.exit 0))
          (.keep [0, 13, 14, 15] (.seq (.block 1 (.seq (.ops [⟨some 17, none, .mv (.t 15), none⟩,
      ⟨some 18, none, .idxa 1 (.t 13) (.t 15), none⟩,
      ⟨some 19, none, .load none (.t 18), none⟩,
      ⟨some 3, none, .mv (.t 17), none⟩,
      ⟨some 4, none, .mv (.t 19), none⟩])
             (.keep [0, 3, 4, 13, 14, 15] (.seq (.seq (.ops [⟨some 20, none, .mv (.t 4), none⟩,
      ⟨some 21, none, .call (.f 87) [(.t 20)], none⟩,
      ⟨some 22, none, .not (.t 21), none⟩])
               (.keep [0, 3, 4, 13, 14, 15, 22] (.cond (.t 22)
                (.seq (.ops [⟨some 2, none, .mv (.c (.bool false)), none⟩])
                 (.ret))
                (.skip))))
              (.keep [0, 3, 4, 13, 14, 15] (.seq (.ops [⟨some 23, none, .mv (.t 3), none⟩,
      ⟨some 24, none, .bin .gtr (.t 23) (.c (.int .i64 0)), none⟩,
      ⟨some 25, none, .mv (.t 24), none⟩,
      ⟨some 26, (some (25, true)), .mv (.t 0), none⟩,
      ⟨some 27, (some (25, true)), .mv (.t 3), none⟩,
      ⟨some 28, (some (25, true)), .bin .sub (.t 27) (.c (.int .i64 1)), none⟩,
      ⟨some 29, (some (25, true)), .idxa 1 (.t 26) (.t 28), none⟩,
      ⟨some 30, (some (25, true)), .load none (.t 29), none⟩,
      ⟨some 31, (some (25, true)), .mv (.t 4), none⟩,
      ⟨some 32, (some (25, true)), .call (.f 88) [(.t 30), (.t 31)], none⟩,
      ⟨some 33, (some (25, true)), .not (.t 32), none⟩,
      ⟨some 34, none, .pick (.t 25) (.t 33) (.c (.bool false)), none⟩])
               (.keep [0, 13, 14, 15, 34] (.cond (.t 34)
                (.seq (.ops [⟨some 2, none, .mv (.c (.bool false)), none⟩])
                 (.ret))
                (.skip)))))))))
           (.keep [0, 13, 14, 15] (.ops [⟨some 35, none, .bin .add (.t 15) (.c (.int .i64 1)), none⟩,
      ⟨some 15, none, .mv (.t 35), none⟩]))))))

/-- attorney/set.May -/
def J_set_May : AFn :=
  ⟨36, [.t 2], .seq (.ops [⟨some 2, none, .mv (.c (.bool false)), none⟩])
   (.keep [0] (.seq (.seq (.ops [⟨some 5, none, .mv (.t 0), none⟩,
      ⟨some 6, none, .lenl (.t 5), none⟩,
      ⟨some 7, none, .bin .lss (.t 6) (.c (.int .i64 1)), none⟩,
      ⟨some 8, none, .mv (.t 7), none⟩,
      ⟨some 9, (some (8, false)), .mv (.t 0), none⟩,
      ⟨some 10, (some (8, false)), .lenl (.t 9), none⟩,
      ⟨some 11, (some (8, false)), .bin .gtr (.t 10) (.c (.int .i64 16)), none⟩,
      ⟨some 12, none, .pick (.t 8) (.c (.bool true)) (.t 11), none⟩])
     (.keep [0, 12] (.cond (.t 12)
      (.seq (.ops [⟨some 2, none, .mv (.c (.bool false)), none⟩])
       (.ret))
      (.skip))))
    (.keep [0] (.seq (.seq (.ops [⟨some 13, none, .mv (.t 0), none⟩,
      ⟨some 14, none, .lenl (.t 13), none⟩,
      ⟨some 15, none, .mv (.c (.int .i64 0)), none⟩])
      (.keep [0, 13, 14, 15] (.block 0 (.loop [0, 13, 14, 15] (J_set_May_j2)))))
     (J_set_May_j1)))))⟩
theorem J_set_May_ok : chkFn Try.prog 52 J_set_May = true := by kernel_rfl

/- behind: Q -/
def J_ref03_May_j1 : ACode :=
  .keep [] (.seq (.ops [⟨some 2, none, .mv (.c (.bool true)), none⟩])
      (.ret))

/- behind: Q = kloop [0, 3] I n (kblock 0 (kseq P (J_ref03_May_j1) Q)) -/
def J_ref03_May_j2 : ACode :=
  .seq (.seq (.ops [⟨some 12, none, .mv (.t 3), none⟩,
      ⟨some 13, none, .mv (.t 0), none⟩,
      ⟨some 14, none, .lenl (.t 13), none⟩,
      ⟨some 15, none, .bin .lss (.t 12) (.t 14), none⟩])
          (.keep [0, 3, 15] (.cond (.t 15)
           (.skip)
           (.exit 0))))
         (.keep [0, 3] (.seq (.block 1 (.seq (.draw [0, 3, 40] [⟨some 18, none, .mv (.t 0), none⟩,
      ⟨some 19, none, .mv (.t 3), none⟩,
      ⟨some 20, none, .idxa 1 (.t 18) (.t 19), none⟩,
      ⟨some 21, none, .load none (.t 20), none⟩,
      ⟨some 22, none, .call (.f 89) [(.t 21)], none⟩,
      ⟨some 23, none, .not (.t 22), none⟩,
      ⟨some 24, none, .mv (.t 23), none⟩,
      ⟨some 25, (some (24, false)), .mv (.t 3), none⟩,
      ⟨some 26, (some (24, false)), .bin .gtr (.t 25) (.c (.int .i64 0)), none⟩,
      ⟨some 27, (some (24, false)), .mv (.t 26), none⟩,
      ⟨some 28, (some (27, true)), .mv (.t 0), none⟩,
      ⟨some 29, (some (27, true)), .mv (.t 3), none⟩,
      ⟨some 30, (some (27, true)), .bin .sub (.t 29) (.c (.int .i64 1)), none⟩,
      ⟨some 31, (some (27, true)), .idxa 1 (.t 28) (.t 30), none⟩,
      ⟨some 32, (some (27, true)), .load none (.t 31), none⟩,
      ⟨some 33, (some (27, true)), .mv (.t 0), none⟩,
      ⟨some 34, (some (27, true)), .mv (.t 3), none⟩,
      ⟨some 35, (some (27, true)), .idxa 1 (.t 33) (.t 34), none⟩,
      ⟨some 36, (some (27, true)), .load none (.t 35), none⟩,
      ⟨some 37, (some (27, true)), .call (.f 90) [(.t 32), (.t 36)], none⟩,
      ⟨some 38, (some (27, true)), .not (.t 37), none⟩,
      ⟨some 39, (some (24, false)), .pick (.t 27) (.t 38) (.c (.bool false)), none⟩,
      ⟨some 40, none, .pick (.t 24) (.c (.bool true)) (.t 39), none⟩])
            (.keep [0, 3, 40] (.cond (.t 40)
             (.seq (.ops [⟨some 2, none, .mv (.c (.bool false)), none⟩])
              (.ret))
             (.skip)))))
          (.keep [0, 3] (.ops [⟨some 16, none, .mv (.t 3), none⟩,
      ⟨some 17, none, .bin .add (.t 16) (.c (.int .i64 1)), none⟩,
      ⟨some 3, none, .mv (.t 17), none⟩]))))

/-- attorney/attorneyref03.May -/
def J_ref03_May : AFn :=
  ⟨41, [.t 2], .seq (.ops [⟨some 2, none, .mv (.c (.bool false)), none⟩])
   (.keep [0] (.seq (.seq (.ops [⟨some 4, none, .mv (.t 0), none⟩,
      ⟨some 5, none, .lenl (.t 4), none⟩,
      ⟨some 6, none, .bin .lss (.t 5) (.c (.int .i64 1)), none⟩,
      ⟨some 7, none, .mv (.t 6), none⟩,
      ⟨some 8, (some (7, false)), .mv (.t 0), none⟩,
      ⟨some 9, (some (7, false)), .lenl (.t 8), none⟩,
      ⟨some 10, (some (7, false)), .bin .gtr (.t 9) (.c (.int .i64 16)), none⟩,
      ⟨some 11, none, .pick (.t 7) (.c (.bool true)) (.t 10), none⟩])
     (.keep [0, 11] (.cond (.t 11)
      (.seq (.ops [⟨some 2, none, .mv (.c (.bool false)), none⟩])
       (.ret))
      (.skip))))
    (.keep [0] (.seq (.seq (.ops [⟨some 3, none, .mv (.c (.int .i64 0)), none⟩])
      (.keep [0, 3] (.block 0 (.loop [0, 3] (J_ref03_May_j2)))))
     (J_ref03_May_j1)))))⟩
theorem J_ref03_May_ok : chkFn Try.prog 53 J_ref03_May = true := by kernel_rfl

/- behind: Q -/
def J_ref03_Equal_j1 : ACode :=
  .keep [] (.seq (.ops [⟨some 4, none, .mv (.c (.bool true)), none⟩])
      (.ret))

/- behind: Q = kloop [0, 1, 5] I n (kblock 0 (kseq P (J_ref03_Equal_j1) Q)) -/
def J_ref03_Equal_j2 : ACode :=
  .seq (.seq (.ops [⟨some 11, none, .mv (.t 5), none⟩,
      ⟨some 12, none, .mv (.t 0), none⟩,
      ⟨some 13, none, .lenl (.t 12), none⟩,
      ⟨some 14, none, .bin .lss (.t 11) (.t 13), none⟩])
          (.keep [0, 1, 5, 14] (.cond (.t 14)
           (.skip)
           (.exit 0))))
         (.keep [0, 1, 5] (.seq (.block 1 (.seq (.draw [0, 1, 5, 25] [⟨some 17, none, .mv (.t 0), none⟩,
      ⟨some 18, none, .mv (.t 5), none⟩,
      ⟨some 19, none, .idxa 1 (.t 17) (.t 18), none⟩,
      ⟨some 20, none, .load none (.t 19), none⟩,
      ⟨some 21, none, .mv (.t 1), none⟩,
      ⟨some 22, none, .mv (.t 5), none⟩,
      ⟨some 23, none, .idxa 1 (.t 21) (.t 22), none⟩,
      ⟨some 24, none, .load none (.t 23), none⟩,
      ⟨some 25, none, .bin .neq (.t 20) (.t 24), none⟩])
            (.keep [0, 1, 5, 25] (.cond (.t 25)
             (.seq (.ops [⟨some 4, none, .mv (.c (.bool false)), none⟩])
              (.ret))
             (.skip)))))
          (.keep [0, 1, 5] (.ops [⟨some 15, none, .mv (.t 5), none⟩,
      ⟨some 16, none, .bin .add (.t 15) (.c (.int .i64 1)), none⟩,
      ⟨some 5, none, .mv (.t 16), none⟩]))))

/-- attorney/attorneyref03.Equal -/
def J_ref03_Equal : AFn :=
  ⟨26, [.t 4], .seq (.ops [⟨some 4, none, .mv (.c (.bool false)), none⟩])
   (.keep [0, 1] (.seq (.seq (.ops [⟨some 6, none, .mv (.t 0), none⟩,
      ⟨some 7, none, .lenl (.t 6), none⟩,
      ⟨some 8, none, .mv (.t 1), none⟩,
      ⟨some 9, none, .lenl (.t 8), none⟩,
      ⟨some 10, none, .bin .neq (.t 7) (.t 9), none⟩])
     (.keep [0, 1, 10] (.cond (.t 10)
      (.seq (.ops [⟨some 4, none, .mv (.c (.bool false)), none⟩])
       (.ret))
      (.skip))))
    (.keep [0, 1] (.seq (.seq (.ops [⟨some 5, none, .mv (.c (.int .i64 0)), none⟩])
      (.keep [0, 1, 5] (.block 0 (.loop [0, 1, 5] (J_ref03_Equal_j2)))))
     (J_ref03_Equal_j1)))))⟩
theorem J_ref03_Equal_ok : chkFn Try.prog 67 J_ref03_Equal = true := by kernel_rfl

/- behind: Q -/
def J_word_May_j1 : ACode :=
  .keep [] (.seq (.ops [⟨some 2, none, .mv (.c (.bool true)), none⟩])
      (.ret))

/- behind: Q = kloop [0, 17, 18] I n (kblock 0 (kseq P (J_word_May_j1) Q)) -/
def J_word_May_j2 : ACode :=
  .seq (.ops [⟨some 19, none, .bin .lss (.t 18) (.t 17), none⟩])
         (.keep [0, 17, 18, 19] (.seq (.cond (.t 19)
           (.skip)
           (.exit 0))
          (.keep [0, 17, 18] (.seq (.block 1 (.seq (.ops [⟨some 20, none, .mv (.t 18), none⟩,
      ⟨some 3, none, .mv (.t 20), none⟩])
             (.keep [0, 3, 17, 18] (.seq (.ops [⟨some 21, none, .mv (.t 0), none⟩,
      ⟨some 22, none, .mv (.t 3), none⟩,
      ⟨some 23, none, .call (.f 123) [(.t 21), (.t 22)], none⟩,
      ⟨some 24, none, .bin .eql (.t 23) (.c (.int .u16 0)), none⟩])
              (.keep [0, 17, 18, 24] (.cond (.t 24)
               (.seq (.ops [⟨some 2, none, .mv (.c (.bool false)), none⟩])
                (.ret))
               (.skip)))))))
           (.keep [0, 17, 18] (.ops [⟨some 25, none, .bin .add (.t 18) (.c (.int .i64 1)), none⟩,
      ⟨some 18, none, .mv (.t 25), none⟩]))))))

/-- attorney/word.May -/
def J_word_May : AFn :=
  ⟨26, [.t 2], .seq (.ops [⟨some 2, none, .mv (.c (.bool false)), none⟩])
   (.keep [0] (.seq (.seq (.ops [⟨some 4, none, .mv (.t 0), none⟩,
      ⟨some 5, none, .call (.f 121) [(.t 4)], none⟩,
      ⟨some 6, none, .mv (.t 5), none⟩,
      ⟨some 7, (some (6, false)), .mv (.t 0), none⟩,
      ⟨some 8, (some (6, false)), .call (.f 122) [(.t 7)], none⟩,
      ⟨some 9, (some (6, false)), .bin .lss (.t 8) (.c (.int .i64 1)), none⟩,
      ⟨some 10, none, .pick (.t 6) (.c (.bool true)) (.t 9), none⟩,
      ⟨some 11, none, .mv (.t 10), none⟩,
      ⟨some 12, (some (11, false)), .mv (.t 0), none⟩,
      ⟨some 13, (some (11, false)), .call (.f 122) [(.t 12)], none⟩,
      ⟨some 14, (some (11, false)), .bin .gtr (.t 13) (.c (.int .i64 8)), none⟩,
      ⟨some 15, none, .pick (.t 11) (.c (.bool true)) (.t 14), none⟩])
     (.keep [0, 15] (.cond (.t 15)
      (.seq (.ops [⟨some 2, none, .mv (.c (.bool false)), none⟩])
       (.ret))
      (.skip))))
    (.keep [0] (.seq (.seq (.ops [⟨some 16, none, .mv (.t 0), none⟩,
      ⟨some 17, none, .call (.f 122) [(.t 16)], none⟩,
      ⟨some 18, none, .mv (.c (.int .i64 0)), none⟩])
      (.keep [0, 17, 18] (.block 0 (.loop [0, 17, 18] (J_word_May_j2)))))
     (J_word_May_j1)))))⟩
theorem J_word_May_ok : chkFn Try.prog 87 J_word_May = true := by kernel_rfl

/-- attorney/word.Less -/
def J_word_Less : AFn :=
  ⟨18, [.t 4], .seq (.ops [⟨some 4, none, .mv (.c (.bool false)), none⟩])
   (.keep [0, 1] (.seq (.seq (.ops [⟨some 5, none, .mv (.t 0), none⟩,
      ⟨some 6, none, .lens (.t 5), none⟩,
      ⟨some 7, none, .mv (.t 1), none⟩,
      ⟨some 8, none, .lens (.t 7), none⟩,
      ⟨some 9, none, .bin .neq (.t 6) (.t 8), none⟩])
     (.keep [0, 1, 9] (.cond (.t 9)
      (.seq (.ops [⟨some 10, none, .mv (.t 0), none⟩,
      ⟨some 11, none, .lens (.t 10), none⟩,
      ⟨some 12, none, .mv (.t 1), none⟩,
      ⟨some 13, none, .lens (.t 12), none⟩,
      ⟨some 14, none, .bin .lss (.t 11) (.t 13), none⟩,
      ⟨some 4, none, .mv (.t 14), none⟩])
       (.ret))
      (.skip))))
    (.keep [0, 1] (.seq (.ops [⟨some 15, none, .mv (.t 0), none⟩,
      ⟨some 16, none, .mv (.t 1), none⟩,
      ⟨some 17, none, .bin .lss (.t 15) (.t 16), none⟩,
      ⟨some 4, none, .mv (.t 17), none⟩])
     (.ret)))))⟩
theorem J_word_Less_ok : chkFn Try.prog 88 J_word_Less = true := by kernel_rfl

/- behind: Q -/
def J_ref02_May_j1 : ACode :=
  .keep [0, 3] (.seq (.ops [⟨some 18, none, .mv (.t 0), none⟩,
      ⟨some 19, none, .lens (.t 18), none⟩,
      ⟨some 20, none, .bin .rem (.t 19) (.c (.int .i64 2)), none⟩,
      ⟨some 21, none, .bin .eql (.t 20) (.c (.int .i64 0)), none⟩,
      ⟨some 22, none, .mv (.t 21), none⟩,
      ⟨some 23, (some (22, true)), .mv (.t 3), none⟩,
      ⟨some 24, (some (22, true)), .lenl (.t 23), none⟩,
      ⟨some 25, (some (22, true)), .bin .geq (.t 24) (.c (.int .i64 1)), none⟩,
      ⟨some 26, none, .pick (.t 22) (.t 25) (.c (.bool false)), none⟩,
      ⟨some 27, none, .mv (.t 26), none⟩,
      ⟨some 28, (some (27, true)), .mv (.t 3), none⟩,
      ⟨some 29, (some (27, true)), .lenl (.t 28), none⟩,
      ⟨some 30, (some (27, true)), .bin .leq (.t 29) (.c (.int .i64 8)), none⟩,
      ⟨some 31, none, .pick (.t 27) (.t 30) (.c (.bool false)), none⟩,
      ⟨some 2, none, .mv (.t 31), none⟩])
      (.ret))

/- behind: Q = kloop [0, 3, 4] I n (kblock 0 (kseq P (J_ref02_May_j1) Q)) -/
def J_ref02_May_j2 : ACode :=
  .seq (.seq (.ops [⟨some 7, none, .mv (.t 4), none⟩,
      ⟨some 8, none, .mv (.t 3), none⟩,
      ⟨some 9, none, .lenl (.t 8), none⟩,
      ⟨some 10, none, .bin .lss (.t 7) (.t 9), none⟩])
          (.keep [0, 3, 4, 10] (.cond (.t 10)
           (.skip)
           (.exit 0))))
         (.keep [0, 3, 4] (.seq (.block 1 (.seq (.ops [⟨some 13, none, .mv (.t 3), none⟩,
      ⟨some 14, none, .mv (.t 4), none⟩,
      ⟨some 15, none, .idxa 1 (.t 13) (.t 14), none⟩,
      ⟨some 16, none, .load none (.t 15), none⟩,
      ⟨some 17, none, .bin .eql (.t 16) (.c (.int .u16 0)), none⟩])
            (.keep [0, 3, 4, 17] (.cond (.t 17)
             (.seq (.ops [⟨some 2, none, .mv (.c (.bool false)), none⟩])
              (.ret))
             (.skip)))))
          (.keep [0, 3, 4] (.ops [⟨some 11, none, .mv (.t 4), none⟩,
      ⟨some 12, none, .bin .add (.t 11) (.c (.int .i64 1)), none⟩,
      ⟨some 4, none, .mv (.t 12), none⟩]))))

/-- attorney/attorneyref02.May -/
def J_ref02_May : AFn :=
  ⟨32, [.t 2], .seq (.ops [⟨some 2, none, .mv (.c (.bool false)), none⟩])
   (.keep [0] (.seq (.ops [⟨some 5, none, .mv (.t 0), none⟩,
      ⟨some 6, none, .call (.f 124) [(.t 5)], none⟩,
      ⟨some 3, none, .mv (.t 6), none⟩])
    (.keep [0, 3] (.seq (.seq (.ops [⟨some 4, none, .mv (.c (.int .i64 0)), none⟩])
      (.keep [0, 3, 4] (.block 0 (.loop [0, 3, 4] (J_ref02_May_j2)))))
     (J_ref02_May_j1)))))⟩
theorem J_ref02_May_ok : chkFn Try.prog 89 J_ref02_May = true := by kernel_rfl

/- behind: Q -/
def J_ref02_Less_j1 : ACode :=
  .keep [] (.seq (.ops [⟨some 4, none, .mv (.c (.bool false)), none⟩])
      (.ret))

/- behind: Q = kloop [0, 1, 5] I n (kblock 0 (kseq P (J_ref02_Less_j1) Q)) -/
def J_ref02_Less_j2 : ACode :=
  .seq (.seq (.ops [⟨some 16, none, .mv (.t 5), none⟩,
      ⟨some 17, none, .mv (.t 0), none⟩,
      ⟨some 18, none, .lens (.t 17), none⟩,
      ⟨some 19, none, .bin .lss (.t 16) (.t 18), none⟩])
          (.keep [0, 1, 5, 19] (.cond (.t 19)
           (.skip)
           (.exit 0))))
         (.keep [0, 1, 5] (.seq (.block 1 (.seq (.draw [0, 1, 5, 28] [⟨some 22, none, .mv (.t 0), none⟩,
      ⟨some 23, none, .mv (.t 5), none⟩,
      ⟨some 24, none, .idxs (.t 22) (.t 23), none⟩,
      ⟨some 25, none, .mv (.t 1), none⟩,
      ⟨some 26, none, .mv (.t 5), none⟩,
      ⟨some 27, none, .idxs (.t 25) (.t 26), none⟩,
      ⟨some 28, none, .bin .neq (.t 24) (.t 27), none⟩])
            (.keep [0, 1, 5, 28] (.cond (.t 28)
             (.seq (.draw [4] [⟨some 29, none, .mv (.t 0), none⟩,
      ⟨some 30, none, .mv (.t 5), none⟩,
      ⟨some 31, none, .idxs (.t 29) (.t 30), none⟩,
      ⟨some 32, none, .mv (.t 1), none⟩,
      ⟨some 33, none, .mv (.t 5), none⟩,
      ⟨some 34, none, .idxs (.t 32) (.t 33), none⟩,
      ⟨some 35, none, .bin .lss (.t 31) (.t 34), none⟩,
      ⟨some 4, none, .mv (.t 35), none⟩])
              (.ret))
             (.skip)))))
          (.keep [0, 1, 5] (.ops [⟨some 20, none, .mv (.t 5), none⟩,
      ⟨some 21, none, .bin .add (.t 20) (.c (.int .i64 1)), none⟩,
      ⟨some 5, none, .mv (.t 21), none⟩]))))

/-- attorney/attorneyref02.Less -/
def J_ref02_Less : AFn :=
  ⟨36, [.t 4], .seq (.ops [⟨some 4, none, .mv (.c (.bool false)), none⟩])
   (.keep [0, 1] (.seq (.seq (.ops [⟨some 6, none, .mv (.t 0), none⟩,
      ⟨some 7, none, .lens (.t 6), none⟩,
      ⟨some 8, none, .mv (.t 1), none⟩,
      ⟨some 9, none, .lens (.t 8), none⟩,
      ⟨some 10, none, .bin .neq (.t 7) (.t 9), none⟩])
     (.keep [0, 1, 10] (.cond (.t 10)
      (.seq (.ops [⟨some 11, none, .mv (.t 0), none⟩,
      ⟨some 12, none, .lens (.t 11), none⟩,
      ⟨some 13, none, .mv (.t 1), none⟩,
      ⟨some 14, none, .lens (.t 13), none⟩,
      ⟨some 15, none, .bin .lss (.t 12) (.t 14), none⟩,
      ⟨some 4, none, .mv (.t 15), none⟩])
       (.ret))
      (.skip))))
    (.keep [0, 1] (.seq (.seq (.ops [⟨some 5, none, .mv (.c (.int .i64 0)), none⟩])
      (.keep [0, 1, 5] (.block 0 (.loop [0, 1, 5] (J_ref02_Less_j2)))))
     (J_ref02_Less_j1)))))⟩
theorem J_ref02_Less_ok : chkFn Try.prog 90 J_ref02_Less = true := by kernel_rfl

/- behind: Q -/
def J_slices_Equal_api_Set_api_Word_j1 : ACode :=
  .keep [] (.seq (.ops [⟨some 4, none, .mv (.c (.bool true)), none⟩])
      (.ret))

/- behind: Q = kloop [0, 1, 12, 13] I n (kblock 0 (kseq P (J_slices_Equal_api_Set_api_Word_j1) Q)) -/
def J_slices_Equal_api_Set_api_Word_j2 : ACode :=
  .seq (.ops [⟨some 14, none, .bin .lss (.t 13) (.t 12), none⟩])
         (.keep [0, 1, 12, 13, 14] (.seq (.cond (.t 14)
           (.skip)
           (.exit 0))
          (.keep [0, 1, 12, 13] (.seq (.block 1 (.seq (.ops [⟨some 15, none, .mv (.t 13), none⟩,
      ⟨some 5, none, .mv (.t 15), none⟩])
             (.keep [0, 1, 5, 12, 13] (.seq (.draw [0, 1, 12, 13, 24] [⟨some 16, none, .mv (.t 0), none⟩,
      ⟨some 17, none, .mv (.t 5), none⟩,
      ⟨some 18, none, .idxa 1 (.t 16) (.t 17), none⟩,
      ⟨some 19, none, .load none (.t 18), none⟩,
      ⟨some 20, none, .mv (.t 1), none⟩,
      ⟨some 21, none, .mv (.t 5), none⟩,
      ⟨some 22, none, .idxa 1 (.t 20) (.t 21), none⟩,
      ⟨some 23, none, .load none (.t 22), none⟩,
      ⟨some 24, none, .bin .neq (.t 19) (.t 23), none⟩])
              (.keep [0, 1, 12, 13, 24] (.cond (.t 24)
               (.seq (.ops [⟨some 4, none, .mv (.c (.bool false)), none⟩])
                (.ret))
               (.skip)))))))
           (.keep [0, 1, 12, 13] (.ops [⟨some 25, none, .bin .add (.t 13) (.c (.int .i64 1)), none⟩,
      ⟨some 13, none, .mv (.t 25), none⟩]))))))

/-- slices.Equal[attorney/api.Set,attorney/api.Word] -/
def J_slices_Equal_api_Set_api_Word : AFn :=
  ⟨26, [.t 4], .seq (.ops [⟨some 4, none, .mv (.c (.bool false)), none⟩])
   (.keep [0, 1] (.seq (.seq (.ops [⟨some 6, none, .mv (.t 0), none⟩,
      ⟨some 7, none, .lenl (.t 6), none⟩,
      ⟨some 8, none, .mv (.t 1), none⟩,
      ⟨some 9, none, .lenl (.t 8), none⟩,
      ⟨some 10, none, .bin .neq (.t 7) (.t 9), none⟩])
     (.keep [0, 1, 10] (.cond (.t 10)
      (.seq (.ops [⟨some 4, none, .mv (.c (.bool false)), none⟩])
       (.ret))
      (.skip))))
    (.keep [0, 1] (.seq (.seq (.ops [⟨some 11, none, .mv (.t 0), none⟩,
      ⟨some 12, none, .lenl (.t 11), none⟩,
      ⟨some 13, none, .mv (.c (.int .i64 0)), none⟩])
      (.keep [0, 1, 12, 13] (.block 0 (.loop [0, 1, 12, 13] (J_slices_Equal_api_Set_api_Word_j2)))))
     (J_slices_Equal_api_Set_api_Word_j1)))))⟩
theorem J_slices_Equal_api_Set_api_Word_ok : chkFn Try.prog 100 J_slices_Equal_api_Set_api_Word = true := by kernel_rfl

/- behind: Q -/
def J_slices_IndexFunc_api_Entry_api_Entry_j1 : ACode :=
  .keep [] (.seq (.ops [⟨some 4, none, .mv (.c (.int .i64 (-1))), none⟩])
     (.ret))

/- behind: Q = kloop [0, 1, 7, 8] I n (kblock 0 (kseq P (J_slices_IndexFunc_api_Entry_api_Entry_j1) Q)) -/
def J_slices_IndexFunc_api_Entry_api_Entry_j2 : ACode :=
  .seq (.ops [⟨some 9, none, .bin .lss (.t 8) (.t 7), none⟩])
        (.keep [0, 1, 7, 8, 9] (.seq (.cond (.t 9)
          (.skip)
          (.exit 0))
         (.keep [0, 1, 7, 8] (.seq (.block 1 (.seq (.ops [⟨some 10, none, .mv (.t 8), none⟩,
      ⟨some 5, none, .mv (.t 10), none⟩])
            (.keep [0, 1, 5, 7, 8] (.seq (.ops [⟨some 11, none, .mv (.t 1), none⟩,
      ⟨some 12, none, .mv (.t 0), none⟩,
      ⟨some 13, none, .mv (.t 5), none⟩,
      ⟨some 14, none, .idxa 2 (.t 12) (.t 13), none⟩,
      ⟨some 15, none, .load (some 2) (.t 14), none⟩,
      ⟨some 16, none, .call (.t 11) [(.t 15)], none⟩])
             (.keep [0, 1, 5, 7, 8, 16] (.cond (.t 16)
              (.seq (.ops [⟨some 17, none, .mv (.t 5), none⟩,
      ⟨some 4, none, .mv (.t 17), none⟩])
               (.ret))
              (.skip)))))))
          (.keep [0, 1, 7, 8] (.ops [⟨some 18, none, .bin .add (.t 8) (.c (.int .i64 1)), none⟩,
      ⟨some 8, none, .mv (.t 18), none⟩]))))))

/-- slices.IndexFunc[[]attorney/api.Entry,attorney/api.Entry] -/
def J_slices_IndexFunc_api_Entry_api_Entry : AFn :=
  ⟨19, [.t 4], .seq (.ops [⟨some 4, none, .mv (.c (.int .i64 0)), none⟩])
   (.keep [0, 1] (.seq (.seq (.ops [⟨some 6, none, .mv (.t 0), none⟩,
      ⟨some 7, none, .lenl (.t 6), none⟩,
      ⟨some 8, none, .mv (.c (.int .i64 0)), none⟩])
     (.keep [0, 1, 7, 8] (.block 0 (.loop [0, 1, 7, 8] (J_slices_IndexFunc_api_Entry_api_Entry_j2)))))
    (J_slices_IndexFunc_api_Entry_api_Entry_j1)))⟩
theorem J_slices_IndexFunc_api_Entry_api_Entry_ok : chkFn Try.prog 118 J_slices_IndexFunc_api_Entry_api_Entry = true := by kernel_rfl

/-- slices.Clone[attorney/api.Set,attorney/api.Word] -/
def J_slices_Clone_api_Set_api_Word : AFn :=
  ⟨8, [.t 2], .seq (.ops [⟨some 2, none, .mv (.c (.lst .clip 0 [])), none⟩])
   (.keep [0] (.seq (.seq (.ops [⟨some 3, none, .mv (.t 0), none⟩,
      ⟨some 4, none, .snil false (.t 3), none⟩])
     (.keep [0, 4] (.cond (.t 4)
      (.seq (.ops [⟨some 2, none, .mv (.c (.lst .clip 0 [])), none⟩])
       (.ret))
      (.skip))))
    (.keep [0] (.seq (.ops [⟨some 5, none, .bsl 44 1 0 [] [], none⟩,
      ⟨some 6, none, .mv (.t 0), none⟩,
      ⟨some 7, none, .appo 44 1 16 5 (.t 6), none⟩,
      ⟨some 2, none, .mvo 7, none⟩])
     (.ret)))))⟩
theorem J_slices_Clone_api_Set_api_Word_ok : chkFn Try.prog 120 J_slices_Clone_api_Set_api_Word = true := by kernel_rfl

/-- attorney/word.odd -/
def J_word_odd : AFn :=
  ⟨7, [.t 2], .seq (.ops [⟨some 2, none, .mv (.c (.bool false)), none⟩])
   (.keep [0] (.seq (.ops [⟨some 3, none, .mv (.t 0), none⟩,
      ⟨some 4, none, .lens (.t 3), none⟩,
      ⟨some 5, none, .bin .rem (.t 4) (.c (.int .i64 2)), none⟩,
      ⟨some 6, none, .bin .neq (.t 5) (.c (.int .i64 0)), none⟩,
      ⟨some 2, none, .mv (.t 6), none⟩])
    (.ret)))⟩
theorem J_word_odd_ok : chkFn Try.prog 121 J_word_odd = true := by kernel_rfl

/-- attorney/word.Len -/
def J_word_Len : AFn :=
  ⟨6, [.t 2], .seq (.ops [⟨some 2, none, .mv (.c (.int .i64 0)), none⟩])
   (.keep [0] (.seq (.ops [⟨some 3, none, .mv (.t 0), none⟩,
      ⟨some 4, none, .lens (.t 3), none⟩,
      ⟨some 5, none, .bin .quo (.t 4) (.c (.int .i64 2)), none⟩,
      ⟨some 2, none, .mv (.t 5), none⟩])
    (.ret)))⟩
theorem J_word_Len_ok : chkFn Try.prog 122 J_word_Len = true := by kernel_rfl

/-- attorney/word.At -/
def J_word_At : AFn :=
  ⟨26, [.t 4], .seq (.ops [⟨some 4, none, .mv (.c (.int .u16 0)), none⟩])
   (.keep [0, 1] (.seq (.seq (.ops [⟨some 5, none, .mv (.t 1), none⟩,
      ⟨some 6, none, .bin .lss (.t 5) (.c (.int .i64 0)), none⟩,
      ⟨some 7, none, .mv (.t 6), none⟩,
      ⟨some 8, (some (7, false)), .mv (.t 1), none⟩,
      ⟨some 9, (some (7, false)), .mv (.t 0), none⟩,
      ⟨some 10, (some (7, false)), .call (.f 122) [(.t 9)], none⟩,
      ⟨some 11, (some (7, false)), .bin .geq (.t 8) (.t 10), none⟩,
      ⟨some 12, none, .pick (.t 7) (.c (.bool true)) (.t 11), none⟩])
     (.keep [0, 1, 12] (.cond (.t 12)
      (.seq (.ops [⟨some 4, none, .mv (.c (.int .u16 0)), none⟩])
       (.ret))
      (.skip))))
    (.keep [0, 1] (.seq (.draw [4] [⟨some 13, none, .mv (.t 0), none⟩,
      ⟨some 14, none, .mv (.t 1), none⟩,
      ⟨some 15, none, .bin .mul (.c (.int .i64 2)) (.t 14), none⟩,
      ⟨some 16, none, .idxs (.t 13) (.t 15), none⟩,
      ⟨some 17, none, .conv .u16 (.t 16), none⟩,
      ⟨some 18, none, .bin .shl (.t 17) (.c (.int .u64 8)), none⟩,
      ⟨some 19, none, .mv (.t 0), none⟩,
      ⟨some 20, none, .mv (.t 1), none⟩,
      ⟨some 21, none, .bin .mul (.c (.int .i64 2)) (.t 20), none⟩,
      ⟨some 22, none, .bin .add (.t 21) (.c (.int .i64 1)), none⟩,
      ⟨some 23, none, .idxs (.t 19) (.t 22), none⟩,
      ⟨some 24, none, .conv .u16 (.t 23), none⟩,
      ⟨some 25, none, .bin .or (.t 18) (.t 24), none⟩,
      ⟨some 4, none, .mv (.t 25), none⟩])
     (.ret)))))⟩
theorem J_word_At_ok : chkFn Try.prog 123 J_word_At = true := by kernel_rfl

/- behind: Q -/
def J_ref02_Atoms_j1 : ACode :=
  .keep [3] (.seq (.ops [⟨some 27, none, .mv (.t 3), none⟩,
      ⟨some 2, none, .mv (.t 27), none⟩])
      (.ret))

/- behind: Q = kloop [0, 3, 4] I n (kblock 0 (kseq P (J_ref02_Atoms_j1) Q)) -/
def J_ref02_Atoms_j2 : ACode :=
  .seq (.seq (.ops [⟨some 6, none, .mv (.t 4), none⟩,
      ⟨some 7, none, .bin .add (.t 6) (.c (.int .i64 1)), none⟩,
      ⟨some 8, none, .mv (.t 0), none⟩,
      ⟨some 9, none, .lens (.t 8), none⟩,
      ⟨some 10, none, .bin .lss (.t 7) (.t 9), none⟩])
          (.keep [0, 3, 4, 10] (.cond (.t 10)
           (.skip)
           (.exit 0))))
         (.keep [0, 3, 4] (.seq (.block 1 (.draw [0, 3, 4] [⟨some 13, none, .mvo 3, none⟩,
      ⟨some 14, none, .mv (.t 0), none⟩,
      ⟨some 15, none, .mv (.t 4), none⟩,
      ⟨some 16, none, .idxs (.t 14) (.t 15), none⟩,
      ⟨some 17, none, .conv .u16 (.t 16), none⟩,
      ⟨some 18, none, .bin .mul (.t 17) (.c (.int .u16 256)), none⟩,
      ⟨some 19, none, .mv (.t 0), none⟩,
      ⟨some 20, none, .mv (.t 4), none⟩,
      ⟨some 21, none, .bin .add (.t 20) (.c (.int .i64 1)), none⟩,
      ⟨some 22, none, .idxs (.t 19) (.t 21), none⟩,
      ⟨some 23, none, .conv .u16 (.t 22), none⟩,
      ⟨some 24, none, .bin .add (.t 18) (.t 23), none⟩,
      ⟨some 25, none, .bsl 69 1 1 [(.int .u16 0)] [(0, 1, (.t 24))], none⟩,
      ⟨some 26, none, .appo 69 1 2 13 (.t 25), none⟩,
      ⟨some 3, none, .mvo 26, none⟩]))
          (.keep [0, 3, 4] (.ops [⟨some 11, none, .mv (.t 4), none⟩,
      ⟨some 12, none, .bin .add (.t 11) (.c (.int .i64 2)), none⟩,
      ⟨some 4, none, .mv (.t 12), none⟩]))))

/-- attorney/attorneyref02.Atoms -/
def J_ref02_Atoms : AFn :=
  ⟨28, [.t 2], .seq (.ops [⟨some 2, none, .mv (.c (.lst .clip 0 [])), none⟩])
   (.keep [0] (.seq (.ops [⟨some 5, none, .bsl 69 1 0 [] [], none⟩,
      ⟨some 3, none, .mvo 5, none⟩])
    (.keep [0, 3] (.seq (.seq (.ops [⟨some 4, none, .mv (.c (.int .i64 0)), none⟩])
      (.keep [0, 3, 4] (.block 0 (.loop [0, 3, 4] (J_ref02_Atoms_j2)))))
     (J_ref02_Atoms_j1)))))⟩
theorem J_ref02_Atoms_ok : chkFn Try.prog 124 J_ref02_Atoms = true := by kernel_rfl

end Go.Proofs.Ytcbcnbefaggnhaa
