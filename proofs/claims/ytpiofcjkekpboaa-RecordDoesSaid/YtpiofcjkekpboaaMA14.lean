/- Texts of one proof, laid together: Qd Di Dj. -/
import Derived.Test.YtpiofcjkekpboaaMA12
import Derived.Test.YtpiofcjkekpboaaMA13
import Derived.OpenShut
import Derived.ShutString
import Derived.Test.YtpiofcjkekpboaaMA11
set_option maxRecDepth 100000
set_option maxHeartbeats 16000000

set_option linter.unusedSimpArgs false
set_option linter.unusedVariables false
/- Opening a record, an entry and a request that came in; the calls of the laws on records. -/
namespace Go.Proofs.Ytpiofcjkekpboaa
open Go.RowKit Go.Lib Go.ChangeShapes Go.WideShapes Go.ChangeAt

theorem chk_record : chkSh Try.prog 8 54 [.int .i64, .slice [.int .i64, .slice [.int .i64, .slice [.str]], .int .i64]] = true := by kernel_rfl
theorem chk_request : chkSh Try.prog 8 60 [.int .i64, .int .i64, .int .i64, .int .i64, .slice [.str]] = true := by kernel_rfl
theorem sh_ent {g : List AV} (h : ShOks [.int .i64, .slice [.str]] g) : ∃ x : {x : Ent // fitE x}, g = eC x.1 := by
 cases h with | cons k0 h =>
 cases h with | cons k1 h =>
 cases h
 cases k0 with | int _ n _ =>
 obtain ⟨l, hl, rfl, _⟩ := sh_strs k1
 exact ⟨⟨⟨n, l⟩, hl⟩, rfl⟩
def fitO (o : Obt) : Prop := o.ents.length ≤ 9223372036854775807 ∧ ∀ x ∈ o.ents, x.who.length ≤ 9223372036854775807
theorem flat_map1 {α β γ : Type} (l : List α) (f : α → β) (g : β → List γ) : l.flatMap (fun x => g (f x)) = (l.map f).flatMap g := by rw [List.flatMap_map]
theorem sh_obj {g : List AV} (h : ShOks [.int .i64, .slice [.int .i64, .slice [.str]], .int .i64] g) : ∃ o : {o : Obt // fitO o}, g = oC o.1 := by
 cases h with | cons k0 h =>
 cases h with | cons k1 h =>
 cases h with | cons k2 h =>
 cases h
 cases k0 with | int _ n _ =>
 cases k2 with | int _ m _ =>
 cases k1 with | slice _ gs hl hg =>
 obtain ⟨l, h1, h2⟩ := sh_list (α := {x : Ent // fitE x}) (q := fun x => eC x.1) (fun g hg => sh_ent hg) hg
 refine ⟨⟨⟨n, l.map (·.1), m⟩, by simp; omega, fun x hx => ?_⟩, ?_⟩
 ·obtain ⟨y, _, rfl⟩ := List.mem_map.1 hx
  exact y.2
 ·simp only [oC, List.length_map, h1, h2, entsC]
  rw [flat_map1 l (·.1) eC]
theorem open_record {H : Type} {enc : TypeId × Value → H} {W : World} {base : Nat} {v : Value} {d : DataW H} {p : List MemPlace} (hv : Value.okWide Try.prog W .any base 54 v) (h : DataW.Trod enc Try.prog W 0 (fun _ => true) true 54 v d p) :
  ∃ r : Rcd, fitR r ∧ Rep (gW W) v (vR r) := by
 obtain ⟨zs, hr, hs⟩ := open_argS chk_record Try.underlying54 hv h
 cases hs with | cons k0 hs =>
 cases hs with | cons k1 hs =>
 cases hs
 cases k0 with | int _ n _ =>
 cases k1 with | slice _ gs hl hg =>
 obtain ⟨l, h1, h2⟩ := sh_list (α := {o : Obt // fitO o}) (q := fun o => oC o.1) (fun g hg => sh_obj hg) hg
 refine ⟨⟨n, l.map (·.1)⟩, ⟨by simp; omega, fun o ho => ?_⟩, ?_⟩
 ·obtain ⟨y, _, rfl⟩ := List.mem_map.1 ho
  exact y.2
 ·simp only [vR, rC, List.length_map, h1, objsC]
  rw [← flat_map1 l (·.1) oC, ← h2]
  exact hr
theorem open_request {H : Type} {enc : TypeId × Value → H} {W : World} {base : Nat} {v : Value} {d : DataW H} {p : List MemPlace} (hv : Value.okWide Try.prog W .any base 60 v) (h : DataW.Trod enc Try.prog W 0 (fun _ => true) true 60 v d p) :
  ∃ q : Rqs, fitE q.ent ∧ Rep (gW W) v (vQ q) := by
 obtain ⟨zs, hr, hs⟩ := open_argS chk_request Try.underlying60 hv h
 cases hs with | cons k0 hs =>
 cases hs with | cons k1 hs =>
 cases hs with | cons k2 hs =>
 cases hs with | cons k3 hs =>
 cases hs with | cons k4 hs =>
 cases hs
 cases k0 with | int _ n0 _ =>
 cases k1 with | int _ n1 _ =>
 cases k2 with | int _ n2 _ =>
 cases k3 with | int _ n3 _ =>
 obtain ⟨l, hl, rfl, _⟩ := sh_strs k4
 exact ⟨⟨n0, n1, n2, ⟨n3, l⟩⟩, hl, hr⟩
end Go.Proofs.Ytpiofcjkekpboaa
/- RecordDoes: the walk. -/
-- rows
namespace Go.Proofs.Ytpiofcjkekpboaa
open Go.RowKit Go.Lib

theorem DEnts.sh {k : Nat} {h : Hp} {v : AV} {l : List Ent} (hd : DEnts k h v l) (h0 : Hp) : DEnts (h0.length + k) (h0 ++ shH h0.length h) (sh h0.length v) l := EV.sh (d := true) hd h0
def DoPostW (r : Rcd) (q : Rqs) (h : Hp) (a : AV) (h' : Hp) : Prop :=
 if doE r q = 0 then ∃ (id : Nat) (vs : List AV) (ex : Hp), h' = h ++ ex ∧ DObjs h' id (doR r q).objs vs ∧ a = .tup [.agg [.int .i64 r.boot, .hs id r.objs.length], .int .i64 (doV r q), .int .i64 0]
 else ∃ ex, h' = h ++ ex ∧ a = .tup [.agg [.int .i64 0, .lst .clip 0 []], .int .i64 0, .int .i64 (doE r q)]
theorem a_doW {h : Hp} (r : Rcd) (q : Rqs) (hr : smallR r) (hq : smallE q.ent) : ACalls Try.prog 17 [vR r, vQ q] h (DoPostW r q h) := by
 refine (ACalls.shift (by simp [free.frees, free_vR, free_vQ]) (a_doD r q hr hq) h).mono ?_
 rintro a h' ⟨a0, h0, hp, rfl, rfl⟩
 unfold DoPostV at hp
 unfold DoPostW
 split at hp
 ·next he =>
  rw [if_pos he]
  obtain ⟨id, vs, h1, h2, rfl, h4⟩ := hp
  refine ⟨h.length + id, shs h.length vs, _, rfl, ⟨?_, by rw [shs_length, h2, doR_len'], fun i o v ho hv => ?_⟩, by simp [sh, shs, Nat.add_comm]⟩
  ·rw [List.getElem?_append_right (by omega), Nat.add_sub_cancel_left]
   simp [shH, h1, shs_objsV]
  ·rw [shs_get] at hv
   obtain ⟨v0, hv0, rfl⟩ := Option.map_eq_some_iff.1 hv
   exact ((h4 i o v0 ho hv0).sh h).mono (by omega)
 ·next he =>
  rw [if_neg he]
  subst hp
  exact ⟨_, rfl, by simp [sh, shs]⟩
def WEnts (h : Hp) (v : AV) (l : List Ent) : Prop := ∃ id j, v = .hs id l.length ∧ h[id]? = some (some (false, entD j l)) ∧ ∀ i (hi : i < l.length), l[i].who.length ≠ 0 → ∃ s : List ByteArray, s.length = l[i].who.length ∧ h[j + 2 * i + 1]? = some (some (false, s.map .str))
theorem DEnts.weak {k : Nat} {h : Hp} {v : AV} {l : List Ent} (hd : DEnts k h v l) : WEnts h v l := by
 obtain ⟨id, j, _, _, h3, h4, h5⟩ := hd
 exact ⟨id, j, h3, h4, fun i hi hw => ⟨_, rfl, h5 i hi hw⟩⟩
def WObjs (h : Hp) (id : Nat) (os : List Obt) (vs : List AV) : Prop := h[id]? = some (some (false, objsV os vs)) ∧ vs.length = os.length ∧ ∀ (i : Nat) (o : Obt) (v : AV), os[i]? = some o → vs[i]? = some v → WEnts h v o.ents
theorem DObjs.weak {h : Hp} {id : Nat} {os : List Obt} {vs : List AV} (hd : DObjs h id os vs) : WObjs h id os vs := ⟨hd.1, hd.2.1, fun i o v h1 h2 => (hd.2.2 i o v h1 h2).weak⟩
theorem DObjs.app {h : Hp} {id : Nat} {os : List Obt} {vs : List AV} (hd : DObjs h id os vs) (ex : Hp) : DObjs (h ++ ex) id os vs := ⟨holds ex hd.1, hd.2.1, fun i o v h1 h2 => (hd.2.2 i o v h1 h2).app ex⟩
theorem set_apart {h : Hp} {w id : Nat} {s : List ByteArray} {b : Bool} {C : List AV} (hw : h[w]? = some (some (false, s.map .str))) (hs : s ≠ []) (hc : ∀ t : List ByteArray, t ≠ [] → C ≠ t.map .str) (hid : h[id]? = some (some (b, C))) (x : Option (Bool × List AV)) : (h.set w x)[id]? = some (some (b, C)) := by
 by_cases e : w = id
 ·subst e
  rw [hw] at hid
  simp only [Option.some.injEq, Prod.mk.injEq] at hid
  exact absurd hid.2.symm (hc s hs)
 ·rw [List.getElem?_set_ne e]; exact hid
theorem entD_apart : ∀ (l : List Ent) (j : Nat) (t : List ByteArray), t ≠ [] → entD j l ≠ t.map .str
 | [], j, [], ht, _ => ht rfl
 | [], j, _ :: _, _, e => by simp [entD] at e
 | x :: l, j, [], ht, _ => ht rfl
 | x :: l, j, _ :: _, _, e => by simp [entD] at e
theorem objsV_apart : ∀ (os : List Obt) (vs : List AV) (t : List ByteArray), t ≠ [] → objsV os vs ≠ t.map .str
 | _, _, [], ht, _ => ht rfl
 | [], _, _ :: _, _, e => by simp [objsV] at e
 | _ :: _, [], _ :: _, _, e => by simp [objsV] at e
 | x :: l, v :: vs, _ :: _, _, e => by simp [objsV] at e
theorem WEnts.write {h : Hp} {v : AV} {l : List Ent} (hd : WEnts h v l) {w : Nat} {s s' : List ByteArray} (hw : h[w]? = some (some (false, s.map .str))) (hs : s ≠ []) (hl : s'.length = s.length) : WEnts (h.set w (some (false, s'.map .str))) v l := by
 obtain ⟨id, j, h1, h2, h3⟩ := hd
 refine ⟨id, j, h1, set_apart hw hs (entD_apart l j) h2 _, fun i hi hn => ?_⟩
 obtain ⟨t, k1, k2⟩ := h3 i hi hn
 by_cases e : w = j + 2 * i + 1
 ·refine ⟨s', ?_, by rw [← e]; exact List.getElem?_set_self (ltV hw)⟩
  rw [← e, hw] at k2
  simp only [Option.some.injEq, Prod.mk.injEq, true_and] at k2
  have := congrArg List.length k2
  simp at this
  omega
 ·exact ⟨t, k1, by rw [List.getElem?_set_ne e]; exact k2⟩
theorem WObjs.write {h : Hp} {id : Nat} {os : List Obt} {vs : List AV} (hd : WObjs h id os vs) {w : Nat} {s s' : List ByteArray} (hw : h[w]? = some (some (false, s.map .str))) (hs : s ≠ []) (hl : s'.length = s.length) : WObjs (h.set w (some (false, s'.map .str))) id os vs :=
 ⟨set_apart hw hs (objsV_apart os vs) hd.1 _, hd.2.1, fun i o v h1 h2 => (hd.2.2 i o v h1 h2).write hw hs hl⟩
theorem int_apart (k : IntKind) (n : Int) (l : List AV) : ∀ t : List ByteArray, t ≠ [] → AV.int k n :: l ≠ t.map .str
 | [], ht, _ => ht rfl
 | _ :: _, _, e => by simp at e
theorem entD_drop : ∀ (l : List Ent) (j k : Nat) (hk : k < l.length), (entD j l).drop (k * 2) = .int .i64 l[k].op :: whoV (j + 2 * k + 1) l[k].who :: (entD j l).drop ((k + 1) * 2)
 | x :: l, j, 0, _ => by simp [entD]
 | x :: l, j, k + 1, hk => by
  have := entD_drop l (j + 2) k (by simpa using hk)
  rw [show (k + 1) * 2 = k * 2 + 1 + 1 by omega, show (k + 1 + 1) * 2 = (k + 1) * 2 + 1 + 1 by omega]
  simp only [entD, List.drop_succ_cons, this, List.getElem_cons_succ]
  rw [show j + 2 + 2 * k + 1 = j + 2 * (k + 1) + 1 by omega]
structure LS (H : Hp) (r : Rcd) (M id : Nat) (os : List Obt) (vs : List AV) : Prop where
  g0 : H[0]? = some (some (false, [.int .i64 r.boot, .lst .ro r.objs.length (objsC r.objs)]))
  g2 : H[2]? = some (some (true, [.int .i64 r.boot, .lst .ro r.objs.length (objsC r.objs)]))
  gM : H[M]? = some (some (true, [.int .i64 r.boot, .hs id r.objs.length]))
  wo : WObjs H id os vs
theorem LS.write {H : Hp} {r : Rcd} {M id : Nat} {os : List Obt} {vs : List AV} (h : LS H r M id os vs) {w : Nat} {s s' : List ByteArray} (hw : H[w]? = some (some (false, s.map .str))) (hs : s ≠ []) (hl : s'.length = s.length) : LS (H.set w (some (false, s'.map .str))) r M id os vs :=
 ⟨set_apart hw hs (int_apart _ _ _) h.g0 _, set_apart hw hs (int_apart _ _ _) h.g2 _, set_apart hw hs (int_apart _ _ _) h.gM _, h.wo.write hw hs hl⟩
theorem rdoes_end {r : Rcd} (hsm : smallR r) {H : Hp} {fr : Fr} (hfr : restr [2, 5] fr = [(2, .ptr 0 0), (5, .ptr 2 0)]) (g0 : H[0]? = some (some (false, [.int .i64 r.boot, .lst .ro r.objs.length (objsC r.objs)]))) (g2 : H[2]? = some (some (true, [.int .i64 r.boot, .lst .ro r.objs.length (objsC r.objs)]))) :
  W Try.prog J_law21_RecordDoes_j1 fr H (kret [.t 4] (fun a _ => a = .bool true)) := by
 simp only [J_law21_RecordDoes_j1, W_keep]
 rw [hfr]
 have hsame := p_rrsame r r hsm hsm
 rw [sameR_self] at hsame
 simp only [vR, rC] at hsame
 simp only [g0, g2, wk,Nat.reduceEqDiff,Nat.reduceAdd,Nat.reduceLeDiff,↓reduceIte]
 refine PCalls.use (hsame) ?_; simp only [wk,↓reduceIte]
theorem rdoes_inner {r : Rcd} {M id i : Nat} {os : List Obt} {vs : List AV} (hi : i < os.length) (hn : os.length = r.objs.length) (hlen : os.length ≤ 1000) (hK : os[i].ents.length ≤ 1000) (hne : ∀ x ∈ os[i].ents, x.who.length ≠ 0) {K : Exit → Fr → Hp → Prop} {H : Hp} (hs : LS H r M id os vs)
  (hk : ∀ H' fr, LS H' r M id os vs → restr [2, 5, 6, 76, 77] fr = [(2, .ptr 0 0), (5, .ptr 2 0), (6, .ptr M 0), (76, .int .i64 r.objs.length), (77, .int .i64 i)] → K .normal fr H') :
  W Try.prog (.loop [2, 5, 6, 12, 76, 77, 86, 87] J_law21_RecordDoes_j3) [(2, .ptr 0 0), (5, .ptr 2 0), (6, .ptr M 0), (12, .int .i64 i), (76, .int .i64 r.objs.length), (77, .int .i64 i), (86, .int .i64 os[i].ents.length), (87, .int .i64 0)] H (kblock 2 K) := by
 refine W_loop (fun n fr h' => ∃ k : Nat, k ≤ os[i].ents.length ∧ n = os[i].ents.length - k ∧ LS h' r M id os vs ∧ fr = [(2, .ptr 0 0), (5, .ptr 2 0), (6, .ptr M 0), (12, .int .i64 i), (76, .int .i64 r.objs.length), (77, .int .i64 i), (86, .int .i64 os[i].ents.length), (87, .int .i64 k)]) os[i].ents.length ⟨0, by omega, by omega, hs, rfl⟩ ?_
 rintro n fr h' ⟨k, hk1, rfl, hL, rfl⟩
 simp only [J_law21_RecordDoes_j3, wk,Nat.reduceEqDiff,↓reduceIte]
 refine ⟨fun hlt => ?_, fun hge => ?_⟩
 ·have hkl : k < os[i].ents.length := by omega
  have hiv : i < vs.length := by have := hL.wo.2.1; omega
  obtain ⟨eid, j, e1, e2, e3⟩ := hL.wo.2.2 i os[i] vs[i] (List.getElem?_eq_getElem hi) (List.getElem?_eq_getElem hiv)
  obtain ⟨s, s1, s2⟩ := e3 k hkl (hne _ (List.getElem_mem hkl))
  have gM := hL.gM
  have gi := hL.wo.1
  have hd0 := objsV_drop hL.wo.2.1 hi
  have hd1 := entD_drop os[i].ents j k hkl
  have hwn := hne _ (List.getElem_mem hkl)
  have hwv : whoV (j + 2 * k + 1) os[i].ents[k].who = .hs (j + 2 * k + 1) os[i].ents[k].who.length := by unfold whoV; rw [if_neg hwn]
  have hin : ((0 ≤ (i : Int)) ∧ (i : Int) < (r.objs.length : Int)) = True := propext ⟨fun _ => trivial, fun _ => ⟨by omega, by omega⟩⟩
  have hin2 : ((0 ≤ (k : Int)) ∧ (k : Int) < (os[i].ents.length : Int)) = True := propext ⟨fun _ => trivial, fun _ => ⟨by omega, by omega⟩⟩
  rw [e1] at hd0
  rw [hwv] at hd1
  have hd2 : (objsV os vs).drop (i * 3 + 1) = .hs eid os[i].ents.length :: .int .i64 os[i].version :: (objsV os vs).drop ((i + 1) * 3) := by rw [← List.drop_drop, hd0]; rfl
  have hd3 : (entD j os[i].ents).drop (k * 2 + 1) = .hs (j + 2 * k + 1) os[i].ents[k].who.length :: (entD j os[i].ents).drop ((k + 1) * 2) := by rw [← List.drop_drop, hd1]; rfl
  have hs0 : s ≠ [] := fun e => by subst e; simp at s1; omega
  simp only [gM, gi, hd2, hd3, e2, s2, hin, hin2, Int.toNat_natCast, wk,Nat.reduceEqDiff,Int.reduceLE,↓reduceIte]
  have hset : (s.map AV.str).set 0 (.str ⟨#[63]⟩) = (s.set 0 ⟨#[63]⟩).map .str := by rw [List.map_set]
  rw [hset]
  exact ⟨by omega, by rw [List.length_map]; omega, inR_of (by omega) (by omega), os[i].ents.length - (k + 1), by omega, k + 1, by omega, rfl, hL.write s2 hs0 (by simp), by simp⟩
 ·have : k = os[i].ents.length := by omega
  subst this
  exact hk _ _ hL rfl
theorem rdoes_outer {r : Rcd} {M id : Nat} {os : List Obt} {vs : List AV} (hsm : smallR r) (hn : os.length = r.objs.length) (hlen : os.length ≤ 1000) (hK : ∀ o ∈ os, o.ents.length ≤ 1000) (hne : ∀ o ∈ os, ∀ x ∈ o.ents, x.who.length ≠ 0) {H : Hp} (hs : LS H r M id os vs) :
  W Try.prog (.loop [2, 5, 6, 76, 77] J_law21_RecordDoes_j4) [(2, .ptr 0 0), (5, .ptr 2 0), (6, .ptr M 0), (76, .int .i64 r.objs.length), (77, .int .i64 0)] H (kblock 0 (kseq Try.prog J_law21_RecordDoes_j1 (kret [.t 4] (fun a _ => a = .bool true)))) := by
 refine W_loop (fun n fr h' => ∃ i : Nat, i ≤ os.length ∧ n = os.length - i ∧ LS h' r M id os vs ∧ fr = [(2, .ptr 0 0), (5, .ptr 2 0), (6, .ptr M 0), (76, .int .i64 r.objs.length), (77, .int .i64 i)]) os.length ⟨0, by omega, by omega, hs, rfl⟩ ?_
 rintro n fr h' ⟨i, hi1, rfl, hL, rfl⟩
 simp only [J_law21_RecordDoes_j4, wk,Nat.reduceEqDiff,↓reduceIte]
 refine ⟨fun hlt => ?_, fun hge => ?_⟩
 ·have hil : i < os.length := by omega
  have hiv : i < vs.length := by have := hL.wo.2.1; omega
  obtain ⟨eid, j, e1, e2, e3⟩ := hL.wo.2.2 i os[i] vs[i] (List.getElem?_eq_getElem hil) (List.getElem?_eq_getElem hiv)
  have gM := hL.gM
  have gi := hL.wo.1
  have hd0 := objsV_drop hL.wo.2.1 hil
  have hin : ((0 ≤ (i : Int)) ∧ (i : Int) < (r.objs.length : Int)) = True := propext ⟨fun _ => trivial, fun _ => ⟨by omega, by omega⟩⟩
  rw [e1] at hd0
  have hd2 : (objsV os vs).drop (i * 3 + 1) = .hs eid os[i].ents.length :: .int .i64 os[i].version :: (objsV os vs).drop ((i + 1) * 3) := by rw [← List.drop_drop, hd0]; rfl
  simp only [gM, gi, hd2, hin, Int.toNat_natCast, wk,Nat.reduceEqDiff,↓reduceIte]
  refine rdoes_inner hil hn hlen (hK _ (List.getElem_mem hil)) (hne _ (List.getElem_mem hil)) hL fun H' fr' hL' hfr' => ?_
  simp only [kblock_normal, kseq_normal, J_law21_RecordDoes_j2, W_keep]
  rw [hfr']
  simp only [wk,Nat.reduceEqDiff,↓reduceIte]
  exact ⟨inR_of (by omega) (by omega), os.length - (i + 1), by omega, i + 1, by omega, rfl, hL', by simp⟩
 ·exact rdoes_end hsm rfl hL.g0 hL.g2
theorem a_rdoes (r : Rcd) (q : Rqs) (hr : fitR r) (hx : fitE q.ent) : ACalls Try.prog 4 [vR r, vQ q] [] (fun a _ => a = .bool true) := by
 refine acalls_of mixed J_law21_RecordDoes_ok (Nat.le_of_ble_eq_true rfl) ?_; simp only [J_law21_RecordDoes, vR, rC, vQ, qC, wk,Nat.reduceEqDiff,Nat.reduceAdd,↓reduceIte]
 refine PCalls.use (p_awake21) ?_; simp only [wk,Nat.reduceEqDiff,Nat.reduceAdd,Nat.reduceLeDiff,↓reduceIte]
 have ql := p_large r hr.1 hr.2
 have qw := p_wide q.ent hx
 simp only [vR, rC, vE, eC] at ql qw
 refine PCalls.use (ql) ?_; simp only [wk,implies_true,eq_self,Nat.reduceEqDiff,Nat.reduceAdd,Nat.reduceLeDiff,↓reduceIte]
 refine fun h1 => ?_
 refine PCalls.use (qw) ?_; simp only [wk,implies_true,eq_self,Nat.reduceEqDiff,Nat.reduceAdd,Nat.reduceLeDiff,↓reduceIte]
 refine fun h2 => ?_
 have hsm := not_large h1
 have hse := not_wide h2
 have hq := p_rcopied r hsm
 simp only [vR, rC] at hq
 refine PCalls.use (hq) ?_; simp only [wk,Nat.reduceEqDiff,Nat.reduceAdd,Nat.reduceLeDiff,↓reduceIte]
 have qd := fun h => a_doW (h := h) r q hsm hse
 simp only [vR, rC, vQ, qC] at qd
 refine ACalls.use (qd _) ?_
 rintro a h3 hp
 unfold DoPostW at hp
 have qb := p_rdo r q hsm hse
 by_cases he : doE r q = 0
 ·rw [if_pos he] at hp qb
  obtain ⟨id, vs, ex, rfl, hdo, rfl⟩ := hp
  simp only [vR, rC, vQ, qC] at qb
  simp only [wk,Nat.reduceEqDiff,Nat.reduceAdd,Nat.reduceLeDiff,↓reduceIte]
  refine PCalls.use (qb) ?_; simp only [wkr,wk,ne_eq,eq_self,Nat.reduceEqDiff,Nat.reduceAdd,Nat.reduceLeDiff,↓reduceIte]
  have hds := hdo.app [some (true, [AV.int .i64 r.boot, .hs id r.objs.length]), some (true, [AV.int .i64 (doR r q).boot, .lst .ro (doR r q).objs.length (objsC (doR r q).objs)])]
  have gM : ([some (false, [AV.int .i64 r.boot, .lst .ro r.objs.length (objsC r.objs)]), some (false, [AV.int .i64 q.object, .int .i64 q.op, .int .i64 q.arg, .int .i64 q.ent.op, .lst .ro q.ent.who.length (q.ent.who.map .str)]), some (true, [AV.int .i64 r.boot, .lst .ro r.objs.length (objsC r.objs)])] ++ ex ++ [some (true, [AV.int .i64 r.boot, .hs id r.objs.length]), some (true, [AV.int .i64 (doR r q).boot, .lst .ro (doR r q).objs.length (objsC (doR r q).objs)])])[ex.length + 1 + 1 + 1]? = some (some (true, [.int .i64 r.boot, .hs id r.objs.length])) := by simp
  have gN : ([some (false, [AV.int .i64 r.boot, .lst .ro r.objs.length (objsC r.objs)]), some (false, [AV.int .i64 q.object, .int .i64 q.op, .int .i64 q.arg, .int .i64 q.ent.op, .lst .ro q.ent.who.length (q.ent.who.map .str)]), some (true, [AV.int .i64 r.boot, .lst .ro r.objs.length (objsC r.objs)])] ++ ex ++ [some (true, [AV.int .i64 r.boot, .hs id r.objs.length]), some (true, [AV.int .i64 (doR r q).boot, .lst .ro (doR r q).objs.length (objsC (doR r q).objs)])])[ex.length + 1 + 1 + 1 + 1]? = some (some (true, [.int .i64 (doR r q).boot, .lst .ro (doR r q).objs.length (objsC (doR r q).objs)])) := by
   simp only [List.cons_append, List.nil_append, List.getElem?_cons_succ]
   rw [List.getElem?_append_right (by omega), show ex.length + 1 - ex.length = 1 by omega]
   rfl
  have m1 : ∀ x y : Option (Bool × List AV), (ex ++ [x] ++ [y])[ex.length]? = some x := fun x y => by simp
  simp only [m1, wk,Nat.reduceAdd,Nat.reduceLeDiff]
  have hmd := do_may he
  have hsd := may_small hmd
  have hds := (hdo.app [some (true, [AV.int .i64 r.boot, .hs id r.objs.length])]).app [some (true, [AV.int .i64 r.boot, .lst .ro r.objs.length (objsC (doR r q).objs)])]
  have hsame := fun h0 hu => a_rsameV (h0 := h0) (a := doR r q) (b := doR r q) hds hsd hsd hu
  rw [sameR_self] at hsame
  simp only [vR, rC, doR_boot, doR_len] at hsame
  simp only [doR_boot, doR_len]
  refine ⟨_, hsame, ?_⟩
  have c1 := p_rmay1 r hsm
  have c2 := p_rrmay r hsm
  have c3 := p_asks q hse
  have c4 := p_rasks q hse
  have c5 := p_need q
  simp only [vR, rC, vQ, qC] at c1 c2 c3 c4 c5
  simp only [wk,forall_const,eq_self]
  refine ⟨_, c1, _, c2, ?_⟩
  simp only [wk,forall_const,eq_self]
  refine ⟨_, c3, _, c4, ?_⟩
  simp only [wk,forall_const,eq_self]
  refine ⟨_, c5, ?_⟩
  simp only [m1, wk,ne_eq,eq_self,Nat.reduceEqDiff,↓reduceIte]
  have hL : LS (some (false, [AV.int .i64 r.boot, .lst .ro r.objs.length (objsC r.objs)]) :: some (false, [AV.int .i64 q.object, .int .i64 q.op, .int .i64 q.arg, .int .i64 q.ent.op, .lst .ro q.ent.who.length (q.ent.who.map .str)]) :: some (true, [AV.int .i64 r.boot, .lst .ro r.objs.length (objsC r.objs)]) :: (ex ++ [some (true, [AV.int .i64 r.boot, .hs id r.objs.length])] ++ [some (true, [AV.int .i64 r.boot, .lst .ro r.objs.length (objsC (doR r q).objs)])])) r (ex.length + 1 + 1 + 1) id (doR r q).objs vs :=
   ⟨rfl, rfl, m1 _ _, hds.weak⟩
  have hgood : ∀ o ∈ (doR r q).objs, mayO o = true := by
   simp only [mayR, Bool.and_eq_true, decide_eq_true_eq, List.all_eq_true] at hmd
   exact hmd.2.2
  refine rdoes_outer hsm (doR_len r q) hsd.1 (fun o ho => (hsd.2 o ho).1) (fun o ho x hx => ?_) hL
  have hg := hgood o ho
  simp only [mayO, Bool.and_eq_true, decide_eq_true_eq] at hg
  obtain ⟨_, _, h3⟩ := mayEnt_ok ((newE_good.1 hg.2.2).1 x hx)
  exact fun e => by have := (setMay_words h3).1.1; omega
 ·rw [if_neg he] at hp qb
  obtain ⟨ex, rfl, rfl⟩ := hp
  simp only [vR, rC, vQ, qC] at qb
  simp only [wk,Nat.reduceEqDiff,Nat.reduceAdd,Nat.reduceLeDiff,↓reduceIte]
  refine PCalls.use (qb) ?_; simp only [wkr,wk,ne_eq,eq_self,Nat.reduceEqDiff,Nat.reduceAdd,Nat.reduceLeDiff,↓reduceIte]
  have m1 : ∀ x y : Option (Bool × List AV), (ex ++ [x] ++ [y])[ex.length]? = some x := fun x y => by simp
  simp only [m1, wk,Nat.reduceAdd,Nat.reduceLeDiff]
  have hsame := p_rrsame zeroR zeroR ⟨by decide, fun o ho => by simp [zeroR] at ho⟩ ⟨by decide, fun o ho => by simp [zeroR] at ho⟩
  rw [sameR_self] at hsame
  have hsame' : PCalls Try.prog 19 [.agg [.int .i64 0, .lst .clip 0 []], .agg [.int .i64 0, .lst .clip 0 []]] (.bool true) := by
   refine PCalls.argd ?_
   simp only [rdpw]
   exact hsame
  refine ⟨_, fun h0 _ => hsame'.acalls h0, ?_⟩
  have c1 := p_rmay1 r hsm
  have c2 := p_rrmay r hsm
  have c3 := p_asks q hse
  have c4 := p_rasks q hse
  have c5 := p_need q
  simp only [vR, rC, vQ, qC] at c1 c2 c3 c4 c5
  simp only [wk,forall_const,eq_self]
  refine ⟨_, c1, _, c2, ?_⟩
  simp only [wk,forall_const,eq_self]
  refine ⟨_, c3, _, c4, ?_⟩
  simp only [wk,forall_const,eq_self]
  refine ⟨_, c5, ?_⟩
  simp only [m1, wk,ne_eq,eq_self,Nat.reduceEqDiff,↓reduceIte]
  refine W_loop (fun n fr h' => n = 0 ∧ fr = [(2, .ptr 0 0), (5, .ptr 2 0), (6, .ptr (ex.length + 1 + 1 + 1) 0), (76, .int .i64 0), (77, .int .i64 0)] ∧ h'[0]? = some (some (false, [.int .i64 r.boot, .lst .ro r.objs.length (objsC r.objs)])) ∧ h'[2]? = some (some (true, [.int .i64 r.boot, .lst .ro r.objs.length (objsC r.objs)]))) 0 ⟨rfl, rfl, rfl, rfl⟩ ?_
  rintro n fr h' ⟨rfl, rfl, g0, g2⟩
  simp only [J_law21_RecordDoes_j4, wk,Nat.reduceEqDiff,Int.reduceLT,↓reduceIte]
  exact rdoes_end hsm rfl g0 g2
end Go.Proofs.Ytpiofcjkekpboaa
/- the call of RecordDoes. -/
namespace Go.Proofs.Ytpiofcjkekpboaa
open Go.RowKit Go.Lib Go.ChangeShapes Go.WideShapes Go.ChangeAt
theorem recordDoes_calls {H : Type} {enc : TypeId × Value → H} (W : World) {base0 base1 : Nat} {v0 v1 : Value} {d0 d1 : DataW H} {p0 p1 : List MemPlace} (hv0 : Value.okWide Try.prog W .any base0 54 v0) (h0 : DataW.Trod enc Try.prog W 0 (fun _ => true) true 54 v0 d0 p0) (hv1 : Value.okWide Try.prog W .any base1 60 v1) (h1 : DataW.Trod enc Try.prog W 0 (fun _ => true) true 60 v1 d1 p1) :
  Calls Try.prog 4 #[v0, v1] W fun e w' => e = .returned (.bool true) ∧ Below W.heap.size W w' := by
 obtain ⟨r, hf, hr⟩ := open_record hv0 h0
 obtain ⟨q, hq, hs⟩ := open_request hv1 h1
 exact calls_true (vargs := [v0, v1]) (a_rdoes r q hf hq) (.cons hr (.cons hs .nil)) (fun a ha => by simp at ha; rcases ha with rfl | rfl <;> rfl)
end Go.Proofs.Ytpiofcjkekpboaa
