/- Contracts of New, Put, Find, Name, Len of package atom. -/
import Derived.Test.YtpiofcjkekpboaaAtC
namespace Go.Proofs.Ytpiofcjkekpboaa
set_option linter.unusedSimpArgs false
set_option linter.unusedVariables false
open Go.RowKit Go.Maps
open Go.WideMaps Go.WideElems Go.MapKept Go.ChangeMaps

/-- what a call leaves that turns a table -/
def TabTurned (S : Nat → Prop) (b : Nat) (L' : Nat → List ByteArray) (w w' : World) : Prop := Tab w' b L' (Since S w w') ∧ Chg S w w'

theorem TabTurned.same {S : Nat → Prop} {b : Nat} {L : Nat → List ByteArray} {w : World} (h : Tab w b L S) : TabTurned S b L w w :=
  ⟨h.mono (fun _ hj => .inl hj) (by rintro j (hj | hj); exact h.lt j hj; omega), Chg.refl _ _⟩

set_option maxHeartbeats 1000000 in
set_option maxRecDepth 100000 in
theorem put_kind (b : Nat) (kd : Int) (s : ByteArray) (w : World) (h : kd < 1 ∨ 5 < kd) :
    Calls Try.prog 9 #[.pointer (some ⟨b, 0, none⟩), .int .i64 kd, .string s] w fun e w' =>
      e = .returned (.tuple #[.int .u16 0, .int .i64 1]) ∧ w = w' := by
  have H := Lib.hid h; clear h
  go_enter Try.func9, Try.ntmps9
  go_wp2_with (go_at_call 46; refine (named_no _ _ H.out).mono ?_; rintro e w' ⟨rfl, rfl⟩)
  go_ret2
  exact ⟨rfl, rfl⟩

set_option maxHeartbeats 1000000 in
set_option maxRecDepth 100000 in
theorem put_form (b k : Nat) (s : ByteArray) (w : World) (hs : s.size ≤ maxLen) (h1 : 1 ≤ k) (h5 : k ≤ 5) (hm : Hid (mayB s = false)) :
    Calls Try.prog 9 #[.pointer (some ⟨b, 0, none⟩), .int .i64 k, .string s] w fun e w' =>
      e = .returned (.tuple #[.int .u16 0, .int .i64 2]) ∧ w = w' := by
  go_enter Try.func9, Try.ntmps9
  go_wp2_with (first
    | (go_at_call 46; refine (named_yes _ _ (by omega) (by omega)).mono ?_; rintro e w' ⟨rfl, rfl⟩)
    | (go_at_call 45; refine (may_false _ _ hs hm.out).mono ?_; rintro e w' ⟨rfl, rfl⟩))
  go_ret2
  exact ⟨rfl, rfl⟩

set_option maxHeartbeats 1000000 in
set_option maxRecDepth 100000 in
theorem put_found (b k n mb : Nat) (A : Int) (s : ByteArray) (D : DataW Unit) (w : World) (hs : s.size ≤ maxLen) (h1 : 1 ≤ k) (h5 : k ≤ 5) (hm : Hid (mayB s = true))
    (c2 : w.cell? ⟨b, 6 + k, none⟩ = some (.map (some mb)))
    (hmap : w.ownsMap Try.prog 9 (plainElem Try.prog 32) mb n D)
    (hyes : Maps.has D (.string s.data.toList) = true) (hat : Hid (D.atKey (.string s.data.toList) (.lit (.int .u16 0)) = .lit (.int .u16 A))) :
    Calls Try.prog 9 #[.pointer (some ⟨b, 0, none⟩), .int .i64 k, .string s] w fun e w' =>
      e = .returned (.tuple #[.int .u16 A, .int .i64 0]) ∧ w = w' := by
  go_enter Try.func9, Try.ntmps9
  go_wp2_with (first
    | (go_at_call 46; refine (named_yes _ _ (by omega) (by omega)).mono ?_; rintro e w' ⟨rfl, rfl⟩)
    | (go_at_call 45; refine (may_true _ _ hs hm.out).mono ?_; rintro e w' ⟨rfl, rfl⟩)
    | (at_lookup; refine wpList_lookup_own_ok_int _ rfl _ _ 38 rfl 9 32 .u16 strKey Try.underlying38 Try.underlying32 (zeroAtom _) mb n D rfl hmap _ _ rfl (keyOf_string_mk Try.underlying9 hs) ?_; intro c hc hwc; rw [hat.out] at hc; injection hc with hc; injection hc with _ hc; subst hc))
  go_ret2
  exact ⟨rfl, rfl⟩

set_option maxHeartbeats 1000000 in
set_option maxRecDepth 100000 in
theorem put_full (b k n cap mb : Nat) (a : Option Addr) (s : ByteArray) (D : DataW Unit) (w : World) (hs : s.size ≤ maxLen) (h1 : 1 ≤ k) (h5 : k ≤ 5) (hm : Hid (mayB s = true))
    (c1 : w.cell? ⟨b, k, none⟩ = some (.slice a n cap))
    (c2 : w.cell? ⟨b, 6 + k, none⟩ = some (.map (some mb)))
    (hmap : w.ownsMap Try.prog 9 (plainElem Try.prog 32) mb n D)
    (hno : Maps.has D (.string s.data.toList) = false) (hn : 4000 ≤ n) :
    Calls Try.prog 9 #[.pointer (some ⟨b, 0, none⟩), .int .i64 k, .string s] w fun e w' =>
      e = .returned (.tuple #[.int .u16 0, .int .i64 3]) ∧ w = w' := by
  go_enter Try.func9, Try.ntmps9
  go_wp2_with (first
    | (go_at_call 46; refine (named_yes _ _ (by omega) (by omega)).mono ?_; rintro e w' ⟨rfl, rfl⟩)
    | (go_at_call 45; refine (may_true _ _ hs hm.out).mono ?_; rintro e w' ⟨rfl, rfl⟩)
    | (at_lookup; refine wpList_lookup_own_ok_int _ rfl _ _ 38 rfl 9 32 .u16 strKey Try.underlying38 Try.underlying32 (zeroAtom _) mb n D rfl hmap _ _ rfl (keyOf_string_mk Try.underlying9 hs) ?_; intro c hc hwc))
  go_ret2
  exact ⟨rfl, rfl⟩

/-- Put, whatever is given. -/
theorem put_any (b : Nat) (kd : Int) (s : ByteArray) (L : Nat → List ByteArray) (S : Nat → Prop) (w : World) (hs : s.size ≤ maxLen) (hT : Tab w b L S) :
    Calls Try.prog 9 #[.pointer (some ⟨b, 0, none⟩), .int .i64 kd, .string s] w fun e w' =>
      e = .returned (.tuple #[.int .u16 (putA L kd s), .int .i64 (putE L kd s)]) ∧ TabTurned S b (putL L kd s) w w' := by
  by_cases hk : kd < 1 ∨ 5 < kd
  · have e1 : putE L kd s = 1 := by simp [putE, hk]
    have e2 : putA L kd s = 0 := by simp [putA, e1]
    have e3 : putL L kd s = L := by unfold putL; rw [if_neg (by omega)]
    rw [e1, e2, e3]
    refine (put_kind b kd s w hk).mono ?_
    rintro e w' ⟨rfl, rfl⟩
    exact ⟨rfl, .same hT⟩
  · obtain ⟨k, rfl⟩ := Int.eq_ofNat_of_zero_le (show 0 ≤ kd by omega)
    have h1 : 1 ≤ k := by omega
    have h5 : k ≤ 5 := by omega
    by_cases hm : mayB s = true
    · obtain ⟨a, cap, m, h⟩ := hT
      have hT : Tab w b L S := ⟨a, cap, m, h⟩
      by_cases hin : s ∈ L k
      · have e1 : putE L k s = 0 := by simp [putE, hk, hm, hin]
        have e2 : putA L k s = 8192 * k + (posOf s (L k) + 1) := by simp [putA, e1]
        have e3 : putL L k s = L := by unfold putL; rw [if_neg (by simp [hin])]
        rw [e1, e2, e3]
        cases hmk : m k with
        | none => rw [(h.nils k (by omega) hmk).2.2] at hin; cases hin
        | some mb =>
          obtain ⟨D, hD, hd⟩ := h.dict k (by omega) mb hmk
          refine (put_found b k (L k).length mb _ s D w hs h1 h5 hm (by rw [h.c2 k (by omega), hmk]) hD (by rw [hd.has]; simp [hin]) (hd.at_ s hin)).mono ?_
          rintro e w' ⟨rfl, rfl⟩
          exact ⟨rfl, .same hT⟩
      · by_cases hl : (L k).length < 4000
        · have e1 : putE L k s = 0 := by simp [putE, hk, hm, hin, hl]
          have e2 : putA L k s = 8192 * k + ((L k).length + 1) := by simp [putA, e1, posOf_none hin]
          have e3 : putL L k s = upd L k (L k ++ [s]) := by unfold putL; rw [if_pos ⟨by omega, by omega, hm, by simpa using hin, by simpa using hl⟩]; simp
          rw [e1, e2, e3]
          cases hmk : m k with
          | none =>
            obtain ⟨n1, n2, n3⟩ := h.nils k (by omega) hmk
            have c1 := h.c1 k (by omega)
            rw [n1, n2, n3] at c1
            refine (put_core_nil b k s w hs h1 h5 hm c1 (h.fr k) (by rw [h.c2 k (by omega), hmk]) (h.fr _)).mono ?_
            rintro e w' ⟨rfl, p⟩
            refine ⟨by rw [n3]; rfl, h.put (k := k) (by omega) s (DataW.put (.map []) (.string s.data.toList) (.lit (.int .u16 (8192 * k + (0 + 1))))) ?_ ?_, ?_⟩
            · rw [n3]; exact dict_snoc (dict_nil k) s (by simp)
            · rw [n3, n1, hmk]; exact p
            · refine p.chg.mono ?_
              rintro j hj (e | e | e)
              · rw [e]; exact h.sb
              · cases e
              · cases e
          | some mb =>
            obtain ⟨D, hD, hd⟩ := h.dict k (by omega) mb hmk
            refine (put_core b k (L k).length (cap k) mb (a k) s _ D w hs h1 h5 hm (h.c1 k (by omega)) (h.fr k) (by rw [h.c2 k (by omega), hmk]) (h.row k (by omega)) ?_ hD (by rw [hd.has]; simp [hin]) hl (h.mapS k (by omega) mb hmk).2 ?_).mono ?_
            · rw [ownBlock_slice]; exact fun e => (h.rowS k (by omega) b e).2 rfl
            · rw [ownBlock_slice]; exact h.mapR k k (by omega) (by omega) mb hmk
            · rintro e w' ⟨rfl, p⟩
              rw [ownBlock_slice] at p
              refine ⟨rfl, h.put (k := k) (by omega) s _ (dict_snoc hd s hin) (by rw [hmk]; exact p), ?_⟩
              refine p.chg.mono ?_
              rintro j hj (e | e | e)
              · rw [e]; exact h.sb
              · injection e with e; subst e; exact (h.mapS k (by omega) mb hmk).1
              · exact (h.rowS k (by omega) j e).1
        · have e1 : putE L k s = 3 := by simp [putE, hk, hm, hin, hl]
          have e2 : putA L k s = 0 := by simp [putA, e1]
          have e3 : putL L k s = L := by unfold putL; rw [if_neg (by simp; omega)]
          rw [e1, e2, e3]
          cases hmk : m k with
          | none => rw [(h.nils k (by omega) hmk).2.2] at hl; simp at hl
          | some mb =>
            obtain ⟨D, hD, hd⟩ := h.dict k (by omega) mb hmk
            refine (put_full b k (L k).length (cap k) mb (a k) s D w hs h1 h5 hm (h.c1 k (by omega)) (by rw [h.c2 k (by omega), hmk]) hD (by rw [hd.has]; simp [hin]) (by omega)).mono ?_
            rintro e w' ⟨rfl, rfl⟩
            exact ⟨rfl, .same hT⟩
    · have hm : mayB s = false := by simpa using hm
      have e1 : putE L k s = 2 := by simp [putE, hk, hm]
      have e2 : putA L k s = 0 := by simp [putA, e1]
      have e3 : putL L k s = L := by unfold putL; rw [if_neg (by simp [hm])]
      rw [e1, e2, e3]
      refine (put_form b k s w hs h1 h5 hm).mono ?_
      rintro e w' ⟨rfl, rfl⟩
      exact ⟨rfl, .same hT⟩

end Go.Proofs.Ytpiofcjkekpboaa
