/- Contract of awake of package attorneylaw01: it returns true. -/
import Derived.Test.YtpiofcjkekpboaaAtF
namespace Go.Proofs.Ytpiofcjkekpboaa
set_option linter.unusedSimpArgs false
set_option linter.unusedVariables false
open Go.RowKit Go.Maps

abbrev k1 : ByteArray := ⟨#[107, 49]⟩
abbrev k2 : ByteArray := ⟨#[107, 50]⟩
def aw0 : Nat → List ByteArray := fun _ => []
def aw1 : Nat → List ByteArray := putL aw0 1 k1
def aw2 : Nat → List ByteArray := putL aw1 3 k1
def aw3 : Nat → List ByteArray := putL aw2 1 k2
def aw4 : Nat → List ByteArray := putL aw3 1 k1
def aw5 : Nat → List ByteArray := putL aw4 1 ⟨#[75]⟩
def aw6 : Nat → List ByteArray := putL aw5 0 ⟨#[97]⟩

/-- No kind has more than 4000 names. -/
def Few (L : Nat → List ByteArray) : Prop := ∀ k, (L k).length ≤ 4000
theorem few_nil : Few (fun _ => []) := fun _ => by simp
theorem few_put {L : Nat → List ByteArray} (h : Few L) (kd : Int) (s : ByteArray) : Few (putL L kd s) := by
  intro k
  unfold putL
  split
  · next hc =>
    by_cases e : k = kd.toNat
    · subst e; rw [upd_same]; simp; omega
    · rw [upd_other _ _ e]; exact h k
  · exact h k
theorem few6 : Few aw6 := few_put (few_put (few_put (few_put (few_put (few_put few_nil _ _) _ _) _ _) _ _) _ _) _ _

def awLists (k : Nat) : List ByteArray := if k = 1 then [k1, k1] else []
theorem awLoad : (loadTo awLists 5).2 = 11 := by decide +kernel

theorem load_awake (x0 : Addr) (b : Nat) (w : World) (h0 : w.cell? ⟨b, 0, none⟩ = some (.string k1)) (h1 : w.cell? ⟨b, 1, none⟩ = some (.string k1)) :
    Calls Try.prog 41 #[.agg #[.slice (some x0) 0 0, .slice (some ⟨b, 0, none⟩) 2 2, .slice none 0 0, .slice none 0 0, .slice none 0 0, .slice none 0 0]] w
      fun e w' => e = .returned (.tuple #[.pointer none, .int .i64 11]) ∧ Below w.heap.size w w' := by
  have h := load_any (fun k => if k = 0 then some x0 else if k = 1 then some ⟨b, 0, none⟩ else none) awLists (fun k => if k = 1 then 2 else 0) w ?_ ?_ ?_
  · refine h.mono ?_
    rintro e w' ⟨hb, _, h2⟩
    have := h2 (by rw [awLoad]; decide)
    rw [awLoad] at this
    exact ⟨this, hb⟩
  · intro k hk
    by_cases e : k = 1
    · subst e
      refine .inr ⟨b, 0, by simp, ?_⟩
      intro j u hu
      match j, hu with
      | 0, hu => simp [awLists] at hu; subst hu; exact h0
      | 1, hu => simp [awLists] at hu; subst hu; exact h1
      | j + 2, hu => simp [awLists] at hu
    · left; simp [awLists, e]
  · intro k hk; unfold awLists; split <;> simp
  · intro k hk s hs
    unfold awLists at hs
    split at hs
    · simp at hs; subst hs; decide
    · simp at hs

set_option maxHeartbeats 4000000 in
set_option maxRecDepth 100000 in
theorem awake_any (w : World) : Calls Try.prog 6 #[] w fun e w' => e = .returned (.bool true) ∧ Below w.heap.size w w' := by
  go_enter Try.func6, Try.ntmps6
  go_wp2_with fail
  refine (new_any _).mono ?_
  rintro e w1 ⟨rfl, hb1, hz1, hT1⟩
  have hF1 : TabFrom w1 w.heap.size w.heap.size aw0 := hT1.mono (by rintro j rfl; exact ⟨Nat.le_refl _, hT1.lt _ rfl⟩) (fun j hj => hj.2)
  have hl1 : w.heap.size ≤ w1.heap.size := hb1.size
  clear hT1 hz1
  go_wp2_with fail
  refine (put_any _ _ _ aw0 _ _ (by decide) hF1).mono ?_
  rintro e w2 ⟨rfl, ht⟩
  obtain ⟨hF2, hb2⟩ := TabFrom.put hl1 ht
  have hl2 : w.heap.size ≤ w2.heap.size := Nat.le_trans hl1 hb2.size
  replace hb2 := hb1.trans hb2
  change TabFrom w2 w.heap.size w.heap.size aw1 at hF2
  clear ht hF1 hb1 hl1
  rw [show putA aw0 1 ⟨#[107, 49]⟩ = 8193 by decide +kernel, show putE aw0 1 ⟨#[107, 49]⟩ = 0 by decide +kernel]
  go_wp2_with fail
  refine (put_any _ _ _ aw1 _ _ (by decide) hF2).mono ?_
  rintro e w3 ⟨rfl, ht⟩
  obtain ⟨hF3, hb3⟩ := TabFrom.put hl2 ht
  have hl3 : w.heap.size ≤ w3.heap.size := Nat.le_trans hl2 hb3.size
  replace hb3 := hb2.trans hb3
  change TabFrom w3 w.heap.size w.heap.size aw2 at hF3
  clear ht hF2 hb2 hl2
  rw [show putA aw1 3 ⟨#[107, 49]⟩ = 24577 by decide +kernel, show putE aw1 3 ⟨#[107, 49]⟩ = 0 by decide +kernel]
  go_wp2_with fail
  refine (put_any _ _ _ aw2 _ _ (by decide) hF3).mono ?_
  rintro e w4 ⟨rfl, ht⟩
  obtain ⟨hF4, hb4⟩ := TabFrom.put hl3 ht
  have hl4 : w.heap.size ≤ w4.heap.size := Nat.le_trans hl3 hb4.size
  replace hb4 := hb3.trans hb4
  change TabFrom w4 w.heap.size w.heap.size aw3 at hF4
  clear ht hF3 hb3 hl3
  rw [show putA aw2 1 ⟨#[107, 50]⟩ = 8194 by decide +kernel, show putE aw2 1 ⟨#[107, 50]⟩ = 0 by decide +kernel]
  go_wp2_with fail
  refine (put_any _ _ _ aw3 _ _ (by decide) hF4).mono ?_
  rintro e w5 ⟨rfl, ht⟩
  obtain ⟨hF5, hb5⟩ := TabFrom.put hl4 ht
  have hl5 : w.heap.size ≤ w5.heap.size := Nat.le_trans hl4 hb5.size
  replace hb5 := hb4.trans hb5
  change TabFrom w5 w.heap.size w.heap.size aw4 at hF5
  clear ht hF4 hb4 hl4
  rw [show putA aw3 1 ⟨#[107, 49]⟩ = 8193 by decide +kernel, show putE aw3 1 ⟨#[107, 49]⟩ = 0 by decide +kernel]
  go_wp2_with fail
  refine (put_any _ _ _ aw4 _ _ (by decide) hF5).mono ?_
  rintro e w6 ⟨rfl, ht⟩
  obtain ⟨hF6, hb6⟩ := TabFrom.put hl5 ht
  have hl6 : w.heap.size ≤ w6.heap.size := Nat.le_trans hl5 hb6.size
  replace hb6 := hb5.trans hb6
  change TabFrom w6 w.heap.size w.heap.size aw5 at hF6
  clear ht hF5 hb5 hl5
  rw [show putA aw4 1 ⟨#[75]⟩ = 0 by decide +kernel, show putE aw4 1 ⟨#[75]⟩ = 2 by decide +kernel]
  go_wp2_with fail
  refine (put_any _ _ _ aw5 _ _ (by decide) hF6).mono ?_
  rintro e w7 ⟨rfl, ht⟩
  obtain ⟨hF7, hb7⟩ := TabFrom.put hl6 ht
  have hl7 : w.heap.size ≤ w7.heap.size := Nat.le_trans hl6 hb7.size
  replace hb7 := hb6.trans hb7
  change TabFrom w7 w.heap.size w.heap.size aw6 at hF7
  clear ht hF6 hb6 hl6
  rw [show putA aw5 0 ⟨#[97]⟩ = 0 by decide +kernel, show putE aw5 0 ⟨#[97]⟩ = 1 by decide +kernel]
  go_wp2_with fail
  refine (name_any _ 1 aw6 _ _ (by decide) hF7).mono ?_
  rintro e w' ⟨rfl, rfl⟩
  rw [show nameS aw6 1 = ⟨#[68]⟩ by decide +kernel, show nameB aw6 1 = true by decide +kernel]
  go_wp2_with fail
  refine (name_any _ 8194 aw6 _ _ (by decide) hF7).mono ?_
  rintro e w' ⟨rfl, rfl⟩
  rw [show nameS aw6 8194 = ⟨#[107, 50]⟩ by decide +kernel, show nameB aw6 8194 = true by decide +kernel]
  go_wp2_with fail
  refine (load_awake _ _ _ (by simp) (by simp)).mono ?_
  rintro e w8 ⟨rfl, hb8⟩
  have hx8 : Below w7.heap.size w7 w8 := (((Below.refl w7.heap.size w7).alloc (Nat.le_refl _) (.cells #[] 9)).alloc (by simp) (.cells #[Value.string ⟨#[107, 49]⟩, Value.string ⟨#[107, 49]⟩] 9)).trans (hb8.mono (by simp; omega))
  have hF8 : TabFrom w8 w.heap.size w.heap.size aw6 := (hF7.kept (S' := fun _ => False) ⟨hx8.os, hx8.tape, hx8.output, hx8.size, fun k hk _ => hx8.block k hk⟩ (fun _ _ h => h)).mono (fun j hj => ⟨hj.1, Nat.lt_of_lt_of_le hj.2 hx8.size⟩) (fun j hj => hj.2)
  have hB8 : Below w.heap.size w w8 := hb7.trans (hx8.mono hl7)
  clear hb8 hx8 hF7 hb7 hl7
  have hr : ((2 : Nat) : Int) = 2 := rfl
  go_wp2_with fail
  refine (len_any _ 1 aw6 _ _ hF8).mono ?_
  rintro e w' ⟨rfl, rfl⟩
  rw [show (allL aw6 1).length = 2 by decide +kernel]
  go_wp2_with fail
  refine (all_any _ 3 aw6 _ _ hF8 few6).mono ?_
  rintro e w9 ⟨⟨va, vc, rfl, _⟩, hb9⟩
  rw [show (allL aw6 3).length = 1 by decide +kernel]
  have hB9 : Below w.heap.size w w9 := hB8.trans (hb9.mono hB8.size)
  clear hb9 hF8 hB8
  go_wp2_with fail
  refine (kind_any 24577 _ (by decide)).mono ?_
  rintro e w' ⟨rfl, rfl⟩
  go_wp2_with fail
  refine (number_any 8194 _ (by decide)).mono ?_
  rintro e w' ⟨rfl, rfl⟩
  go_wp2_with fail
  refine (may_true _ _ (by decide) (by decide +kernel)).mono ?_
  rintro e w' ⟨rfl, rfl⟩
  go_wp2_with fail
  refine (may_false _ _ (by decide) (by decide +kernel)).mono ?_
  rintro e w' ⟨rfl, rfl⟩
  go_wp2
  go_ret
  exact ⟨rfl, hB9⟩

end Go.Proofs.Ytpiofcjkekpboaa
