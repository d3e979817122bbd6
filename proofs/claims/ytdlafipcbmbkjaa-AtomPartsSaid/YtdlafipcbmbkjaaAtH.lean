/- The walks of AtomParts and AtomNames. -/
import Derived.Test.YtdlafipcbmbkjaaAtG
import Derived.ProofKit
import Derived.OpenShut
import Derived.ShutString
namespace Go.Proofs.Ytdlafipcbmbkjaa
open Go.RowKit Go.Maps Go.ChangeShapes Go.WideShapes Go.ChangeAt
open Go.ChangeMaps (open_string shut_string)

set_option maxHeartbeats 400000 in
theorem parts_walk (k n : Nat) (w : World) (hk : k < 8) (hn : n < 8192) :
    Calls Try.prog 8 #[.int .u16 ((k * 8192 + n : Nat) : Int)] w fun e w' => e = .returned (.bool true) ∧ Below w.heap.size w w' := by
  have h8 : (k : Int) < 8 := by omega
  have h0 : 0 ≤ (k : Int) := by omega
  have n8 : (n : Int) < 8192 := by omega
  have n0 : 0 ≤ (n : Int) := by omega
  have hA : ((k * 8192 + n : Nat) : Int) = (k : Int) * 8192 + n := by omega
  have H1 := Lib.hid (show (k * 8192 + n) / 8192 = k by omega)
  have H2 := Lib.hid (show (k * 8192 + n) % 8192 = n by omega)
  have H3 := Lib.hid (show k * 8192 + n < 65536 by omega)
  generalize k * 8192 + n = a at hA H1 H2 H3
  have HA := Lib.hid hA
  clear hA
  go_enter Try.func8, Try.ntmps8
  go_wp2_with fail
  refine (awake_any _).mono ?_
  rintro e w1 ⟨rfl, hb⟩
  go_wp2_with fail
  refine (kind_any _ _ H3.out).mono ?_
  rintro e w' ⟨rfl, rfl⟩
  rw [H1.out]
  go_wp2_with fail
  refine (number_any _ _ H3.out).mono ?_
  rintro e w' ⟨rfl, rfl⟩
  rw [H2.out]
  go_wp2_with fail
  go_ret
  exact ⟨ret_bool (by rw [HA.out]; simp), hb⟩

theorem atomParts_calls {H : Type} {enc : TypeId × Value → H} (W : World) {base : Nat} {v : Value} {d : DataW H} {p : List MemPlace} (hv : Value.okWide Try.prog W .any base 24 v)
    (h : DataW.Trod enc Try.prog W 0 (fun _ => true) true 24 v d p) :
    Calls Try.prog 8 #[v] W fun e w' => e = .returned (.bool true) ∧ Below W.heap.size W w' := by
  obtain ⟨a, rfl, rfl, rfl, wa⟩ := open_int Try.underlying24 hv h
  have hb := bounds_u16 wa
  obtain ⟨n, rfl⟩ := Int.eq_ofNat_of_zero_le hb.1
  have := parts_walk (n / 8192) (n % 8192) W (by omega) (by omega)
  rw [show n / 8192 * 8192 + n % 8192 = n by omega] at this
  exact this

end Go.Proofs.Ytdlafipcbmbkjaa
