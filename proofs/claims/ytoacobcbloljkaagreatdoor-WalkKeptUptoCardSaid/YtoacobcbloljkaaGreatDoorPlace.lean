/-
  The walk of Place: a number brought into range.
-/
import Derived.Test.YtoacobcbloljkaaGreatDoorProg
import Derived.Test.YtoacobcbloljkaaGreatDoorLow
namespace Go.Proofs.YtoacobcbloljkaaGreatDoor
open Go.RowKit

theorem tmod_emod_ (v n : Int) (hn : 0 < n) : v.tmod n < n ∧ -n < v.tmod n ∧ (v.tmod n < 0 → v.tmod n + n = v % n) ∧ (0 ≤ v.tmod n → v.tmod n = v % n) := by
  have h1 : v.tmod n < n := Int.tmod_lt_of_pos v hn
  have h2 : -n < v.tmod n := Int.lt_tmod_of_pos v hn
  have h3 : v % n = v.tmod n % n := by
    conv => lhs; rw [← Int.mul_tdiv_add_tmod v n]
    rw [Int.mul_add_emod_self_left]
  refine ⟨h1, h2, fun h => ?_, fun h => ?_⟩
  · rw [h3, ← Int.add_emod_right]; exact (Int.emod_eq_of_lt (by omega) (by omega)).symm
  · rw [h3]; exact (Int.emod_eq_of_lt h h1).symm

set_option maxHeartbeats 1000000 in
theorem place_any (v n : Int) (_hv1 : -9223372036854775808 ≤ v) (_hv2 : v ≤ 9223372036854775807) (hn : 0 < n) (hn2 : n ≤ 4611686018427387904) (w : World) :
    Calls Tryz.prog 29 #[.int .i64 v, .int .i64 n] w fun e w' => e = .returned (.int .i64 (v % n)) ∧ w = w' := by
  obtain ⟨h1, h2, h3, h4⟩ := tmod_emod_ v n hn
  have H3 := Lib.hid h3
  have H4 := Lib.hid h4
  have hne : (n == 0) = false := beq_eq_false_iff_ne.2 (by omega)
  have h0 : n ≠ 0 := by omega
  clear h3 h4
  go_enter Tryz.func29, Tryz.ntmps29
  go_wp2
  · go_ret
    have h : v.tmod n < 0 := by assumption
    exact ⟨ret_int (H3.out h), rfl⟩
  · go_ret
    have h : 0 ≤ v.tmod n := by assumption
    exact ⟨ret_int (H4.out h), rfl⟩
end Go.Proofs.YtoacobcbloljkaaGreatDoor
