/-
  Two lists of texts held against each other.
-/
import Derived.Test.YtoacobcbloljkaaGreatDoorProg
import Derived.Test.YtoacobcbloljkaaGreatDoorLow
import Derived.BigQuiet
import Derived.Deep.QuietTactic
namespace Go.Proofs.YtoacobcbloljkaaGreatDoor
open Go.RowKit

theorem txt_beq (a b : ByteArray) : (a.toList == b.toList) = decide (a.toList = b.toList) := by
  rw [Bool.eq_iff_iff]; simp

set_option maxHeartbeats 1000000 in
theorem sameTexts_any (A B : Option Addr) (n m c d : Nat) (xs ys : List (List UInt8)) (w : World) (hA : Rd w 1 A n (txts xs)) (hB : Rd w 1 B m (txts ys)) (hn : n ≤ maxLen) :
    Calls Tryz.prog 18 #[.slice A n c, .slice B m d] w fun e w' => e = .returned (.bool (decide (xs = ys))) ∧ ∃ q, w' = w.drewN q := by
  unfold maxLen at hn
  have hla := hA.txt_len
  have hlb := hB.txt_len
  by_cases hnm : n = m
  · subst hnm
    have HLA := Lib.hid hla
    have HLB := Lib.hid hlb
    have HA := Lib.hid hA
    have HB := Lib.hid hB
    clear hla hlb hA hB
    go_enter Tryz.func18, Tryz.ntmps18
    go_wp2
    go_loopw [5] (fun i wr => ∃ k q : Nat, k ≤ n ∧ i = .int .i64 k ∧ wr = w.drewN q ∧ Hid (xs.take k = ys.take k)) (fun i _ => n - (RowKit.intOf i).toNat)
    case atStart => exact ⟨0, 0, by omega, rfl, rfl, rfl⟩
    case round =>
      obtain ⟨k, q, hk, rfl, rfl, heq⟩ := hrel
      by_cases hlt : k < n
      · obtain ⟨a1, b1, rfl, _, hx1, hc1⟩ := HA.out.str_at hlt
        obtain ⟨a2, b2, rfl, _, hx2, hc2⟩ := HB.out.str_at hlt
        cases hbq : (b1.toList == b2.toList) with
        | true =>
          have hbq' : b1.toList = b2.toList := by simpa using hbq
          have hnext : xs.take (k + 1) = ys.take (k + 1) := by
            obtain ⟨h1, e1⟩ := List.getElem?_eq_some_iff.1 hx1
            obtain ⟨h2, e2⟩ := List.getElem?_eq_some_iff.1 hx2
            rw [List.take_succ_eq_append_getElem h1, List.take_succ_eq_append_getElem h2, heq.out, e1, e2, hbq']
          have HN := Lib.hid hnext
          clear hnext hbq' hx1 hx2
          go_wp2
          go_quiet (fail)
          go_wp2
          go_roundw
          case rel => exact ⟨k + 1, _, by omega, by go_num, rfl, HN⟩
          case measure => simp [RowKit.intOf]; omega
        | false =>
          have hbq' : b1.toList ≠ b2.toList := fun e => by rw [e] at hbq; simp at hbq
          have hne : xs ≠ ys := by
            rintro rfl
            rw [hx1] at hx2
            injection hx2 with hx2
            exact hbq' hx2
          have HN := Lib.hid hne
          clear hne hbq' hx1 hx2
          go_wp2
          go_quiet (fail)
          go_wp2
          go_ret
          exact ⟨ret_bool (by simpa using HN.out), _, World.drewN_drewN _ _ _⟩
      · obtain rfl : k = n := by omega
        have h1 := heq.out
        rw [List.take_of_length_le (by rw [HLA.out]; omega), List.take_of_length_le (by rw [HLB.out]; omega)] at h1
        have HE := Lib.hid h1
        clear h1
        go_wp2
        go_ret
        exact ⟨ret_bool (by simpa using HE.out), _, rfl⟩
  · have hne : xs ≠ ys := by rintro rfl; omega
    have HN := Lib.hid hne
    have hb : ((n : Int) == (m : Int)) = false := beq_eq_false_iff_ne.2 (by omega)
    clear hne hla hlb hA hB
    go_enter Tryz.func18, Tryz.ntmps18
    go_wp2
    go_ret
    exact ⟨ret_bool (by simpa using HN.out), 0, rfl⟩
end Go.Proofs.YtoacobcbloljkaaGreatDoor
