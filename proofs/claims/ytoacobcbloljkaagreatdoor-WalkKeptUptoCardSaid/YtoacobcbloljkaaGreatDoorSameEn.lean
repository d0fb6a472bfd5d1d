/-
  The walk of SameEntries.
-/
import Derived.Test.YtoacobcbloljkaaGreatDoorLow
namespace Go.Proofs.YtoacobcbloljkaaGreatDoor
open Go.RowKit

instance decEn (a b : En) : Decidable (a = b) := inferInstance
instance decEns (a b : List En) : Decidable (a = b) := inferInstance

set_option maxRecDepth 100000 in
set_option maxHeartbeats 1000000 in
theorem sameEntries_any (A B : Option Addr) (n m c d : Nat) (xs ys : List En) (w : World) (hA : Rd w 7 A n (cEns xs)) (hB : Rd w 7 B m (cEns ys)) (hn : n ≤ maxLen) :
    Calls Tryz.prog 17 #[.slice A n c, .slice B m d] w fun e w' => e = .returned (.bool (decide (xs = ys))) ∧ ∃ q, w' = w.drewN q := by
  unfold maxLen at hn
  have hla := hA.en_len
  have hlb := hB.en_len
  by_cases hnm : n = m
  · subst hnm
    have HLA := Lib.hid hla
    have HLB := Lib.hid hlb
    have HA := Lib.hid hA
    have HB := Lib.hid hB
    clear hla hlb hA hB
    go_enter Tryz.func17, Tryz.ntmps17
    go_wp2
    go_loopw [5] (fun i wr => ∃ k q : Nat, k ≤ n ∧ i = .int .i64 k ∧ wr = w.drewN q ∧ Hid (xs.take k = ys.take k)) (fun i _ => n - (RowKit.intOf i).toNat)
    case atStart => exact ⟨0, 0, by omega, rfl, rfl, rfl⟩
    case round =>
      obtain ⟨k, q, hk, rfl, rfl, heq⟩ := hrel
      by_cases hlt : k < n
      · obtain ⟨a1, d1, n1, g1, i1, k1, m1, t1, rfl, _, hx1, p1, p2, p3, p4, p5, p6, p7⟩ := HA.out.en_at hlt
        obtain ⟨a2, d2, n2, g2, i2, k2, m2, t2, rfl, _, hx2, r1, r2, r3, r4, r5, r6, r7⟩ := HB.out.en_at hlt
        have hq : ∀ V : World, (binOp .neq 36 (.agg #[.int .i64 d1, .string ⟨n1.toArray⟩, .bool g1, .int .i64 i1, .int .i64 k1, .int .i64 m1, .string ⟨t1.toArray⟩]) (.agg #[.int .i64 d2, .string ⟨n2.toArray⟩, .bool g2, .int .i64 i2, .int .i64 k2, .int .i64 m2, .string ⟨t2.toArray⟩])).run Tryz.prog V = .ok (.bool (!decide ((((d1, n1), g1, i1, k1, m1, t1) : En) = ((d2, n2), g2, i2, k2, m2, t2)))) V := fun V => neq_entry ((d1, n1), g1, i1, k1, m1, t1) ((d2, n2), g2, i2, k2, m2, t2) V
        by_cases hbq : (((d1, n1), g1, i1, k1, m1, t1) : En) = ((d2, n2), g2, i2, k2, m2, t2)
        · have hnext : xs.take (k + 1) = ys.take (k + 1) := by
            obtain ⟨h1, e1⟩ := List.getElem?_eq_some_iff.1 hx1
            obtain ⟨h2, e2⟩ := List.getElem?_eq_some_iff.1 hx2
            rw [List.take_succ_eq_append_getElem h1, List.take_succ_eq_append_getElem h2, heq.out, e1, e2, hbq]
          rw [decide_eq_true hbq] at hq
          have HN := Lib.hid hnext
          clear hnext hbq hx1 hx2
          go_wp2
          go_quiet (fail)
          go_wp2
          go_roundw
          case rel => exact ⟨k + 1, _, by omega, by go_num, rfl, HN⟩
          case measure => simp [RowKit.intOf] <;> omega
        · have hne : xs ≠ ys := by
            rintro rfl
            rw [hx1] at hx2
            injection hx2 with hx2
            exact hbq hx2
          rw [decide_eq_false hbq] at hq
          have HN := Lib.hid hne
          clear hne hbq hx1 hx2
          go_wp2
          go_quiet (fail)
          go_wp2
          go_ret
          exact ⟨ret_bool (by simpa using HN.out), _, World.drewN_drewN _ _ _⟩
      · obtain rfl : k = n := by omega
        have h1 := heq.out
        rw [List.take_of_length_le (by rw [HLA.out]; omega), List.take_of_length_le (by rw [HLB.out]; omega)] at h1
        have HE := Lib.hid h1
        clear h1
        go_wp2
        go_ret
        exact ⟨ret_bool (by simpa using HE.out), _, rfl⟩
  · have hne : xs ≠ ys := by rintro rfl; omega
    have HN := Lib.hid hne
    have hb : ((n : Int) == (m : Int)) = false := beq_eq_false_iff_ne.2 (by omega)
    clear hne hla hlb hA hB
    go_enter Tryz.func17, Tryz.ntmps17
    go_wp2
    go_ret
    exact ⟨ret_bool (by simpa using HN.out), 0, rfl⟩

end Go.Proofs.YtoacobcbloljkaaGreatDoor
