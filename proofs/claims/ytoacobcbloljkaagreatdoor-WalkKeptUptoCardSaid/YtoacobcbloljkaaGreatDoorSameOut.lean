/-
  The walks of SameKeys, and of SameOut at answers that are the same.
-/
import Derived.Test.YtoacobcbloljkaaGreatDoorDentCut
import Derived.Test.YtoacobcbloljkaaGreatDoorLow
namespace Go.Proofs.YtoacobcbloljkaaGreatDoor
open Go.RowKit

set_option maxRecDepth 100000 in
set_option maxHeartbeats 1000000 in
theorem sameKeys_any (A B : Option Addr) (n m c d : Nat) (xs ys : List Key) (w : World) (hA : Rd w 2 A n (cKeys xs)) (hB : Rd w 2 B m (cKeys ys)) (hn : n ≤ maxLen) :
    Calls Tryz.prog 33 #[.slice A n c, .slice B m d] w fun e w' => e = .returned (.bool (decide (xs = ys))) ∧ ∃ q, w' = w.drewN q := by
  unfold maxLen at hn
  have hla := hA.key_len
  have hlb := hB.key_len
  by_cases hnm : n = m
  · subst hnm
    have HLA := Lib.hid hla
    have HLB := Lib.hid hlb
    have HA := Lib.hid hA
    have HB := Lib.hid hB
    clear hla hlb hA hB
    go_enter Tryz.func33, Tryz.ntmps33
    go_wp2
    go_loopw [5] (fun i wr => ∃ k q : Nat, k ≤ n ∧ i = .int .i64 k ∧ wr = w.drewN q ∧ Hid (xs.take k = ys.take k)) (fun i _ => n - (RowKit.intOf i).toNat)
    case atStart => exact ⟨0, 0, by omega, rfl, rfl, rfl⟩
    case round =>
      obtain ⟨k, q, hk, rfl, rfl, heq⟩ := hrel
      by_cases hlt : k < n
      · obtain ⟨a1, d1, n1, rfl, _, hx1, p1, p2⟩ := HA.out.key_at hlt
        obtain ⟨a2, d2, n2, rfl, _, hx2, r1, r2⟩ := HB.out.key_at hlt
        have hq : ∀ V : World, (binOp .neq 32 (.agg #[.int .i64 d1, .string ⟨n1.toArray⟩]) (.agg #[.int .i64 d2, .string ⟨n2.toArray⟩])).run Tryz.prog V = .ok (.bool (!decide (((d1, n1) : Key) = (d2, n2)))) V := fun V => neq_key (d1, n1) (d2, n2) V
        by_cases hbq : ((d1, n1) : Key) = (d2, n2)
        · have hnext : xs.take (k + 1) = ys.take (k + 1) := by
            obtain ⟨h1, e1⟩ := List.getElem?_eq_some_iff.1 hx1
            obtain ⟨h2, e2⟩ := List.getElem?_eq_some_iff.1 hx2
            rw [List.take_succ_eq_append_getElem h1, List.take_succ_eq_append_getElem h2, heq.out, e1, e2, hbq]
          rw [decide_eq_true hbq] at hq
          have HN := Lib.hid hnext
          clear hnext hbq hx1 hx2
          go_wp2
          go_quiet (fail)
          go_wp2
          go_roundw
          case rel => exact ⟨k + 1, _, by omega, by go_num, rfl, HN⟩
          case measure => simp [RowKit.intOf] <;> omega
        · have hne : xs ≠ ys := by
            rintro rfl
            rw [hx1] at hx2
            injection hx2 with hx2
            exact hbq hx2
          rw [decide_eq_false hbq] at hq
          have HN := Lib.hid hne
          clear hne hbq hx1 hx2
          go_wp2
          go_quiet (fail)
          go_wp2
          go_ret
          exact ⟨ret_bool (by simpa using HN.out), _, World.drewN_drewN _ _ _⟩
      · obtain rfl : k = n := by omega
        have h1 := heq.out
        rw [List.take_of_length_le (by rw [HLA.out]; omega), List.take_of_length_le (by rw [HLB.out]; omega)] at h1
        have HE := Lib.hid h1
        clear h1
        go_wp2
        go_ret
        exact ⟨ret_bool (by simpa using HE.out), _, rfl⟩
  · have hne : xs ≠ ys := by rintro rfl; omega
    have HN := Lib.hid hne
    have hb : ((n : Int) == (m : Int)) = false := beq_eq_false_iff_ne.2 (by omega)
    clear hne hla hlb hA hB
    go_enter Tryz.func33, Tryz.ntmps33
    go_wp2
    go_ret
    exact ⟨ret_bool (by simpa using HN.out), 0, rfl⟩

set_option maxRecDepth 100000 in
set_option maxHeartbeats 2000000 in
theorem sameOut_yes (o : Wk.Out) (A B : Option Addr) (n c d : Nat) (w : World) (hA : Rd w 2 A n (cKeys o.2.2.2.2)) (hB : Rd w 2 B n (cKeys o.2.2.2.2)) (hn : n ≤ maxLen) :
    Calls Tryz.prog 19 #[vOut o (.slice A n c), vOut o (.slice B n d)] w fun e w' => e = .returned (.bool true) ∧ Below w.heap.size w w' := by
  obtain ⟨nd, ⟨kd, kn⟩, er, ⟨ni, nk, nm, nt⟩, us⟩ := o
  have hs := fun V h1 h2 => sameKeys_any A B n n c d us us V h1 h2 hn
  simp only [decide_true] at hs
  have hq1 : ∀ V : World, (binOp .eql 32 (.agg #[.int .i64 kd, .string ⟨kn.toArray⟩]) (.agg #[.int .i64 kd, .string ⟨kn.toArray⟩])).run Tryz.prog V = .ok (.bool true) V := fun V => by
    have := eql_key (kd, kn) (kd, kn) V
    rwa [decide_eq_true rfl] at this
  have hq2 : ∀ V : World, (binOp .eql 34 (.agg #[.int .i64 ni, .int .i64 nk, .int .i64 nm, .string ⟨nt.toArray⟩]) (.agg #[.int .i64 ni, .int .i64 nk, .int .i64 nm, .string ⟨nt.toArray⟩])).run Tryz.prog V = .ok (.bool true) V := fun V => by
    have := eql_node (ni, nk, nm, nt) (ni, nk, nm, nt) V
    rwa [decide_eq_true rfl] at this
  have HS := Lib.hid hs
  have HA := Lib.hid hA
  have HB := Lib.hid hB
  clear hs hA hB
  simp only [vOut, outCells, txt]
  go_enter Tryz.func19, Tryz.ntmps19
  go_wp2_with fail
  refine (HS.out _ ((HA.out.alloc _).alloc _) ((HB.out.alloc _).alloc _)).mono ?_
  rintro r w2 ⟨rfl, q, rfl⟩
  go_wp2_with fail
  go_ret
  exact ⟨rfl, below_drewN_ (((Below.refl _ _).alloc (Nat.le_refl _) _).alloc (by simp) _) _⟩
end Go.Proofs.YtoacobcbloljkaaGreatDoor
