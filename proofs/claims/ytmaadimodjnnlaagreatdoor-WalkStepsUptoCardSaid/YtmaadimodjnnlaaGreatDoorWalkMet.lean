/-
  The walks of walk.met and of slices.Clone at texts.
-/
import Derived.Test.YtmaadimodjnnlaaGreatDoorWalkSmall
import Derived.Test.YtmaadimodjnnlaaGreatDoorNameWalk
import Derived.Lib.SliceRun
namespace Go.Proofs.YtmaadimodjnnlaaGreatDoor
open Go.RowKit

theorem own_root (w : World) (base : Nat) (hb : base ≤ w.heap.size) :
    (w.alloc (.cells #[.int .i64 1, .int .i64 1, .int .i64 0, .string ⟨#[]⟩] 32)).ownsRow base 32 4 (.slice (some ⟨w.heap.size, 0, none⟩) 1 1) 1 (cNds [rootNd]) :=
  ⟨rfl, .inr ⟨_, 1, _, rfl, hb, heap_alloc_new _ _, Nat.le_refl _, by unfold maxLen; omega, rfl, rfl⟩⟩

set_option maxRecDepth 100000 in
set_option maxHeartbeats 1000000 in
theorem met_any (vat : Value) (A : Option Addr) (n c : Nat) (ls : List (List UInt8)) (dir : Bool) (t : ByteArray) (w : World) (hr : Rd w 1 A n (txts ls)) (hn : n ≤ 4000000000) :
    Calls Tryz.prog 64 #[vat, .slice A n c, .bool dir, .string t] w fun r w' => Below w.heap.size w w' ∧
      (((Nm.targetR t.toList).2.2.2 ≠ 0 ∧ r = .returned (.tuple #[vat, .slice A n c, .bool dir, .int .i64 (Nm.targetR t.toList).2.2.2])) ∨
       ((Nm.targetR t.toList).2.2.2 = 0 ∧ ∃ va v', r = .returned (.tuple #[va, v', .bool (dir || (decide (n = 0) && (Nm.targetR t.toList).2.2.1)), .int .i64 0]) ∧
        ((Nm.targetR t.toList).2.1 = false → va = vat) ∧ ((Nm.targetR t.toList).2.1 = true → w'.ownsRow w.heap.size 32 4 va 1 (cNds [rootNd])) ∧
        w'.ownsRow w.heap.size 9 1 v' ((Nm.targetR t.toList).1.length + n) (txts ((Nm.targetR t.toList).1 ++ ls)))) := by
  have ht := target_text t
  have hl := Nm.targetR_len t.toList
  generalize Nm.targetR t.toList = R at *
  obtain ⟨ts, whole, last, er⟩ := R
  simp only at ht hl
  have HT := Lib.hid ht
  have HR := Lib.hid hr
  clear ht hr
  go_enter Tryz.func64, Tryz.ntmps64
  go_wp2_with fail
  refine (HT.out w).mono ?_
  rintro r w1 ⟨v1, rfl, hown1, hb1⟩
  have HO := Lib.hid hown1
  have HB := Lib.hid hb1
  clear hown1 hb1
  cases he : (er != 0) with
  | true =>
    go_wp2_with fail
    refine bodyPost_ret (results4 rfl _ _ _) rfl ?_
    exact ⟨HB.out, .inl ⟨by simpa using he, rfl⟩⟩
  | false =>
    have h0 : er = 0 := by simpa using he
    subst h0
    have hR1 := Lib.hid (HR.out.below HB.out)
    by_cases hz : n = 0
    · subst hz
      cases whole with
      | false =>
        cases last
        all_goals
          go_wp2_with (first | (go_at_call 60; refine (root_any _).mono ?_; rintro r w2 ⟨rfl, rfl⟩) | (at_builtin; refine wpList_append_rd rfl _ _ rfl elemTexts rfl (by first | exact HO.out | exact HO.out.alloc _) rfl (by first | exact hR1.out | exact hR1.out.alloc _) (txts_one _) ?c1 ?c2 ?c3 ?_; (case c1 => unfold maxLen; omega); (case c2 => omega); (case c3 => have := HB.out.size; simp; omega); intro v' w3 hown3 hg3 hl3))
          rw [← txts_append] at hown3
          have hbw := HB.out.grown hg3 HB.out.size (fun k hk => (HO.out.lt k hk).1)
          refine bodyPost_ret (results4 rfl _ _ _) rfl ?_
          exact ⟨hbw, _, _, rfl, rfl, by simpa using hown3⟩
      | true =>
        cases last
        all_goals
          go_wp2_with (first | (go_at_call 60; refine (root_any _).mono ?_; rintro r w2 ⟨rfl, rfl⟩) | (at_builtin; refine wpList_append_rd rfl _ _ rfl elemTexts rfl (by first | exact HO.out | exact HO.out.alloc _) rfl (by first | exact hR1.out | exact hR1.out.alloc _) (txts_one _) ?c1 ?c2 ?c3 ?_; (case c1 => unfold maxLen; omega); (case c2 => omega); (case c3 => have := HB.out.size; simp; omega); intro v' w3 hown3 hg3 hl3))
          rw [← txts_append] at hown3
          have hbw := (HB.out.alloc HB.out.size _).grown hg3 (by have := HB.out.size; simp; omega) (fun k hk => (HO.out.lt k hk).1)
          have hrt := (own_root w1 w.heap.size HB.out.size).kept hg3 (.inr (fun q => Nat.lt_irrefl _ (HO.out.lt w1.heap.size q.symm).2))
          refine bodyPost_ret (results4 rfl _ _ _) rfl ?_
          exact ⟨hbw, _, _, rfl, hrt, by simpa using hown3⟩
    · cases whole with
      | false =>
        cases last
        all_goals
          go_wp2_with (first | (go_at_call 60; refine (root_any _).mono ?_; rintro r w2 ⟨rfl, rfl⟩) | (at_builtin; refine wpList_append_rd rfl _ _ rfl elemTexts rfl (by first | exact HO.out | exact HO.out.alloc _) rfl (by first | exact hR1.out | exact hR1.out.alloc _) (txts_one _) ?c1 ?c2 ?c3 ?_; (case c1 => unfold maxLen; omega); (case c2 => omega); (case c3 => have := HB.out.size; simp; omega); intro v' w3 hown3 hg3 hl3))
          rw [← txts_append] at hown3
          have hbw := HB.out.grown hg3 HB.out.size (fun k hk => (HO.out.lt k hk).1)
          refine bodyPost_ret (results4 rfl _ _ _) rfl ?_
          exact ⟨hbw, _, _, rfl, rfl, by simpa using hown3⟩
      | true =>
        cases last
        all_goals
          go_wp2_with (first | (go_at_call 60; refine (root_any _).mono ?_; rintro r w2 ⟨rfl, rfl⟩) | (at_builtin; refine wpList_append_rd rfl _ _ rfl elemTexts rfl (by first | exact HO.out | exact HO.out.alloc _) rfl (by first | exact hR1.out | exact hR1.out.alloc _) (txts_one _) ?c1 ?c2 ?c3 ?_; (case c1 => unfold maxLen; omega); (case c2 => omega); (case c3 => have := HB.out.size; simp; omega); intro v' w3 hown3 hg3 hl3))
          rw [← txts_append] at hown3
          have hbw := (HB.out.alloc HB.out.size _).grown hg3 (by have := HB.out.size; simp; omega) (fun k hk => (HO.out.lt k hk).1)
          have hrt := (own_root w1 w.heap.size HB.out.size).kept hg3 (.inr (fun q => Nat.lt_irrefl _ (HO.out.lt w1.heap.size q.symm).2))
          refine bodyPost_ret (results4 rfl _ _ _) rfl ?_
          exact ⟨hbw, _, _, rfl, hrt, by simpa using hown3⟩

theorem own_none (w : World) (base : Nat) (e : TypeId) (hb : base ≤ w.heap.size) : (w.alloc (.cells #[] e)).ownsRow base e 1 (.slice (some ⟨w.heap.size, 0, none⟩) 0 0) 0 [] :=
  ⟨rfl, .inr ⟨_, 0, _, rfl, hb, heap_alloc_new _ _, Nat.le_refl _, by unfold maxLen; omega, rfl, rfl⟩⟩

set_option maxHeartbeats 1000000 in
theorem cloneTexts_any (A : Option Addr) (n c : Nat) (ls : List (List UInt8)) (w : World) (hr : Rd w 1 A n (txts ls)) (hn : n ≤ 8796093022208) :
    Calls Tryz.prog 59 #[.slice A n c] w fun r w' => ∃ v, r = .returned v ∧ w'.ownsRow w.heap.size 9 1 v n (txts ls) ∧ Below w.heap.size w w' := by
  have qT : ∀ (w : World) (a : Option Addr) (n c n' c' : Nat), (binOp .eql 46 (.slice a n c) (.slice none n' c')).run Tryz.prog w = .ok (.bool a.isNone) w := fun w a n c n' c' => Lib.run_eql_slice_nil w _ _ a n c n' c' Tryz.underlying46
  have HR := Lib.hid hr
  clear hr
  go_enter Tryz.func59, Tryz.ntmps59
  cases A with
  | none =>
    have h0 : n = 0 := by
      by_cases h : 0 < n
      · obtain ⟨ad, e, _⟩ := HR.out.2 h
        cases e
      · omega
    subst h0
    have hls : txts ls = [] := List.eq_nil_of_length_eq_zero (by simpa using HR.out.1)
    go_wp2_with fail
    go_ret
    refine ⟨_, rfl, ?_, Below.refl _ _⟩
    rw [hls]
    exact World.ownsRow_nil _ _ _ _
  | some ad =>
    go_wp2_with (at_builtin; refine wpList_append_rd rfl _ _ rfl elemTexts rfl (own_none w w.heap.size 9 (Nat.le_refl _)) rfl (HR.out.alloc _) (txts_one _) ?c1 ?c2 ?c3 ?_; (case c1 => unfold maxLen; omega); (case c2 => omega); (case c3 => simp); intro v' w3 hown3 hg3 hl3)
    go_ret
    refine ⟨_, rfl, by simpa using hown3, ((Below.refl _ w).alloc (Nat.le_refl _) _).grown hg3 (by simp) (fun k hk => ?_)⟩
    injection hk with hk
    subst hk
    exact Nat.le_refl _
end Go.Proofs.YtmaadimodjnnlaaGreatDoor
