/-
  The walks of cmp.Compare at ints and at strings; the orders that they are of.
-/
import Derived.Test.YtmaadimodjnnlaaGreatDoorProg
import Derived.Test.YtmaadimodjnnlaaGreatDoorLib
import Derived.Sort.Statements
import Derived.Shelf.SlSortCmp.Insertion
import Derived.Sort.Walk0
namespace Go.Proofs.YtmaadimodjnnlaaGreatDoor
open Go.RowKit Go.Sort

def cI (a b : Int) : Int := if a < b then -1 else if b < a then 1 else 0
def cS (a b : List UInt8) : Int := if a < b then -1 else if b < a then 1 else 0

theorem isNaNI_any (a : Int) (w : World) : Calls Tryz.prog 110 #[.int .i64 a] w fun r w' => r = .returned (.bool false) ∧ w = w' := by
  go_enter Tryz.func110, Tryz.ntmps110
  go_wp2
  go_ret
  exact ⟨by simp, rfl⟩
theorem isNaNS_any (a : ByteArray) (w : World) : Calls Tryz.prog 107 #[.string a] w fun r w' => r = .returned (.bool false) ∧ w = w' := by
  go_enter Tryz.func107, Tryz.ntmps107
  go_wp2
  go_ret
  exact ⟨by simp, rfl⟩

theorem cmpI_any (a b : Int) (w : World) : Calls Tryz.prog 90 #[.int .i64 a, .int .i64 b] w fun r w' => r = .returned (.int .i64 (cI a b)) ∧ w = w' := by
  unfold cI
  by_cases h1 : a < b
  · rw [if_pos h1]
    go_enter Tryz.func90, Tryz.ntmps90
    go_wp2_with (go_at_call 110; refine (isNaNI_any _ _).mono ?_; rintro r w' ⟨rfl, rfl⟩)
    go_ret
    exact ⟨rfl, rfl⟩
  · rw [if_neg h1]
    by_cases h2 : b < a
    · rw [if_pos h2]
      go_enter Tryz.func90, Tryz.ntmps90
      go_wp2_with (go_at_call 110; refine (isNaNI_any _ _).mono ?_; rintro r w' ⟨rfl, rfl⟩)
      go_ret
      exact ⟨rfl, rfl⟩
    · rw [if_neg h2]
      go_enter Tryz.func90, Tryz.ntmps90
      go_wp2_with (go_at_call 110; refine (isNaNI_any _ _).mono ?_; rintro r w' ⟨rfl, rfl⟩)
      go_ret
      exact ⟨rfl, rfl⟩

theorem bl_eq (x y : List UInt8) : Op.bytesLess x y = decide (x < y) := bytesLess_eq x y

theorem cmpS_any (a b : ByteArray) (w : World) : Calls Tryz.prog 82 #[.string a, .string b] w fun r w' => r = .returned (.int .i64 (cS a.toList b.toList)) ∧ w = w' := by
  obtain ⟨v, hv⟩ : ∃ v, cS a.toList b.toList = v := ⟨_, rfl⟩
  rw [hv]
  unfold cS at hv
  cases h : Op.bytesLess a.toList b.toList with
  | true =>
    have h1 : a.toList < b.toList := by rw [bl_eq] at h; simpa using h
    rw [if_pos h1] at hv
    subst hv
    clear h1
    go_enter Tryz.func82, Tryz.ntmps82
    go_wp2_with (go_at_call 107; refine (isNaNS_any _ _).mono ?_; rintro r w' ⟨rfl, rfl⟩)
    go_ret
    exact ⟨rfl, rfl⟩
  | false =>
    have h1 : ¬ a.toList < b.toList := by rw [bl_eq] at h; simpa using h
    rw [if_neg h1] at hv
    cases h2 : (a.toList == b.toList) with
    | true =>
      have h3 : a.toList = b.toList := by simpa using h2
      rw [if_neg (by rw [← h3]; rw [← h3] at h1; exact h1)] at hv
      subst hv
      clear h1 h3
      go_enter Tryz.func82, Tryz.ntmps82
      go_wp2_with (go_at_call 107; refine (isNaNS_any _ _).mono ?_; rintro r w' ⟨rfl, rfl⟩)
      go_ret
      exact ⟨rfl, rfl⟩
    | false =>
      have h3 : a.toList ≠ b.toList := by simpa using h2
      have h4 : b.toList < a.toList := Classical.byContradiction fun h4 => h3 (List.le_antisymm h4 h1)
      rw [if_pos h4] at hv
      subst hv
      clear h1 h3 h4
      go_enter Tryz.func82, Tryz.ntmps82
      go_wp2_with (go_at_call 107; refine (isNaNS_any _ _).mono ?_; rintro r w' ⟨rfl, rfl⟩)
      go_ret
      exact ⟨rfl, rfl⟩

/-! ## Orders -/
theorem cI_lt (a b : Int) : decide (cI a b < 0) = decide (a < b) := by
  unfold cI
  by_cases h1 : a < b
  · simp [h1]
  · by_cases h2 : b < a <;> simp [h1, h2]
theorem cS_lt (a b : List UInt8) : decide (cS a b < 0) = decide (a < b) := by
  unfold cS
  by_cases h1 : a < b
  · simp [h1]
  · by_cases h2 : b < a <;> simp [h1, h2]

theorem swoI {α : Type} (f : α → Int) : SWO (ltOf fun x y => cI (f x) (f y)) := by
  have e : ∀ x y, ltOf (fun x y => cI (f x) (f y)) x y = decide (f x < f y) := fun x y => cI_lt _ _
  refine ⟨fun x => by rw [e]; simp, fun x y z h1 h2 => ?_, fun x y z h1 h2 => ?_⟩
  · rw [e] at *
    simp at *
    omega
  · rw [e] at *
    simp at *
    omega
theorem swoS {α : Type} (f : α → List UInt8) : SWO (ltOf fun x y => cS (f x) (f y)) := by
  have e : ∀ x y, ltOf (fun x y => cS (f x) (f y)) x y = decide (f x < f y) := fun x y => cS_lt _ _
  refine ⟨fun x => by rw [e]; simp, fun x y z h1 h2 => ?_, fun x y z h1 h2 => ?_⟩
  · rw [e] at *
    simp only [decide_eq_true_eq] at *
    exact List.lt_trans h1 h2
  · rw [e] at *
    simp only [decide_eq_false_iff_not] at *
    exact List.le_trans h2 h1
end Go.Proofs.YtmaadimodjnnlaaGreatDoor
