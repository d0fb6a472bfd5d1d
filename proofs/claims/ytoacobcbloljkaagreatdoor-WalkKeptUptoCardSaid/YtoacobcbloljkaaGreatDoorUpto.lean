/-
  What the bound of a second form gives for a slice of texts.
-/
import Derived.Test.YtoacobcbloljkaaGreatDoorRows
namespace Go.Proofs.YtoacobcbloljkaaGreatDoor


theorem upto_one {H : Type} (d : DataW H) : 1 ≤ Rows.uptoBulk d := by
  cases d with
  | lit l => cases l <;> simp [Rows.uptoBulk]
  | nil => simp [Rows.uptoBulk]
  | ptr d => simp [Rows.uptoBulk]
  | slice elems spare => simp [Rows.uptoBulk]
  | agg parts => simp [Rows.uptoBulk]
  | iface t d => simp [Rows.uptoBulk]
  | map entries => simp [Rows.uptoBulk]
  | held h => simp [Rows.uptoBulk]

theorem upto_part {H : Type} {d : DataW H} {l : List (DataW H)} (h : d ∈ l) : Rows.uptoBulk d ≤ Rows.uptoBulkAll l := by
  induction l with
  | nil => cases h
  | cons x r ih =>
    unfold Rows.uptoBulkAll
    rcases List.mem_cons.1 h with rfl | h
    · omega
    · have := ih h
      omega

theorem upto_len {H : Type} (l : List (DataW H)) : l.length ≤ Rows.uptoBulkAll l := by
  induction l with
  | nil => simp
  | cons x r ih =>
    have := upto_one x
    unfold Rows.uptoBulkAll
    rw [List.length_cons]
    omega

theorem texts_small {H : Type} {l : List (DataW H)} (hk : Rows.uptoSmall H l = true) {n : Nat} {d : DataW H} (hd : d ∈ l) (hn : n = 0 ∨ ∃ elems spare, d = .slice elems spare ∧ elems.length = n) : n ≤ 1048576 := by
  have hb : Rows.uptoBulkAll l ≤ 1048576 := of_decide_eq_true hk
  rcases hn with rfl | ⟨elems, spare, rfl, rfl⟩
  · exact Nat.zero_le _
  · have h1 := upto_part hd
    have h2 := upto_len elems
    unfold Rows.uptoBulk at h1
    exact Nat.le_trans h2 (Nat.le_trans (Nat.le_trans (Nat.le_add_right _ _) (Nat.le_trans (Nat.le_add_right _ _) h1)) hb)
end Go.Proofs.YtoacobcbloljkaaGreatDoor
