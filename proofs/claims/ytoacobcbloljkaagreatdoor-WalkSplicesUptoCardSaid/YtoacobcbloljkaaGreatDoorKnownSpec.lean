/-
  What a walk comes to hangs on the keys that it used, and on the wanted one, alone. No program in it.
-/
import Derived.Test.YtoacobcbloljkaaGreatDoorWalkLow
namespace Go.Proofs.YtoacobcbloljkaaGreatDoor
namespace Wk
open Go.RowKit

def outUsed (o : Out) : List Key := o.2.2.2.2
/-- The keys that an answer hangs on. -/
def touches (o : Out) (k : Key) : Prop := k ∈ o.2.2.2.2 ∨ (o.1 = true ∧ o.2.1 = k)

theorem steps_used (kn : Key → Option En) (follow : Bool) : ∀ (links n : Nat) (todo : List (List UInt8)) (way : List Nd) (dir : Bool) (used : List Key), todo.length = n → ∀ k ∈ used, k ∈ outUsed (steps kn follow links todo way dir used) := by
  intro links
  induction links with
  | zero =>
    intro n
    induction n with
    | zero =>
      intro todo way dir used hl k hk
      obtain rfl := List.eq_nil_of_length_eq_zero hl
      rw [steps]
      split <;> exact hk
    | succ n ih =>
      intro todo way dir used hl k hk
      match todo, hl with
      | s :: todo, hl =>
        have hl' : todo.length = n := by simpa using hl
        rw [steps.eq_def]
        simp only
        split
        · exact hk
        split
        · exact ih _ _ _ _ hl' k hk
        split
        · exact ih _ _ _ _ hl' k hk
        split
        · exact hk
        split
        · exact List.mem_append_left _ hk
        split
        · exact ih _ _ _ _ hl' k (List.mem_append_left _ hk)
        · exact List.mem_append_left _ hk
  | succ links IH =>
    intro n
    induction n with
    | zero =>
      intro todo way dir used hl k hk
      obtain rfl := List.eq_nil_of_length_eq_zero hl
      rw [steps]
      split <;> exact hk
    | succ n ih =>
      intro todo way dir used hl k hk
      match todo, hl with
      | s :: todo, hl =>
        have hl' : todo.length = n := by simpa using hl
        rw [steps.eq_def]
        simp only
        split
        · exact hk
        split
        · exact ih _ _ _ _ hl' k hk
        split
        · exact ih _ _ _ _ hl' k hk
        split
        · exact hk
        split
        · exact List.mem_append_left _ hk
        split
        · exact ih _ _ _ _ hl' k (List.mem_append_left _ hk)
        split
        · exact List.mem_append_left _ hk
        · exact IH _ _ _ _ _ rfl k (List.mem_append_left _ hk)

theorem steps_same (kn kn' : Key → Option En) (follow : Bool) : ∀ (links n : Nat) (todo : List (List UInt8)) (way : List Nd) (dir : Bool) (used : List Key), todo.length = n →
    (∀ k, touches (steps kn follow links todo way dir used) k → kn' k = kn k) → steps kn' follow links todo way dir used = steps kn follow links todo way dir used := by
  intro links
  induction links with
  | zero =>
    intro n
    induction n with
    | zero =>
      intro todo way dir used hl h
      obtain rfl := List.eq_nil_of_length_eq_zero hl
      rw [steps, steps]
    | succ n ih =>
      intro todo way dir used hl h
      match todo, hl with
      | s :: todo, hl =>
        have hl' : todo.length = n := by simpa using hl
        by_cases h1 : (lastNd way).2.1 ≠ 1
        · rw [steps_notdir kn' follow 0 s todo dir used rfl h1, steps_notdir kn follow 0 s todo dir used rfl h1]
        have hd : (lastNd way).2.1 = 1 := Decidable.not_not.1 h1
        by_cases h2 : s = [46, 46]
        · subst h2
          rw [steps_up kn follow 0 todo dir used rfl hd] at h ⊢
          rw [steps_up kn' follow 0 todo dir used rfl hd]
          exact ih _ _ _ _ hl' h
        by_cases h3 : s = [46]
        · subst h3
          rw [steps_dot kn follow 0 todo dir used rfl hd] at h ⊢
          rw [steps_dot kn' follow 0 todo dir used rfl hd]
          exact ih _ _ _ _ hl' h
        rw [steps_name kn follow 0 todo dir used rfl hd h2 h3] at h ⊢
        rw [steps_name kn' follow 0 todo dir used rfl hd h2 h3]
        cases hk : kn ((lastNd way).1, s) with
        | none =>
          rw [hk] at h
          have := h ((lastNd way).1, s) (.inr ⟨rfl, rfl⟩)
          rw [this, hk]
        | some y =>
          rw [hk] at h
          have hy : kn' ((lastNd way).1, s) = some y := by
            rw [← hk]
            refine h _ (.inl ?_)
            have hm : ((lastNd way).1, s) ∈ used ++ [((lastNd way).1, s)] := List.mem_append_right _ (.head _)
            simp only
            split
            · exact hm
            split
            · exact steps_used kn follow 0 _ _ _ _ _ rfl _ hm
            · exact hm
          rw [hy]
          simp only at h ⊢
          split
          · rfl
          split
          · rename_i ha hb
            rw [if_neg ha, if_pos hb] at h
            exact ih _ _ _ _ hl' h
          · rfl
  | succ links IH =>
    intro n
    induction n with
    | zero =>
      intro todo way dir used hl h
      obtain rfl := List.eq_nil_of_length_eq_zero hl
      rw [steps, steps]
    | succ n ih =>
      intro todo way dir used hl h
      match todo, hl with
      | s :: todo, hl =>
        have hl' : todo.length = n := by simpa using hl
        by_cases h1 : (lastNd way).2.1 ≠ 1
        · rw [steps_notdir kn' follow (links + 1) s todo dir used rfl h1, steps_notdir kn follow (links + 1) s todo dir used rfl h1]
        have hd : (lastNd way).2.1 = 1 := Decidable.not_not.1 h1
        by_cases h2 : s = [46, 46]
        · subst h2
          rw [steps_up kn follow (links + 1) todo dir used rfl hd] at h ⊢
          rw [steps_up kn' follow (links + 1) todo dir used rfl hd]
          exact ih _ _ _ _ hl' h
        by_cases h3 : s = [46]
        · subst h3
          rw [steps_dot kn follow (links + 1) todo dir used rfl hd] at h ⊢
          rw [steps_dot kn' follow (links + 1) todo dir used rfl hd]
          exact ih _ _ _ _ hl' h
        rw [steps_name kn follow (links + 1) todo dir used rfl hd h2 h3] at h ⊢
        rw [steps_name kn' follow (links + 1) todo dir used rfl hd h2 h3]
        cases hk : kn ((lastNd way).1, s) with
        | none =>
          rw [hk] at h
          have := h ((lastNd way).1, s) (.inr ⟨rfl, rfl⟩)
          rw [this, hk]
        | some y =>
          rw [hk] at h
          have hy : kn' ((lastNd way).1, s) = some y := by
            rw [← hk]
            refine h _ (.inl ?_)
            have hm : ((lastNd way).1, s) ∈ used ++ [((lastNd way).1, s)] := List.mem_append_right _ (.head _)
            simp only
            split
            · exact hm
            split
            · exact steps_used kn follow (links + 1) _ _ _ _ _ rfl _ hm
            split
            · exact hm
            · exact steps_used kn follow links _ _ _ _ _ rfl _ hm
          rw [hy]
          simp only at h ⊢
          split
          · rfl
          split
          · rename_i ha hb
            rw [if_neg ha, if_pos hb] at h
            exact ih _ _ _ _ hl' h
          split
          · rfl
          · rename_i ha hb hc
            rw [if_neg ha, if_neg hb, if_neg hc] at h
            exact IH _ _ _ _ _ rfl h

theorem walk_same {kn kn' : Key → Option En} {p : List UInt8} {follow : Bool} {links : Nat} (h : ∀ k, touches (walk kn p follow links) k → kn' k = kn k) : walk kn' p follow links = walk kn p follow links := by
  unfold walk at *
  by_cases h1 : (Nm.splitR p).2.2 ≠ 0
  · rw [if_pos h1, if_pos h1]
  · rw [if_neg h1] at h ⊢
    rw [if_neg h1]
    exact steps_same kn kn' follow _ _ _ _ _ _ rfl h
end Wk
end Go.Proofs.YtoacobcbloljkaaGreatDoor
