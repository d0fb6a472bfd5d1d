/-
  Plain laws of walks: dots, ways on, more knowledge, whole trees. No program in it.
-/
import Derived.Test.YtoacobcbloljkaaGreatDoorKnownSpec
import Derived.Test.YtoacobcbloljkaaGreatDoorTreeLoadP
namespace Go.Proofs.YtoacobcbloljkaaGreatDoor
open Go.RowKit
namespace Wk

theorem ind {motive : Nat → List (List UInt8) → Prop} (h : ∀ links todo, (∀ t' : List (List UInt8), t'.length < todo.length → motive links t') → (∀ l', l' < links → ∀ t', motive l' t') → motive links todo) (links : Nat) (todo : List (List UInt8)) : motive links todo := by
  induction links using Nat.strongRecOn generalizing todo with
  | _ links IH =>
    generalize hn : todo.length = n
    induction n using Nat.strongRecOn generalizing todo with
    | _ n ih =>
      subst hn
      exact h links todo (fun t' ht => ih _ ht t' rfl) (fun l' hl t' => IH l' hl t')

def addU (u : List Key) (o : Out) : Out := (o.1, o.2.1, o.2.2.1, o.2.2.2.1, u ++ o.2.2.2.2)
theorem addU_fail (u : List Key) (e : Int) (used : List Key) : addU u (fail e used) = fail e (u ++ used) := rfl

/-- Used keys are only laid on. -/
theorem steps_pre (kn : Key → Option En) (follow : Bool) (u : List Key) : ∀ (links : Nat) (todo : List (List UInt8)) (way : List Nd) (dir : Bool) (used : List Key), steps kn follow links todo way dir (u ++ used) = addU u (steps kn follow links todo way dir used) := by
  refine ind fun links todo ihT ihL => ?_
  intro way dir used
  cases todo with
  | nil =>
    rw [steps, steps]
    split <;> rfl
  | cons s todo =>
    have hT := ihT todo (by simp)
    by_cases hd : (lastNd way).2.1 = 1
    · by_cases h1 : s = [46, 46]
      · subst h1
        rw [steps_up kn follow links todo dir _ rfl hd, steps_up kn follow links todo dir _ rfl hd, hT]
      · by_cases h2 : s = [46]
        · subst h2
          rw [steps_dot kn follow links todo dir _ rfl hd, steps_dot kn follow links todo dir _ rfl hd, hT]
        · rw [steps_name kn follow links todo dir (u ++ used) rfl hd h1 h2, steps_name kn follow links todo dir used rfl hd h1 h2]
          cases kn ((lastNd way).1, s) with
          | none => rfl
          | some y =>
            simp only [List.append_assoc]
            by_cases hn : y.2.1 = true
            · rw [if_pos hn, if_pos hn, addU_fail]
            · rw [if_neg hn, if_neg hn]
              by_cases hk : y.2.2.2.1 ≠ 3 ∨ (todo = [] ∧ dir = false ∧ follow = false)
              · rw [if_pos hk, if_pos hk, hT]
              · rw [if_neg hk, if_neg hk]
                cases links with
                | zero => rfl
                | succ links =>
                  simp only
                  by_cases ht : (Nm.targetR y.2.2.2.2.2).2.2.2 ≠ 0
                  · rw [if_pos ht, if_pos ht, addU_fail]
                  · rw [if_neg ht, if_neg ht]
                    exact ihL links (Nat.lt_succ_self _) _ _ _ _
    · rw [steps_notdir kn follow links s todo dir _ rfl hd, steps_notdir kn follow links s todo dir _ rfl hd, addU_fail]
theorem steps_pre0 (kn : Key → Option En) (follow : Bool) (u : List Key) (links : Nat) (todo : List (List UInt8)) (way : List Nd) (dir : Bool) : steps kn follow links todo way dir u = addU u (steps kn follow links todo way dir []) := by
  have := steps_pre kn follow u links todo way dir []
  rwa [List.append_nil] at this
theorem used_pre (kn : Key → Option En) (follow : Bool) (u : List Key) (links : Nat) (todo : List (List UInt8)) (way : List Nd) (dir : Bool) : u <+: outUsed (steps kn follow links todo way dir u) := by
  rw [steps_pre0]
  exact List.prefix_append _ _

/-- A dot ahead of another component. -/
theorem steps_ins (kn : Key → Option En) (follow : Bool) {b : List (List UInt8)} (hb : b ≠ []) : ∀ (links : Nat) (a : List (List UInt8)) (way : List Nd) (dir : Bool) (used : List Key), steps kn follow links (a ++ [46] :: b) way dir used = steps kn follow links (a ++ b) way dir used := by
  refine ind fun links a ihT ihL => ?_
  intro way dir used
  cases a with
  | nil =>
    cases b with
    | nil => exact absurd rfl hb
    | cons s b =>
      show steps kn follow links ([46] :: s :: b) way dir used = steps kn follow links (s :: b) way dir used
      by_cases hd : (lastNd way).2.1 = 1
      · rw [steps_dot kn follow links _ dir _ rfl hd]
      · rw [steps_notdir kn follow links _ _ dir _ rfl hd, steps_notdir kn follow links _ _ dir _ rfl hd]
  | cons s a =>
    have hT := ihT a (by simp)
    have e1 : a ++ [46] :: b ≠ [] := by simp
    have e2 : a ++ b ≠ [] := by simp [hb]
    rw [List.cons_append, List.cons_append]
    by_cases hd : (lastNd way).2.1 = 1
    · by_cases h1 : s = [46, 46]
      · subst h1
        rw [steps_up kn follow links (a ++ [46] :: b) dir _ rfl hd, steps_up kn follow links (a ++ b) dir _ rfl hd, hT]
      · by_cases h2 : s = [46]
        · subst h2
          rw [steps_dot kn follow links (a ++ [46] :: b) dir _ rfl hd, steps_dot kn follow links (a ++ b) dir _ rfl hd, hT]
        · rw [steps_name kn follow links (a ++ [46] :: b) dir used rfl hd h1 h2, steps_name kn follow links (a ++ b) dir used rfl hd h1 h2]
          cases kn ((lastNd way).1, s) with
          | none => rfl
          | some y =>
            simp only [e1, e2, false_and, or_false, decide_false, Bool.false_and, Bool.or_false]
            rw [hT]
            cases links with
            | zero => rfl
            | succ links =>
              simp only
              rw [← List.append_assoc, ihL links (Nat.lt_succ_self _), List.append_assoc]
    · rw [steps_notdir kn follow links _ _ dir _ rfl hd, steps_notdir kn follow links _ _ dir _ rfl hd]

/-- A way that leads to a directory goes on from there. -/
theorem steps_app (kn : Key → Option En) : ∀ (links : Nat) (ss : List (List UInt8)) (way : List Nd) (used : List Key), way ≠ [] → (steps kn true links ss way true used).2.2.1 = 0 → (steps kn true links ss way true used).2.2.2.1.2.1 = 1 →
    ∃ (links' : Nat) (way' : List Nd) (used' : List Key), way' ≠ [] ∧ (lastNd way').2.1 = 1 ∧ steps kn true links ss way true used = (false, noKey, 0, lastNd way', used') ∧ ∀ more, steps kn true links (ss ++ more) way true used = steps kn true links' more way' true used' := by
  refine ind fun links ss ihT ihL => ?_
  intro way used hw h0 hk1
  cases ss with
  | nil =>
    by_cases hk : (lastNd way).2.1 = 1
    · exact ⟨links, way, used, hw, hk, by rw [steps]; simp [hk], fun more => rfl⟩
    · rw [steps, if_pos ⟨rfl, hk⟩] at h0
      cases h0
  | cons s ss =>
    have hT := ihT ss (by simp)
    by_cases hd : (lastNd way).2.1 = 1
    · by_cases h1 : s = [46, 46]
      · subst h1
        rw [steps_up kn true links ss true _ rfl hd] at h0 hk1 ⊢
        obtain ⟨l', w', u', a1, a2, a3, a4⟩ := hT (up way) used (by unfold up; split; exact hw; rename_i h; intro q; have := congrArg List.length q; simp at this; omega) h0 hk1
        refine ⟨l', w', u', a1, a2, a3, fun more => ?_⟩
        rw [List.cons_append, steps_up kn true links (ss ++ more) true _ rfl hd, a4]
      · by_cases h2 : s = [46]
        · subst h2
          rw [steps_dot kn true links ss true _ rfl hd] at h0 hk1 ⊢
          obtain ⟨l', w', u', a1, a2, a3, a4⟩ := hT way used hw h0 hk1
          refine ⟨l', w', u', a1, a2, a3, fun more => ?_⟩
          rw [List.cons_append, steps_dot kn true links (ss ++ more) true _ rfl hd, a4]
        · rw [steps_name kn true links ss true used rfl hd h1 h2] at h0 hk1 ⊢
          have hm := fun more => steps_name kn true links (ss ++ more) true used rfl hd h1 h2
          cases hq : kn ((lastNd way).1, s) with
          | none =>
            rw [hq] at hk1
            cases hk1
          | some y =>
            rw [hq] at h0 hk1
            simp only [hq] at hm
            simp only [Bool.true_eq_false, and_false, or_false, Bool.true_or] at h0 hk1 hm ⊢
            by_cases hn : y.2.1 = true
            · rw [if_pos hn] at h0
              cases h0
            · simp only [if_neg hn] at h0 hk1 hm ⊢
              by_cases h3 : y.2.2.2.1 ≠ 3
              · simp only [if_pos h3] at h0 hk1 hm ⊢
                obtain ⟨l', w', u', a1, a2, a3, a4⟩ := hT _ _ (by simp) h0 hk1
                exact ⟨l', w', u', a1, a2, a3, fun more => by rw [List.cons_append, hm, a4]⟩
              · simp only [if_neg h3] at h0 hk1 hm ⊢
                cases links with
                | zero => cases h0
                | succ links =>
                  simp only at h0 hk1 hm ⊢
                  by_cases ht : (Nm.targetR y.2.2.2.2.2).2.2.2 ≠ 0
                  · rw [if_pos ht] at h0
                    exact absurd h0 ht
                  · simp only [if_neg ht] at h0 hk1 hm ⊢
                    obtain ⟨l', w', u', a1, a2, a3, a4⟩ := ihL links (Nat.lt_succ_self _) _ _ _ (by split <;> simp [hw]) h0 hk1
                    exact ⟨l', w', u', a1, a2, a3, fun more => by rw [List.cons_append, hm, ← a4, List.append_assoc]⟩
    · rw [steps_notdir kn true links s ss true _ rfl hd] at h0
      cases h0

/-- What is wanted is not known. -/
theorem steps_none (kn : Key → Option En) (follow : Bool) : ∀ (links : Nat) (todo : List (List UInt8)) (way : List Nd) (dir : Bool) (used : List Key), (steps kn follow links todo way dir used).1 = true → kn (steps kn follow links todo way dir used).2.1 = none := by
  refine ind fun links todo ihT ihL => ?_
  intro way dir used h
  cases todo with
  | nil =>
    rw [steps] at h
    split at h <;> cases h
  | cons s todo =>
    have hT := ihT todo (by simp)
    by_cases hd : (lastNd way).2.1 = 1
    · by_cases h1 : s = [46, 46]
      · subst h1
        rw [steps_up kn follow links todo dir _ rfl hd] at h ⊢
        exact hT _ _ _ h
      · by_cases h2 : s = [46]
        · subst h2
          rw [steps_dot kn follow links todo dir _ rfl hd] at h ⊢
          exact hT _ _ _ h
        · rw [steps_name kn follow links todo dir used rfl hd h1 h2] at h ⊢
          cases hq : kn ((lastNd way).1, s) with
          | none => exact hq
          | some y =>
            simp only [hq] at h ⊢
            by_cases hn : y.2.1 = true
            · rw [if_pos hn] at h; cases h
            · simp only [if_neg hn] at h ⊢
              by_cases hk : y.2.2.2.1 ≠ 3 ∨ (todo = [] ∧ dir = false ∧ follow = false)
              · simp only [if_pos hk] at h ⊢
                exact hT _ _ _ h
              · simp only [if_neg hk] at h ⊢
                cases links with
                | zero => cases h
                | succ links =>
                  simp only at h ⊢
                  by_cases ht : (Nm.targetR y.2.2.2.2.2).2.2.2 ≠ 0
                  · rw [if_pos ht] at h; cases h
                  · simp only [if_neg ht] at h ⊢
                    exact ihL links (Nat.lt_succ_self _) _ _ _ _ h
    · rw [steps_notdir kn follow links s todo dir _ rfl hd] at h
      cases h

/-- What was used is known. -/
theorem steps_known (kn : Key → Option En) (follow : Bool) : ∀ (links : Nat) (todo : List (List UInt8)) (way : List Nd) (dir : Bool) (used : List Key), (∀ k ∈ used, (kn k).isSome = true) → ∀ k ∈ outUsed (steps kn follow links todo way dir used), (kn k).isSome = true := by
  refine ind fun links todo ihT ihL => ?_
  intro way dir used hu
  cases todo with
  | nil =>
    rw [steps]
    split <;> exact hu
  | cons s todo =>
    have hT := ihT todo (by simp)
    by_cases hd : (lastNd way).2.1 = 1
    · by_cases h1 : s = [46, 46]
      · subst h1
        rw [steps_up kn follow links todo dir _ rfl hd]
        exact hT _ _ _ hu
      · by_cases h2 : s = [46]
        · subst h2
          rw [steps_dot kn follow links todo dir _ rfl hd]
          exact hT _ _ _ hu
        · rw [steps_name kn follow links todo dir used rfl hd h1 h2]
          cases hq : kn ((lastNd way).1, s) with
          | none => exact hu
          | some y =>
            have hu' : ∀ k ∈ used ++ [((lastNd way).1, s)], (kn k).isSome = true := fun k hk => by
              rcases List.mem_append.1 hk with hk | hk
              · exact hu k hk
              · rw [List.mem_singleton.1 hk, hq]; rfl
            simp only
            by_cases hn : y.2.1 = true
            · rw [if_pos hn]; exact hu'
            · rw [if_neg hn]
              by_cases hk : y.2.2.2.1 ≠ 3 ∨ (todo = [] ∧ dir = false ∧ follow = false)
              · rw [if_pos hk]
                exact hT _ _ _ hu'
              · rw [if_neg hk]
                cases links with
                | zero => exact hu'
                | succ links =>
                  simp only
                  by_cases ht : (Nm.targetR y.2.2.2.2.2).2.2.2 ≠ 0
                  · rw [if_pos ht]; exact hu'
                  · rw [if_neg ht]
                    exact ihL links (Nat.lt_succ_self _) _ _ _ _ hu'
    · rw [steps_notdir kn follow links s todo dir _ rfl hd]
      exact hu

/-- More is known: what was used is used, and the wanted key behind it. -/
theorem steps_more (kn kn' : Key → Option En) (hsub : ∀ k y, kn k = some y → kn' k = some y) (follow : Bool) : ∀ (links : Nat) (todo : List (List UInt8)) (way : List Nd) (dir : Bool) (used : List Key), (steps kn follow links todo way dir used).1 = true →
    (kn' (steps kn follow links todo way dir used).2.1).isSome = true → (outUsed (steps kn follow links todo way dir used) ++ [(steps kn follow links todo way dir used).2.1]) <+: outUsed (steps kn' follow links todo way dir used) := by
  refine ind fun links todo ihT ihL => ?_
  intro way dir used h h'
  cases todo with
  | nil =>
    rw [steps] at h
    split at h <;> cases h
  | cons s todo =>
    have hT := ihT todo (by simp)
    by_cases hd : (lastNd way).2.1 = 1
    · by_cases h1 : s = [46, 46]
      · subst h1
        rw [steps_up kn follow links todo dir _ rfl hd] at h h' ⊢
        rw [steps_up kn' follow links todo dir _ rfl hd]
        exact hT _ _ _ h h'
      · by_cases h2 : s = [46]
        · subst h2
          rw [steps_dot kn follow links todo dir _ rfl hd] at h h' ⊢
          rw [steps_dot kn' follow links todo dir _ rfl hd]
          exact hT _ _ _ h h'
        · rw [steps_name kn follow links todo dir used rfl hd h1 h2] at h h' ⊢
          rw [steps_name kn' follow links todo dir used rfl hd h1 h2]
          cases hq : kn ((lastNd way).1, s) with
          | none =>
            simp only [hq] at h' ⊢
            obtain ⟨y, hy⟩ := Option.isSome_iff_exists.1 h'
            simp only [hy]
            have hp : ∀ l t w d, (used ++ [((lastNd way).1, s)]) <+: outUsed (steps kn' follow l t w d (used ++ [((lastNd way).1, s)])) := fun l t w d => used_pre _ _ _ _ _ _ _
            by_cases hn : y.2.1 = true
            · rw [if_pos hn]; exact List.prefix_refl _
            · rw [if_neg hn]
              by_cases hk : y.2.2.2.1 ≠ 3 ∨ (todo = [] ∧ dir = false ∧ follow = false)
              · rw [if_pos hk]; exact hp _ _ _ _
              · rw [if_neg hk]
                cases links with
                | zero => exact List.prefix_refl _
                | succ links =>
                  simp only
                  by_cases ht : (Nm.targetR y.2.2.2.2.2).2.2.2 ≠ 0
                  · rw [if_pos ht]; exact List.prefix_refl _
                  · rw [if_neg ht]; exact hp _ _ _ _
          | some y =>
            simp only [hq, hsub _ _ hq] at h h' ⊢
            by_cases hn : y.2.1 = true
            · rw [if_pos hn] at h; cases h
            · simp only [if_neg hn] at h h' ⊢
              by_cases hk : y.2.2.2.1 ≠ 3 ∨ (todo = [] ∧ dir = false ∧ follow = false)
              · simp only [if_pos hk] at h h' ⊢
                exact hT _ _ _ h h'
              · simp only [if_neg hk] at h h' ⊢
                cases links with
                | zero => cases h
                | succ links =>
                  simp only at h h' ⊢
                  by_cases ht : (Nm.targetR y.2.2.2.2.2).2.2.2 ≠ 0
                  · rw [if_pos ht] at h; cases h
                  · simp only [if_neg ht] at h h' ⊢
                    exact ihL links (Nat.lt_succ_self _) _ _ _ _ h h'
    · rw [steps_notdir kn follow links s todo dir _ rfl hd] at h
      cases h

/-! ## How many keys -/
theorem comps_half (l : List UInt8) : 2 * (Nm.comps l).length ≤ l.length + (if (Nm.segs l).head? = some [] then 0 else 1) := by
  induction l with
  | nil => simp [Nm.comps, Nm.segs]
  | cons c l ih =>
    by_cases h : c = 47
    · subst h
      rw [Nm.comps_slash, Nm.segs_slash]
      simp only [List.head?_cons, if_true, List.length_cons]
      split at ih <;> omega
    · obtain ⟨x, t, h1, h2⟩ := Nm.segs_other l h
      rw [h2]
      rw [h1] at ih
      unfold Nm.comps at ih ⊢
      rw [h2]
      rw [h1] at ih
      cases x with
      | nil =>
        simp only [List.filter_cons, List.isEmpty_nil, List.isEmpty_cons, Bool.not_true, Bool.not_false, Bool.false_eq_true, if_false, if_true, List.head?_cons, List.length_cons] at ih ⊢
        simp only [Option.some.injEq, reduceCtorEq, if_false]
        omega
      | cons b x =>
        simp only [List.filter_cons, List.isEmpty_cons, Bool.not_false, if_true, List.head?_cons, List.length_cons, Option.some.injEq, reduceCtorEq, if_false] at ih ⊢
        omega
theorem comps_48 {l : List UInt8} (h : l.length ≤ 96) : (Nm.comps l).length ≤ 48 := by
  have := comps_half l
  split at this <;> omega
theorem splitR_48 (l : List UInt8) : (Nm.splitR l).1.length ≤ 48 := by
  by_cases h : (Nm.splitR l).2.2 = 0
  · obtain ⟨h1, h2, _⟩ := Nm.splitR_ok h
    rw [h1]
    exact comps_48 h2
  · rw [(Nm.splitR_bad h).1]
    simp
theorem targetR_ok {l : List UInt8} (h : (Nm.targetR l).2.2.2 = 0) : (Nm.targetR l).1 = Nm.comps l ∧ l.length ≤ 96 ∧ Nm.longB l = false ∧ l.contains 0 = false := by
  unfold Nm.targetR at h ⊢
  split at h
  · simp at h
  · rename_i h96
    rw [if_neg h96]
    split at h
    · simp at h
    · rename_i hz
      rw [if_neg hz]
      split at h
      · simp at h
      · rename_i hl
        rw [if_neg hl]
        simp only [not_or, Bool.not_eq_true] at hz
        exact ⟨rfl, by omega, by simpa using hl, hz.2⟩
theorem targetR_48 {l : List UInt8} (h : (Nm.targetR l).2.2.2 = 0) : (Nm.targetR l).1.length ≤ 48 := by
  obtain ⟨h1, h2, _⟩ := targetR_ok h
  rw [h1]
  exact comps_48 h2

theorem steps_len (kn : Key → Option En) (follow : Bool) : ∀ (links : Nat) (todo : List (List UInt8)) (way : List Nd) (dir : Bool) (used : List Key), (outUsed (steps kn follow links todo way dir used)).length ≤ used.length + todo.length + 48 * links := by
  refine ind fun links todo ihT ihL => ?_
  intro way dir used
  cases todo with
  | nil =>
    rw [steps]
    split
    all_goals
      show used.length ≤ _
      omega
  | cons s todo =>
    have hT := fun w d u => ihT todo (by simp) w d u
    rw [List.length_cons]
    by_cases hd : (lastNd way).2.1 = 1
    · by_cases h1 : s = [46, 46]
      · subst h1
        rw [steps_up kn follow links todo dir _ rfl hd]
        have := hT (up way) dir used
        omega
      · by_cases h2 : s = [46]
        · subst h2
          rw [steps_dot kn follow links todo dir _ rfl hd]
          have := hT way dir used
          omega
        · rw [steps_name kn follow links todo dir used rfl hd h1 h2]
          cases hq : kn ((lastNd way).1, s) with
          | none =>
            show used.length ≤ _
            omega
          | some y =>
            have hf : ∀ e, (outUsed (fail e (used ++ [((lastNd way).1, s)]))).length = used.length + 1 := fun e => by simp [outUsed, fail]
            simp only
            by_cases hn : y.2.1 = true
            · rw [if_pos hn, hf]; omega
            · rw [if_neg hn]
              by_cases hk : y.2.2.2.1 ≠ 3 ∨ (todo = [] ∧ dir = false ∧ follow = false)
              · rw [if_pos hk]
                have := hT (way ++ [y.2.2]) dir (used ++ [((lastNd way).1, s)])
                simp only [List.length_append, List.length_singleton] at this
                omega
              · rw [if_neg hk]
                cases links with
                | zero =>
                  rw [hf]; omega
                | succ links =>
                  simp only
                  by_cases ht : (Nm.targetR y.2.2.2.2.2).2.2.2 ≠ 0
                  · rw [if_pos ht, hf]; omega
                  · rw [if_neg ht]
                    have := ihL links (Nat.lt_succ_self _) ((Nm.targetR y.2.2.2.2.2).1 ++ todo) (if (Nm.targetR y.2.2.2.2.2).2.1 = true then [rootNd] else way) (dir || (decide (todo = []) && (Nm.targetR y.2.2.2.2.2).2.2.1)) (used ++ [((lastNd way).1, s)])
                    have h48 := targetR_48 (l := y.2.2.2.2.2) (by omega)
                    simp only [List.length_append, List.length_singleton] at this
                    omega
    · rw [steps_notdir kn follow links s todo dir _ rfl hd]
      show used.length ≤ _
      omega
theorem walk_len (kn : Key → Option En) (p : List UInt8) (follow : Bool) {links : Nat} (hl : links ≤ 8) : (outUsed (walk kn p follow links)).length ≤ 432 := by
  unfold walk
  split
  · simp [outUsed, fail]
  · have h1 := steps_len kn follow links (Nm.splitR p).1 [rootNd] (Nm.splitR p).2.1 []
    have h2 := splitR_48 p
    simp only [List.length_nil] at h1
    omega

/-! ## Whole trees -/
def Fine (s : List UInt8) : Prop := Nm.dotsB s = true ∨ Nm.checkE s = 0
theorem fine_comps {l : List UInt8} (hl : Nm.longB l = false) (hz : l.contains 0 = false) : ∀ s ∈ Nm.comps l, Fine s := fun s hs => by
  cases h : Nm.dotsB s with
  | true => exact .inl h
  | false => exact .inr (Nm.checkE_comp hs hl hz h)
theorem fine_split {p : List UInt8} : ∀ s ∈ (Nm.splitR p).1, Fine s := fun s hs => by
  by_cases h : (Nm.splitR p).2.2 = 0
  · obtain ⟨h1, _, h3, _, h5⟩ := Nm.splitR_ok h
    rw [h1] at hs
    exact fine_comps h3 h5 s hs
  · rw [(Nm.splitR_bad h).1] at hs
    cases hs
theorem fine_target {l : List UInt8} (h : (Nm.targetR l).2.2.2 = 0) : ∀ s ∈ (Nm.targetR l).1, Fine s := fun s hs => by
  obtain ⟨h1, _, h3, h4⟩ := targetR_ok h
  rw [h1] at hs
  exact fine_comps h3 h4 s hs
theorem fine_name {s : List UInt8} (h : Fine s) (h1 : s ≠ [46, 46]) (h2 : s ≠ [46]) : Nm.checkE s = 0 := by
  rcases h with h | h
  · unfold Nm.dotsB at h
    simp [h1, h2] at h
  · exact h

/-- A way that stands in a tree. -/
def WayOk (L : List Tr.TE) (way : List Nd) : Prop := way ≠ [] ∧ ∀ n ∈ way, Tr.nodeF L n.1 = some n
theorem wayOk_root (L : List Tr.TE) : WayOk L [rootNd] := ⟨by simp, fun n hn => by rw [List.mem_singleton.1 hn]; rfl⟩
theorem lastNd_mem {way : List Nd} (h : way ≠ []) : lastNd way ∈ way := by
  unfold lastNd
  rw [List.getLastD_eq_getLast?, List.getLast?_eq_some_getLast h]
  exact List.getLast_mem h
theorem WayOk.last {L : List Tr.TE} {way : List Nd} (h : WayOk L way) : Tr.nodeF L (lastNd way).1 = some (lastNd way) := h.2 _ (lastNd_mem h.1)
theorem WayOk.dir {L : List Tr.TE} {way : List Nd} (h : WayOk L way) (hd : (lastNd way).2.1 = 1) : Tr.dirE L (lastNd way).1 = 0 := by
  unfold Tr.dirE
  rw [h.last]
  simp [hd]
theorem WayOk.up {L : List Tr.TE} {way : List Nd} (h : WayOk L way) : WayOk L (Wk.up way) := by
  unfold Wk.up
  split
  · exact h
  · rename_i hl
    refine ⟨fun q => ?_, fun n hn => h.2 n (List.dropLast_subset _ hn)⟩
    have := congrArg List.length q
    simp at this
    omega
theorem nowE_node {t : Tr.T} (hg : Tr.Good t) {k : Key} (h : (Tr.nowE t.L k).2.1 ≠ true) : Tr.nodeF t.L (Tr.nowE t.L k).2.2.1 = some (Tr.nowE t.L k).2.2 := by
  unfold Tr.nowE at h ⊢
  cases hb : Tr.byKey t.L k with
  | none => rw [hb] at h; exact absurd rfl h
  | some x => exact hg.nodeF_mem (Tr.byKey_some hb).1
theorem WayOk.snoc {t : Tr.T} (hg : Tr.Good t) {way : List Nd} (h : WayOk t.L way) {k : Key} (hn : (Tr.nowE t.L k).2.1 ≠ true) : WayOk t.L (way ++ [(Tr.nowE t.L k).2.2]) := by
  refine ⟨by simp, fun n hm => ?_⟩
  rcases List.mem_append.1 hm with hm | hm
  · exact h.2 n hm
  · rw [List.mem_singleton.1 hm]
    exact nowE_node hg hn

/-- What is wanted over a part of a tree is a place of the tree. -/
theorem steps_want {t : Tr.T} (hg : Tr.Good t) (kn : Key → Option En) (hkn : ∀ k y, kn k = some y → y = Tr.nowE t.L k) (follow : Bool) : ∀ (links : Nat) (todo : List (List UInt8)) (way : List Nd) (dir : Bool) (used : List Key), (∀ s ∈ todo, Fine s) → WayOk t.L way →
    (steps kn follow links todo way dir used).1 = true → Tr.placeE t.L (steps kn follow links todo way dir used).2.1.1 (steps kn follow links todo way dir used).2.1.2 = 0 := by
  refine ind fun links todo ihT ihL => ?_
  intro way dir used hf hw h
  cases todo with
  | nil =>
    rw [steps] at h
    split at h <;> cases h
  | cons s todo =>
    have hf' : ∀ s ∈ todo, Fine s := fun s hs => hf s (List.mem_cons_of_mem _ hs)
    have hT := fun w d u => ihT todo (by simp) w d u hf'
    by_cases hd : (lastNd way).2.1 = 1
    · by_cases h1 : s = [46, 46]
      · subst h1
        rw [steps_up kn follow links todo dir _ rfl hd] at h ⊢
        exact hT _ _ _ hw.up h
      · by_cases h2 : s = [46]
        · subst h2
          rw [steps_dot kn follow links todo dir _ rfl hd] at h ⊢
          exact hT _ _ _ hw h
        · rw [steps_name kn follow links todo dir used rfl hd h1 h2] at h ⊢
          cases hq : kn ((lastNd way).1, s) with
          | none =>
            show Tr.placeE t.L (lastNd way).1 s = 0
            rw [Tr.placeE_of_name (hw.dir hd)]
            exact fine_name (hf s (List.mem_cons_self)) h1 h2
          | some y =>
            have hy := hkn _ _ hq
            simp only [hq] at h ⊢
            by_cases hn : y.2.1 = true
            · rw [if_pos hn] at h; cases h
            · simp only [if_neg hn] at h ⊢
              by_cases hk : y.2.2.2.1 ≠ 3 ∨ (todo = [] ∧ dir = false ∧ follow = false)
              · simp only [if_pos hk] at h ⊢
                refine hT _ _ _ ?_ h
                rw [hy] at hn ⊢
                exact hw.snoc hg hn
              · simp only [if_neg hk] at h ⊢
                cases links with
                | zero => cases h
                | succ links =>
                  simp only at h ⊢
                  by_cases ht : (Nm.targetR y.2.2.2.2.2).2.2.2 ≠ 0
                  · rw [if_pos ht] at h; cases h
                  · simp only [if_neg ht] at h ⊢
                    refine ihL links (Nat.lt_succ_self _) _ _ _ _ (fun s hs => ?_) ?_ h
                    · rcases List.mem_append.1 hs with hs | hs
                      · exact fine_target (by omega) s hs
                      · exact hf' s hs
                    · split
                      · exact wayOk_root _
                      · exact hw
    · rw [steps_notdir kn follow links s todo dir _ rfl hd] at h
      cases h

/-- What a cache that holds all of a tree knows. -/
def knT (L : List Tr.TE) (k : Key) : Option En := if (Tr.nodeF L k.1).isSome = true then some (Tr.nowE L k) else none
theorem knT_some {L : List Tr.TE} {k : Key} {y : En} (h : knT L k = some y) : y = Tr.nowE L k := by
  unfold knT at h
  split at h
  · injection h with h; exact h.symm
  · cases h
theorem knT_place {L : List Tr.TE} {k : Key} (h : Tr.placeE L k.1 k.2 = 0) : knT L k = some (Tr.nowE L k) := by
  unfold knT
  rw [if_pos]
  have h1 := (Tr.placeE_zero h).1
  unfold Tr.isDir Tr.isDirN at h1
  cases hn : Tr.nodeF L k.1 with
  | none => rw [hn] at h1; cases h1
  | some n => rfl
theorem home_steps {t : Tr.T} (hg : Tr.Good t) (follow : Bool) (links : Nat) (todo : List (List UInt8)) (way : List Nd) (dir : Bool) (used : List Key) (hf : ∀ s ∈ todo, Fine s) (hw : WayOk t.L way) : (steps (knT t.L) follow links todo way dir used).1 = false := by
  cases h : (steps (knT t.L) follow links todo way dir used).1 with
  | false => rfl
  | true =>
    have h1 := steps_want hg _ (fun k y q => knT_some q) follow links todo way dir used hf hw h
    have h2 := steps_none _ follow links todo way dir used h
    rw [knT_place h1] at h2
    cases h2
theorem home_walk {t : Tr.T} (hg : Tr.Good t) (p : List UInt8) (follow : Bool) (links : Nat) : (walk (knT t.L) p follow links).1 = false := by
  unfold walk
  split
  · rfl
  · exact home_steps hg follow links _ _ _ _ fine_split (wayOk_root _)

/-! ## Asked for, told, asked again -/
/-- A part of a tree that is known. -/
def Part (t : Tr.T) (kn : Key → Option En) : Prop := ∀ k y, kn k = some y → Tr.placeE t.L k.1 k.2 = 0 ∧ y = Tr.nowE t.L k
def plus (kn : Key → Option En) (x : En) (k : Key) : Option En := if x.1 = k then some x else kn k
theorem nowE_key (L : List Tr.TE) (k : Key) : (Tr.nowE L k).1 = k := by
  unfold Tr.nowE
  split <;> rfl
theorem Part.plus {t : Tr.T} {kn : Key → Option En} (h : Part t kn) {k : Key} (hp : Tr.placeE t.L k.1 k.2 = 0) : Part t (Wk.plus kn (Tr.nowE t.L k)) := by
  intro k' y hy
  unfold Wk.plus at hy
  rw [nowE_key] at hy
  split at hy
  · rename_i e
    subst e
    injection hy with hy
    exact ⟨hp, hy.symm⟩
  · exact h k' y hy
theorem want_walk {t : Tr.T} (hg : Tr.Good t) {kn : Key → Option En} (hp : Part t kn) {p : List UInt8} {follow : Bool} {links : Nat} (h : (walk kn p follow links).1 = true) :
    Tr.placeE t.L (walk kn p follow links).2.1.1 (walk kn p follow links).2.1.2 = 0 ∧ kn (walk kn p follow links).2.1 = none := by
  unfold walk at h ⊢
  split at h
  · cases h
  · rename_i h0
    simp only [if_neg h0]
    exact ⟨steps_want hg kn (fun k y q => (hp k y q).2) follow links _ _ _ _ fine_split (wayOk_root _) h, steps_none kn follow links _ _ _ _ h⟩
theorem more_walk {kn : Key → Option En} {p : List UInt8} {follow : Bool} {links : Nat} (h : (walk kn p follow links).1 = true) {x : En} (hx : x.1 = (walk kn p follow links).2.1) :
    (outUsed (walk kn p follow links) ++ [(walk kn p follow links).2.1]) <+: outUsed (walk (plus kn x) p follow links) := by
  have hn : kn (walk kn p follow links).2.1 = none := by
    unfold walk at h ⊢
    split at h
    · cases h
    · rename_i h0
      simp only [if_neg h0]
      exact steps_none kn follow links _ _ _ _ h
  have hs : ∀ k y, kn k = some y → plus kn x k = some y := fun k y q => by
    unfold plus
    split
    · rename_i e
      rw [hx] at e
      rw [← e, hn] at q
      cases q
    · exact q
  have hp : (plus kn x (walk kn p follow links).2.1).isSome = true := by
    unfold plus
    rw [if_pos hx]
    rfl
  clear hx hn
  unfold walk at h hp ⊢
  split at h
  · cases h
  · rename_i h0
    simp only [if_neg h0] at hp ⊢
    exact steps_more kn _ hs follow links _ _ _ _ h hp
theorem used_known {kn : Key → Option En} {p : List UInt8} {follow : Bool} {links : Nat} : ∀ k ∈ outUsed (walk kn p follow links), (kn k).isSome = true := by
  unfold walk
  split
  · intro k hk; cases hk
  · exact steps_known kn follow links _ _ _ _ (fun k hk => by cases hk)
theorem unused_walk {kn : Key → Option En} {p : List UInt8} {follow : Bool} {links : Nat} (hn : kn (walk kn p follow links).2.1 = none) : (walk kn p follow links).2.1 ∉ outUsed (walk kn p follow links) := fun hm => by
  have := used_known _ hm
  rw [hn] at this
  cases this
theorem last_walk {t : Tr.T} {kn : Key → Option En} (hp : Part t kn) {p : List UInt8} {follow : Bool} {links : Nat} (h : (walk kn p follow links).1 = false) : walk (knT t.L) p follow links = walk kn p follow links := by
  refine walk_same fun k hk => ?_
  rcases hk with hk | ⟨hk, _⟩
  · obtain ⟨y, hy⟩ := Option.isSome_iff_exists.1 (used_known k hk)
    obtain ⟨h1, rfl⟩ := hp k y hy
    rw [hy, knT_place h1]
  · rw [h] at hk
    cases hk
end Wk

/-! ## A cache that is filled -/
/-- entries, whole directories, clock. -/
abbrev Cst := List (Key × (En × Int)) × List (Int × Bool) × Int
def fillStep (s : Cst) (x : En) : Cst := (alPut s.1 x.1 (x, s.2.2 + 1), alPut s.2.1 x.2.2.1 true, s.2.2 + 1)
def fill0 : Cst := ([], alPut [] 1 true, 0)
def fillS (E : List En) : Cst := E.foldl fillStep fill0
theorem fillS_step (E : List En) {j : Nat} {x : En} (h : E[j]? = some x) : fillS (E.take (j + 1)) = fillStep (fillS (E.take j)) x := by
  unfold fillS
  rw [List.take_add_one, h, List.foldl_append]
  rfl
theorem fillS_size (E : List En) : (fillS E).2.2 = E.length ∧ (fillS E).1.length ≤ E.length := by
  have : ∀ (E : List En) (s : Cst), (E.foldl fillStep s).2.2 = s.2.2 + E.length ∧ (E.foldl fillStep s).1.length ≤ s.1.length + E.length := by
    intro E
    induction E with
    | nil => intro s; simp
    | cons x E ih =>
      intro s
      obtain ⟨h1, h2⟩ := ih (fillStep s x)
      have h3 : (fillStep s x).1.length ≤ s.1.length + 1 := by
        unfold fillStep
        simp only
        rw [alLen_put]
        split <;> omega
      have h4 : (fillStep s x).2.2 = s.2.2 + 1 := rfl
      simp only [List.foldl_cons, List.length_cons]
      omega
  have h := this E fill0
  have e : fill0.2.2 = 0 := rfl
  have e2 : fill0.1.length = 0 := rfl
  unfold fillS
  omega
theorem fill_get (Z : List Tr.TE) (hk : (Z.map Prod.fst).Nodup) (s : Cst) (k : Key) :
    (alGet ((Z.map Tr.enOf).foldl fillStep s).1 k).map Prod.fst = ((Tr.byKey Z k).map Tr.enOf).or ((alGet s.1 k).map Prod.fst) := by
  induction Z generalizing s with
  | nil => simp [Tr.byKey]
  | cons x Z ih =>
    simp only [List.map_cons, List.nodup_cons] at hk
    simp only [List.map_cons, List.foldl_cons]
    rw [ih hk.2]
    by_cases h : x.1 = k
    · subst h
      have h0 : Tr.byKey Z x.1 = none := Tr.byKey_none.2 fun y hy e => hk.1 (List.mem_map.2 ⟨y, hy, e⟩)
      have h1 : Tr.byKey (x :: Z) x.1 = some x := by unfold Tr.byKey; rw [List.find?_cons_of_pos (by simp)]
      rw [h0, h1]
      simp [fillStep, alGet_put, Tr.enOf]
    · have h1 : Tr.byKey (x :: Z) k = Tr.byKey Z k := by unfold Tr.byKey; rw [List.find?_cons_of_neg (by simpa using h)]
      have h2 : (Tr.enOf x).1 ≠ k := h
      rw [h1]
      unfold fillStep
      simp only
      rw [alGet_put, if_neg h2]
theorem fill_whole (Z : List Tr.TE) (s : Cst) (d : Int) : (alGet ((Z.map Tr.enOf).foldl fillStep s).2.1 d).getD false = ((Tr.byId Z d).isSome || (alGet s.2.1 d).getD false) := by
  induction Z generalizing s with
  | nil => simp [Tr.byId]
  | cons x Z ih =>
    simp only [List.map_cons, List.foldl_cons]
    rw [ih]
    have e : (fillStep s (Tr.enOf x)).2.1 = alPut s.2.1 x.2.1 true := rfl
    rw [e, alGet_put]
    by_cases h : x.2.1 = d
    · have h1 : Tr.byId (x :: Z) d = some x := by unfold Tr.byId; rw [List.find?_cons_of_pos (by simpa using h)]
      rw [h1, if_pos h]
      simp
    · have h1 : Tr.byId (x :: Z) d = Tr.byId Z d := by unfold Tr.byId; rw [List.find?_cons_of_neg (by simpa using h)]
      rw [h1, if_neg h]
/-- What a filled cache knows. -/
theorem known_fill {t : Tr.T} (hg : Tr.Good t) : knownOf [] (fillS (Tr.dumpR t.L)).1 (fillS (Tr.dumpR t.L)).2.1 = Wk.knT t.L := by
  funext k
  have hp := Tr.srt_perm t.L
  have h1 : (alGet (fillS (Tr.dumpR t.L)).1 k).map Prod.fst = _ := fill_get (Tr.srt t.L) ((hp.map _).nodup_iff.2 hg.keys) fill0 k
  have h2 : (alGet (fillS (Tr.dumpR t.L)).2.1 k.1).getD false = _ := fill_whole (Tr.srt t.L) fill0 k.1
  rw [Tr.byKey_perm hp hg.keys] at h1
  rw [Tr.byId_perm hp hg.ids] at h2
  have e1 : (alGet fill0.1 k).map Prod.fst = none := rfl
  have e2 : (alGet fill0.2.1 k.1).getD false = decide (k.1 = 1) := by
    have : fill0.2.1 = alPut ([] : List (Int × Bool)) 1 true := rfl
    rw [this, alGet_put]
    by_cases h : k.1 = 1
    · simp [h]
    · rw [if_neg (Ne.symm h)]
      simp [h, alGet]
  have e3 : (Tr.nodeF t.L k.1).isSome = ((Tr.byId t.L k.1).isSome || decide (k.1 = 1)) := by
    unfold Tr.nodeF
    by_cases h : k.1 = 1
    · simp [h]
    · simp [h]
  rw [e1, Option.or_none] at h1
  rw [e2, ← e3] at h2
  unfold knownOf Wk.knT
  have hf : firstOf [] k = none := rfl
  rw [hf]
  simp only
  cases hb : Tr.byKey t.L k with
  | none =>
    rw [hb] at h1
    have h3 : alGet (fillS (Tr.dumpR t.L)).1 k = none := by
      cases hq : alGet (fillS (Tr.dumpR t.L)).1 k with
      | none => rfl
      | some p => rw [hq] at h1; cases h1
    rw [h3]
    simp only [h2]
    unfold Tr.nowE
    rw [hb]
    rfl
  | some x =>
    rw [hb] at h1
    obtain ⟨hx, rfl⟩ := Tr.byKey_some hb
    have h4 : (Tr.nodeF t.L x.1.1).isSome = true := by
      have hd := hg.dirs x hx
      unfold Tr.isDir Tr.isDirN at hd
      cases hn : Tr.nodeF t.L x.1.1 with
      | none => rw [hn] at hd; cases hd
      | some n => rfl
    cases hq : alGet (fillS (Tr.dumpR t.L)).1 x.1 with
    | none => rw [hq] at h1; cases h1
    | some p =>
      rw [hq] at h1
      simp only [Option.map_some, Option.some.injEq] at h1
      simp only [h1, h4, if_true]
      rw [hg.nowE_mem hx]
end Go.Proofs.YtoacobcbloljkaaGreatDoor
