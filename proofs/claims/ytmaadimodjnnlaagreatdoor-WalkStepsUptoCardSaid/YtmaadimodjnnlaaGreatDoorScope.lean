/-
  A scope in which the run jumps to several labels: what holds at each jump, and a measure that every pass from a label lowers.
-/
import Derived.WalkKit
import Derived.ScopeJumps
namespace Go.Proofs.YtmaadimodjnnlaaGreatDoor
open Go

/-- As Q; by a goto to label l: J l. -/
def Exit.jumps (J : Nat → Act → World → Prop) (Q : Exit → Act → World → Prop) : Exit → Act → World → Prop
  | .goto l, a, w => J l a w
  | e, a, w => Q e a w

theorem wp_scope_labels {P : Program} {a : Act} {w : World} {Q : Exit → Act → World → Prop} {c : Code} (J : Nat → Act → World → Prop) (μ : Nat → Act → World → Nat) (rest : Nat → Code)
    (hf : ∀ l a w, J l a w → findLabel c l = some (rest l)) (first : c.wp P (Exit.jumps J Q) a w)
    (pass : ∀ l a w, J l a w → (rest l).wp P (Exit.jumps (fun l' a' w' => J l' a' w' ∧ μ l' a' w' < μ l a w) Q) a w) : (Code.scope c).wp P Q a w := by
  intro b k cs
  have hg : ∀ l a w, J l a w → gotoIn l (.inScope c :: k) = some (.code (rest l) :: .inScope c :: k) := fun l a w h => by simp [gotoIn, hf l a w h]
  have key : ∀ n l a w, μ l a w = n → J l a w → ∃ e a' w', Q e a' w' ∧ Arrives P (lone (b.at a (.code (rest l) :: .inScope c :: k)) cs w) b k cs e a' w' := by
    intro n
    induction n using Nat.strongRecOn with
    | _ n ih =>
      intro l a w hn hJ
      obtain ⟨e, a₁, w₁, hq, harr⟩ := pass l a w hJ b (.inScope c :: k) cs
      cases e with
      | normal => exact ⟨.normal, a₁, w₁, hq, Steps.trans harr (.one step_inScope)⟩
      | exit id => exact ⟨.exit id, a₁, w₁, hq, fun k' hk => harr k' (by simp [exitTo, hk])⟩
      | goto l' =>
        obtain ⟨hJ', hlt⟩ := hq
        obtain ⟨e₂, a₂, w₂, hq₂, harr₂⟩ := ih _ (by omega) l' a₁ w₁ rfl hJ'
        exact ⟨e₂, a₂, w₂, hq₂, .of_steps (harr _ (hg _ _ _ hJ')) harr₂⟩
      | ret => exact ⟨_, a₁, w₁, hq, harr⟩
      | panic ch => exact ⟨_, a₁, w₁, hq, harr⟩
      | outgrown => exact ⟨_, a₁, w₁, hq, harr⟩
  obtain ⟨e, a₁, w₁, hq, harr⟩ := first b (.inScope c :: k) cs
  cases e with
  | normal => exact ⟨.normal, a₁, w₁, hq, .head step_scope (Steps.trans harr (.one step_inScope))⟩
  | exit id => exact ⟨.exit id, a₁, w₁, hq, fun k' hk => .head step_scope (harr k' (by simp [exitTo, hk]))⟩
  | goto l' =>
    obtain ⟨e₂, a₂, w₂, hq₂, harr₂⟩ := key _ l' a₁ w₁ rfl hq
    exact ⟨e₂, a₂, w₂, hq₂, .of_steps (.head step_scope (harr _ (hg _ _ _ hq))) harr₂⟩
  | ret => exact ⟨_, a₁, w₁, hq, .of_steps (.one step_scope) harr⟩
  | panic ch => exact ⟨_, a₁, w₁, hq, .of_steps (.one step_scope) harr⟩
  | outgrown => exact ⟨_, a₁, w₁, hq, .of_steps (.one step_scope) harr⟩

/-- As Q; by a goto to label 0: J0; to label 1: J1. -/
def twoJ (J0 J1 : Act → World → Prop) : Nat → Act → World → Prop
  | 0 => J0
  | 1 => J1
  | _ => fun _ _ => False

/-- Label 1 is jumped back to; behind label 0 there is no jump. -/
theorem wp_scope_two {P : Program} {a : Act} {w : World} {Q : Exit → Act → World → Prop} {c r0 r1 : Code} (J0 J1 : Act → World → Prop) (μ : Act → World → Nat)
    (hf0 : findLabel c 0 = some r0) (hf1 : findLabel c 1 = some r1) (first : c.wp P (Exit.jumps (twoJ J0 J1) Q) a w)
    (pass0 : ∀ a w, J0 a w → r0.wp P Q a w) (hq : ∀ l a w, ¬ Q (.goto l) a w)
    (pass1 : ∀ a w, J1 a w → r1.wp P (Exit.jumps (twoJ J0 fun a' w' => J1 a' w' ∧ μ a' w' < μ a w) Q) a w) : (Code.scope c).wp P Q a w := by
  refine wp_scope_labels (twoJ J0 J1) (fun l a w => if l = 0 then 0 else μ a w + 1) (fun l => if l = 0 then r0 else r1) ?_ first ?_
  · intro l a w h
    match l, h with
    | 0, _ => exact hf0
    | 1, _ => exact hf1
  · intro l a w h
    match l, h with
    | 0, h =>
      refine wp_mono (pass0 a w h) ?_
      intro e a' w' hQ
      cases e with
      | goto l' => exact absurd hQ (hq _ _ _)
      | _ => exact hQ
    | 1, h =>
      refine wp_mono (pass1 a w h) ?_
      intro e a' w' hQ
      cases e with
      | goto l' =>
        match l', hQ with
        | 0, hQ => exact ⟨hQ, by simp⟩
        | 1, hQ => exact ⟨hQ.1, by simpa using hQ.2⟩
      | _ => exact hQ

/-- The same; ahead of the first pass the later ones are at hand. -/
theorem wp_scope_back {P : Program} {a : Act} {w : World} {Q : Exit → Act → World → Prop} {c r0 X : Code} (J0 J1 : Act → World → Prop) (μ : Act → World → Nat)
    (hf0 : findLabel c 0 = some r0) (hf1 : findLabel c 1 = some (Code.skip.seq X))
    (pass1 : ∀ a w, J1 a w → X.wp P (Exit.jumps (twoJ J0 fun a' w' => J1 a' w' ∧ μ a' w' < μ a w) Q) a w)
    (first : (∀ a w, J1 a w → X.wp P (Exit.jumps (twoJ J0 J1) Q) a w) → c.wp P (Exit.jumps (twoJ J0 J1) Q) a w)
    (pass0 : ∀ a w, J0 a w → r0.wp P Q a w) (hq : ∀ l a w, ¬ Q (.goto l) a w) : (Code.scope c).wp P Q a w := by
  refine wp_scope_two J0 J1 μ hf0 hf1 (first fun a w h => wp_mono (pass1 a w h) ?_) pass0 hq (fun a w h => wp_seq (wp_skip (pass1 a w h)))
  intro e a' w' hQ
  cases e with
  | goto l' =>
    match l', hQ with
    | 0, hQ => exact hQ
    | 1, hQ => exact hQ.1
  | _ => exact hQ
end Go.Proofs.YtmaadimodjnnlaaGreatDoor
