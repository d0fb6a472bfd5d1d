/-
  What the bound of a second form gives for a list of entries.
-/
import Derived.Test.YtoacobcbloljkaaGreatDoorUpto
import Derived.Test.YtoacobcbloljkaaGreatDoorOpenE
namespace Go.Proofs.YtoacobcbloljkaaGreatDoor
open Go.ChangeShapes Go.WideShapes Go.ChangeAt Go.RowKit Go.Deep

set_option maxRecDepth 100000 in
theorem ens_parts {H : Type} {enc : TypeId × Value → H} {W : World} {A : Option Addr} {n c : Nat} {d : DataW H} {p : List MemPlace} (h : DataW.Trod enc Tryz.prog W 0 (fun _ => true) true 23 (.slice A n c) d p) : n = 0 ∨ ∃ elems spare, d = .slice elems spare ∧ elems.length = n := by
  obtain ⟨fuel, hf⟩ := h
  rcases open_slice Tryz.underlying23 hf with ⟨hcs, _⟩ | ⟨a, len, cap, m, k, D, Pl, hcs, _, _, _, _, hx, _⟩
  · have e : A = none ∧ n = 0 ∧ c = 0 := by simpa [Value.cells] using hcs
    exact .inl e.2.1
  · have e : A = some a ∧ n = len ∧ c = cap := by simpa [Value.cells] using hcs
    exact .inr ⟨_, _, (Prod.mk.inj hx).1, by simp [e.2.1]⟩
end Go.Proofs.YtoacobcbloljkaaGreatDoor
