/-
  An argument that is a slice of texts, opened.
-/
import Derived.Test.YtoacobcbloljkaaGreatDoorRowBase
import Derived.SliceStrings
namespace Go.Proofs.YtoacobcbloljkaaGreatDoor
open Go.ChangeShapes Go.WideShapes Go.ChangeAt Go.RowKit

theorem cellsOf_string : Tryz.prog.cellsOf 9 = 1 := by kernel_rfl
theorem bytesOf_string : Tryz.prog.bytesOf 9 = 16 := by kernel_rfl

set_option maxRecDepth 100000 in
theorem open_texts {H : Type} {enc : TypeId × Value → H} {W : World} {base : Nat} {v : Value} {d : DataW H} {p : List MemPlace} (hval : Value.okWide Tryz.prog W .any base 24 v)
    (h : DataW.Trod enc Tryz.prog W 0 (fun _ => true) true 24 v d p) :
    ∃ A n c ls, v = .slice A n c ∧ Rd W 1 A n (txts ls) ∧ n ≤ c ∧ (n = 0 ∨ ∃ elems spare, d = .slice elems spare ∧ elems.length = n) := by
  obtain ⟨a0, len, cap, rfl⟩ := okWide_slice Tryz.underlying24 hval
  obtain ⟨fuel, hf⟩ := h
  rcases open_strings Tryz.underlying24 Tryz.underlying9 cellsOf_string hf with ⟨hcs, hx⟩ | ⟨a, len', cap', ss, hcs, _, hl, hm, hz, hx, hcell, _⟩
  · have e : a0 = none ∧ len = 0 ∧ cap = 0 := by simpa [Value.cells] using hcs
    obtain ⟨rfl, rfl, rfl⟩ := e
    exact ⟨none, 0, 0, [], rfl, Rd.empty _ _ _, Nat.le_refl _, .inl rfl⟩
  · have e : a0 = some a ∧ len = len' ∧ cap = cap' := by simpa [Value.cells] using hcs
    obtain ⟨rfl, rfl, rfl⟩ := e
    rw [if_pos rfl] at hz
    refine ⟨some a, len, cap, (ss.take len).map (·.toList), rfl, ⟨by simp [txts]; omega, fun h0 => ?_⟩, hl, ?_⟩
    · have hc0 := hcell 0 (by omega)
      refine ⟨a, rfl, ?_, fun j u hu => ?_⟩
      · have := World.block_lt_of_cell? _ _ hc0
        rwa [add_block] at this
      · rw [txts_get, List.getElem?_map] at hu
        have hj : j < len := by
          rcases Nat.lt_or_ge j len with h | h
          · exact h
          · rw [List.getElem?_eq_none (by simp; omega)] at hu; simp at hu
        rw [List.getElem?_take, if_pos hj, List.getElem?_eq_getElem (by omega)] at hu
        simp only [Option.map_some, Option.some.injEq] at hu
        rw [hcell j (by omega), ← hu, txt_toList, List.getD_eq_getElem?_getD, List.getElem?_eq_getElem (by omega)]
        rfl
    · refine .inr ⟨_, _, (Prod.mk.inj hx).1, ?_⟩
      simp [strs]
      omega

theorem texts_bound {H : Type} {ts : List TypeId} {ds : List (DataW H)} (h : (DataW.weightsEach Tryz.prog ts ds).all (· ≤ reachBytes) = true) {j n : Nat} {d : DataW H} (ht : ts[j]? = some 24) (hd : ds[j]? = some d)
    (hn : n = 0 ∨ ∃ elems spare, d = .slice elems spare ∧ elems.length = n) : n ≤ 8796093022208 := by
  rcases hn with rfl | ⟨elems, spare, rfl, rfl⟩
  · omega
  · have := sized_slice h ht hd Tryz.underlying24
    rw [bytesOf_string] at this
    have hr : reachBytes ≤ 140737488355328 := by decide
    omega
end Go.Proofs.YtoacobcbloljkaaGreatDoor
