/-
  'slices.Sorted(maps.Keys(m))' over a map of the program's own: the keys of the list, rising. The contracts are the library's, laid at this program.
-/
import Derived.Test.YtjaokljbdoocmaaDoorLow
import Derived.Test.YtjaokljbdoocmaaDoorIters
import Derived.WalkArith
namespace Go.Proofs.YtjaokljbdoocmaaDoor
open Go.RowKit Go.Maps Go.Sort Go.MapKept

section
variable {P : Program} {K : TypeId} {w : World} {b : Nat} {ν : Type} {vv : ν → Value}

theorem MapT.ownsG {κ : Type} {kv : κ → Value} {lit : κ → Lit} (w : World) {l : List (κ × ν)} (h : MapT kv vv w b l) (hk : ∀ p ∈ l, keyOf P K (kv p.1) = some (lit p.1)) (hl : l.length ≤ maxLen) :
    ∃ es : List (Lit × DataW Unit), w.ownsMap P K (fun _ => some (.nil, [])) b l.length (.map es) ∧ (es.map Prod.fst).Perm (l.map fun p => lit p.1) := by
  obtain ⟨es, clock, hb, hs, he⟩ := h
  have hsz : es.size = l.length := by simpa using congrArg List.length he
  have hrd : ∀ x ∈ es.toList, ∃ p ∈ l, x.key = kv p.1 ∧ WideElems.rd (H := Unit) P K (fun _ => some (.nil, [])) x = some (lit p.1, .nil) := fun x hx => by
    obtain ⟨j, hj⟩ := List.getElem?_of_mem hx
    obtain ⟨p, hp, h1, _⟩ := map_entry he hj
    refine ⟨p, List.mem_of_getElem? hp, h1, ?_⟩
    unfold WideElems.rd
    rw [h1, hk p (List.mem_of_getElem? hp)]
    rfl
  refine ⟨(es.toList.map (WideElems.rg P K fun _ => some (.nil, []))).foldr DataW.insert [], ⟨es, clock, hb, ⟨by omega, hs, fun x hx => ?_⟩, by omega, rfl⟩, ?_⟩
  · obtain ⟨p, _, _, h⟩ := hrd x hx
    exact ⟨_, h⟩
  · refine ((WideShapes.sorted_perm _).map Prod.fst).trans ?_
    have : (es.toList.map (WideElems.rg (H := Unit) P K fun _ => some (.nil, []))).map Prod.fst = l.map fun p => lit p.1 := by
      rw [List.map_map]
      refine List.ext_getElem? fun j => ?_
      rw [List.getElem?_map, List.getElem?_map]
      cases hj : es.toList[j]? with
      | none =>
        have : l[j]? = none := by
          rw [List.getElem?_eq_none_iff] at hj ⊢
          simpa [hsz] using hj
        rw [this]
        rfl
      | some x =>
        obtain ⟨p, hp, h1, _⟩ := map_entry he hj
        rw [hp]
        have hr : WideElems.rd (H := Unit) P K (fun _ => some (.nil, [])) x = some (lit p.1, .nil) := by
          unfold WideElems.rd
          rw [h1, hk p (List.mem_of_getElem? hp)]
          rfl
        simp [WideElems.rg, hr]
    rw [this]

theorem MapT.ownsS (hK : P.underlying K = some .string) {l : List (List UInt8 × ν)} (h : MapT txt vv w b l) (hk : ∀ p ∈ l, p.1.length ≤ maxLen) (hl : l.length ≤ maxLen) :
    ∃ D : DataW Unit, w.ownsMap P K (fun _ => some (.nil, [])) b l.length D ∧ (strKeys D).Perm (l.map Prod.fst) ∧ Maps.size D = l.length := by
  obtain ⟨es, h1, h2⟩ := MapT.ownsG (P := P) (K := K) (lit := fun s => Lit.string s) w h (fun p hp => by
    unfold keyOf mapKey txt
    rw [hK]
    have : (⟨p.1.toArray⟩ : ByteArray).size ≤ maxLen := by rw [size_mk]; exact hk p hp
    simp [this]) hl
  refine ⟨_, h1, ?_, ?_⟩
  · have := h2.map strOf
    rw [List.map_map, List.map_map] at this
    exact this
  · have := h2.length_eq
    rw [List.length_map, List.length_map] at this
    exact this

theorem MapT.ownsI (hK : P.underlying K = some (.int .i64)) {l : List (Int × ν)} (h : MapT vI vv w b l) (hk : ∀ p ∈ l, -9223372036854775808 ≤ p.1 ∧ p.1 ≤ 9223372036854775807) (hl : l.length ≤ maxLen) :
    ∃ D : DataW Unit, w.ownsMap P K (fun _ => some (.nil, [])) b l.length D ∧ (intKeys D).Perm (l.map Prod.fst) ∧ Maps.size D = l.length := by
  obtain ⟨es, h1, h2⟩ := MapT.ownsG (P := P) (K := K) (lit := fun s => Lit.int .i64 s) w h (fun p hp => by
    unfold keyOf mapKey vI
    rw [hK]
    have : (Lit.int .i64 p.1).wf = true := WalkArith.wf_i64 (hk p hp)
    simp [this]) hl
  refine ⟨_, h1, ?_, ?_⟩
  · have := h2.map Go.intOf
    rw [List.map_map, List.map_map] at this
    exact this
  · have := h2.length_eq
    rw [List.length_map, List.length_map] at this
    exact this
end

def ints (l : List Int) : List Value := l.map vI

end Go.Proofs.YtjaokljbdoocmaaDoor
