/-
  'slices.Sorted(maps.Keys(m))' over a map of the program's own: the keys of the list, rising. The contracts are the library's, laid at this program.
-/
import Derived.Test.YtoacobcbloljkaaGreatDoorLow
import Derived.Test.YtoacobcbloljkaaGreatDoorIters
import Derived.WalkArith
namespace Go.Proofs.YtoacobcbloljkaaGreatDoor
open Go.RowKit Go.Maps Go.Sort Go.MapKept

section
variable {P : Program} {K : TypeId} {w : World} {b : Nat} {ν : Type} {vv : ν → Value}

theorem MapT.ownsG {κ : Type} {kv : κ → Value} {lit : κ → Lit} (w : World) {l : List (κ × ν)} (h : MapT kv vv w b l) (hk : ∀ p ∈ l, keyOf P K (kv p.1) = some (lit p.1)) (hl : l.length ≤ maxLen) :
    ∃ es : List (Lit × DataW Unit), w.ownsMap P K (fun _ => some (.nil, [])) b l.length (.map es) ∧ (es.map Prod.fst).Perm (l.map fun p => lit p.1) := by
  obtain ⟨es, clock, hb, hs, he⟩ := h
  have hsz : es.size = l.length := by simpa using congrArg List.length he
  have hrd : ∀ x ∈ es.toList, ∃ p ∈ l, x.key = kv p.1 ∧ WideElems.rd (H := Unit) P K (fun _ => some (.nil, [])) x = some (lit p.1, .nil) := fun x hx => by
    obtain ⟨j, hj⟩ := List.getElem?_of_mem hx
    obtain ⟨p, hp, h1, _⟩ := map_entry he hj
    refine ⟨p, List.mem_of_getElem? hp, h1, ?_⟩
    unfold WideElems.rd
    rw [h1, hk p (List.mem_of_getElem? hp)]
    rfl
  refine ⟨(es.toList.map (WideElems.rg P K fun _ => some (.nil, []))).foldr DataW.insert [], ⟨es, clock, hb, ⟨by omega, hs, fun x hx => ?_⟩, by omega, rfl⟩, ?_⟩
  · obtain ⟨p, _, _, h⟩ := hrd x hx
    exact ⟨_, h⟩
  · refine ((WideShapes.sorted_perm _).map Prod.fst).trans ?_
    have : (es.toList.map (WideElems.rg (H := Unit) P K fun _ => some (.nil, []))).map Prod.fst = l.map fun p => lit p.1 := by
      rw [List.map_map]
      refine List.ext_getElem? fun j => ?_
      rw [List.getElem?_map, List.getElem?_map]
      cases hj : es.toList[j]? with
      | none =>
        have : l[j]? = none := by
          rw [List.getElem?_eq_none_iff] at hj ⊢
          simpa [hsz] using hj
        rw [this]
        rfl
      | some x =>
        obtain ⟨p, hp, h1, _⟩ := map_entry he hj
        rw [hp]
        have hr : WideElems.rd (H := Unit) P K (fun _ => some (.nil, [])) x = some (lit p.1, .nil) := by
          unfold WideElems.rd
          rw [h1, hk p (List.mem_of_getElem? hp)]
          rfl
        simp [WideElems.rg, hr]
    rw [this]

theorem MapT.ownsS (hK : P.underlying K = some .string) {l : List (List UInt8 × ν)} (h : MapT txt vv w b l) (hk : ∀ p ∈ l, p.1.length ≤ maxLen) (hl : l.length ≤ maxLen) :
    ∃ D : DataW Unit, w.ownsMap P K (fun _ => some (.nil, [])) b l.length D ∧ (strKeys D).Perm (l.map Prod.fst) ∧ Maps.size D = l.length := by
  obtain ⟨es, h1, h2⟩ := MapT.ownsG (P := P) (K := K) (lit := fun s => Lit.string s) w h (fun p hp => by
    unfold keyOf mapKey txt
    rw [hK]
    have : (⟨p.1.toArray⟩ : ByteArray).size ≤ maxLen := by rw [size_mk]; exact hk p hp
    simp [this]) hl
  refine ⟨_, h1, ?_, ?_⟩
  · have := h2.map strOf
    rw [List.map_map, List.map_map] at this
    exact this
  · have := h2.length_eq
    rw [List.length_map, List.length_map] at this
    exact this

theorem MapT.ownsI (hK : P.underlying K = some (.int .i64)) {l : List (Int × ν)} (h : MapT vI vv w b l) (hk : ∀ p ∈ l, -9223372036854775808 ≤ p.1 ∧ p.1 ≤ 9223372036854775807) (hl : l.length ≤ maxLen) :
    ∃ D : DataW Unit, w.ownsMap P K (fun _ => some (.nil, [])) b l.length D ∧ (intKeys D).Perm (l.map Prod.fst) ∧ Maps.size D = l.length := by
  obtain ⟨es, h1, h2⟩ := MapT.ownsG (P := P) (K := K) (lit := fun s => Lit.int .i64 s) w h (fun p hp => by
    unfold keyOf mapKey vI
    rw [hK]
    have : (Lit.int .i64 p.1).wf = true := WalkArith.wf_i64 (hk p hp)
    simp [this]) hl
  refine ⟨_, h1, ?_, ?_⟩
  · have := h2.map Go.intOf
    rw [List.map_map, List.map_map] at this
    exact this
  · have := h2.length_eq
    rw [List.length_map, List.length_map] at this
    exact this
end

/-- maps.Keys at a map of names. -/
theorem keysS_any (mb : Option Nat) (W : World) : Calls Tryz.prog 124 #[.map mb] W fun e w' => e = .returned (.func (.func 154) #[] #[.pointer (some ⟨W.heap.size, 0, none⟩)]) ∧ w' = W.alloc (.cells #[.map mb] 162) :=
  callsIn_wide.1 (AnyZ.keys_in Tryz.keysS Fence.wide 5 trivial rfl mb W)
theorem keysI_any (mb : Option Nat) (W : World) : Calls Tryz.prog 108 #[.map mb] W fun e w' => e = .returned (.func (.func 137) #[] #[.pointer (some ⟨W.heap.size, 0, none⟩)]) ∧ w' = W.alloc (.cells #[.map mb] 149) :=
  callsIn_wide.1 (AnyZI.keys_in Tryz.keysI Fence.wide 5 trivial rfl mb W)

theorem sortsS_any (m : Nat) : AnyZ.SortsIn Tryz.prog Tryz.sortedS_ren Fence.wide m :=
  ⟨fun blk off cap ss W hH hblk hsz => callsIn_wide.2 (AnyM.slices_Sort_string Tryz.sortS blk off cap ss W hH hblk hsz),
   fun p cap W => callsIn_wide.2 (AnyM.slices_Sort_string_none Tryz.sortS p cap W)⟩
theorem sortsI_any (m : Nat) : AnyZI.SortsIn Tryz.prog Tryz.sortedI_ren Fence.wide m :=
  ⟨fun blk off cap ss W hH hblk hsz => callsIn_wide.2 (AnyM.slices_Sort_int Tryz.sortI blk off cap ss W hH hblk hsz),
   fun p cap W => callsIn_wide.2 (AnyM.slices_Sort_int_none Tryz.sortI p cap W)⟩

set_option maxHeartbeats 1000000 in
/-- slices.Sorted at what maps.Keys handed back for the map b of names. -/
theorem sortedS_any {ν : Type} {vv : ν → Value} (W : World) (g b : Nat) (l : List (List UInt8 × ν)) (hg : W.cell? ⟨g, 0, none⟩ = some (.map (some b))) (h : MapT txt vv W b l) (hk : ∀ p ∈ l, p.1.length ≤ 1048576) (hl : l.length ≤ 1048576) :
    Calls Tryz.prog 123 #[.func (.func 154) #[] #[.pointer (some ⟨g, 0, none⟩)]] W fun e w' => ∃ v, e = .returned v ∧
      w'.ownsRow W.heap.size 9 1 v l.length (txts ((l.map Prod.fst).mergeSort fun x y => decide (x ≤ y))) ∧ Below W.heap.size W w' := by
  have hbl : g < W.heap.size := World.block_lt_of_cell? _ _ hg
  obtain ⟨D, hown, hperm, hsz⟩ := h.ownsS (P := Tryz.prog) (K := 9) Tryz.underlying9 (fun p hp => by have := hk p hp; unfold maxLen; omega) (by unfold maxLen; omega)
  have hseq : SeqGives Fence.wide 2 Tryz.prog 154 #[.pointer (some ⟨g, 0, none⟩)] encStr (fun ss => ss.Perm (strKeys D)) (Maps.size D) W :=
    AnyZ.keys_gives (ρ := Tryz.keysS_ren) { Tryz.keysS with } Fence.wide _ trivial rfl (by omega) g b l.length D W hbl hg hown
  have cS := AnyZ.sorted_in Tryz.sortedS Fence.wide 5 trivial trivial trivial trivial rfl (by omega) (sortsS_any _) (enters_of Tryz.func153 (by kernel_rfl) rfl) 154 #[.pointer (some ⟨g, 0, none⟩)] trivial (enters_of Tryz.func154 (by kernel_rfl) rfl) _ _ (by rw [hsz]; unfold maxLen; omega) (by rw [hsz]; omega) _ hseq
  change CallsIn _ _ Tryz.prog 123 _ _ _ at cS
  refine (callsIn_wide.1 cS).mono ?_
  rintro e w' ⟨v, ss, rfl, hS, hrow, _, hb⟩
  have e1 : ss.mergeSort (fun x y => decide (x ≤ y)) = (l.map Prod.fst).mergeSort fun x y => decide (x ≤ y) := mergeSort_of_perm (hS.trans hperm)
  have e2 : ss.length = l.length := by rw [(hS.trans hperm).length_eq, List.length_map]
  rw [e1, e2] at hrow
  exact ⟨v, rfl, hrow, hb⟩

def ints (l : List Int) : List Value := l.map vI

set_option maxHeartbeats 1000000 in
/-- slices.Sorted at what maps.Keys handed back for the map b of numbers. -/
theorem sortedI_any {ν : Type} {vv : ν → Value} (W : World) (g b : Nat) (l : List (Int × ν)) (hg : W.cell? ⟨g, 0, none⟩ = some (.map (some b))) (h : MapT vI vv W b l) (hk : ∀ p ∈ l, -9223372036854775808 ≤ p.1 ∧ p.1 ≤ 9223372036854775807) (hl : l.length ≤ 1048576) :
    Calls Tryz.prog 107 #[.func (.func 137) #[] #[.pointer (some ⟨g, 0, none⟩)]] W fun e w' => ∃ v, e = .returned v ∧
      w'.ownsRow W.heap.size 3 1 v l.length (ints ((l.map Prod.fst).mergeSort fun x y => decide (x ≤ y))) ∧ Below W.heap.size W w' := by
  have hbl : g < W.heap.size := World.block_lt_of_cell? _ _ hg
  obtain ⟨D, hown, hperm, hsz⟩ := h.ownsI (P := Tryz.prog) (K := 3) Tryz.underlying3 hk (by unfold maxLen; omega)
  have hseq : SeqGives Fence.wide 2 Tryz.prog 137 #[.pointer (some ⟨g, 0, none⟩)] encZ (fun ss => ss.Perm (intKeys D)) (Maps.size D) W :=
    AnyZI.keys_gives (ρ := Tryz.keysI_ren) { Tryz.keysI with } Fence.wide _ trivial rfl (by omega) g b l.length D W hbl hg hown
  have cS := AnyZI.sorted_in Tryz.sortedI Fence.wide 5 trivial trivial trivial trivial rfl (by omega) (sortsI_any _) (enters_of Tryz.func136 (by kernel_rfl) rfl) 137 #[.pointer (some ⟨g, 0, none⟩)] trivial (enters_of Tryz.func137 (by kernel_rfl) rfl) _ _ (by rw [hsz]; unfold maxLen; omega) (by rw [hsz]; omega) _ hseq
  change CallsIn _ _ Tryz.prog 107 _ _ _ at cS
  refine (callsIn_wide.1 cS).mono ?_
  rintro e w' ⟨v, ss, rfl, hS, hrow, _, hb⟩
  have e1 : ss.mergeSort (fun x y => decide (x ≤ y)) = (l.map Prod.fst).mergeSort fun x y => decide (x ≤ y) := mergeSort_of_perm_i (hS.trans hperm)
  have e2 : ss.length = l.length := by rw [(hS.trans hperm).length_eq, List.length_map]
  rw [e1, e2] at hrow
  exact ⟨v, rfl, hrow, hb⟩
end Go.Proofs.YtoacobcbloljkaaGreatDoor
