/-
  Sorting by a comparison; the comparisons of numbers and texts.
-/
import Derived.Test.YtoacobcbloljkaaGreatDoorLow
import Derived.Shelf.SlSortCmp.NoneTotal
import Derived.Sort.Statements
import Derived.Shelf.SlSortCmp.Insertion
import Derived.Sort.Walk0
/-! # SortK: slices.SortFunc at a slice of the call's own, of any length: what it leaves is the same slice, its elements in order. No law in it. -/
namespace Go.Proofs.YtoacobcbloljkaaGreatDoor
open Go.RowKit Go.Sort Go.Shelf

theorem flat_get {α : Type} {enc : α → List Value} {k : Nat} (hk : ∀ x, (enc x).length = k) : ∀ (l : List α) (j : Nat) (x : α), l[j]? = some x → ∀ i, i < k → (l.flatMap enc)[j * k + i]? = (enc x)[i]?
  | [], j, x, h, _, _ => by simp at h
  | a :: l, 0, x, h, i, hi => by
    simp only [List.getElem?_cons_zero, Option.some.injEq] at h
    subst h
    rw [List.flatMap_cons, List.getElem?_append_left (by rw [hk]; omega)]
    simp
  | a :: l, j + 1, x, h, i, hi => by
    simp only [List.getElem?_cons_succ] at h
    rw [List.flatMap_cons, List.getElem?_append_right (by rw [hk, Nat.add_mul]; omega), hk]
    have := flat_get hk l j x h i hi
    rw [← this]
    congr 1
    rw [Nat.add_mul]
    omega

theorem flat_len {α : Type} {enc : α → List Value} {k : Nat} (hk : ∀ x, (enc x).length = k) (l : List α) : (l.flatMap enc).length = l.length * k := by
  induction l with
  | nil => simp
  | cons a l ih => rw [List.flatMap_cons, List.length_append, ih, hk, List.length_cons, Nat.add_mul]; omega

theorem flatK_list {α : Type} [Inhabited α] {enc : α → List Value} {k : Nat} (hk : ∀ x, (enc x).length = k) (l : List α) : (flatK enc k l.toArray).toList = l.flatMap enc := by
  apply List.ext_getElem?
  intro t
  by_cases ht : t < l.length * k
  · have k0 : 0 < k := by
      rcases Nat.eq_zero_or_pos k with h | h
      · subst h; omega
      · exact h
    have hq : t / k < l.length := (Nat.div_lt_iff_lt_mul k0).2 ht
    have hm := Nat.mod_lt t k0
    have h1 := flat_get hk l (t / k) l[t / k] (List.getElem?_eq_getElem hq) (t % k) hm
    have e : t / k * k + t % k = t := by rw [Nat.mul_comm]; exact Nat.div_add_mod t k
    rw [e] at h1
    rw [h1]
    have hsz : t < (flatK enc k l.toArray).size := by simp; exact ht
    rw [Array.getElem?_toList, Array.getElem?_eq_getElem hsz, ← getElem!_pos (flatK enc k l.toArray) t hsz, get_flatK _ _ _ _ (by simpa using ht)]
    have e2 : l.toArray[t / k]! = l[t / k] := by rw [getElem!_pos l.toArray (t / k) (by simpa using hq)]; simp
    rw [e2, List.getElem?_eq_getElem (by rw [hk]; exact hm), getElem!_pos _ _ (by rw [hk]; exact hm)]
  · rw [List.getElem?_eq_none (by simp; omega), List.getElem?_eq_none (by rw [flat_len hk]; omega)]

theorem heap_sortedK {w : World} {g n : Nat} {os : Array Obj} {cur : Array Value} {e : TypeId} {fr : Nat × Nat} (F : Array Value) (hb : w.heap[g]? = some (.cells cur e fr)) :
    (grow (putRow id (Sort.ahead w n) g 0 F) os).heap[g]? = some (.cells (putCells id 0 F cur) e fr) := by
  have hg : g < w.heap.size := (Array.getElem?_eq_some_iff.1 hb).1
  rw [heap_grow_old _ _ (by simpa using hg)]
  simp [putRow, mapBlock, Sort.ahead, Array.getElem?_modify, hb, onCells]

theorem grownBy_sortedK {w : World} {g n : Nat} {os : Array Obj} (F : Array Value) : w.grownBy (grow (putRow id (Sort.ahead w n) g 0 F) os) (some g) := by
  refine ⟨rfl, rfl, rfl, by simp, fun k hk hne => ?_⟩
  rw [heap_grow_old _ _ (by simpa using hk)]
  have : g ≠ k := fun e => hne (by rw [e])
  simp [putRow, mapBlock, Sort.ahead, Array.getElem?_modify, this]

theorem take_putCellsK (cur F : Array Value) (h : F.size ≤ cur.size) : (putCells id 0 F cur).toList.take F.size = F.toList := by
  apply List.ext_getElem?
  intro j
  by_cases hj : j < F.size
  · rw [List.getElem?_take_of_lt hj, Array.getElem?_toList]
    simp [putCells, hj, show j < cur.size by omega]
  · rw [List.getElem?_take_eq_none (by omega), List.getElem?_eq_none (by simp; omega)]

/-- What SortFunc leaves of a slice v that held l. -/
def SortPost {α : Type} (w : World) (base : Nat) (e : TypeId) (k : Nat) (v : Value) (enc : α → List Value) (cf : α → α → Int) (l : List α) (r : Ending) (w' : World) : Prop :=
  r = .returned (.tuple #[]) ∧ ∃ l' : List α, l'.Perm l ∧ l'.Pairwise (fun x y => ltOf cf y x = false) ∧ w'.ownsRow base e k v l.length (l'.flatMap enc) ∧ w.grownBy w' v.ownBlock

theorem sortFunc_own {P : Program} {ρ : Ren} {α : Type} [Inhabited α] (L : SlLaysF0.n6 P ρ) (k : Nat) (aE : ∀ w, (isAgg (ρ.t 24)).run P w = .ok true w) (zE : ∀ w, (Go.sizeOf (ρ.t 24)).run P w = .ok k w) (enc : α → List Value)
    (hk : ∀ x, (enc x).length = k) (h1 : ∀ x, ∀ v ∈ enc x, v.oneCell' = true) (cf : α → α → Int) (hO : SWO (ltOf cf)) (g : Nat) (eg : ∀ args w, (callFunc g args).run P w = .ok (.enter g args) w)
    (hcl : ∀ (x y : α) (W : World), Calls P g #[.agg (enc x).toArray, .agg (enc y).toArray] W fun e w' => e = .returned (.int .i64 (cf x y)) ∧ ∃ q os', w' = grow (W.drewN q) os')
    (w : World) (base : Nat) (e : TypeId) (v : Value) (l : List α) (hown : w.ownsRow base e k v l.length (l.flatMap enc)) (hn : l.length < 4611686018427387904) :
    Calls P (ρ.f 6) #[v, .func (.func g) #[] #[]] w (SortPost w base e k v enc cf l) := by
  rcases hown.2 with ⟨rfl, h0⟩ | ⟨b, cap, cur, rfl, hb, hh, h2, h3, h4, h5⟩
  · have : l = [] := List.eq_nil_of_length_eq_zero h0
    subst this
    refine (AnyF.slices_SortFunc_none L none 0 _ w).mono ?_
    rintro r w' ⟨rfl, rfl⟩
    exact ⟨rfl, [], .refl _, .nil, by simpa using hown, World.grownBy.refl _ _⟩
  · have hlt : b < w.heap.size := (Array.getElem?_eq_some_iff.1 hh).1
    have hH : HoldsK enc k w b 0 l.toArray := by
      intro j hj
      have hj' : j < l.length * k := by simpa using hj
      refine ⟨?_, by simp [World.frozen?, hh]⟩
      have e1 : (cur.toList.take (l.length * k))[j]? = (l.flatMap enc)[j]? := by rw [h5]
      rw [List.getElem?_take_of_lt hj'] at e1
      simp only [World.cell?, hh, Nat.zero_add]
      simp only [Option.isSome_none, Bool.false_eq_true, if_false]
      rw [← Array.getElem?_toList, e1, ← flatK_list hk, Array.getElem?_toList, Array.getElem?_eq_getElem hj, ← getElem!_pos (flatK enc k l.toArray) j hj]
      rfl
    have hc : CmpLays P g #[] enc k cf b 0 l.toArray.size w := fun m os dk hs x y => by
      have := hcl x y (sortWorldK enc k w b 0 m dk os)
      simpa using this
    have hmain := AnyQ.slices_SortFunc L k aE zE enc hk h1 cf hO g #[] b 0 cap l.toArray w eg hc hH hlt (by simpa using hn)
    simp only [List.size_toArray] at hmain
    refine hmain.mono ?_
    rintro r w' ⟨rfl, d', n, os, hp, hs, rfl⟩
    have hd : d'.size = l.length := by simpa using hp.1
    refine ⟨rfl, d'.toList, ?_, ?_, ?_, ?_⟩
    · have := hp.2.2
      rw [show d'.extract 0 l.length = d' from by rw [← hd]; simp, show l.toArray.extract 0 l.length = l.toArray from by simp] at this
      simpa using this
    · rw [List.pairwise_iff_getElem]
      intro i j hi hj hij
      have := hs i j (Nat.zero_le _) hij (by rw [← hd]; simpa using hj)
      rw [getElem!_pos d' j (by simpa using hj), getElem!_pos d' i (by simpa using hi)] at this
      simpa using this
    · have e1 : (d'.toList.flatMap enc) = (flatK enc k d').toList := by
        have := flatK_list hk d'.toList
        simpa using this.symm
      have hfs : (flatK enc k d').size = l.length * k := by simp [hd]
      refine ⟨by rw [flat_len hk]; simp [hd], .inr ⟨b, cap, _, rfl, hb, heap_sortedK _ hh, h2, h3, by simp [putCells, h4], ?_⟩⟩
      rw [e1, ← hfs]
      refine take_putCellsK _ _ ?_
      rw [hfs, h4]
      exact Nat.mul_le_mul_right k h2
    · exact grownBy_sortedK _
end Go.Proofs.YtoacobcbloljkaaGreatDoor


/-! # Cmp: The walks of cmp.Compare at ints and at strings; the orders that they are of. -/
namespace Go.Proofs.YtoacobcbloljkaaGreatDoor
open Go.RowKit Go.Sort

def cI (a b : Int) : Int := if a < b then -1 else if b < a then 1 else 0
def cS (a b : List UInt8) : Int := if a < b then -1 else if b < a then 1 else 0

theorem isNaNI_any (a : Int) (w : World) : Calls Tryz.prog 148 #[.int .i64 a] w fun r w' => r = .returned (.bool false) ∧ w = w' := by
  go_enter Tryz.func148, Tryz.ntmps148
  go_wp2
  go_ret
  exact ⟨by simp, rfl⟩
theorem isNaNS_any (a : ByteArray) (w : World) : Calls Tryz.prog 127 #[.string a] w fun r w' => r = .returned (.bool false) ∧ w = w' := by
  go_enter Tryz.func127, Tryz.ntmps127
  go_wp2
  go_ret
  exact ⟨by simp, rfl⟩

theorem cmpI_any (a b : Int) (w : World) : Calls Tryz.prog 118 #[.int .i64 a, .int .i64 b] w fun r w' => r = .returned (.int .i64 (cI a b)) ∧ w = w' := by
  unfold cI
  by_cases h1 : a < b
  · rw [if_pos h1]
    go_enter Tryz.func118, Tryz.ntmps118
    go_wp2_with (go_at_call 148; refine (isNaNI_any _ _).mono ?_; rintro r w' ⟨rfl, rfl⟩)
    go_ret
    exact ⟨rfl, rfl⟩
  · rw [if_neg h1]
    by_cases h2 : b < a
    · rw [if_pos h2]
      go_enter Tryz.func118, Tryz.ntmps118
      go_wp2_with (go_at_call 148; refine (isNaNI_any _ _).mono ?_; rintro r w' ⟨rfl, rfl⟩)
      go_ret
      exact ⟨rfl, rfl⟩
    · rw [if_neg h2]
      go_enter Tryz.func118, Tryz.ntmps118
      go_wp2_with (go_at_call 148; refine (isNaNI_any _ _).mono ?_; rintro r w' ⟨rfl, rfl⟩)
      go_ret
      exact ⟨rfl, rfl⟩

theorem bl_eq (x y : List UInt8) : Op.bytesLess x y = decide (x < y) := bytesLess_eq x y

theorem cmpS_any (a b : ByteArray) (w : World) : Calls Tryz.prog 93 #[.string a, .string b] w fun r w' => r = .returned (.int .i64 (cS a.toList b.toList)) ∧ w = w' := by
  obtain ⟨v, hv⟩ : ∃ v, cS a.toList b.toList = v := ⟨_, rfl⟩
  rw [hv]
  unfold cS at hv
  cases h : Op.bytesLess a.toList b.toList with
  | true =>
    have h1 : a.toList < b.toList := by rw [bl_eq] at h; simpa using h
    rw [if_pos h1] at hv
    subst hv
    clear h1
    go_enter Tryz.func93, Tryz.ntmps93
    go_wp2_with (go_at_call 127; refine (isNaNS_any _ _).mono ?_; rintro r w' ⟨rfl, rfl⟩)
    go_ret
    exact ⟨rfl, rfl⟩
  | false =>
    have h1 : ¬ a.toList < b.toList := by rw [bl_eq] at h; simpa using h
    rw [if_neg h1] at hv
    cases h2 : (a.toList == b.toList) with
    | true =>
      have h3 : a.toList = b.toList := by simpa using h2
      rw [if_neg (by rw [← h3]; rw [← h3] at h1; exact h1)] at hv
      subst hv
      clear h1 h3
      go_enter Tryz.func93, Tryz.ntmps93
      go_wp2_with (go_at_call 127; refine (isNaNS_any _ _).mono ?_; rintro r w' ⟨rfl, rfl⟩)
      go_ret
      exact ⟨rfl, rfl⟩
    | false =>
      have h3 : a.toList ≠ b.toList := by simpa using h2
      have h4 : b.toList < a.toList := Classical.byContradiction fun h4 => h3 (List.le_antisymm h4 h1)
      rw [if_pos h4] at hv
      subst hv
      clear h1 h3 h4
      go_enter Tryz.func93, Tryz.ntmps93
      go_wp2_with (go_at_call 127; refine (isNaNS_any _ _).mono ?_; rintro r w' ⟨rfl, rfl⟩)
      go_ret
      exact ⟨rfl, rfl⟩

/-! ## Orders -/
theorem cI_lt (a b : Int) : decide (cI a b < 0) = decide (a < b) := by
  unfold cI
  by_cases h1 : a < b
  · simp [h1]
  · by_cases h2 : b < a <;> simp [h1, h2]
theorem cS_lt (a b : List UInt8) : decide (cS a b < 0) = decide (a < b) := by
  unfold cS
  by_cases h1 : a < b
  · simp [h1]
  · by_cases h2 : b < a <;> simp [h1, h2]

theorem swoI {α : Type} (f : α → Int) : SWO (ltOf fun x y => cI (f x) (f y)) := by
  have e : ∀ x y, ltOf (fun x y => cI (f x) (f y)) x y = decide (f x < f y) := fun x y => cI_lt _ _
  refine ⟨fun x => by rw [e]; simp, fun x y z h1 h2 => ?_, fun x y z h1 h2 => ?_⟩
  · rw [e] at *
    simp at *
    omega
  · rw [e] at *
    simp at *
    omega
theorem swoS {α : Type} (f : α → List UInt8) : SWO (ltOf fun x y => cS (f x) (f y)) := by
  have e : ∀ x y, ltOf (fun x y => cS (f x) (f y)) x y = decide (f x < f y) := fun x y => cS_lt _ _
  refine ⟨fun x => by rw [e]; simp, fun x y z h1 h2 => ?_, fun x y z h1 h2 => ?_⟩
  · rw [e] at *
    simp only [decide_eq_true_eq] at *
    exact List.lt_trans h1 h2
  · rw [e] at *
    simp only [decide_eq_false_iff_not] at *
    exact List.le_trans h2 h1
end Go.Proofs.YtoacobcbloljkaaGreatDoor

