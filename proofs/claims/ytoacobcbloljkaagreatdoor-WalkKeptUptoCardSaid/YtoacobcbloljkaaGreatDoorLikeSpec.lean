/-
  What the two caches tell is the same. No program is walked in it.
-/
import Derived.Test.YtoacobcbloljkaaGreatDoorRel
import Derived.Test.YtoacobcbloljkaaGreatDoorDentList
import Derived.Test.YtoacobcbloljkaaGreatDoorRef12n
namespace Go.Proofs.YtoacobcbloljkaaGreatDoor
open Go.RowKit

theorem inj_of_nodup {α β : Type} (f : α → β) {l : List α} (h : (l.map f).Nodup) {x y : α} (hx : x ∈ l) (hy : y ∈ l) (e : f x = f y) : x = y := by
  induction l with
  | nil => cases hx
  | cons a r ih =>
    simp only [List.map_cons, List.nodup_cons, List.mem_map, not_exists, not_and] at h
    rcases List.mem_cons.1 hx with e1 | h1
    · rcases List.mem_cons.1 hy with e2 | h2
      · rw [e1, e2]
      · exact absurd (e.symm.trans (congrArg f e1)) (h.1 y h2)
    · rcases List.mem_cons.1 hy with e2 | h2
      · exact absurd (e.trans (congrArg f e2)) (h.1 x h1)
      · exact ih h.2 h1 h2

section
variable {l : List (Key × (En × Int))} {wh : List (Int × Bool)} {clk : Int} {L : List En} {W : List Int}

theorem Rel.perm (H : Rel l wh clk L W) : (l.map fun p => p.2.1).Perm L := by
  obtain ⟨Z, rfl, _, _, hp, _, _⟩ := H
  have := hp.map fun p => p.2.1
  rw [List.map_map] at this
  exact this
theorem Rel.key (H : Rel l wh clk L W) : ∀ p ∈ l, p.1 = p.2.1.1 := by
  obtain ⟨Z, rfl, _, _, hp, _, _⟩ := H
  intro p hm
  obtain ⟨q, _, rfl⟩ := List.mem_map.1 (hp.mem_iff.1 hm)
  rfl
theorem Rel.len (H : Rel l wh clk L W) : l.length = L.length := by
  have := H.perm.length_eq
  rwa [List.length_map] at this
theorem Rel.negs (H : Rel l wh clk L W) : negsL l = negsE L := by
  unfold negsL negsE
  have := (H.perm.filter fun x => x.2.1).length_eq
  rw [List.filter_map, List.length_map] at this
  exact this
theorem Rel.entries (H : Rel l wh clk L W) {Z' : List (En × Int)} (hp : Z'.Perm (l.map Prod.snd)) (hs : Z'.Pairwise fun x y => x.2 ≤ y.2) : Z'.map Prod.fst = L := by
  obtain ⟨Z, rfl, h1, _, hq, _, _⟩ := H
  have h2 : (l.map Prod.snd).Perm Z := by
    have := hq.map Prod.snd
    rw [List.map_map] at this
    have e : (Prod.snd ∘ fun p : En × Int => (p.1.1, p)) = id := rfl
    rwa [e, List.map_id] at this
  have h3 := hp.trans h2
  have h4 : (Z.map Prod.snd).Nodup := h1.imp fun h => Int.ne_of_lt h
  have h5 : Z.Pairwise fun x y => x.2 ≤ y.2 := by
    have := List.pairwise_map.1 h1
    exact this.imp fun h => Int.le_of_lt h
  rw [List.Perm.eq_of_pairwise (le := fun x y : En × Int => x.2 ≤ y.2) ?_ hs h5 h3]
  intro a b ha hb hab hba
  exact inj_of_nodup Prod.snd h4 (h3.mem_iff.1 ha) hb (Int.le_antisymm hab hba)

theorem getE_find (L : List En) (k : Key) : getE L k = L.find? fun x => decide (x.1 = k) := by
  have := ixOf_find L k
  rw [← this]
  unfold getE
  cases hq : ixOf L k with
  | none => rfl
  | some i =>
    have := ixOf_lt hq
    simp only [Option.map_some]
    rw [List.getD_eq_getElem?_getD, List.getElem?_eq_getElem this]
    rfl
theorem Rel.getE (H : Rel l wh clk L W) (k : Key) : (alGet l k).map Prod.fst = Proofs.YtoacobcbloljkaaGreatDoor.getE L k := by rw [getE_find]; exact H.get k

theorem Rel.leaf (H : Rel l wh clk L W) (k : Key) : leafL l k = leafE L k := by
  have hg := H.getE k
  have hany : ∀ v : Int, (l.any fun p => decide (p.1.1 = v)) = L.any fun y => decide (y.1.1 = v) := fun v => by
    rw [← H.perm.any_eq, List.any_map]
    rw [Bool.eq_iff_iff, List.any_eq_true, List.any_eq_true]
    constructor
    · rintro ⟨p, hp, h⟩
      exact ⟨p, hp, by simp only [Function.comp_apply]; rw [← H.key p hp]; exact h⟩
    · rintro ⟨p, hp, h⟩
      exact ⟨p, hp, by simp only [Function.comp_apply] at h; rw [H.key p hp]; exact h⟩
  unfold leafL leafE
  cases hq : alGet l k with
  | none =>
    rw [hq] at hg
    rw [← hg]
    rfl
  | some x =>
    rw [hq] at hg
    rw [← hg]
    simp only [Option.isSome_some, Option.getD_some, Bool.true_and, Option.map_some]
    rw [hany]
    rfl

/-- A directory's names, rising. -/
def leEB (x y : En) : Bool := !ltK y.1 x.1
def namesOf (L : List En) (d : Int) : List En := (L.filter (inDir d)).mergeSort leEB

theorem leEB_trans (a b c : En) (h : leEB a b = true) (k : leEB b c = true) : leEB a c = true := by
  unfold leEB at *
  simp only [Bool.not_eq_true'] at *
  exact ltK_le_trans h k
theorem leEB_total (a b : En) : (leEB a b || leEB b a) = true := by
  unfold leEB
  cases h : ltK b.1 a.1 with
  | false => rfl
  | true => rw [ltK_asymm h]; rfl

theorem nodup_key {L : List En} (hn : (L.map Prod.fst).Nodup) {a b : En} (ha : a ∈ L) (hb : b ∈ L) (e : a.1 = b.1) : a = b := inj_of_nodup Prod.fst hn ha hb e

/-- Entries of unlike keys have one rising order. -/
theorem rising_unique {L E : List En} (hn : (L.map Prod.fst).Nodup) (hp : E.Perm L) (hs : E.Pairwise leE) : E = L.mergeSort leEB := by
  refine List.Perm.eq_of_pairwise (le := leE) ?_ hs ?_ (hp.trans (List.mergeSort_perm _ _).symm)
  · intro a b ha hb hab hba
    exact nodup_key hn (hp.mem_iff.1 ha) ((List.mergeSort_perm _ _).mem_iff.1 hb) (ltK_total hba hab)
  · refine (List.pairwise_mergeSort leEB_trans leEB_total L).imp fun {x y} h => ?_
    unfold leEB at h
    unfold leE
    simpa using h

theorem names_ref {L E : List En} {d : Int} (hn : (L.map Prod.fst).Nodup) (hp : E.Perm (L.filter (inDir d))) (hs : E.Pairwise leE) : E = namesOf L d :=
  rising_unique (hn.sublist (List.filter_sublist.map _)) hp hs

theorem Rel.names (H : Rel l wh clk L W) {E : List En} {d : Int} (hp : E.Perm ((l.map fun p => p.2.1).filter fun x => decide (x.1.1 = d) && !x.2.1)) (hs : E.Pairwise fun x y => ¬ y.1.2 < x.1.2) : E = namesOf L d := by
  have hp2 : E.Perm (L.filter (inDir d)) := hp.trans (H.perm.filter _)
  refine names_ref H.nodup hp2 ?_
  have hd : ∀ x ∈ E, x.1.1 = d := fun x hx => by
    have := (List.mem_filter.1 (hp2.mem_iff.1 hx)).2
    unfold inDir at this
    simp only [Bool.and_eq_true, decide_eq_true_eq] at this
    exact this.1
  refine (List.pairwise_iff_forall_sublist.2 fun {a b} hab => ?_)
  have hm := hab.subset
  have h1 := hd a (hm (by simp))
  have h2 := hd b (hm (by simp))
  have h3 := (List.pairwise_iff_forall_sublist.1 hs) hab
  unfold leE
  rw [Bool.eq_false_iff]
  intro h
  rcases ltK_iff.1 h with h | h
  · omega
  · exact h3 h.2
theorem Rel.isWhole (H : Rel l wh clk L W) (d : Int) : (alGet wh d).getD false = W.contains d := by
  obtain ⟨_, _, _, _, _, _, h⟩ := H
  exact h d
end
end Go.Proofs.YtoacobcbloljkaaGreatDoor
