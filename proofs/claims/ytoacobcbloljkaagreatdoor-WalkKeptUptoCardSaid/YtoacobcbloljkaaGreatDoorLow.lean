/-
  Several texts in one: NameSpec, Lib, Maps, Data, Blk, Scope, Step, Eq, RegInv, Mem.
-/
import Derived.Lib.Split
import Derived.Lib.SplitLaws
import Derived.WalkKit
import Derived.WalkSpells
import Derived.WalkLawsBesides
import Derived.Lib.Hide
import Derived.Lib.Strings
import Derived.Deep.AppendLies
import Derived.Maps.AppendAt
import Derived.Laws.Rows
import Derived.ArgAppend
import Derived.OwnWalk
import Derived.Maps.RangeWalk
import Derived.Test.YtoacobcbloljkaaGreatDoorProg
import Derived.Deep.MidRow
import Derived.ScopeJumps
import Derived.Deep.RegionLaw
import Derived.Orders
import Derived.Deep.DeepCutAuto
import Derived.Deep.CutBlock
import Derived.Deep.RegionWith
import Derived.BigQuiet
import Derived.Deep.QuietTactic
import Derived.WalkMore
import Derived.Lib.SliceRun
import Derived.Deep.LoopGhost
/-! # NameSpec: Names and paths as lists of bytes: what layer 2 answers, in plain Lean. No program in it. -/
namespace Go.Proofs.YtoacobcbloljkaaGreatDoor
namespace Nm

/-- The pieces between slashes. -/
def segs : List UInt8 → List (List UInt8)
  | [] => [[]]
  | c :: l => if c = 47 then [] :: segs l else match segs l with
    | h :: t => (c :: h) :: t
    | [] => [[c]]

theorem segs_ne (l : List UInt8) : segs l ≠ [] := by
  cases l with
  | nil => simp [segs]
  | cons c l =>
    unfold segs
    split
    · simp
    · split <;> simp

theorem segs_slash (l : List UInt8) : segs (47 :: l) = [] :: segs l := by simp [segs]

theorem segs_other {c : UInt8} (l : List UInt8) (h : c ≠ 47) : ∃ x t, segs l = x :: t ∧ segs (c :: l) = (c :: x) :: t := by
  cases e : segs l with
  | nil => exact absurd e (segs_ne l)
  | cons x t => exact ⟨x, t, rfl, by simp [segs, h, e]⟩

theorem segs_app (a b : List UInt8) : segs (a ++ 47 :: b) = segs a ++ segs b := by
  induction a with
  | nil => simp [segs]
  | cons c a ih =>
    by_cases h : c = 47
    · subst h; rw [List.cons_append, segs_slash, segs_slash, ih]; rfl
    · obtain ⟨x, t, h1, h2⟩ := segs_other a h
      obtain ⟨x', t', h1', h2'⟩ := segs_other (a ++ 47 :: b) h
      rw [List.cons_append, h2', h2]
      rw [ih, h1] at h1'
      simp only [List.cons_append, List.cons.injEq] at h1'
      obtain ⟨rfl, rfl⟩ := h1'
      rfl

theorem segs_no {l : List UInt8} (h : (47 : UInt8) ∉ l) : segs l = [l] := by
  induction l with
  | nil => rfl
  | cons c l ih =>
    simp only [List.mem_cons, not_or] at h
    obtain ⟨x, t, h1, h2⟩ := segs_other l (fun e => h.1 e.symm)
    rw [ih h.2] at h1
    simp only [List.cons.injEq] at h1
    obtain ⟨rfl, rfl⟩ := h1
    exact h2

theorem mem_segs (l : List UInt8) : ∀ x ∈ segs l, (47 : UInt8) ∉ x ∧ (∀ c ∈ x, c ∈ l) ∧ x.length ≤ l.length := by
  induction l with
  | nil => intro x hx; simp [segs] at hx; subst hx; simp
  | cons c l ih =>
    intro x hx
    by_cases h : c = 47
    · subst h
      rw [segs_slash] at hx
      rcases List.mem_cons.1 hx with rfl | hx
      · simp
      · obtain ⟨h1, h2, h3⟩ := ih x hx
        exact ⟨h1, fun d hd => List.mem_cons_of_mem _ (h2 d hd), by simp; omega⟩
    · obtain ⟨y, t, h1, h2⟩ := segs_other l h
      rw [h2] at hx
      rcases List.mem_cons.1 hx with rfl | hx
      · obtain ⟨g1, g2, g3⟩ := ih y (by rw [h1]; simp)
        refine ⟨?_, ?_, by simp; omega⟩
        · simp only [List.mem_cons, not_or]; exact ⟨fun e => h e.symm, g1⟩
        · intro d hd
          rcases List.mem_cons.1 hd with rfl | hd
          · simp
          · exact List.mem_cons_of_mem _ (g2 d hd)
      · obtain ⟨g1, g2, g3⟩ := ih x (by rw [h1]; simp [hx])
        exact ⟨g1, fun d hd => List.mem_cons_of_mem _ (g2 d hd), by simp; omega⟩

theorem segs_length (l : List UInt8) : (segs l).length ≤ l.length + 1 := by
  induction l with
  | nil => simp [segs]
  | cons c l ih =>
    by_cases h : c = 47
    · subst h; rw [segs_slash]; simp; omega
    · obtain ⟨y, t, h1, h2⟩ := segs_other l h
      rw [h2]; rw [h1] at ih; simp at ih ⊢; omega

/-- The components: the pieces that are not empty. -/
def comps (l : List UInt8) : List (List UInt8) := (segs l).filter fun x => !x.isEmpty

theorem comps_app (a b : List UInt8) : comps (a ++ 47 :: b) = comps a ++ comps b := by unfold comps; rw [segs_app, List.filter_append]
theorem comps_nil : comps [] = [] := rfl
theorem comps_slash (l : List UInt8) : comps (47 :: l) = comps l := by have := comps_app [] l; simpa [comps_nil] using this
theorem comps_end (l : List UInt8) : comps (l ++ [47]) = comps l := by have := comps_app l []; simpa [comps_nil] using this
theorem comps_no {l : List UInt8} (h : (47 : UInt8) ∉ l) (hne : l ≠ []) : comps l = [l] := by
  unfold comps; rw [segs_no h]; cases l <;> simp_all
theorem mem_comps {l x : List UInt8} (h : x ∈ comps l) : x ≠ [] ∧ (47 : UInt8) ∉ x ∧ (∀ c ∈ x, c ∈ l) ∧ x.length ≤ l.length := by
  unfold comps at h
  rw [List.mem_filter] at h
  obtain ⟨h1, h2, h3⟩ := mem_segs l x h.1
  exact ⟨by rintro rfl; simp at h, h1, h2, h3⟩
theorem comps_length (l : List UInt8) : (comps l).length ≤ l.length + 1 := Nat.le_trans (List.length_filter_le _ _) (segs_length l)

def dotsB (l : List UInt8) : Bool := l == [46] || l == [46, 46]
/-- Is a component longer than a name may be? -/
def longB (l : List UInt8) : Bool := (comps l).any fun x => decide (12 < x.length)
def endSlash (l : List UInt8) : Bool := l.getLast? == some 47
def lastDots (ls : List (List UInt8)) : Bool := match ls.getLast? with
  | some x => dotsB x
  | none => false
def dirB (l : List UInt8) : Bool := endSlash l || lastDots (comps l)

def checkE (l : List UInt8) : Int :=
  if 12 < l.length then 11 else if l = [] ∨ dotsB l = true ∨ l.contains 0 = true ∨ l.contains 47 = true then 10 else 0

def cutR (l : List UInt8) : List (List UInt8) × Bool × Int := if longB l then ([], false, 11) else (comps l, dirB l, 0)

def splitR (l : List UInt8) : List (List UInt8) × Bool × Int :=
  if 96 < l.length then ([], false, 13) else if l.head? ≠ some 47 ∨ l.contains 0 = true then ([], false, 12) else cutR l

def targetR (l : List UInt8) : List (List UInt8) × Bool × Bool × Int :=
  if 96 < l.length then ([], false, false, 13) else if l = [] ∨ l.contains 0 = true then ([], false, false, 12)
  else if longB l then ([], false, false, 11) else (comps l, l.head? == some 47, dirB l, 0)

def parentR (l : List UInt8) : List (List UInt8) × List UInt8 × Int :=
  if (splitR l).2.2 ≠ 0 then ([], [], (splitR l).2.2) else match (comps l).getLast? with
  | none => ([], [], 10)
  | some x => if dotsB x then ([], [], 10) else ((comps l).dropLast, x, 0)

theorem splitR_ok {l : List UInt8} (h : (splitR l).2.2 = 0) : splitR l = (comps l, dirB l, 0) ∧ l.length ≤ 96 ∧ longB l = false ∧ l.head? = some 47 ∧ l.contains 0 = false := by
  unfold splitR at h ⊢
  split at h
  · simp at h
  · rename_i hl
    split at h
    · simp at h
    · rename_i hh
      rw [if_neg hl, if_neg hh]
      unfold cutR at h ⊢
      split at h
      · simp at h
      · rename_i hlb
        rw [if_neg hlb]
        simp only [not_or, Decidable.not_not, Bool.not_eq_true] at hh
        exact ⟨rfl, by omega, by simpa using hlb, hh.1, hh.2⟩

theorem parentR_ok {l : List UInt8} (h : (splitR l).2.2 = 0) : parentR l = match (comps l).getLast? with
    | none => ([], [], 10)
    | some x => if dotsB x then ([], [], 10) else ((comps l).dropLast, x, 0) := by
  unfold parentR; rw [if_neg (by simp [h])]

theorem splitR_len (l : List UInt8) : (splitR l).1.length ≤ 97 := by
  unfold splitR cutR
  split
  · simp
  · split
    · simp
    · split
      · simp
      · exact Nat.le_trans (comps_length _) (by omega)

theorem targetR_len (l : List UInt8) : (targetR l).1.length ≤ 97 := by
  unfold targetR
  split
  · simp
  · split
    · simp
    · split
      · simp
      · exact Nat.le_trans (comps_length _) (by omega)

theorem parentR_len (l : List UInt8) : (parentR l).1.length ≤ 97 := by
  by_cases h : (splitR l).2.2 = 0
  · have hl := (splitR_ok h).2.1
    rw [parentR_ok h]
    split
    · simp
    · split
      · simp
      · have := comps_length l
        simp; omega
  · unfold parentR; rw [if_pos h]; simp

theorem checkE_comp {l x : List UInt8} (hx : x ∈ comps l) (hl : longB l = false) (hz : l.contains 0 = false) (hd : dotsB x = false) : checkE x = 0 := by
  obtain ⟨h1, h2, h3, _⟩ := mem_comps hx
  unfold longB at hl
  rw [List.any_eq_false] at hl
  have h12 := hl x hx
  simp only [decide_eq_true_eq] at h12
  have h0 : x.contains 0 = false := by
    rw [Bool.eq_false_iff]
    intro h
    rw [List.contains_iff_mem] at h
    have := h3 0 h
    rw [← List.contains_iff_mem, hz] at this
    cases this
  have h47 : x.contains 47 = false := by
    rw [Bool.eq_false_iff]
    intro h
    rw [List.contains_iff_mem] at h
    exact h2 h
  unfold checkE
  rw [if_neg h12, if_neg]
  simp only [h1, hd, h0, h47, Bool.false_eq_true, or_self, not_false_eq_true]

/-- One slash behind. -/
theorem splitR_end {l : List UInt8} (h : (splitR l).2.2 = 0) (h96 : l.length < 96) : splitR (l ++ [47]) = (comps l, true, 0) := by
  obtain ⟨h1, h2, h3, h4, h5⟩ := splitR_ok h
  have hlb : longB (l ++ [47]) = false := by unfold longB; rw [comps_end]; exact h3
  have hhd : (l ++ [47]).head? = some 47 := by
    cases l with
    | nil => rfl
    | cons c t => simpa using h4
  have hz : (l ++ [47]).contains 0 = false := by
    rw [Bool.eq_false_iff]
    intro h
    rw [List.contains_iff_mem, List.mem_append, ← List.contains_iff_mem, h5] at h
    simp at h
  unfold splitR
  rw [if_neg (by simp; omega), if_neg (fun h => h.elim (fun h => h hhd) (fun h => by rw [hz] at h; cases h))]
  unfold cutR
  rw [hlb, if_neg (by simp), comps_end]
  have : dirB (l ++ [47]) = true := by unfold dirB endSlash; simp
  rw [this]

/-- One slash more, beside another or behind, of a path that is taken. -/
theorem splitR_slash {l : List UInt8} {k : Nat} (h : (splitR l).2.2 = 0) (h96 : l.length < 96) (hk : k ≤ l.length) (hs : k < l.length → l[k]? = some 47) :
    splitR (l.take k ++ 47 :: l.drop k) = (comps l, (if k < l.length then dirB l else true), 0) := by
  obtain ⟨h1, h2, h3, h4, h5⟩ := splitR_ok h
  by_cases hlt : k < l.length
  · have hd : l.drop k = 47 :: l.drop (k + 1) := by
      obtain ⟨hk', e⟩ := List.getElem?_eq_some_iff.1 (hs hlt)
      rw [List.drop_eq_getElem_cons hk', e]
    have hl : l = l.take k ++ 47 :: l.drop (k + 1) := by rw [← hd, List.take_append_drop]
    have hc : comps (l.take k ++ 47 :: l.drop k) = comps l := by
      rw [comps_app, hd, comps_slash]
      conv => rhs; rw [hl, comps_app]
    have hlb : longB (l.take k ++ 47 :: l.drop k) = false := by unfold longB; rw [hc]; exact h3
    have hhd : (l.take k ++ 47 :: l.drop k).head? = some 47 := by
      cases k with
      | zero => simp
      | succ k => cases l with
        | nil => simp at hlt
        | cons c t => simpa using h4
    have hz : (l.take k ++ 47 :: l.drop k).contains 0 = false := by
      rw [Bool.eq_false_iff]
      intro h
      rw [List.contains_iff_mem] at h
      have : (0 : UInt8) ∈ l := by
        rcases List.mem_append.1 h with h | h
        · exact List.mem_of_mem_take h
        · rcases List.mem_cons.1 h with h | h
          · cases h
          · exact List.mem_of_mem_drop h
      rw [← List.contains_iff_mem, h5] at this
      cases this
    have hdir : dirB (l.take k ++ 47 :: l.drop k) = dirB l := by
      unfold dirB
      rw [hc]
      have : endSlash (l.take k ++ 47 :: l.drop k) = endSlash l := by
        unfold endSlash
        congr 1
        conv => rhs; rw [← List.take_append_drop k l]
        rw [hd, List.getLast?_append, List.getLast?_append, List.getLast?_cons_cons]
      rw [this]
    unfold splitR
    rw [if_neg (by simp; omega), if_neg (fun h => h.elim (fun h => h hhd) (fun h => by rw [hz] at h; cases h))]
    unfold cutR
    rw [hlb, if_neg (by simp), hc, hdir, if_pos hlt]
  · obtain rfl : k = l.length := by omega
    rw [List.take_length, List.drop_length, splitR_end h h96, if_neg hlt]

theorem splitR_bad {l : List UInt8} (h : (splitR l).2.2 ≠ 0) : (splitR l).1 = [] ∧ (splitR l).2.1 = false := by
  unfold splitR cutR at h ⊢
  split
  · exact ⟨rfl, rfl⟩
  · split
    · exact ⟨rfl, rfl⟩
    · split
      · exact ⟨rfl, rfl⟩
      · rename_i h1 h2 h3
        rw [if_neg h1, if_neg h2, if_neg h3] at h
        exact absurd rfl h

theorem longB_segs (l : List UInt8) : longB l = (segs l).any fun x => decide (12 < x.length) := by
  unfold longB comps
  rw [Bool.eq_iff_iff, List.any_eq_true, List.any_eq_true]
  constructor
  · rintro ⟨x, hx, h⟩
    exact ⟨x, (List.mem_filter.1 hx).1, h⟩
  · rintro ⟨x, hx, h⟩
    refine ⟨x, List.mem_filter.2 ⟨hx, ?_⟩, h⟩
    cases x with
    | nil => simp at h
    | cons => rfl

/-! ## The library's Split at a slash -/
open Go.Lib

theorem index_ge_ : ∀ l : List UInt8, -1 ≤ index l [47]
  | [] => by simp [index]
  | b :: l => by
    have := index_ge_ l
    rw [index]
    split
    · omega
    · split <;> omega

theorem splitK_segs : ∀ s : List UInt8, splitK [47] 0 (count s [47]) s = segs s
  | [] => by rw [count_one]; rfl
  | b :: l => by
    have ih := splitK_segs l
    by_cases h : b = 47
    · subst h
      rw [count_cons_eq, Nat.add_comm, segs_slash]
      have hi : index (47 :: l) [47] = 0 := by simp [index, List.isPrefixOf]
      rw [splitK, hi]
      simp only [show ((0 : Int) == -1) = false from rfl, Bool.false_eq_true, if_false]
      simp only [Int.toNat_zero, List.length_singleton, Nat.zero_add, List.take_zero, List.drop_succ_cons, List.drop_zero]
      rw [ih]
    · rw [count_cons_ne b 47 l h]
      obtain ⟨x, t, h1, h2⟩ := segs_other l h
      rw [h2]
      have hix : index (b :: l) [47] = if index l [47] == -1 then -1 else index l [47] + 1 := by
        rw [index, if_neg]
        simp [List.isPrefixOf]
        exact fun e => h e.symm
      by_cases hm : index l [47] = -1
      · rw [hm] at hix
        have hk : splitK [47] 0 (count l [47]) l = [l] := by
          cases hc : count l [47] with
          | zero => rfl
          | succ k => rw [splitK, hm]; rfl
        rw [hk, h1] at ih
        simp only [List.cons.injEq] at ih
        obtain ⟨rfl, rfl⟩ := ih
        cases hc : count l [47] with
        | zero => rfl
        | succ k => rw [splitK, hix]; rfl
      · have hge : -1 ≤ index l [47] := index_ge_ l
        obtain ⟨i, hi⟩ : ∃ i : Nat, index l [47] = i := ⟨(index l [47]).toNat, by omega⟩
        have hc := count_hit (sub := [47]) (by simp) hi
        rw [hc, Nat.add_comm]
        have hne : (((i : Nat) : Int) == -1) = false := by rw [beq_eq_false_iff_ne]; omega
        have hne' : ((((i : Nat) : Int) + 1) == -1) = false := by rw [beq_eq_false_iff_ne]; omega
        rw [hc, Nat.add_comm, splitK, hi, hne] at ih
        rw [hi, hne] at hix
        simp only [Bool.false_eq_true, if_false] at hix ih
        rw [splitK, hix, hne']
        simp only [Bool.false_eq_true, if_false]
        rw [h1] at ih
        simp only [List.cons.injEq, Int.toNat_natCast, Nat.add_zero, List.length_singleton] at ih
        obtain ⟨e1, e2⟩ := ih
        rw [show (((i : Nat) : Int) + 1).toNat = i + 1 from by omega]
        simp only [Nat.add_zero, List.length_singleton, List.take_succ_cons, List.drop_succ_cons]
        rw [e1, e2]
end Nm
end Go.Proofs.YtoacobcbloljkaaGreatDoor

/-! # Lib: Words for memory that all later texts use: a slice value that reads as a list, worlds that keep what they held, small facts on byte strings. No program in it. -/
namespace Go.Proofs.YtoacobcbloljkaaGreatDoor
open Go.RowKit

theorem add_block (a : Addr) (n : Nat) : (a.add n).block = a.block := by unfold Addr.add; split <;> rfl

theorem add_assoc_ (a : Addr) (i j : Nat) : (a.add i).add j = a.add (i + j) := by
  unfold Addr.add
  by_cases hi : i = 0 <;> by_cases hj : j = 0 <;> simp [hi, hj, Nat.add_assoc]

/-- The slice with address A and n elements of sz cells each reads as the cells xs. -/
def Rd (w : World) (sz : Nat) (A : Option Addr) (n : Nat) (xs : List Value) : Prop :=
  xs.length = n * sz ∧ (0 < n → ∃ ad, A = some ad ∧ ad.block < w.heap.size ∧ ∀ j u, xs[j]? = some u → w.cell? (ad.add j) = some u)

section
variable {w w' : World} {sz n : Nat} {A : Option Addr} {xs : List Value}

theorem Rd.empty (w : World) (sz : Nat) (A : Option Addr) : Rd w sz A 0 [] := ⟨by simp, fun h => absurd h (by omega)⟩

theorem Rd.keep (h : Rd w sz A n xs) (hs : w.heap.size ≤ w'.heap.size) (hk : ∀ ad, A = some ad → ad.block < w.heap.size → w'.heap[ad.block]? = w.heap[ad.block]?) : Rd w' sz A n xs := by
  refine ⟨h.1, fun hn => ?_⟩
  obtain ⟨ad, e, hb, hc⟩ := h.2 hn
  refine ⟨ad, e, by omega, fun j u hu => ?_⟩
  rw [← hc j u hu]
  exact World.cell?_of_block (by rw [add_block]; exact hk ad e hb)

theorem Rd.below (h : Rd w sz A n xs) (hb : Below w.heap.size w w') : Rd w' sz A n xs := h.keep hb.size fun _ _ hlt => hb.block _ hlt

theorem Rd.grown (h : Rd w sz A n xs) {row : Option Nat} (hg : w.grownBy w' row) (hne : ∀ ad, A = some ad → some ad.block ≠ row) : Rd w' sz A n xs :=
  h.keep hg.size fun ad e hlt => hg.block _ hlt (hne ad e)

theorem Rd.drew (h : Rd w sz A n xs) : Rd w.drew sz A n xs := h
theorem Rd.drewN (h : Rd w sz A n xs) (k : Nat) : Rd (w.drewN k) sz A n xs := h

theorem Rd.alloc (h : Rd w sz A n xs) (o : Obj) : Rd (w.alloc o) sz A n xs := h.below ((Below.refl _ _).alloc (Nat.le_refl _) o)

theorem Rd.at1 (h : Rd w 1 A n xs) {k : Nat} (hk : k < n) : ∃ (ad : Addr) (u : Value), A = some ad ∧ ad.block < w.heap.size ∧ xs[k]? = some u ∧ w.cell? (ad.add k) = some u := by
  obtain ⟨ad, e, hb, hc⟩ := h.2 (by omega)
  have hl : k < xs.length := by have := h.1; omega
  exact ⟨ad, xs[k], e, hb, List.getElem?_eq_getElem hl, hc k _ (List.getElem?_eq_getElem hl)⟩

theorem Rd.of_own {base : Nat} {e : TypeId} {c : Nat} (h : w.ownsRow base e sz (.slice A n c) n xs) : Rd w sz A n xs := by
  refine ⟨h.1, fun hn => ?_⟩
  obtain ⟨g, cap, hv, _, hlt⟩ := h.form hn
  have hA : A = some ⟨g, 0, none⟩ := by injection hv
  subst hA
  exact ⟨_, rfl, hlt, h.cells (g := g) rfl⟩

/-- A value that the call owns is a slice. -/
theorem own_slice {base : Nat} {e : TypeId} {v : Value} (h : w.ownsRow base e sz v n xs) : ∃ A c, v = .slice A n c := by
  rcases h.2 with ⟨rfl, rfl⟩ | ⟨g, cap, cur, rfl, _⟩
  · exact ⟨none, 0, rfl⟩
  · exact ⟨_, _, rfl⟩

theorem own_le {base : Nat} {e : TypeId} {v : Value} (h : w.ownsRow base e sz v n xs) : n ≤ maxLen := by
  rcases h.2 with ⟨_, rfl⟩ | ⟨g, cap, cur, _, _, _, h1, h2, _⟩
  · exact Nat.zero_le _
  · omega

theorem below_grown {B : Nat} (h : Below B w w') (hB : B = w.heap.size) : w.grownBy w' none :=
  ⟨h.os, h.tape, h.output, h.size, fun k hk _ => h.block k (by omega)⟩

theorem own_below {base : Nat} {e : TypeId} {v : Value} (h : w.ownsRow base e sz v n xs) (hb : Below w.heap.size w w') : w'.ownsRow base e sz v n xs := by
  refine h.kept (below_grown hb rfl) ?_
  cases hv : v.ownBlock with
  | none => exact .inl rfl
  | some k => exact .inr (by simp)

theorem own_base {base base' : Nat} {e : TypeId} {v : Value} (h : w.ownsRow base e sz v n xs) (hb : base' ≤ base) : w.ownsRow base' e sz v n xs := by
  refine ⟨h.1, ?_⟩
  rcases h.2 with h2 | ⟨g, cap, cur, hv, hg, r⟩
  · exact .inl h2
  · exact .inr ⟨g, cap, cur, hv, by omega, r⟩

theorem own_drewN {base : Nat} {e : TypeId} {v : Value} (h : w.ownsRow base e sz v n xs) (k : Nat) : (w.drewN k).ownsRow base e sz v n xs := h

theorem below_drewN_ {B : Nat} {a : World} (h : Below B a w) (k : Nat) : Below B a (w.drewN k) := ⟨h.os, h.tape, h.output, h.size, h.block⟩

/-- 'Below' from world to world, each at its own size. -/
theorem below_next {a : World} {B : Nat} (h : Below B a w) (hB : B ≤ w.heap.size) (k : Below w.heap.size w w') : Below B a w' := h.trans (k.mono hB)

theorem below_size {B : Nat} {a : World} (h : Below B a w) (hB : B ≤ a.heap.size) : B ≤ w.heap.size := by have := h.size; omega
end

theorem own_cap {w : World} {base n m sz : Nat} {e : TypeId} {A : Option Addr} {c : Nat} {xs : List Value} (h : w.ownsRow base e sz (.slice A m c) n xs) : n ≤ c ∧ c ≤ maxLen := by
  rcases h.2 with ⟨hv, rfl⟩ | ⟨g, cap, cur, hv, _, _, h1, h2, _⟩
  · exact ⟨Nat.zero_le _, by injection hv with _ _ h; subst h; exact Nat.zero_le _⟩
  · injection hv with _ _ h; subst h; exact ⟨h1, h2⟩

theorem own_fresh {w : World} {base n sz : Nat} {e : TypeId} {A : Option Addr} {c : Nat} {xs : List Value} (h : w.ownsRow base e sz (.slice A n c) n xs) : ∀ ad, A = some ad → base ≤ ad.block := by
  intro ad ha
  subst ha
  exact (h.lt ad.block rfl).1

/-! ## Worlds that keep some blocks -/

/-- Of the blocks that were there those in P are as they were; the streams too; none has gone. -/
structure Kp (P : Nat → Prop) (w w' : World) : Prop where
  os : w'.os = w.os
  tape : w'.tape = w.tape
  output : w'.output = w.output
  size : w.heap.size ≤ w'.heap.size
  block : ∀ k, P k → k < w.heap.size → w'.heap[k]? = w.heap[k]?

theorem Kp.refl (P : Nat → Prop) (w : World) : Kp P w w := ⟨rfl, rfl, rfl, Nat.le_refl _, fun _ _ _ => rfl⟩
theorem Kp.trans {P : Nat → Prop} {a b c : World} (h : Kp P a b) (k : Kp P b c) : Kp P a c :=
  ⟨k.os.trans h.os, k.tape.trans h.tape, k.output.trans h.output, Nat.le_trans h.size k.size, fun i hi hlt => (k.block i hi (Nat.lt_of_lt_of_le hlt h.size)).trans (h.block i hi hlt)⟩
theorem Kp.mono {P Q : Nat → Prop} {a b : World} (h : Kp P a b) (hq : ∀ k, k < a.heap.size → Q k → P k) : Kp Q a b :=
  ⟨h.os, h.tape, h.output, h.size, fun i hi hlt => h.block i (hq i hlt hi) hlt⟩
theorem Kp.of_below {P : Nat → Prop} {a b : World} (h : Below a.heap.size a b) : Kp P a b := ⟨h.os, h.tape, h.output, h.size, fun i _ hlt => h.block i hlt⟩
theorem Kp.below {P : Nat → Prop} {a b c : World} (h : Kp P a b) (k : Below b.heap.size b c) : Kp P a c := h.trans (Kp.of_below k)
theorem Kp.to_below {P : Nat → Prop} {a b : World} {B : Nat} (h : Kp P a b) (hB : B ≤ a.heap.size) (hP : ∀ k, k < B → P k) : Below B a b :=
  ⟨h.os, h.tape, h.output, h.size, fun i hi => h.block i (hP i hi) (by omega)⟩
theorem Kp.alloc {P : Nat → Prop} {a b : World} (h : Kp P a b) (o : Obj) : Kp P a (b.alloc o) := h.below ((Below.refl _ _).alloc (Nat.le_refl _) o)
theorem Kp.drewN {P : Nat → Prop} {a b : World} (h : Kp P a b) (n : Nat) : Kp P a (b.drewN n) := ⟨h.os, h.tape, h.output, h.size, h.block⟩
theorem Kp.drew {P : Nat → Prop} {a b : World} (h : Kp P a b) : Kp P a b.drew := ⟨h.os, h.tape, h.output, h.size, h.block⟩
theorem Kp.grown {P : Nat → Prop} {a b c : World} {row : Option Nat} (h : Kp P a b) (hg : b.grownBy c row) (hr : ∀ k, row = some k → k < a.heap.size → ¬ P k) : Kp P a c :=
  ⟨hg.os.trans h.os, hg.tape.trans h.tape, hg.output.trans h.output, Nat.le_trans h.size hg.size,
    fun i hi hlt => (hg.block i (Nat.lt_of_lt_of_le hlt h.size) (fun e => hr i e.symm hlt hi)).trans (h.block i hi hlt)⟩
theorem Kp.setCell {P : Nat → Prop} {a b : World} (h : Kp P a b) {p : Addr} (hp : p.block < a.heap.size → ¬ P p.block) (u : Value) : Kp P a (b.setCell p u) :=
  ⟨h.os, h.tape, h.output, by simpa [World.setCell] using h.size, fun i hi hlt => (Below.heap_setCell _ _ _ _ (fun e => by subst e; exact hp hlt hi)).trans (h.block i hi hlt)⟩
theorem Rd.kp {P : Nat → Prop} {w w' : World} {sz n : Nat} {A : Option Addr} {xs : List Value} (h : Rd w sz A n xs) (hk : Kp P w w') (hP : ∀ ad, A = some ad → P ad.block) : Rd w' sz A n xs :=
  h.keep hk.size fun ad e hlt => hk.block _ (hP ad e) hlt

theorem Rd.kp0 {P : Nat → Prop} {w w' : World} {sz n : Nat} {A : Option Addr} {xs : List Value} (h : Rd w sz A n xs) (hk : Kp P w w') (hP : ∀ ad, A = some ad → 0 < n → P ad.block) : Rd w' sz A n xs := by
  refine ⟨h.1, fun hn => ?_⟩
  obtain ⟨ad, e, hb, hc⟩ := h.2 hn
  refine ⟨ad, e, Nat.lt_of_lt_of_le hb hk.size, fun j u hu => ?_⟩
  rw [← hc j u hu]
  exact World.cell?_of_block (by rw [add_block]; exact hk.block _ (hP ad e hn) hb)

theorem own_kp {P : Nat → Prop} {w w' : World} {base e sz n : Nat} {v : Value} {xs : List Value} (h : w.ownsRow base e sz v n xs) (hk : Kp P w w') (hP : ∀ k, v.ownBlock = some k → P k) : w'.ownsRow base e sz v n xs := by
  refine ⟨h.1, ?_⟩
  rcases h.2 with h2 | ⟨g, cap, cur, hv, hb, hh, r⟩
  · exact .inl h2
  · refine .inr ⟨g, cap, cur, hv, hb, ?_, r⟩
    have hlt : g < w.heap.size := (h.lt g (by rw [hv]; rfl)).2
    rw [hk.block g (hP g (by rw [hv]; rfl)) hlt]
    exact hh

/-! ## append -/

/-- A slice onto which can be appended without touching what is not the call's own: one of its own, or a full one. -/
def App (w : World) (base e sz : Nat) (v : Value) (n : Nat) (xs : List Value) : Prop := w.ownsRow base e sz v n xs ∨ ∃ B, v = .slice B n n ∧ Rd w sz B n xs

/-- What the program's tables say of a slice type and its elements. -/
structure Elem (P : Program) (t e : TypeId) (size bytes : Nat) : Prop where
  ht : P.underlying t = some (.slice e)
  inf : ∃ i z, P.info? e = some i ∧ i.zero = some z ∧ i.size = size ∧ i.bytes = bytes ∧ z.cells.size = size
  pos : 0 < size

theorem Elem.mk_ {P : Program} {t e : TypeId} {size bytes : Nat} {z : Value} (ht : P.underlying t = some (.slice e)) (h : (P.info? e).map (fun i => (i.zero, i.size, i.bytes)) = some (some z, size, bytes))
    (hz : z.cells.size = size) (hp : 0 < size) : Elem P t e size bytes := by
  obtain ⟨i, h1, h2, h3, h4⟩ := info_parts h
  exact ⟨ht, ⟨i, z, h1, h2, h3, h4, hz⟩, hp⟩

/-- append onto a slice of the call's own, from whatever slice. -/
theorem run_append_rd {P : Program} {t e : TypeId} {size bytes : Nat} (E : Elem P t e size bytes) (w : World) (ty : TypeId) {base n : Nat} {v : Value} {xs : List Value} (hown : w.ownsRow base e size v n xs)
    {A : Option Addr} {m c : Nat} {news : List Value} (hr : Rd w size A m news) (h1 : ∀ u ∈ news, u.oneCell' = true) (h63 : n + m ≤ maxLen) (hb : (n + m) * bytes ≤ 140737488355328) (hbase : base ≤ w.heap.size) :
    ∃ v' w', (Builtin.append_ #[t, t] ty #[v, .slice A m c]).run P w = .ok v' w' ∧ w'.ownsRow base e size v' (n + m) (xs ++ news) ∧ w.grownBy w' v.ownBlock ∧ (v'.ownBlock = v.ownBlock ∨ v'.ownBlock = some w.heap.size) := by
  obtain ⟨ht, ⟨i, z, hi, hz, hs, hby, hzs⟩, hp⟩ := E
  cases A with
  | some ad =>
    have hn : ∀ j u, news[j]? = some u → w.cell? (ad.add j) = some u := by
      intro j u hu
      by_cases h0 : 0 < m
      · obtain ⟨ad', e', _, hc⟩ := hr.2 h0
        injection e' with e'
        subst e'
        exact hc j u hu
      · have hl := hr.1
        obtain rfl : m = 0 := by omega
        have : news = [] := List.eq_nil_of_length_eq_zero (by simpa using hl)
        subst this
        simp at hu
    obtain ⟨v', w', a1, a2, a3, _, a5⟩ := run_append_own_at (P := P) w base t ty e i z size bytes ht hi hz hs hby hzs hp v n xs hown ad m c news hr.1 hn h1 h63 hb hbase
    exact ⟨v', w', a1, a2, a3, a5⟩
  | none =>
    have hm : m = 0 := by
      by_cases h0 : 0 < m
      · obtain ⟨ad', e', _⟩ := hr.2 h0
        cases e'
      · omega
    subst hm
    have : news = [] := List.eq_nil_of_length_eq_zero (by simpa using hr.1)
    subst this
    refine ⟨v, w, ?_, by simpa using hown, World.grownBy.refl _ _, .inl rfl⟩
    rcases hown.2 with ⟨rfl, rfl⟩ | ⟨g, cap, cur, rfl, _, _, hnc, _⟩
    · simp [Builtin.append_, run_underlying ht, sizeOf, typeInfo, hi, Builtin.lenOf, Builtin.firstCells]
    · simp [Builtin.append_, run_underlying ht, sizeOf, typeInfo, hi, Builtin.lenOf, Builtin.firstCells, hnc, storeCells]

/-- append onto a full slice, whoever owns it: a new row. -/
theorem run_append_full {P : Program} {t e : TypeId} {size bytes : Nat} (E : Elem P t e size bytes) (w : World) (ty : TypeId) {n : Nat} {B : Option Addr} {olds : List Value} (ho : Rd w size B n olds)
    {ad : Addr} {m c : Nat} {news : List Value} (hl : news.length = m * size) (hn : ∀ j u, news[j]? = some u → w.cell? (ad.add j) = some u) (h1 : ∀ u ∈ news, u.oneCell' = true) (hm : 0 < m) (h63 : n + m ≤ maxLen) (hb : (n + m) * bytes ≤ 140737488355328) :
    ∃ v' w', (Builtin.append_ #[t, t] ty #[.slice B n n, .slice (some ad) m c]).run P w = .ok v' w' ∧ w'.ownsRow w.heap.size e size v' (n + m) (olds ++ news) ∧ w.grownBy w' none := by
  obtain ⟨ht, ⟨i, z, hi, hz, hs, hby, hzs⟩, hp⟩ := E
  cases B with
  | some b =>
    have holds : ∀ j u, olds[j]? = some u → w.cell? (b.add j) = some u := by
      intro j u hu
      by_cases h0 : 0 < n
      · obtain ⟨ad', e', _, hc⟩ := ho.2 h0
        injection e' with e'
        subst e'
        exact hc j u hu
      · have hl := ho.1
        obtain rfl : n = 0 := by omega
        have : olds = [] := List.eq_nil_of_length_eq_zero (by simpa using hl)
        subst this
        simp at hu
    exact run_append_arg_grows (P := P) w t ty e i z size bytes ht hi hz hs hby hzs hp b n n olds ho.1 holds ad m c news hl hn (by omega) h63 hb
  | none =>
    have h0 : n = 0 := by
      by_cases h0 : 0 < n
      · obtain ⟨ad', e', _⟩ := ho.2 h0
        cases e'
      · omega
    subst h0
    have : olds = [] := List.eq_nil_of_length_eq_zero (by simpa using ho.1)
    subst this
    obtain ⟨v', w', a1, a2, a3, _⟩ := run_append_own (P := P) w w.heap.size t ty e i z size bytes ht hi hz hs hby hzs hp (.slice none 0 0) 0 [] (World.ownsRow_nil _ _ _ _) ad m c news hl hn
      h1 h63 hb (Nat.le_refl _)
    exact ⟨v', w', a1, a2, a3⟩

theorem wpList_append_rd {P : Program} {w : World} {ops : Array Oper} {rest : List Oper} {o : Oper} {a : Act} {Q : Exit → Act → World → Prop} (hw : Region.wanted o (yielded ops a.tmps) = true) (s x : Operand) {t e : TypeId} {size bytes : Nat}
    (hop : o.op = .call { callee := .builtin .append, args := #[s, x], argTypes := #[t, t] }) (E : Elem P t e size bytes) {base n : Nat} {v : Value} {xs : List Value} (hs : a.eval s = v) (hown : w.ownsRow base e size v n xs)
    {A : Option Addr} {m c : Nat} {news : List Value} (hx : a.eval x = .slice A m c) (hr : Rd w size A m news) (h1 : ∀ u ∈ news, u.oneCell' = true) (h63 : n + m ≤ maxLen) (hb : (n + m) * bytes ≤ 140737488355328) (hbase : base ≤ w.heap.size)
    (h : ∀ v' w', w'.ownsRow base e size v' (n + m) (xs ++ news) → w.grownBy w' v.ownBlock → (v'.ownBlock = v.ownBlock ∨ v'.ownBlock = some w.heap.size) → wpList P ops Q rest (a.put o.dst v') w') : wpList P ops Q (o :: rest) a w := by
  obtain ⟨v', w', hrun, r1, r2, r3⟩ := run_append_rd E w o.type (c := c) hown hr h1 h63 hb hbase
  unfold wpList
  rw [if_pos hw]
  refine .inl ?_
  unfold Oper.wp execOp
  simp only [hop, resolve, invoke, builtin, Sem.run_bind, Sem.run_pure, Result.andThen_ok, List.map_toArray, List.map_cons, List.map_nil, hs, hx, hrun]
  exact h v' w' r1 r2 r3

theorem wpList_append_full {P : Program} {w : World} {ops : Array Oper} {rest : List Oper} {o : Oper} {a : Act} {Q : Exit → Act → World → Prop} (hw : Region.wanted o (yielded ops a.tmps) = true) (s x : Operand) {t e : TypeId} {size bytes : Nat}
    (hop : o.op = .call { callee := .builtin .append, args := #[s, x], argTypes := #[t, t] }) (E : Elem P t e size bytes) {n : Nat} {B : Option Addr} {olds : List Value} (hs : a.eval s = .slice B n n) (ho : Rd w size B n olds)
    {ad : Addr} {m c : Nat} {news : List Value} (hx : a.eval x = .slice (some ad) m c) (hl : news.length = m * size) (hn : ∀ j u, news[j]? = some u → w.cell? (ad.add j) = some u) (h1 : ∀ u ∈ news, u.oneCell' = true) (hm : 0 < m) (h63 : n + m ≤ maxLen) (hb : (n + m) * bytes ≤ 140737488355328)
    (h : ∀ v' w', w'.ownsRow w.heap.size e size v' (n + m) (olds ++ news) → w.grownBy w' none → wpList P ops Q rest (a.put o.dst v') w') : wpList P ops Q (o :: rest) a w := by
  obtain ⟨v', w', hrun, r1, r2⟩ := run_append_full E w o.type (c := c) ho hl hn h1 hm h63 hb
  unfold wpList
  rw [if_pos hw]
  refine .inl ?_
  unfold Oper.wp execOp
  simp only [hop, resolve, invoke, builtin, Sem.run_bind, Sem.run_pure, Result.andThen_ok, List.map_toArray, List.map_cons, List.map_nil, hs, hx, hrun]
  exact h v' w' r1 r2

theorem App.kp {P : Nat → Prop} {w w' : World} {base e sz n : Nat} {v : Value} {xs : List Value} (h : App w base e sz v n xs) (hk : Kp P w w') (hP : ∀ k, v.ownBlock = some k → P k) : App w' base e sz v n xs := by
  rcases h with h | ⟨B, rfl, h⟩
  · exact .inl (own_kp h hk hP)
  · exact .inr ⟨B, rfl, h.kp hk (fun ad e => by subst e; exact hP _ rfl)⟩

/-- append of one element onto such a slice. -/
theorem wpList_append_app {P : Program} {w : World} {ops : Array Oper} {rest : List Oper} {o : Oper} {a : Act} {Q : Exit → Act → World → Prop} (hw : Region.wanted o (yielded ops a.tmps) = true) (s x : Operand) {t e : TypeId} {size bytes : Nat}
    (hop : o.op = .call { callee := .builtin .append, args := #[s, x], argTypes := #[t, t] }) (E : Elem P t e size bytes) {base n : Nat} {v : Value} {xs : List Value} (hs : a.eval s = v) (happ : App w base e size v n xs)
    {ad : Addr} {m c : Nat} {news : List Value} (hx : a.eval x = .slice (some ad) m c) (hl : news.length = m * size) (hn : ∀ j u, news[j]? = some u → w.cell? (ad.add j) = some u) (h1 : ∀ u ∈ news, u.oneCell' = true) (hm : 0 < m)
    (h63 : n + m ≤ maxLen) (hb : (n + m) * bytes ≤ 140737488355328) (hbase : base ≤ w.heap.size)
    (h : ∀ v' w', w'.ownsRow base e size v' (n + m) (xs ++ news) → w.grownBy w' v.ownBlock → (∀ k, v'.ownBlock = some k → v.ownBlock = some k ∨ w.heap.size ≤ k) → wpList P ops Q rest (a.put o.dst v') w') : wpList P ops Q (o :: rest) a w := by
  rcases happ with hown | ⟨B, rfl, hrd⟩
  · have hp := E.pos
    have hlt : 0 < news.length := by rw [hl]; exact Nat.mul_pos hm hp
    have hr : Rd w size (some ad) m news := ⟨hl, fun _ => ⟨ad, rfl, by
      have := World.block_lt_of_cell? _ _ (hn 0 _ (List.getElem?_eq_getElem hlt))
      rwa [add_block] at this, hn⟩⟩
    refine wpList_append_rd hw s x hop E hs hown hx hr h1 h63 hb hbase fun v' w' r1 r2 r3 => h v' w' r1 r2 fun k hk => ?_
    rcases r3 with e | e
    · exact .inl (e.symm.trans hk)
    · rw [e] at hk; injection hk with hk; exact .inr (by omega)
  · refine wpList_append_full hw s x hop E hs hrd hx hl hn h1 hm h63 hb fun v' w' r1 r2 => ?_
    exact h v' w' (own_base r1 hbase) ⟨r2.os, r2.tape, r2.output, r2.size, fun k hk _ => r2.block k hk (by simp)⟩ fun k hk => .inr (r1.lt k hk).1

theorem rd_lit (w : World) (t : TypeId) (cs : List Value) (n : Nat) (h : cs.length = n) : Rd (w.alloc (.cells cs.toArray t)) 1 (some ⟨w.heap.size, 0, none⟩) n cs := by
  refine ⟨by simpa using h, fun _ => ⟨_, rfl, by simp, fun j u hu => ?_⟩⟩
  have e : (⟨w.heap.size, 0, none⟩ : Addr).add j = ⟨w.heap.size, j, none⟩ := by unfold Addr.add; split <;> simp_all
  rw [e]
  rw [cell_of_row _ _ _ _ t (0, 0) (heap_alloc_new w _)]
  simpa using hu

theorem ret_int {k : IntKind} {a b : Int} (h : a = b) : Ending.returned (.int k a) = .returned (.int k b) := by rw [h]
theorem ret_bool {a b : Bool} (h : a = b) : Ending.returned (.bool a) = .returned (.bool b) := by rw [h]

/-! ## Texts -/

/-- The value of a text. -/
def txt (l : List UInt8) : Value := .string ⟨l.toArray⟩
def txts (ls : List (List UInt8)) : List Value := ls.map txt

theorem toList_mk (l : List UInt8) : (⟨l.toArray⟩ : ByteArray).toList = l := by rw [ByteArray.toList_eq]
theorem size_mk (l : List UInt8) : (⟨l.toArray⟩ : ByteArray).size = l.length := by simp [ByteArray.size]
theorem mk_toList (s : ByteArray) : (⟨s.toList.toArray⟩ : ByteArray) = s := by rw [ByteArray.toList_eq]
theorem size_toList (s : ByteArray) : s.size = s.toList.length := by rw [ByteArray.toList_eq, Array.length_toList]; rfl
theorem txt_toList (s : ByteArray) : txt s.toList = .string s := by unfold txt; rw [mk_toList]
theorem get_list (s : ByteArray) (k : Nat) (h : k < s.size) : s.toList[k]? = some s[k] := by
  rw [ByteArray.toList_eq, Array.getElem?_toList]
  exact Array.getElem?_eq_getElem h
theorem list_get (s : ByteArray) (k : Nat) (h : k < s.toList.length) : s.toList[k] = s[k]'(by rw [size_toList]; exact h) := by
  have := get_list s k (by rw [size_toList]; exact h)
  rw [List.getElem?_eq_getElem h] at this
  injection this
theorem app_list (a b : ByteArray) : (a ++ b).toList = a.toList ++ b.toList := by rw [ByteArray.toList_eq, ByteArray.toList_eq, ByteArray.toList_eq]; simp
theorem extract_list (s : ByteArray) (a b : Nat) : (s.extract a b).toList = (s.toList.drop a).take (b - a) := by
  rw [ByteArray.toList_eq, ByteArray.toList_eq, Lib.extract_data]
theorem txts_length (ls : List (List UInt8)) : (txts ls).length = ls.length := by simp [txts]
theorem txts_get (ls : List (List UInt8)) (k : Nat) : (txts ls)[k]? = ls[k]?.map txt := by simp [txts]
theorem txts_append (a b : List (List UInt8)) : txts (a ++ b) = txts a ++ txts b := by simp [txts]
theorem txts_one (ls : List (List UInt8)) : ∀ u ∈ txts ls, u.oneCell' = true := by
  intro u hu
  simp only [txts, List.mem_map] at hu
  obtain ⟨l, _, rfl⟩ := hu
  rfl

/-- Reading a list of texts. -/
theorem Rd.txt_at {w : World} {A : Option Addr} {n : Nat} {ls : List (List UInt8)} (h : Rd w 1 A n (txts ls)) {k : Nat} (hk : k < n) :
    ∃ (ad : Addr) (l : List UInt8), A = some ad ∧ ad.block < w.heap.size ∧ ls[k]? = some l ∧ w.cell? (ad.add k) = some (.string ⟨l.toArray⟩) := by
  obtain ⟨ad, u, e, hb, hx, hc⟩ := h.at1 hk
  rw [txts_get] at hx
  cases hl : ls[k]? with
  | none => rw [hl] at hx; cases hx
  | some l =>
    rw [hl] at hx
    simp only [Option.map_some] at hx
    injection hx with hx
    subst hx
    exact ⟨ad, l, e, hb, rfl, hc⟩

/-- The same, the text as it lies. -/
theorem Rd.str_at {w : World} {A : Option Addr} {n : Nat} {ls : List (List UInt8)} (h : Rd w 1 A n (txts ls)) {k : Nat} (hk : k < n) :
    ∃ (ad : Addr) (b : ByteArray), A = some ad ∧ ad.block < w.heap.size ∧ ls[k]? = some b.toList ∧ w.cell? (ad.add k) = some (.string b) := by
  obtain ⟨ad, l, e, hb, hl, hc⟩ := h.txt_at hk
  exact ⟨ad, ⟨l.toArray⟩, e, hb, by rw [toList_mk]; exact hl, hc⟩

theorem Rd.txt_len {w : World} {A : Option Addr} {n : Nat} {ls : List (List UInt8)} (h : Rd w 1 A n (txts ls)) : ls.length = n := by have := h.1; rw [txts_length] at this; omega

end Go.Proofs.YtoacobcbloljkaaGreatDoor

/-! # Maps: Maps as lists of entries, oldest first: what the operations on a map do to the list. No program in it. -/
namespace Go.Proofs.YtoacobcbloljkaaGreatDoor
open Go.RowKit
open Go.MapKept
open Go.ChangeMaps (setBlock heap_setBlock_same heap_setBlock_other)

/-! ## Lists of entries -/
section
variable {κ ν : Type} [DecidableEq κ]

def alGet : List (κ × ν) → κ → Option ν
  | [], _ => none
  | p :: r, a => if p.1 = a then some p.2 else alGet r a
def alPut : List (κ × ν) → κ → ν → List (κ × ν)
  | [], a, v => [(a, v)]
  | p :: r, a, v => if p.1 = a then (a, v) :: r else p :: alPut r a v
def alDel (l : List (κ × ν)) (a : κ) : List (κ × ν) := l.filter fun p => !decide (p.1 = a)

theorem alGet_none {l : List (κ × ν)} {a : κ} : alGet l a = none ↔ ∀ p ∈ l, p.1 ≠ a := by
  induction l with
  | nil => simp [alGet]
  | cons p r ih =>
    unfold alGet
    by_cases h : p.1 = a
    · simp [h]
    · simp [h, ih]

theorem alGet_mem {l : List (κ × ν)} {a : κ} {v : ν} (h : alGet l a = some v) : (a, v) ∈ l := by
  induction l with
  | nil => simp [alGet] at h
  | cons p r ih =>
    unfold alGet at h
    by_cases e : p.1 = a
    · rw [if_pos e] at h
      injection h with h
      subst h
      subst e
      exact .head _
    · rw [if_neg e] at h
      exact .tail _ (ih h)

theorem alGet_of_mem {l : List (κ × ν)} (hn : (l.map Prod.fst).Nodup) {p : κ × ν} (h : p ∈ l) : alGet l p.1 = some p.2 := by
  induction l with
  | nil => cases h
  | cons q r ih =>
    simp only [List.map_cons, List.nodup_cons, List.mem_map, not_exists, not_and] at hn
    unfold alGet
    rcases List.mem_cons.1 h with rfl | h'
    · rw [if_pos rfl]
    · rw [if_neg (fun e => hn.1 p h' e.symm)]
      exact ih hn.2 h'

theorem alGet_put (l : List (κ × ν)) (a : κ) (v : ν) (b : κ) : alGet (alPut l a v) b = if a = b then some v else alGet l b := by
  induction l with
  | nil => simp [alPut, alGet]
  | cons p r ih =>
    unfold alPut
    by_cases h : p.1 = a
    · rw [if_pos h]
      by_cases hb : a = b
      · simp [alGet, hb]
      · have : p.1 ≠ b := fun e => hb (h.symm.trans e)
        simp [alGet, hb, this]
    · rw [if_neg h]
      by_cases hb : p.1 = b
      · have : a ≠ b := fun e => h (hb.trans e.symm)
        simp [alGet, hb, this]
      · simp [alGet, hb, ih]

theorem alGet_del (l : List (κ × ν)) (a b : κ) : alGet (alDel l a) b = if a = b then none else alGet l b := by
  induction l with
  | nil => simp [alDel, alGet]
  | cons p r ih =>
    unfold alDel at *
    by_cases h : p.1 = a
    · rw [List.filter_cons_of_neg (by simp [h]), ih]
      by_cases hb : a = b
      · simp [hb]
      · simp [hb, alGet, show p.1 ≠ b from fun e => hb (h.symm.trans e)]
    · rw [List.filter_cons_of_pos (by simp [h])]
      by_cases hb : p.1 = b
      · simp [alGet, hb, show a ≠ b from fun e => h (hb.trans e.symm)]
      · simp [alGet, hb, ih]

theorem alPut_new {l : List (κ × ν)} {a : κ} (h : alGet l a = none) (v : ν) : alPut l a v = l ++ [(a, v)] := by
  induction l with
  | nil => rfl
  | cons p r ih =>
    unfold alGet at h
    by_cases e : p.1 = a
    · simp [e] at h
    · rw [if_neg e] at h
      unfold alPut
      rw [if_neg e, ih h]
      rfl

theorem alPut_old {l : List (κ × ν)} (hn : (l.map Prod.fst).Nodup) {a : κ} {j : Nat} {u : ν} (h : l[j]? = some (a, u)) (v : ν) : alPut l a v = l.set j (a, v) := by
  induction l generalizing j with
  | nil => simp at h
  | cons p r ih =>
    simp only [List.map_cons, List.nodup_cons, List.mem_map, not_exists, not_and] at hn
    unfold alPut
    cases j with
    | zero =>
      simp only [List.getElem?_cons_zero] at h
      injection h with h
      subst h
      simp
    | succ j =>
      simp only [List.getElem?_cons_succ] at h
      have : p.1 ≠ a := fun e => hn.1 (a, u) (List.mem_of_getElem? h) e.symm
      rw [if_neg this, ih hn.2 h]
      rfl

theorem alDel_none {l : List (κ × ν)} {a : κ} (h : ∀ p ∈ l, p.1 ≠ a) : alDel l a = l := by
  unfold alDel
  exact List.filter_eq_self.2 fun p hp => by simp [h p hp]

theorem alDel_at {l : List (κ × ν)} (hn : (l.map Prod.fst).Nodup) {a : κ} {j : Nat} {u : ν} (h : l[j]? = some (a, u)) : alDel l a = l.eraseIdx j := by
  induction l generalizing j with
  | nil => simp at h
  | cons p r ih =>
    simp only [List.map_cons, List.nodup_cons, List.mem_map, not_exists, not_and] at hn
    cases j with
    | zero =>
      simp only [List.getElem?_cons_zero] at h
      injection h with h
      subst h
      simp only [List.eraseIdx_cons_zero]
      have := alDel_none (l := r) (a := a) (fun q hq e => hn.1 q hq e)
      unfold alDel at this ⊢
      rw [List.filter_cons_of_neg (by simp), this]
    | succ j =>
      simp only [List.getElem?_cons_succ] at h
      have : p.1 ≠ a := fun e => hn.1 (a, u) (List.mem_of_getElem? h) e.symm
      have ih' := ih hn.2 h
      unfold alDel at ih' ⊢
      rw [List.filter_cons_of_pos (by simp [this]), ih']
      rfl

theorem alKeys_put (l : List (κ × ν)) (a : κ) (v : ν) : (alPut l a v).map Prod.fst = if alGet l a = none then l.map Prod.fst ++ [a] else l.map Prod.fst := by
  induction l with
  | nil => simp [alPut, alGet]
  | cons p r ih =>
    unfold alPut alGet
    by_cases h : p.1 = a
    · simp [h]
    · simp only [if_neg h, List.map_cons, ih]
      split <;> simp

theorem alNodup_put {l : List (κ × ν)} (hn : (l.map Prod.fst).Nodup) (a : κ) (v : ν) : ((alPut l a v).map Prod.fst).Nodup := by
  rw [alKeys_put]
  split
  · rename_i h
    refine List.nodup_append.2 ⟨hn, by simp, ?_⟩
    intro x hx y hy
    simp only [List.mem_singleton] at hy
    subst hy
    obtain ⟨p, hp, rfl⟩ := List.mem_map.1 hx
    exact alGet_none.1 h p hp
  · exact hn

theorem alNodup_del {l : List (κ × ν)} (hn : (l.map Prod.fst).Nodup) (a : κ) : ((alDel l a).map Prod.fst).Nodup := by
  have : (alDel l a).Sublist l := List.filter_sublist
  exact (this.map _).nodup hn

theorem alLen_put (l : List (κ × ν)) (a : κ) (v : ν) : (alPut l a v).length = if alGet l a = none then l.length + 1 else l.length := by
  have := congrArg List.length (alKeys_put l a v)
  simp only [List.length_map] at this
  rw [this]
  split <;> simp

theorem alMem_del {l : List (κ × ν)} {a : κ} {p : κ × ν} : p ∈ alDel l a ↔ p ∈ l ∧ p.1 ≠ a := by simp [alDel]

theorem alDel_perm {l l' : List (κ × ν)} (h : l.Perm l') (a : κ) : (alDel l a).Perm (alDel l' a) := h.filter _
end

/-! ## Keys -/

/-- What the operations on a map ask of its key type. -/
structure KeyT (P : Program) (k : TypeId) (K : Value → Prop) : Prop where
  check : ∀ (w : World) (em : Bool) {v : Value}, K v → (Instr.checkKey em 10000 k v).run P w = .ok () w
  find : ∀ (w : World) {x : Value}, K x → ∀ es : List MapEntry, (∀ e ∈ es, K e.key) →
    ((Instr.findKey k x es).run P w = .ok none w ∧ ∀ e ∈ es, e.key ≠ x) ∨ ∃ j e, (Instr.findKey k x es).run P w = .ok (some (j, e.val)) w ∧ es[j]? = some e ∧ e.key = x
  stays : ∀ (w : World) {v : Value}, K v → (Instr.keyThatStays v v).run P w = .ok v w

theorem keyT_plain {P : Program} {k : TypeId} {d : TypeDesc} (hk : P.underlying k = some d) : KeyT P k (IsKey d) where
  check w em _ h := run_checkKey hk h em 9999
  find w x hx es hes := by
    rcases findNow_spec hx es 0 hes with ⟨h1, h2⟩ | ⟨j, e0, h1, h2, h3⟩
    · exact Or.inl ⟨run_findKey hk h1, h2⟩
    · exact Or.inr ⟨j, e0, by simpa using run_findKey hk h1, h2, h3⟩
  stays w _ h := run_keyThatStays h

/-- Keys of the type k spelt by kv. -/
structure KeyK (P : Program) (k : TypeId) {κ : Type} (kv : κ → Value) : Prop where
  inj : ∀ {a b : κ}, kv a = kv b → a = b
  law : KeyT P k (fun v => ∃ a, v = kv a)

theorem KeyT.mono {P : Program} {k : TypeId} {K L : Value → Prop} (h : KeyT P k K) (hl : ∀ v, L v → K v) : KeyT P k L where
  check w em _ hv := h.check w em (hl _ hv)
  find w _ hx es hes := h.find w (hl _ hx) es fun e he => hl _ (hes e he)
  stays w _ hv := h.stays w (hl _ hv)

def vI (a : Int) : Value := .int .i64 a
def vS (s : ByteArray) : Value := .string s

theorem keyK_int {P : Program} {k : TypeId} (hk : P.underlying k = some (.int .i64)) : KeyK P k vI :=
  ⟨fun h => by injection h, (keyT_plain hk).mono fun v ⟨a, e⟩ => by subst e; rfl⟩
theorem keyK_str {P : Program} {k : TypeId} (hk : P.underlying k = some .string) : KeyK P k vS :=
  ⟨fun h => by injection h, (keyT_plain hk).mono fun v ⟨a, e⟩ => by subst e; trivial⟩

/-! ## The block -/
section
variable {κ ν : Type}

/-- The block b is a map with these entries, oldest first. -/
def MapT (kv : κ → Value) (vv : ν → Value) (w : World) (b : Nat) (l : List (κ × ν)) : Prop :=
  ∃ es clock, w.heap[b]? = some (.map es clock) ∧ Stamped es clock ∧ es.toList.map (fun e => (e.key, e.val)) = l.map (fun p => (kv p.1, vv p.2))

/-- The block r is an iterator over the map b; rem has not come out yet, in whatever order; nothing was laid in since it began. -/
def MapI (kv : κ → Value) (vv : ν → Value) (w : World) (r b : Nat) (l rem : List (κ × ν)) : Prop :=
  ∃ es clock seen, w.heap[b]? = some (.map es clock) ∧ Stamped es clock ∧ es.toList.map (fun e => (e.key, e.val)) = l.map (fun p => (kv p.1, vv p.2)) ∧
    w.heap[r]? = some (.mapIter (some b) clock seen clock) ∧ ((leftOf es seen).toList.map (fun e => (e.key, e.val))).Perm (rem.map (fun p => (kv p.1, vv p.2)))

variable {P : Program} {k : TypeId} {kv : κ → Value} {vv : ν → Value} {w w' : World} {b r : Nat} {l rem : List (κ × ν)}

theorem MapT.made (kv : κ → Value) (vv : ν → Value) (w : World) : MapT kv vv (w.alloc (.map #[] 0)) w.heap.size ([] : List (κ × ν)) :=
  ⟨#[], 0, (MapKept.heap_alloc w _).1, stamped_empty 0, rfl⟩

theorem MapT.lt (h : MapT kv vv w b l) : b < w.heap.size := by
  obtain ⟨es, clock, hb, _⟩ := h
  exact (Array.getElem?_eq_some_iff.1 hb).1

theorem MapT.of_heap (h : MapT kv vv w b l) (he : w'.heap[b]? = w.heap[b]?) : MapT kv vv w' b l := by
  obtain ⟨es, clock, hb, r⟩ := h
  exact ⟨es, clock, he.trans hb, r⟩

theorem MapT.kp {Q : Nat → Prop} (h : MapT kv vv w b l) (hk : Kp Q w w') (hQ : Q b) : MapT kv vv w' b l := h.of_heap (hk.block b hQ h.lt)
theorem MapT.below (h : MapT kv vv w b l) (hb : Below w.heap.size w w') : MapT kv vv w' b l := h.of_heap (hb.block b h.lt)
theorem MapT.alloc (h : MapT kv vv w b l) (o : Obj) : MapT kv vv (w.alloc o) b l := h.of_heap ((MapKept.heap_alloc w o).2 b h.lt)
theorem MapT.grown {row : Option Nat} (h : MapT kv vv w b l) (hg : w.grownBy w' row) (hne : some b ≠ row) : MapT kv vv w' b l := h.of_heap (hg.block b h.lt hne)

theorem MapI.map (h : MapI kv vv w r b l rem) : MapT kv vv w b l := by
  obtain ⟨es, clock, seen, h1, h2, h3, _⟩ := h
  exact ⟨es, clock, h1, h2, h3⟩
theorem MapI.lt (h : MapI kv vv w r b l rem) : r < w.heap.size := by
  obtain ⟨es, clock, seen, _, _, _, hr, _⟩ := h
  exact (Array.getElem?_eq_some_iff.1 hr).1
theorem MapI.ne (h : MapI kv vv w r b l rem) : r ≠ b := by
  obtain ⟨es, clock, seen, hb, _, _, hr, _⟩ := h
  intro e
  rw [e, hb] at hr
  cases hr
theorem MapI.of_heap (h : MapI kv vv w r b l rem) (hb : w'.heap[b]? = w.heap[b]?) (hr : w'.heap[r]? = w.heap[r]?) : MapI kv vv w' r b l rem := by
  obtain ⟨es, clock, seen, h1, h2, h3, h4, h5⟩ := h
  exact ⟨es, clock, seen, hb.trans h1, h2, h3, hr.trans h4, h5⟩
theorem MapI.kp {Q : Nat → Prop} (h : MapI kv vv w r b l rem) (hk : Kp Q w w') (hb : Q b) (hr : Q r) : MapI kv vv w' r b l rem :=
  h.of_heap (hk.block b hb h.map.lt) (hk.block r hr h.lt)
theorem MapI.grown {row : Option Nat} (h : MapI kv vv w r b l rem) (hg : w.grownBy w' row) (hb : some b ≠ row) (hr : some r ≠ row) : MapI kv vv w' r b l rem :=
  h.of_heap (hg.block b h.map.lt hb) (hg.block r h.lt hr)

theorem nodup_of_map {α β : Type} (f : α → β) {l : List α} (h : (l.map f).Nodup) : l.Nodup := by
  unfold List.Nodup at h ⊢
  rw [List.pairwise_map] at h
  exact h.imp fun h e => h (by rw [e])

/-- No key stands twice. -/
theorem MapT.nodup (h : MapT kv vv w b l) : (l.map Prod.fst).Nodup := by
  obtain ⟨es, clock, hb, ⟨_, _, hn⟩, he⟩ := h
  have e1 : es.toList.map (·.key) = (l.map Prod.fst).map kv := by
    have := congrArg (List.map Prod.fst) he
    simpa [List.map_map, Function.comp_def] using this
  rw [e1] at hn
  exact nodup_of_map kv hn

theorem map_entry {es : List MapEntry} {l : List (κ × ν)} (he : es.map (fun e => (e.key, e.val)) = l.map (fun p => (kv p.1, vv p.2))) {j : Nat} {e : MapEntry} (hj : es[j]? = some e) :
    ∃ p, l[j]? = some p ∧ e.key = kv p.1 ∧ e.val = vv p.2 := by
  have := congrArg (fun x => x[j]?) he
  simp only [List.getElem?_map, hj, Option.map_some] at this
  cases hl : l[j]? with
  | none => rw [hl] at this; cases this
  | some p =>
    rw [hl] at this
    simp only [Option.map_some, Option.some.injEq, Prod.mk.injEq] at this
    exact ⟨p, rfl, this.1, this.2⟩

theorem map_keys {es : List MapEntry} {l : List (κ × ν)} (he : es.map (fun e => (e.key, e.val)) = l.map (fun p => (kv p.1, vv p.2))) : ∀ e ∈ es, ∃ a, e.key = kv a := by
  intro e hm
  obtain ⟨j, hj⟩ := List.getElem?_of_mem hm
  obtain ⟨p, _, h, _⟩ := map_entry he hj
  exact ⟨_, h⟩

theorem map_set {es : List MapEntry} (he : es.map (fun e => (e.key, e.val)) = l.map (fun p => (kv p.1, vv p.2))) (j : Nat) (a : κ) (v : ν) (n : Nat) :
    (es.set j ⟨kv a, vv v, n⟩).map (fun e => (e.key, e.val)) = (l.set j (a, v)).map (fun p => (kv p.1, vv p.2)) := by
  rw [List.map_set, List.map_set, he]

theorem MapT.clear {t e ty : TypeId} (h : MapT kv vv w b l) (ht : P.underlying t = some (.map k e)) :
    ∃ w', (Builtin.clear_ #[t] ty #[.map (some b)]).run P w = .ok (.tuple #[]) w' ∧ MapT kv vv w' b [] ∧ w.mapTurned w' b := by
  obtain ⟨es, clock, hb, hs, he⟩ := h
  refine ⟨setBlock w b (.map #[] clock), ?_, ⟨_, _, heap_setBlock_same hb _, stamped_empty _, rfl⟩, ⟨es, clock, _, _, hb, rfl⟩⟩
  simp [Builtin.clear_, run_underlying ht, MapKept.run_getObj_map hb, MapKept.run_setObj_map _ hb, Result.andThen, setBlock]

theorem MapT.len {t e ty : TypeId} (h : MapT kv vv w b l) (ht : P.underlying t = some (.map k e)) : (Builtin.len_ #[t] ty #[.map (some b)]).run P w = .ok (.int .i64 l.length) w := by
  obtain ⟨es, clock, hb, hs, he⟩ := h
  have : es.size = l.length := by simpa using congrArg List.length he
  simp [Builtin.len_, run_underlying ht, MapKept.run_getObj_map hb, goInt, Result.andThen, this]

theorem MapT.range {t e : TypeId} (h : MapT kv vv w b l) (ht : P.underlying t = some (.map k e)) :
    ∃ w', (Instr.range t (.map (some b))).run P w = .ok (.pointer (some ⟨w.heap.size, 0, none⟩)) w' ∧ MapI kv vv w' w.heap.size b l l ∧ Below w.heap.size w w' := by
  have hlt := h.lt
  obtain ⟨es, clock, hb, hs, he⟩ := h
  refine ⟨_, run_range_map w t k e b es clock ht hb, ⟨es, clock, #[], ((MapKept.heap_alloc w _).2 b hlt).trans hb, hs, he, (MapKept.heap_alloc w _).1, ?_⟩, (Below.refl _ _).alloc (Nat.le_refl _) _⟩
  have : (leftOf es #[]).toList = es.toList := by simp [leftOf]
  rw [this, he]

theorem perm_of_map_perm {α β : Type} (f : α → β) {x : β} {as1 : List α} {bs : List β} (h : (x :: bs).Perm (as1.map f)) : ∃ a as2, as1.Perm (a :: as2) ∧ f a = x ∧ bs.Perm (as2.map f) := by
  have hx : x ∈ as1.map f := h.mem_iff.1 (.head _)
  obtain ⟨a, ha, rfl⟩ := List.mem_map.1 hx
  obtain ⟨s, t, rfl⟩ := List.append_of_mem ha
  refine ⟨a, s ++ t, List.perm_middle, rfl, ?_⟩
  have h2 : ((s ++ a :: t).map f).Perm (f a :: (s ++ t).map f) := List.perm_middle.map f
  exact (List.perm_cons (f a)).1 (h.trans h2)

theorem left_push {es : Array MapEntry} {seen : Array Nat} {e : MapEntry} (hn : (es.toList.map (·.born)).Nodup) (he : e ∈ (leftOf es seen).toList) :
    (leftOf es seen).toList.Perm (e :: (leftOf es (seen.push e.born)).toList) := by
  obtain ⟨hem, hes⟩ := mem_left he
  have e1 : ∀ s : Array Nat, (leftOf es s).toList = es.toList.filter (fun e => !s.contains e.born) := fun s => by simp [leftOf]
  rw [e1, e1]
  obtain ⟨s, t, hst⟩ := List.append_of_mem hem
  rw [hst] at hn ⊢
  rw [List.map_append, List.map_cons] at hn
  have hns := List.nodup_append.1 hn
  have hnt := List.nodup_cons.1 hns.2.1
  have hs : ∀ x ∈ s, x.born ≠ e.born := fun x hx => hns.2.2 _ (List.mem_map.2 ⟨x, hx, rfl⟩) _ (.head _)
  have ht : ∀ x ∈ t, x.born ≠ e.born := fun x hx q => hnt.1 (List.mem_map.2 ⟨x, hx, q⟩)
  rw [List.filter_append, List.filter_append, List.filter_cons_of_pos (by rw [hes]; rfl), List.filter_cons_of_neg (by simp)]
  have f1 : ∀ u : List MapEntry, (∀ x ∈ u, x.born ≠ e.born) → u.filter (fun x => !(seen.push e.born).contains x.born) = u.filter (fun x => !seen.contains x.born) := fun u hu =>
    List.filter_congr fun x hx => by rw [contains_push]; simp [hu x hx]
  rw [f1 s hs, f1 t ht]
  exact List.perm_middle

/-- The loop's step: either nothing is left, or an entry comes out that had not come yet. -/
theorem MapI.next (h : MapI kv vv w r b l rem) (ty : TypeId) :
    (rem = [] ∧ (Instr.next (.pointer (some ⟨r, 0, none⟩)) false ty).run P w = .ok (.tuple #[.bool false]) w) ∨
    ∃ p rem' w', rem.Perm (p :: rem') ∧ (Instr.next (.pointer (some ⟨r, 0, none⟩)) false ty).run P w = .ok (.tuple #[.bool true, kv p.1, vv p.2]) w' ∧ MapI kv vv w' r b l rem' ∧ w.grownBy w' (some r) ∧
      (Instr.entry (.pointer (some ⟨r, 0, none⟩))).run P w' = .ok (.tuple #[kv p.1, vv p.2]) w' := by
  have hne := h.ne
  obtain ⟨es, clock, seen, hb, hs, he, hr, hp⟩ := h
  rcases run_next_at (P := P) w ty r b clock clock seen es clock hr hb hs.1 (Nat.le_refl _) with ⟨h0, hrun⟩ | ⟨e, hm, w1, hal, hrun⟩
  · refine .inl ⟨?_, hrun⟩
    have e0 : (leftOf es seen).toList = [] := List.eq_nil_of_length_eq_zero (by simpa using h0)
    rw [e0] at hp
    have := hp.length_eq
    exact List.eq_nil_of_length_eq_zero (by simpa using this.symm)
  · have hperm := ((left_push hs.2.1 hm).map (fun e => (e.key, e.val))).symm.trans hp
    obtain ⟨p, rem', hrem, hf, hp'⟩ := perm_of_map_perm _ hperm
    simp only [Prod.mk.injEq] at hf
    have hr1 : w1.heap[r]? = some (.mapIter (some b) clock seen clock) := by rcases hal with rfl | rfl <;> exact hr
    have hb1 : w1.heap[b]? = some (.map es clock) := by rcases hal with rfl | rfl <;> exact hb
    have hset := MapKept.heap_set (o' := .mapIter (some b) clock (seen.push e.born) clock) hr1
    have hb' : (setBlock w1 r (.mapIter (some b) clock (seen.push e.born) clock)).heap[b]? = some (.map es clock) := (hset.2 b (fun e1 => hne e1.symm)).trans hb1
    refine .inr ⟨p, rem', _, hrem, by rw [hf.1, hf.2]; exact hrun, ⟨es, clock, _, hb', hs, he, hset.1, hp'⟩, ?_, ?_⟩
    · rcases hal with rfl | rfl <;> exact ⟨rfl, rfl, rfl, by simp [setBlock], fun i _ hi => hset.2 i (fun e1 => hi (by rw [e1]))⟩
    · rw [hf.1, hf.2]
      exact run_entry_at _ r b clock seen es clock e hset.1 hb' (mem_left hm).1 hs.2.1

/-- 'maps.Clone': a new block with the same entries. -/
theorem MapT.cloned {es : Array MapEntry} {clock : Nat} (h : MapT kv vv w b l) (hb : w.heap[b]? = some (.map es clock)) {b' : Nat} (h' : w'.heap[b']? = some (.map es clock)) : MapT kv vv w' b' l := by
  obtain ⟨es', clock', hb', hs, he⟩ := h
  rw [hb] at hb'
  cases hb'
  exact ⟨es, clock, h', hs, he⟩
variable [DecidableEq κ]

/-- A search in the block. -/
theorem map_find (K : KeyK P k kv) (w : World) {es : List MapEntry} (he : es.map (fun e => (e.key, e.val)) = l.map (fun p => (kv p.1, vv p.2))) (hn : (l.map Prod.fst).Nodup) (a : κ) :
    ((Instr.findKey k (kv a) es).run P w = .ok none w ∧ alGet l a = none ∧ ∀ e ∈ es, e.key ≠ kv a) ∨
    ∃ j e u, (Instr.findKey k (kv a) es).run P w = .ok (some (j, vv u)) w ∧ es[j]? = some e ∧ l[j]? = some (a, u) ∧ e.key = kv a ∧ e.val = vv u ∧ alGet l a = some u := by
  rcases K.law.find w ⟨a, rfl⟩ es (map_keys he) with ⟨h1, h2⟩ | ⟨j, e, h1, h2, h3⟩
  · refine .inl ⟨h1, alGet_none.2 fun p hp e0 => ?_, h2⟩
    obtain ⟨j, hj⟩ := List.getElem?_of_mem hp
    have hx := congrArg (fun x => x[j]?) he
    simp only [List.getElem?_map, hj, Option.map_some] at hx
    cases hes : es[j]? with
    | none => rw [hes] at hx; cases hx
    | some e =>
      rw [hes] at hx
      simp only [Option.map_some, Option.some.injEq, Prod.mk.injEq] at hx
      exact h2 e (List.mem_of_getElem? hes) (by rw [hx.1, e0])
  · obtain ⟨p, hp, hk, hv⟩ := map_entry he h2
    obtain ⟨q, u⟩ := p
    have hq : q = a := K.inj (hk.symm.trans h3)
    subst hq
    exact .inr ⟨j, e, u, by rw [h1, hv], h2, hp, h3, hv, alGet_of_mem hn (List.mem_of_getElem? hp)⟩

theorem MapT.lookup {t e : TypeId} (h : MapT kv vv w b l) (K : KeyK P k kv) (ht : P.underlying t = some (.map k e)) {z : Value} (hz : (zeroValue e).run P w = .ok z w) (a : κ) (c : Bool) :
    (Instr.lookup t (.map (some b)) (kv a) c).run P w = .ok (if c then .tuple #[((alGet l a).map vv).getD z, .bool (alGet l a).isSome] else ((alGet l a).map vv).getD z) w := by
  have hn := h.nodup
  obtain ⟨es, clock, hb, _, he⟩ := h
  rcases map_find K w he hn a with ⟨h1, h2, _⟩ | ⟨j, e0, u, h1, _, _, _, _, h2⟩
  · simp [Instr.lookup, run_underlying ht, MapKept.run_getObj_map hb, K.law.check w _ ⟨a, rfl⟩, h1, h2, hz, Result.andThen]
  · simp [Instr.lookup, run_underlying ht, MapKept.run_getObj_map hb, K.law.check w _ ⟨a, rfl⟩, h1, h2, Result.andThen]

theorem MapT.update {t e : TypeId} (h : MapT kv vv w b l) (K : KeyK P k kv) (ht : P.underlying t = some (.map k e)) (a : κ) (v : ν) :
    ∃ w', (Instr.mapUpdate t (.map (some b)) (kv a) (vv v)).run P w = .ok () w' ∧ MapT kv vv w' b (alPut l a v) ∧ w.mapTurned w' b := by
  have hn := h.nodup
  obtain ⟨es, clock, hb, hs, he⟩ := h
  rcases map_find K w he hn a with ⟨h1, h2, h3⟩ | ⟨j, e0, u, h1, h2, h3, h4, h5, h6⟩
  · refine ⟨setBlock w b (.map (es.push ⟨kv a, vv v, clock⟩) (clock + 1)), ?_, ⟨_, _, heap_setBlock_same hb _, stamped_push hs h3, ?_⟩, ⟨es, clock, _, _, hb, rfl⟩⟩
    · simp [Instr.mapUpdate, run_underlying ht, MapKept.run_getObj_map hb, K.law.check w false ⟨a, rfl⟩, h1, MapKept.run_setObj_map _ hb, Result.andThen, setBlock]
    · rw [alPut_new h2, Array.toList_push, List.map_append, List.map_append, he]
      rfl
  · have hj : es[j]? = some e0 := by simpa using h2
    have hkeyf : ∀ e', es[j]? = some e' → ({ e' with key := kv a, val := vv v } : MapEntry).key = e'.key := fun e' he' => by rw [hj] at he'; cases he'; exact h4.symm
    refine ⟨setBlock w b (.map (es.modify j (fun e' => { e' with key := kv a, val := vv v })) clock), ?_, ⟨_, _, heap_setBlock_same hb _, stamped_modify hs _ _ (fun _ _ => rfl) (fun e' _ he' => hkeyf e' he'), ?_⟩, ⟨es, clock, _, _, hb, rfl⟩⟩
    · simp [Instr.mapUpdate, run_underlying ht, MapKept.run_getObj_map hb, K.law.check w false ⟨a, rfl⟩, h1, hj, h4, K.law.stays w ⟨a, rfl⟩, MapKept.run_setObj_map _ hb, Result.andThen, setBlock]
    · rw [Array.toList_modify, ChangeMaps.modify_eq_set _ _ _ _ h2, alPut_old hn h3]
      exact map_set he j a v e0.born

theorem MapT.delete {t e ty : TypeId} (h : MapT kv vv w b l) (K : KeyK P k kv) (ht : P.underlying t = some (.map k e)) (a : κ) :
    ∃ w', (Builtin.delete_ #[t, k] ty #[.map (some b), kv a]).run P w = .ok (.tuple #[]) w' ∧ MapT kv vv w' b (alDel l a) ∧ w.mapTurned w' b := by
  have hn := h.nodup
  obtain ⟨es, clock, hb, hs, he⟩ := h
  rcases map_find K w he hn a with ⟨h1, h2, h3⟩ | ⟨j, e0, u, h1, h2, h3, h4, h5, h6⟩
  · refine ⟨setBlock w b (.map es clock), ?_, ⟨_, _, heap_setBlock_same hb _, hs, ?_⟩, ⟨es, clock, _, _, hb, rfl⟩⟩
    · simp [Builtin.delete_, run_underlying ht, MapKept.run_getObj_map hb, K.law.check w _ ⟨a, rfl⟩, h1, MapKept.run_setObj_map _ hb, Result.andThen, setBlock]
    · rw [alDel_none (alGet_none.1 h2), he]
  · have hjl : j < es.toList.length := (List.getElem?_eq_some_iff.1 h2).1
    have hjs : j < es.size := by simpa using hjl
    have hsub : (es.eraseIdxIfInBounds j).toList = es.toList.eraseIdx j := by
      unfold Array.eraseIdxIfInBounds
      rw [dif_pos hjs]
      simp
    refine ⟨setBlock w b (.map (es.eraseIdxIfInBounds j) clock), ?_, ⟨_, _, heap_setBlock_same hb _, stamped_erase hs j, ?_⟩, ⟨es, clock, _, _, hb, rfl⟩⟩
    · simp [Builtin.delete_, run_underlying ht, MapKept.run_getObj_map hb, K.law.check w _ ⟨a, rfl⟩, h1, MapKept.run_setObj_map _ hb, Result.andThen, setBlock]
    · rw [hsub, ChangeMaps.map_eraseIdx, he, ← ChangeMaps.map_eraseIdx, alDel_at hn h3]

/-- 'delete' in the round. -/
theorem MapI.delete {t e ty : TypeId} (h : MapI kv vv w r b l rem) (K : KeyK P k kv) (ht : P.underlying t = some (.map k e)) (a : κ) :
    ∃ w', (Builtin.delete_ #[t, k] ty #[.map (some b), kv a]).run P w = .ok (.tuple #[]) w' ∧ MapI kv vv w' r b (alDel l a) (alDel rem a) ∧ w.mapTurned w' b := by
  have hne := h.ne
  have hn := h.map.nodup
  obtain ⟨es, clock, seen, hb, hs, he, hr, hp⟩ := h
  have inj : ∀ q : κ × ν, (kv q.1 = kv a) = (q.1 = a) := fun q => propext ⟨fun h => K.inj h, fun h => by rw [h]⟩
  have flt : ∀ m : List (κ × ν), (alDel m a).map (fun p => (kv p.1, vv p.2)) = (m.map (fun p => (kv p.1, vv p.2))).filter (fun x => !(Classical.propDecidable (x.1 = kv a)).decide) := by
    intro m
    induction m with
    | nil => rfl
    | cons q m ih =>
      unfold alDel at ih ⊢
      by_cases hq : q.1 = a
      · rw [List.filter_cons_of_neg (by simp [hq]), List.map_cons, List.filter_cons_of_neg (by simp [hq])]
        exact ih
      · rw [List.filter_cons_of_pos (by simp [hq]), List.map_cons, List.map_cons, List.filter_cons_of_pos (by simp [inj, hq]), ih]
  have efl : ∀ m : List MapEntry, (m.filter (fun x => !(Classical.propDecidable (x.key = kv a)).decide)).map (fun e => (e.key, e.val)) = (m.map (fun e => (e.key, e.val))).filter (fun x => !(Classical.propDecidable (x.1 = kv a)).decide) := by
    intro m
    rw [List.filter_map]
    rfl
  rcases map_find K w he hn a with ⟨h1, h2, h3⟩ | ⟨j, e0, u, h1, h2, h3, h4, h5, h6⟩
  · have hall : ∀ x ∈ es.toList, (!(Classical.propDecidable (x.key = kv a)).decide) = true := fun x hx => by simp [h3 x hx]
    refine ⟨setBlock w b (.map es clock), ?_, ⟨es, clock, seen, heap_setBlock_same hb _, hs, ?_, (heap_setBlock_other hb _ hne).trans hr, ?_⟩, ⟨es, clock, _, _, hb, rfl⟩⟩
    · simp [Builtin.delete_, run_underlying ht, MapKept.run_getObj_map hb, K.law.check w _ ⟨a, rfl⟩, h1, MapKept.run_setObj_map _ hb, Result.andThen, setBlock]
    · rw [flt, ← he, ← efl, List.filter_eq_self.2 hall]
    · rw [flt]
      have : (leftOf es seen).toList = (leftOf es seen).toList.filter (fun x => !(Classical.propDecidable (x.key = kv a)).decide) := (List.filter_eq_self.2 fun x hx => hall x (mem_left hx).1).symm
      rw [this, efl]
      exact hp.filter _
  · have hjl : j < es.toList.length := (List.getElem?_eq_some_iff.1 h2).1
    have hjs : j < es.size := by simpa using hjl
    have hsub : (es.eraseIdxIfInBounds j).toList = es.toList.eraseIdx j := by
      unfold Array.eraseIdxIfInBounds
      rw [dif_pos hjs]
      simp
    have hst := (stamped_iff es clock).1 hs
    have herase : es.toList.eraseIdx j = es.toList.filter (fun x => !(Classical.propDecidable (x.key = kv a)).decide) := by
      obtain ⟨s, t, hst', hlen⟩ : ∃ s t, es.toList = s ++ e0 :: t ∧ s.length = j := ⟨es.toList.take j, es.toList.drop (j + 1), by
        have : es.toList[j] = e0 := by rw [List.getElem?_eq_getElem hjl] at h2; injection h2
        rw [← this, List.getElem_cons_drop, List.take_append_drop], by rw [List.length_take]; omega⟩
      have hp3 := hst.2.2
      rw [hst'] at hp3 ⊢
      subst hlen
      have hp4 := List.pairwise_append.1 hp3
      have hp5 := List.pairwise_cons.1 hp4.2.1
      rw [List.eraseIdx_append_of_length_le (Nat.le_refl _), Nat.sub_self, List.eraseIdx_cons_zero, List.filter_append, List.filter_cons_of_neg (by simp [h4])]
      rw [List.filter_eq_self.2 fun x hx => by simp [show x.key ≠ kv a from fun q => hp4.2.2 x hx e0 (.head _) (q.trans h4.symm)],
        List.filter_eq_self.2 fun x hx => by simp [show x.key ≠ kv a from fun q => hp5.1 x hx (h4.trans q.symm)]]
    refine ⟨setBlock w b (.map (es.eraseIdxIfInBounds j) clock), ?_, ⟨_, clock, seen, heap_setBlock_same hb _, stamped_erase hs j, ?_, (heap_setBlock_other hb _ hne).trans hr, ?_⟩, ⟨es, clock, _, _, hb, rfl⟩⟩
    · simp [Builtin.delete_, run_underlying ht, MapKept.run_getObj_map hb, K.law.check w _ ⟨a, rfl⟩, h1, MapKept.run_setObj_map _ hb, Result.andThen, setBlock]
    · rw [hsub, herase, efl, he, ← flt]
    · have e1 : (leftOf (es.eraseIdxIfInBounds j) seen).toList = (leftOf es seen).toList.filter (fun x => !(Classical.propDecidable (x.key = kv a)).decide) := by
        unfold leftOf
        rw [Array.toList_filter, Array.toList_filter, hsub, herase, List.filter_filter, List.filter_filter]
        exact List.filter_congr fun x _ => Bool.and_comm _ _
      rw [e1, efl, flt]
      exact hp.filter _

end

/-! ## At the operations -/
section
variable {κ ν : Type} {P : Program} {w : World} {ops : Array Oper} {rest : List Oper} {o : Oper} {a : Act} {Q : Exit → Act → World → Prop} {k e : TypeId} {kv : κ → Value} {vv : ν → Value} {b r : Nat} {l rem : List (κ × ν)}

theorem wpList_clear_T (hg : o.guard = none) (m : Operand) (t : TypeId) (hop : o.op = Op.call { callee := Callee.builtin Builtin.clear, args := #[m], argTypes := #[t] }) (ht : P.underlying t = some (.map k e))
    (hm : a.eval m = .map (some b)) (h : MapT kv vv w b l)
    (hK : ∀ w', MapT kv vv w' b ([] : List (κ × ν)) → w.mapTurned w' b → wpList P ops Q rest (a.put o.dst (.tuple #[])) w') : wpList P ops Q (o :: rest) a w := by
  refine wpList_plain hg fun K' hK' => ?_
  obtain ⟨w', hrun, r1, r2⟩ := h.clear (ty := o.type) ht
  unfold Oper.wp
  simp [execOp, hop, resolve, invoke, builtin, hm, hrun, Result.andThen]
  exact hK' _ _ (hK w' r1 r2)

theorem wpList_len_T (hg : o.guard = none) (m : Operand) (t : TypeId) (hop : o.op = Op.call { callee := Callee.builtin Builtin.len, args := #[m], argTypes := #[t] }) (ht : P.underlying t = some (.map k e))
    (hm : a.eval m = .map (some b)) (h : MapT kv vv w b l) (hK : wpList P ops Q rest (a.put o.dst (.int .i64 l.length)) w) : wpList P ops Q (o :: rest) a w := by
  refine wpList_plain hg fun K' hK' => ?_
  unfold Oper.wp
  simp [execOp, hop, resolve, invoke, builtin, hm, h.len ht, Result.andThen]
  exact hK' _ _ hK

theorem wpList_range_T (hg : o.guard = none) (m : Operand) (t : TypeId) (hop : o.op = Op.range t m) (ht : P.underlying t = some (.map k e)) (hm : a.eval m = .map (some b)) (h : MapT kv vv w b l)
    (hK : ∀ w', MapI kv vv w' w.heap.size b l l → Below w.heap.size w w' → wpList P ops Q rest (a.put o.dst (.pointer (some ⟨w.heap.size, 0, none⟩))) w') : wpList P ops Q (o :: rest) a w := by
  refine wpList_plain hg fun K' hK' => ?_
  obtain ⟨w', hrun, r1, r2⟩ := h.range ht
  unfold Oper.wp
  simp [execOp, hop, hm, hrun, Result.andThen]
  exact hK' _ _ (hK w' r1 r2)
variable [DecidableEq κ]
theorem wpList_lookup_T (hg : o.guard = none) (m x : Operand) (t : TypeId) (hop : o.op = Op.lookup t m x false) (K : KeyK P k kv) (ht : P.underlying t = some (.map k e)) {z : Value} (hz : (zeroValue e).run P w = .ok z w)
    (hm : a.eval m = .map (some b)) (h : MapT kv vv w b l) (ky : κ) (hx : a.eval x = kv ky) (hK : wpList P ops Q rest (a.put o.dst (((alGet l ky).map vv).getD z)) w) : wpList P ops Q (o :: rest) a w := by
  refine wpList_plain hg fun K' hK' => ?_
  have hrun := h.lookup K ht hz ky false
  unfold Oper.wp
  simp [execOp, hop, hm, hx, hrun, Result.andThen]
  exact hK' _ _ hK

theorem wpList_lookup_ok_T (hg : o.guard = none) (m x : Operand) (t : TypeId) (hop : o.op = Op.lookup t m x true) (K : KeyK P k kv) (ht : P.underlying t = some (.map k e)) {z : Value} (hz : (zeroValue e).run P w = .ok z w)
    (hm : a.eval m = .map (some b)) (h : MapT kv vv w b l) (ky : κ) (hx : a.eval x = kv ky) (hK : wpList P ops Q rest (a.put o.dst (.tuple #[((alGet l ky).map vv).getD z, .bool (alGet l ky).isSome])) w) : wpList P ops Q (o :: rest) a w := by
  refine wpList_plain hg fun K' hK' => ?_
  have hrun := h.lookup K ht hz ky true
  unfold Oper.wp
  simp [execOp, hop, hm, hx, hrun, Result.andThen]
  exact hK' _ _ hK

theorem wpList_update_T (hg : o.guard = none) (m x v : Operand) (t : TypeId) (hop : o.op = Op.mapUpdate t m x v) (K : KeyK P k kv) (ht : P.underlying t = some (.map k e))
    (hm : a.eval m = .map (some b)) (h : MapT kv vv w b l) (ky : κ) (hx : a.eval x = kv ky) (val : ν) (hv : a.eval v = vv val)
    (hK : ∀ w', MapT kv vv w' b (alPut l ky val) → w.mapTurned w' b → wpList P ops Q rest (a.put o.dst undef) w') : wpList P ops Q (o :: rest) a w := by
  refine wpList_plain hg fun K' hK' => ?_
  obtain ⟨w', hrun, r1, r2⟩ := h.update K ht ky val
  unfold Oper.wp
  simp [execOp, hop, hm, hx, hv, hrun, Result.andThen]
  exact hK' _ _ (hK w' r1 r2)

theorem wpList_delete_T (hg : o.guard = none) (m x : Operand) (t : TypeId) (hop : o.op = Op.call { callee := Callee.builtin Builtin.delete, args := #[m, x], argTypes := #[t, k] }) (K : KeyK P k kv) (ht : P.underlying t = some (.map k e))
    (hm : a.eval m = .map (some b)) (h : MapT kv vv w b l) (ky : κ) (hx : a.eval x = kv ky)
    (hK : ∀ w', MapT kv vv w' b (alDel l ky) → w.mapTurned w' b → wpList P ops Q rest (a.put o.dst (.tuple #[])) w') : wpList P ops Q (o :: rest) a w := by
  refine wpList_plain hg fun K' hK' => ?_
  obtain ⟨w', hrun, r1, r2⟩ := h.delete (ty := o.type) K ht ky
  unfold Oper.wp
  simp [execOp, hop, resolve, invoke, builtin, hm, hx, hrun, Result.andThen]
  exact hK' _ _ (hK w' r1 r2)

theorem wpList_delete_I (hg : o.guard = none) (m x : Operand) (t : TypeId) (hop : o.op = Op.call { callee := Callee.builtin Builtin.delete, args := #[m, x], argTypes := #[t, k] }) (K : KeyK P k kv) (ht : P.underlying t = some (.map k e))
    (hm : a.eval m = .map (some b)) (h : MapI kv vv w r b l rem) (ky : κ) (hx : a.eval x = kv ky)
    (hK : ∀ w', MapI kv vv w' r b (alDel l ky) (alDel rem ky) → w.mapTurned w' b → wpList P ops Q rest (a.put o.dst (.tuple #[])) w') : wpList P ops Q (o :: rest) a w := by
  refine wpList_plain hg fun K' hK' => ?_
  obtain ⟨w', hrun, r1, r2⟩ := h.delete (ty := o.type) K ht ky
  unfold Oper.wp
  simp [execOp, hop, resolve, invoke, builtin, hm, hx, hrun, Result.andThen]
  exact hK' _ _ (hK w' r1 r2)
end

theorem mapTurned_kp {Q : Nat → Prop} {w0 w w' : World} {b : Nat} (h : Kp Q w0 w) (ht : w.mapTurned w' b) (hb : b < w0.heap.size → ¬ Q b) : Kp Q w0 w' :=
  h.grown ht.grown fun k hk hlt => by cases hk; exact hb hlt
end Go.Proofs.YtoacobcbloljkaaGreatDoor

/-! # Data: The plain data of the layers (keys, nodes, entries) and the values that they are in the program; keys in maps. -/
namespace Go.Proofs.YtoacobcbloljkaaGreatDoor
open Go.RowKit

abbrev Key := Int × List UInt8
abbrev Nd := Int × Int × Int × List UInt8
abbrev En := Key × Bool × Nd

def vKey (k : Key) : Value := .agg #[.int .i64 k.1, txt k.2]
def vNd (n : Nd) : Value := .agg #[.int .i64 n.1, .int .i64 n.2.1, .int .i64 n.2.2.1, txt n.2.2.2]
def vEn (e : En) : Value := .agg #[.int .i64 e.1.1, txt e.1.2, .bool e.2.1, .int .i64 e.2.2.1, .int .i64 e.2.2.2.1, .int .i64 e.2.2.2.2.1, txt e.2.2.2.2.2]
def vKept (p : En × Int) : Value := .agg #[.int .i64 p.1.1.1, txt p.1.1.2, .bool p.1.2.1, .int .i64 p.1.2.2.1, .int .i64 p.1.2.2.2.1, .int .i64 p.1.2.2.2.2.1, txt p.1.2.2.2.2.2, .int .i64 p.2]

theorem txt_inj {a b : List UInt8} (h : txt a = txt b) : a = b := by
  unfold txt at h
  injection h with h
  have := congrArg (fun x : ByteArray => x.data.toList) h
  simpa using this

theorem vKey_inj {a b : Key} (h : vKey a = vKey b) : a = b := by
  obtain ⟨a1, a2⟩ := a
  obtain ⟨b1, b2⟩ := b
  unfold vKey at h
  injection h with h
  have h0 := congrArg (fun x : Array Value => x[0]?) h
  have h1 := congrArg (fun x : Array Value => x[1]?) h
  simp only [List.getElem?_toArray, List.getElem?_cons_zero, List.getElem?_cons_succ, Option.some.injEq] at h0 h1
  injection h0 with _ h0
  rw [h0, txt_inj h1]

theorem bytes_mk_beq (a b : List UInt8) : ((⟨a.toArray⟩ : ByteArray) == ⟨b.toArray⟩) = decide (a = b) := by
  rw [Bool.eq_iff_iff, MapKept.bytes_beq, decide_eq_true_iff]
  constructor
  · intro h
    have := congrArg (fun x : ByteArray => x.data.toList) h
    simpa using this
  · intro h
    rw [h]

theorem check_key (em : Bool) (k : Key) (w : World) : (Instr.checkKey em 10000 32 (vKey k)).run Tryz.prog w = .ok () w := by kernel_rfl

theorem fields2 {l : List Field} {x y : String × TypeId × Nat} (h : l.map (fun f => (f.name, f.type, f.offset)) = [x, y]) : ∃ f g, l = [f, g] ∧ f.name = x.1 ∧ f.type = x.2.1 ∧ f.offset = x.2.2 ∧ g.name = y.1 ∧ g.type = y.2.1 ∧ g.offset = y.2.2 := by
  match l, h with
  | [f, g], h =>
    simp only [List.map_cons, List.map_nil, List.cons.injEq, and_true] at h
    obtain ⟨rfl, rfl⟩ := h
    exact ⟨f, g, rfl, rfl, rfl, rfl, rfl, rfl, rfl⟩

theorem eq_key (a b : Key) (w : World) : (Op.equal 32 (vKey a) (vKey b)).run Tryz.prog w = .ok (decide (a = b)) w := by
  have hf : (Tryz.prog.fieldsOf 32).toList.map (fun f => (f.name, f.type, f.offset)) = [("Dir", 3, 0), ("Name", 9, 1)] := by kernel_rfl
  obtain ⟨f, g, hl, f1, f2, f3, g1, g2, g3⟩ := fields2 hf
  have p1 : ∀ k : Key, (part 3 #[.int .i64 k.1, txt k.2] 0).run Tryz.prog w = .ok (.int .i64 k.1) w := fun _ => by kernel_rfl
  have p2 : ∀ k : Key, (part 9 #[.int .i64 k.1, txt k.2] 1).run Tryz.prog w = .ok (txt k.2) w := fun _ => by kernel_rfl
  have q1 : (Op.equalIn 9999 3 (.int .i64 a.1) (.int .i64 b.1)).run Tryz.prog w = .ok (a.1 == b.1) w := run_equalIn_int w 9998 _ _ _ _ _ Tryz.underlying3
  have q2 : (Op.equalIn 9999 9 (txt a.2) (txt b.2)).run Tryz.prog w = .ok (decide (a.2 = b.2)) w := by
    unfold txt
    rw [run_equalIn_string w 9998 _ _ _ Tryz.underlying9, ← beq_toListBytes, bytes_mk_beq]
  simp only at f1 f2 f3 g1 g2 g3
  unfold Op.equal Op.maxDepth vKey
  rw [run_equalIn_agg w 9999 32 _ _ (by kernel_rfl) (by kernel_rfl), hl]
  simp only [Op.eqFields, f1, f2, f3, g1, g2, g3, ne_eq, Sem.run_bind, Sem.run_ite, p1, p2, q1, q2, Result.andThen_ok]
  clear p1 p2 q1 q2
  obtain ⟨a1, a2⟩ := a
  obtain ⟨b1, b2⟩ := b
  by_cases h1 : a1 = b1 <;> by_cases h2 : a2 = b2 <;> simp [h1, h2]
theorem ask_key (a : Key) (w : World) : ∀ (es : List MapEntry) (i : Nat), (∀ e ∈ es, ∃ k, e.key = vKey k) →
    ((Instr.findAsking 32 (vKey a) es i).run Tryz.prog w = .ok none w ∧ ∀ e ∈ es, e.key ≠ vKey a) ∨
    ∃ j e, (Instr.findAsking 32 (vKey a) es i).run Tryz.prog w = .ok (some (i + j, e.val)) w ∧ es[j]? = some e ∧ e.key = vKey a
  | [], _, _ => .inl ⟨by simp [Instr.findAsking], by simp⟩
  | e :: es, i, h => by
    obtain ⟨k, hk⟩ := h e (.head _)
    by_cases hq : a = k
    · subst hq
      exact .inr ⟨0, e, by simp [Instr.findAsking, hk, eq_key], rfl, hk⟩
    · rcases ask_key a w es (i + 1) (fun x hx => h x (.tail _ hx)) with ⟨h1, h2⟩ | ⟨j, e', h1, h2, h3⟩
      · refine .inl ⟨by simp [Instr.findAsking, hk, eq_key, hq, h1], fun x hx => ?_⟩
        cases hx with
        | head => rw [hk]; exact fun q => hq (vKey_inj q).symm
        | tail _ hx => exact h2 x hx
      · exact .inr ⟨j + 1, e', by simp [Instr.findAsking, hk, eq_key, hq, h1]; omega, by simpa using h2, h3⟩

theorem find_key (a : Key) (w : World) (es : List MapEntry) : (Instr.findKey 32 (vKey a) es).run Tryz.prog w = (Instr.findAsking 32 (vKey a) es 0).run Tryz.prog w := by
  have hu : ∃ fs, Tryz.prog.underlying 32 = some (.struct fs) := ⟨_, Tryz.underlying32⟩
  obtain ⟨fs, hu⟩ := hu
  unfold Instr.findKey
  simp only [Sem.run_bind, run_underlying hu, Result.andThen_ok]
  cases es with
  | nil => simp [Instr.findNow, Instr.findAsking]
  | cons e es =>
    have : Instr.findNow (.struct fs) (vKey a) (e :: es) 0 = none := by simp [Instr.findNow, Instr.sameNow]
    rw [this]

theorem stays_key (a : Key) (w : World) : (Instr.keyThatStays (vKey a) (vKey a)).run Tryz.prog w = .ok (vKey a) w := by
  have : Instr.sameBits 10000 (vKey a) (vKey a) = true := by simp [Instr.sameBits, vKey, txt, MapKept.bytes_beq]
  simp [Instr.keyThatStays, this]

theorem keyK_key : KeyK Tryz.prog 32 vKey := by
  refine ⟨vKey_inj, ⟨?_, ?_, ?_⟩⟩
  · rintro w em v ⟨a, rfl⟩
    exact check_key em a w
  · rintro w x ⟨a, rfl⟩ es hes
    rw [find_key]
    rcases ask_key a w es 0 hes with h | ⟨j, e, h1, h2, h3⟩
    · exact .inl h
    · exact .inr ⟨j, e, by simpa using h1, h2, h3⟩
  · rintro w v ⟨a, rfl⟩
    exact stays_key a w

theorem keyK_num : KeyK Tryz.prog 3 vI := keyK_int Tryz.underlying3
end Go.Proofs.YtoacobcbloljkaaGreatDoor

/-! # Blk: Blocks of cells that are written and read whole or in part: the world behind a store under a new name, with what it holds. No program in it. -/
namespace Go.Proofs.YtoacobcbloljkaaGreatDoor
open Go.RowKit

theorem addr_zero (a : Addr) : a.add 0 = a := by unfold Addr.add; rw [if_pos rfl]

/-- The block g holds just these cells. -/
def At (w : World) (g : Nat) (t : TypeId) (cs : List Value) : Prop := w.heap[g]? = some (.cells cs.toArray t (0, 0))

section
variable {w w' : World} {g : Nat} {t : TypeId} {cs : List Value}
theorem At.cell (h : At w g t cs) (k : Nat) : w.cell? ⟨g, k, none⟩ = cs[k]? := by
  unfold At at h
  unfold World.cell?
  rw [h]
  simp
theorem At.frozen (h : At w g t cs) (k : Nat) : w.frozen? ⟨g, k, none⟩ = false := by
  unfold At at h
  unfold World.frozen?
  rw [h]
  simp
theorem At.lt (h : At w g t cs) : g < w.heap.size := (Array.getElem?_eq_some_iff.1 h).1
theorem At.kp {Q : Nat → Prop} (h : At w g t cs) (k : Kp Q w w') (hq : Q g) : At w' g t cs := (k.block g hq h.lt).trans h
theorem At.below (h : At w g t cs) (k : Below w.heap.size w w') : At w' g t cs := (k.block g h.lt).trans h
theorem At.alloc (h : At w g t cs) (o : Obj) : At (w.alloc o) g t cs := h.below ((Below.refl _ _).alloc (Nat.le_refl _) o)
theorem At.drew (h : At w g t cs) : At w.drew g t cs := h
theorem At.new (w : World) (t : TypeId) (cs : List Value) : At (w.alloc (.cells cs.toArray t)) w.heap.size t cs := heap_alloc_new w _
theorem At.new_ (w : World) (t : TypeId) (cs : List Value) {n : Nat} (h : n = w.heap.size) : At (w.alloc (.cells cs.toArray t)) n t cs := by subst h; exact heap_alloc_new w _
theorem At.setCell (h : At w g t cs) (i : Nat) (v : Value) : At (w.setCell ⟨g, i, none⟩ v) g t (cs.set i v) := by
  have := heap_setCell_same w g i _ _ v h
  unfold At
  rw [this]
  simp
theorem At.setOther (h : At w g t cs) {g' : Nat} (i : Nat) (v : Value) (hne : g ≠ g') : At (w.setCell ⟨g', i, none⟩ v) g t cs :=
  (Below.heap_setCell _ _ _ _ hne).trans h
end

theorem Kp.setRow {P : Nat → Prop} {a b : World} (h : Kp P a b) {g : Nat} (hp : g < a.heap.size → ¬ P g) (cs : Array Value) : Kp P a (b.setRow g cs) :=
  ⟨h.os, h.tape, h.output, by rw [setRow_size]; exact h.size, fun i hi hlt => (setRow_other _ _ _ _ (fun e => by subst e; exact hp hlt hi)).trans (h.block i hi hlt)⟩

theorem run_storeVar_blk {P : Program} (w : World) (g off : Nat) (ty t : TypeId) (v : Value) (old : List Value) (hg : At w g t old) (hi : (P.info? ty).map (·.size) = some v.cells.size)
    (hsz : off + v.cells.size ≤ old.length) (h1 : v.cells.toList.all (·.oneCell') = true) :
    (storeVar ty ⟨g, off, none⟩ v).run P w = .ok () (w.setRow g (old.take off ++ v.cells.toList ++ old.drop (off + v.cells.size)).toArray) := by
  have := run_storeCells_at (P := P) g off t v.cells.toList 0 old.toArray w hg (by simpa using hsz) (fun v hv => (List.all_eq_true.1 h1) v hv)
  cases hq : P.info? ty with
  | none => simp [hq] at hi
  | some i =>
    have hs : v.cells.size = i.size := by simp [hq] at hi; omega
    simp only [Nat.add_zero, Array.length_toList] at this
    simp [storeVar, sizeOf, typeInfo, hq, hs]
    simpa [hs] using this

/-- A stop of the walk. -/
theorem wpList_hold {P : Program} {ops : Array Oper} {l : List Oper} {a : Act} {w : World} {Q : Exit → Act → World → Prop} (h : Hid (wpList P ops Q l a w)) : wpList P ops Q l a w := h.out

/-- A guard for an arm: the next operation is this store. -/
theorem wpList_isStore {P : Program} {ops : Array Oper} {rest : List Oper} {a : Act} {w : World} {Q : Exit → Act → World → Prop} {d : Option Tmp} {tp : TypeId} {pos : String} {af : Array Edge} {gd : Option (Tmp × Bool)} (ty : TypeId) (x y : Operand)
    (h : wpList P ops Q ({ dst := d, op := .store ty x y, type := tp, pos := pos, after := af, guard := gd } :: rest) a w) : wpList P ops Q ({ dst := d, op := .store ty x y, type := tp, pos := pos, after := af, guard := gd } :: rest) a w := h

/-- A guard for an arm: the next operation is a call of this builtin. -/
theorem wpList_isBuiltin {P : Program} {ops : Array Oper} {rest : List Oper} {a : Act} {w : World} {Q : Exit → Act → World → Prop} {d : Option Tmp} {tp : TypeId} {pos : String} {af : Array Edge} {gd : Option (Tmp × Bool)} {args : Array Operand} {tys : Array TypeId} (bi : Builtin)
    (h : wpList P ops Q ({ dst := d, op := .call { callee := .builtin bi, args := args, argTypes := tys }, type := tp, pos := pos, after := af, guard := gd } :: rest) a w) :
    wpList P ops Q ({ dst := d, op := .call { callee := .builtin bi, args := args, argTypes := tys }, type := tp, pos := pos, after := af, guard := gd } :: rest) a w := h

/-- A store into a block that is known: the world behind it under a name of its own. -/
theorem wpList_store_blk {P : Program} {ops : Array Oper} {rest : List Oper} {o : Oper} {a : Act} {w : World} {Q : Exit → Act → World → Prop} (hgd : o.guard = none) (ty : TypeId) (x y : Operand) (ho : o.op = .store ty x y)
    (g off : Nat) (v : Value) (hx : a.eval x = .pointer (some ⟨g, off, none⟩)) (hy : a.eval y = v) {t : TypeId} {old : List Value} (hg : At w g t old) (hi : (P.info? ty).map (·.size) = some v.cells.size)
    (hsz : off + v.cells.size ≤ old.length) (h1 : v.cells.toList.all (·.oneCell') = true)
    (h : ∀ w', At w' g t (old.take off ++ v.cells.toList ++ old.drop (off + v.cells.size)) → Kp (fun k => k ≠ g) w w' → w'.heap.size = w.heap.size → wpList P ops Q rest (a.put o.dst undef) w') : wpList P ops Q (o :: rest) a w :=
  wpList_plain hgd fun _ hK => by
    unfold Oper.wp execOp
    simp only [ho, hx, hy, Instr.storeAt, Instr.sureAddr, Sem.run_bind, Sem.run_pure, Result.andThen_ok, run_storeVar_blk w g off ty t v old hg hi hsz h1]
    exact hK _ _ (h _ (setRow_heap w g _ _ t (0, 0) hg) ((Kp.refl _ w).setRow (fun _ q => q rfl) _) (setRow_size _ _ _))
end Go.Proofs.YtoacobcbloljkaaGreatDoor

/-! # Scope: A scope in which the run jumps to several labels: what holds at each jump, and a measure that every pass from a label lowers. -/
namespace Go.Proofs.YtoacobcbloljkaaGreatDoor
open Go

/-- As Q; by a goto to label l: J l. -/
def Exit.jumps (J : Nat → Act → World → Prop) (Q : Exit → Act → World → Prop) : Exit → Act → World → Prop
  | .goto l, a, w => J l a w
  | e, a, w => Q e a w

theorem wp_scope_labels {P : Program} {a : Act} {w : World} {Q : Exit → Act → World → Prop} {c : Code} (J : Nat → Act → World → Prop) (μ : Nat → Act → World → Nat) (rest : Nat → Code)
    (hf : ∀ l a w, J l a w → findLabel c l = some (rest l)) (first : c.wp P (Exit.jumps J Q) a w)
    (pass : ∀ l a w, J l a w → (rest l).wp P (Exit.jumps (fun l' a' w' => J l' a' w' ∧ μ l' a' w' < μ l a w) Q) a w) : (Code.scope c).wp P Q a w := by
  intro b k cs
  have hg : ∀ l a w, J l a w → gotoIn l (.inScope c :: k) = some (.code (rest l) :: .inScope c :: k) := fun l a w h => by simp [gotoIn, hf l a w h]
  have key : ∀ n l a w, μ l a w = n → J l a w → ∃ e a' w', Q e a' w' ∧ Arrives P (lone (b.at a (.code (rest l) :: .inScope c :: k)) cs w) b k cs e a' w' := by
    intro n
    induction n using Nat.strongRecOn with
    | _ n ih =>
      intro l a w hn hJ
      obtain ⟨e, a₁, w₁, hq, harr⟩ := pass l a w hJ b (.inScope c :: k) cs
      cases e with
      | normal => exact ⟨.normal, a₁, w₁, hq, Steps.trans harr (.one step_inScope)⟩
      | exit id => exact ⟨.exit id, a₁, w₁, hq, fun k' hk => harr k' (by simp [exitTo, hk])⟩
      | goto l' =>
        obtain ⟨hJ', hlt⟩ := hq
        obtain ⟨e₂, a₂, w₂, hq₂, harr₂⟩ := ih _ (by omega) l' a₁ w₁ rfl hJ'
        exact ⟨e₂, a₂, w₂, hq₂, .of_steps (harr _ (hg _ _ _ hJ')) harr₂⟩
      | ret => exact ⟨_, a₁, w₁, hq, harr⟩
      | panic ch => exact ⟨_, a₁, w₁, hq, harr⟩
      | outgrown => exact ⟨_, a₁, w₁, hq, harr⟩
  obtain ⟨e, a₁, w₁, hq, harr⟩ := first b (.inScope c :: k) cs
  cases e with
  | normal => exact ⟨.normal, a₁, w₁, hq, .head step_scope (Steps.trans harr (.one step_inScope))⟩
  | exit id => exact ⟨.exit id, a₁, w₁, hq, fun k' hk => .head step_scope (harr k' (by simp [exitTo, hk]))⟩
  | goto l' =>
    obtain ⟨e₂, a₂, w₂, hq₂, harr₂⟩ := key _ l' a₁ w₁ rfl hq
    exact ⟨e₂, a₂, w₂, hq₂, .of_steps (.head step_scope (harr _ (hg _ _ _ hq))) harr₂⟩
  | ret => exact ⟨_, a₁, w₁, hq, .of_steps (.one step_scope) harr⟩
  | panic ch => exact ⟨_, a₁, w₁, hq, .of_steps (.one step_scope) harr⟩
  | outgrown => exact ⟨_, a₁, w₁, hq, .of_steps (.one step_scope) harr⟩

/-- As Q; by a goto to label 0: J0; to label 1: J1. -/
def twoJ (J0 J1 : Act → World → Prop) : Nat → Act → World → Prop
  | 0 => J0
  | 1 => J1
  | _ => fun _ _ => False

/-- Label 1 is jumped back to; behind label 0 there is no jump. -/
theorem wp_scope_two {P : Program} {a : Act} {w : World} {Q : Exit → Act → World → Prop} {c r0 r1 : Code} (J0 J1 : Act → World → Prop) (μ : Act → World → Nat)
    (hf0 : findLabel c 0 = some r0) (hf1 : findLabel c 1 = some r1) (first : c.wp P (Exit.jumps (twoJ J0 J1) Q) a w)
    (pass0 : ∀ a w, J0 a w → r0.wp P Q a w) (hq : ∀ l a w, ¬ Q (.goto l) a w)
    (pass1 : ∀ a w, J1 a w → r1.wp P (Exit.jumps (twoJ J0 fun a' w' => J1 a' w' ∧ μ a' w' < μ a w) Q) a w) : (Code.scope c).wp P Q a w := by
  refine wp_scope_labels (twoJ J0 J1) (fun l a w => if l = 0 then 0 else μ a w + 1) (fun l => if l = 0 then r0 else r1) ?_ first ?_
  · intro l a w h
    match l, h with
    | 0, _ => exact hf0
    | 1, _ => exact hf1
  · intro l a w h
    match l, h with
    | 0, h =>
      refine wp_mono (pass0 a w h) ?_
      intro e a' w' hQ
      cases e with
      | goto l' => exact absurd hQ (hq _ _ _)
      | _ => exact hQ
    | 1, h =>
      refine wp_mono (pass1 a w h) ?_
      intro e a' w' hQ
      cases e with
      | goto l' =>
        match l', hQ with
        | 0, hQ => exact ⟨hQ, by simp⟩
        | 1, hQ => exact ⟨hQ.1, by simpa using hQ.2⟩
      | _ => exact hQ

/-- The same; ahead of the first pass the later ones are at hand. -/
theorem wp_scope_back {P : Program} {a : Act} {w : World} {Q : Exit → Act → World → Prop} {c r0 X : Code} (J0 J1 : Act → World → Prop) (μ : Act → World → Nat)
    (hf0 : findLabel c 0 = some r0) (hf1 : findLabel c 1 = some (Code.skip.seq X))
    (pass1 : ∀ a w, J1 a w → X.wp P (Exit.jumps (twoJ J0 fun a' w' => J1 a' w' ∧ μ a' w' < μ a w) Q) a w)
    (first : (∀ a w, J1 a w → X.wp P (Exit.jumps (twoJ J0 J1) Q) a w) → c.wp P (Exit.jumps (twoJ J0 J1) Q) a w)
    (pass0 : ∀ a w, J0 a w → r0.wp P Q a w) (hq : ∀ l a w, ¬ Q (.goto l) a w) : (Code.scope c).wp P Q a w := by
  refine wp_scope_two J0 J1 μ hf0 hf1 (first fun a w h => wp_mono (pass1 a w h) ?_) pass0 hq (fun a w h => wp_seq (wp_skip (pass1 a w h)))
  intro e a' w' hQ
  cases e with
  | goto l' =>
    match l', hQ with
    | 0, hQ => exact hQ
    | 1, hQ => exact hQ.1
  | _ => exact hQ
end Go.Proofs.YtoacobcbloljkaaGreatDoor

/-! # Step: Laws for the operations of a region that draws its order, as 'go_region_law' wants them: append, delete, clear. No program in it. -/
namespace Go.Proofs.YtoacobcbloljkaaGreatDoor
open Go.RowKit

section
variable {P : Program} {ops : Array Oper} {o : Oper} {a : Act} {w : World} {K : Act → World → Prop} {Q : Exit → Act → World → Prop} {E : Prop}

theorem step_append_rd (hg : o.guard = none) (s x : Operand) {t e : TypeId} {size bytes : Nat} (hop : o.op = .call { callee := .builtin .append, args := #[s, x], argTypes := #[t, t] }) (El : Elem P t e size bytes)
    {base n : Nat} {v : Value} {xs : List Value} (hs : a.eval s = v) (hown : w.ownsRow base e size v n xs) {A : Option Addr} {m c : Nat} {news : List Value} (hx : a.eval x = .slice A m c) (hr : Rd w size A m news)
    (h1 : ∀ u ∈ news, u.oneCell' = true) (h63 : n + m ≤ maxLen) (hb : (n + m) * bytes ≤ 140737488355328) (hbase : base ≤ w.heap.size)
    (hK : ∀ v' w', w'.ownsRow base e size v' (n + m) (xs ++ news) → w.grownBy w' v.ownBlock → (v'.ownBlock = v.ownBlock ∨ v'.ownBlock = some w.heap.size) → K (a.put o.dst v') w') :
    if Region.wanted o (yielded ops a.tmps) = true then Oper.wp P o a w K Q else E := by
  have hw : Region.wanted o (yielded ops a.tmps) = true := by simp [Region.wanted, hg]
  rw [if_pos hw]
  obtain ⟨v', w', hrun, r1, r2, r3⟩ := run_append_rd El w o.type (c := c) hown hr h1 h63 hb hbase
  unfold Oper.wp
  simp [execOp, hop, resolve, invoke, builtin, hs, hx, hrun, Result.andThen]
  exact hK v' w' r1 r2 r3

variable {κ ν : Type} [DecidableEq κ] {k e : TypeId} {kv : κ → Value} {vv : ν → Value} {b r : Nat} {l rem : List (κ × ν)}

theorem step_delete_T (hg : o.guard = none) (m x : Operand) (t : TypeId) (hop : o.op = Op.call { callee := Callee.builtin Builtin.delete, args := #[m, x], argTypes := #[t, k] }) (Kk : KeyK P k kv) (ht : P.underlying t = some (.map k e))
    (hm : a.eval m = .map (some b)) (h : MapT kv vv w b l) (ky : κ) (hx : a.eval x = kv ky)
    (hK : ∀ w', MapT kv vv w' b (alDel l ky) → w.mapTurned w' b → K (a.put o.dst (.tuple #[])) w') :
    if Region.wanted o (yielded ops a.tmps) = true then Oper.wp P o a w K Q else E := by
  have hw : Region.wanted o (yielded ops a.tmps) = true := by simp [Region.wanted, hg]
  rw [if_pos hw]
  obtain ⟨w', hrun, r1, r2⟩ := h.delete (ty := o.type) Kk ht ky
  unfold Oper.wp
  simp [execOp, hop, resolve, invoke, builtin, hm, hx, hrun, Result.andThen]
  exact hK w' r1 r2

theorem step_delete_I (hg : o.guard = none) (m x : Operand) (t : TypeId) (hop : o.op = Op.call { callee := Callee.builtin Builtin.delete, args := #[m, x], argTypes := #[t, k] }) (Kk : KeyK P k kv) (ht : P.underlying t = some (.map k e))
    (hm : a.eval m = .map (some b)) (h : MapI kv vv w r b l rem) (ky : κ) (hx : a.eval x = kv ky)
    (hK : ∀ w', MapI kv vv w' r b (alDel l ky) (alDel rem ky) → w.mapTurned w' b → K (a.put o.dst (.tuple #[])) w') :
    if Region.wanted o (yielded ops a.tmps) = true then Oper.wp P o a w K Q else E := by
  have hw : Region.wanted o (yielded ops a.tmps) = true := by simp [Region.wanted, hg]
  rw [if_pos hw]
  obtain ⟨w', hrun, r1, r2⟩ := h.delete (ty := o.type) Kk ht ky
  unfold Oper.wp
  simp [execOp, hop, resolve, invoke, builtin, hm, hx, hrun, Result.andThen]
  exact hK w' r1 r2
end

section
variable {P : Program} {ops : Array Oper} {o : Oper} {a : Act} {w : World} {κ ν : Type} {kv : κ → Value} {vv : ν → Value} {b r : Nat} {l rem : List (κ × ν)}

/-- Guards for arms. -/
theorem wpList_isRange {rest : List Oper} {Q : Exit → Act → World → Prop} {d : Option Tmp} {tp : TypeId} {pos : String} {af : Array Edge} {gd : Option (Tmp × Bool)} {t : TypeId} {x : Operand}
    (h : wpList P ops Q ({ dst := d, op := .range t x, type := tp, pos := pos, after := af, guard := gd } :: rest) a w) : wpList P ops Q ({ dst := d, op := .range t x, type := tp, pos := pos, after := af, guard := gd } :: rest) a w := h
theorem wpList_isNext {rest : List Oper} {Q : Exit → Act → World → Prop} {d : Option Tmp} {tp : TypeId} {pos : String} {af : Array Edge} {gd : Option (Tmp × Bool)} {x : Operand} {s : Bool}
    (h : wpList P ops Q ({ dst := d, op := .next x s, type := tp, pos := pos, after := af, guard := gd } :: rest) a w) : wpList P ops Q ({ dst := d, op := .next x s, type := tp, pos := pos, after := af, guard := gd } :: rest) a w := h

/-- A map's loop: its step. -/
theorem wpList_next_I {rest : List Oper} {Q : Exit → Act → World → Prop} (hg : o.guard = none) (x : Operand) (hop : o.op = Op.next x false) (hx : a.eval x = .pointer (some ⟨r, 0, none⟩)) (h : MapI kv vv w r b l rem)
    (h0 : rem = [] → wpList P ops Q rest (a.put o.dst (.tuple #[.bool false])) w)
    (h1 : ∀ p rem' w', rem.Perm (p :: rem') → MapI kv vv w' r b l rem' → w.grownBy w' (some r) → (Instr.entry (.pointer (some ⟨r, 0, none⟩))).run P w' = .ok (.tuple #[kv p.1, vv p.2]) w' → wpList P ops Q rest (a.put o.dst (.tuple #[.bool true, kv p.1, vv p.2])) w') : wpList P ops Q (o :: rest) a w := by
  refine wpList_plain hg fun K' hK' => ?_
  rcases h.next (P := P) o.type with ⟨h2, hrun⟩ | ⟨p, rem', w', h2, hrun, h3, h4, h5⟩
  · unfold Oper.wp
    simp [execOp, hop, hx, hrun, Result.andThen]
    exact hK' _ _ (h0 h2)
  · unfold Oper.wp
    simp [execOp, hop, hx, hrun, Result.andThen]
    exact hK' _ _ (h1 p rem' w' h2 h3 h4 h5)
end
end Go.Proofs.YtoacobcbloljkaaGreatDoor

/-! # Eq: Equality of keys, nodes and entries as the program asks it. -/
namespace Go.Proofs.YtoacobcbloljkaaGreatDoor
open Go.RowKit

theorem eqIn_txt (d : Nat) (a b : List UInt8) (w : World) : (Op.equalIn (d + 1) 9 (txt a) (txt b)).run Tryz.prog w = .ok (decide (a = b)) w := by
  unfold txt
  rw [run_equalIn_string w d _ _ _ Tryz.underlying9, ← beq_toListBytes, bytes_mk_beq]
theorem eqIn_int (d : Nat) (a b : Int) (w : World) : (Op.equalIn (d + 1) 3 (.int .i64 a) (.int .i64 b)).run Tryz.prog w = .ok (decide (a = b)) w := by
  rw [run_equalIn_int w d _ _ _ _ _ Tryz.underlying3]
  congr 1

theorem eqIn_key (d : Nat) (a b : Key) (w : World) : (Op.equalIn (d + 2) 32 (vKey a) (vKey b)).run Tryz.prog w = .ok (decide (a = b)) w := by
  have hf : (Tryz.prog.fieldsOf 32).toList.map (fun f => (f.name, f.type, f.offset)) = [("Dir", 3, 0), ("Name", 9, 1)] := by kernel_rfl
  obtain ⟨f, g, hl, f1, f2, f3, g1, g2, g3⟩ := fields2 hf
  have p1 : ∀ k : Key, (part 3 #[.int .i64 k.1, txt k.2] 0).run Tryz.prog w = .ok (.int .i64 k.1) w := fun _ => by kernel_rfl
  have p2 : ∀ k : Key, (part 9 #[.int .i64 k.1, txt k.2] 1).run Tryz.prog w = .ok (txt k.2) w := fun _ => by kernel_rfl
  have q1 := eqIn_int d a.1 b.1 w
  have q2 := eqIn_txt d a.2 b.2 w
  simp only at f1 f2 f3 g1 g2 g3
  unfold vKey
  rw [run_equalIn_agg w (d + 1) 32 _ _ (by kernel_rfl) (by kernel_rfl), hl]
  simp only [Op.eqFields, f1, f2, f3, g1, g2, g3, ne_eq, Sem.run_bind, Sem.run_ite, p1, p2, q1, q2, Result.andThen_ok]
  clear p1 p2 q1 q2
  obtain ⟨a1, a2⟩ := a
  obtain ⟨b1, b2⟩ := b
  by_cases h1 : a1 = b1 <;> by_cases h2 : a2 = b2 <;> simp [h1, h2]

theorem fields4 {l : List Field} {x y z u : String × TypeId × Nat} (h : l.map (fun f => (f.name, f.type, f.offset)) = [x, y, z, u]) :
    ∃ f g h k, l = [f, g, h, k] ∧ (f.name = x.1 ∧ f.type = x.2.1 ∧ f.offset = x.2.2) ∧ (g.name = y.1 ∧ g.type = y.2.1 ∧ g.offset = y.2.2) ∧ (h.name = z.1 ∧ h.type = z.2.1 ∧ h.offset = z.2.2) ∧ (k.name = u.1 ∧ k.type = u.2.1 ∧ k.offset = u.2.2) := by
  match l, h with
  | [f, g, i, k], hh =>
    simp only [List.map_cons, List.map_nil, List.cons.injEq, and_true] at hh
    obtain ⟨rfl, rfl, rfl, rfl⟩ := hh
    exact ⟨f, g, i, k, rfl, ⟨rfl, rfl, rfl⟩, ⟨rfl, rfl, rfl⟩, ⟨rfl, rfl, rfl⟩, rfl, rfl, rfl⟩

theorem fields3 {l : List Field} {x y z : String × TypeId × Nat} (h : l.map (fun f => (f.name, f.type, f.offset)) = [x, y, z]) :
    ∃ f g h, l = [f, g, h] ∧ (f.name = x.1 ∧ f.type = x.2.1 ∧ f.offset = x.2.2) ∧ (g.name = y.1 ∧ g.type = y.2.1 ∧ g.offset = y.2.2) ∧ (h.name = z.1 ∧ h.type = z.2.1 ∧ h.offset = z.2.2) := by
  match l, h with
  | [f, g, i], hh =>
    simp only [List.map_cons, List.map_nil, List.cons.injEq, and_true] at hh
    obtain ⟨rfl, rfl, rfl⟩ := hh
    exact ⟨f, g, i, rfl, ⟨rfl, rfl, rfl⟩, ⟨rfl, rfl, rfl⟩, rfl, rfl, rfl⟩

theorem eqIn_node (d : Nat) (a b : Nd) (w : World) : (Op.equalIn (d + 2) 34 (vNd a) (vNd b)).run Tryz.prog w = .ok (decide (a = b)) w := by
  have hf : (Tryz.prog.fieldsOf 34).toList.map (fun f => (f.name, f.type, f.offset)) = [("ID", 3, 0), ("Kind", 3, 1), ("Mode", 3, 2), ("Target", 9, 3)] := by kernel_rfl
  obtain ⟨f, g, h, k, hl, ⟨f1, f2, f3⟩, ⟨g1, g2, g3⟩, ⟨h1, h2, h3⟩, k1, k2, k3⟩ := fields4 hf
  have p1 : ∀ k : Nd, (part 3 #[.int .i64 k.1, .int .i64 k.2.1, .int .i64 k.2.2.1, txt k.2.2.2] 0).run Tryz.prog w = .ok (.int .i64 k.1) w := fun _ => by kernel_rfl
  have p2 : ∀ k : Nd, (part 3 #[.int .i64 k.1, .int .i64 k.2.1, .int .i64 k.2.2.1, txt k.2.2.2] 1).run Tryz.prog w = .ok (.int .i64 k.2.1) w := fun _ => by kernel_rfl
  have p3 : ∀ k : Nd, (part 3 #[.int .i64 k.1, .int .i64 k.2.1, .int .i64 k.2.2.1, txt k.2.2.2] 2).run Tryz.prog w = .ok (.int .i64 k.2.2.1) w := fun _ => by kernel_rfl
  have p4 : ∀ k : Nd, (part 9 #[.int .i64 k.1, .int .i64 k.2.1, .int .i64 k.2.2.1, txt k.2.2.2] 3).run Tryz.prog w = .ok (txt k.2.2.2) w := fun _ => by kernel_rfl
  have q1 := eqIn_int d a.1 b.1 w
  have q2 := eqIn_int d a.2.1 b.2.1 w
  have q3 := eqIn_int d a.2.2.1 b.2.2.1 w
  have q4 := eqIn_txt d a.2.2.2 b.2.2.2 w
  simp only at f1 f2 f3 g1 g2 g3 h1 h2 h3 k1 k2 k3
  unfold vNd
  rw [run_equalIn_agg w (d + 1) 34 _ _ (by kernel_rfl) (by kernel_rfl), hl]
  simp only [Op.eqFields, f1, f2, f3, g1, g2, g3, h1, h2, h3, k1, k2, k3, ne_eq, Sem.run_bind, Sem.run_ite, p1, p2, p3, p4, q1, q2, q3, q4, Result.andThen_ok]
  clear p1 p2 p3 p4 q1 q2 q3 q4
  obtain ⟨a1, a2, a3, a4⟩ := a
  obtain ⟨b1, b2, b3, b4⟩ := b
  by_cases e1 : a1 = b1 <;> by_cases e2 : a2 = b2 <;> by_cases e3 : a3 = b3 <;> by_cases e4 : a4 = b4 <;> simp [e1, e2, e3, e4]

theorem eqIn_entry (d : Nat) (a b : En) (w : World) : (Op.equalIn (d + 3) 36 (vEn a) (vEn b)).run Tryz.prog w = .ok (decide (a = b)) w := by
  have hf : (Tryz.prog.fieldsOf 36).toList.map (fun f => (f.name, f.type, f.offset)) = [("Key", 32, 0), ("Neg", 4, 2), ("Node", 34, 3)] := by kernel_rfl
  obtain ⟨f, g, h, hl, ⟨f1, f2, f3⟩, ⟨g1, g2, g3⟩, h1, h2, h3⟩ := fields3 hf
  have p1 : ∀ e : En, (part 32 #[.int .i64 e.1.1, txt e.1.2, .bool e.2.1, .int .i64 e.2.2.1, .int .i64 e.2.2.2.1, .int .i64 e.2.2.2.2.1, txt e.2.2.2.2.2] 0).run Tryz.prog w = .ok (vKey e.1) w := fun _ => by kernel_rfl
  have p2 : ∀ e : En, (part 4 #[.int .i64 e.1.1, txt e.1.2, .bool e.2.1, .int .i64 e.2.2.1, .int .i64 e.2.2.2.1, .int .i64 e.2.2.2.2.1, txt e.2.2.2.2.2] 2).run Tryz.prog w = .ok (.bool e.2.1) w := fun _ => by kernel_rfl
  have p3 : ∀ e : En, (part 34 #[.int .i64 e.1.1, txt e.1.2, .bool e.2.1, .int .i64 e.2.2.1, .int .i64 e.2.2.2.1, .int .i64 e.2.2.2.2.1, txt e.2.2.2.2.2] 3).run Tryz.prog w = .ok (vNd e.2.2) w := fun _ => by kernel_rfl
  have q1 := eqIn_key d a.1 b.1 w
  have q2 : (Op.equalIn (d + 2) 4 (.bool a.2.1) (.bool b.2.1)).run Tryz.prog w = .ok (a.2.1 == b.2.1) w := run_equalIn_bool w (d + 1) _ _ _ Tryz.underlying4
  have q3 := eqIn_node d a.2.2 b.2.2 w
  simp only at f1 f2 f3 g1 g2 g3 h1 h2 h3
  unfold vEn
  rw [run_equalIn_agg w (d + 2) 36 _ _ (by kernel_rfl) (by kernel_rfl), hl]
  simp only [Op.eqFields, f1, f2, f3, g1, g2, g3, h1, h2, h3, ne_eq, Sem.run_bind, Sem.run_ite, p1, p2, p3, q1, q2, q3, Result.andThen_ok]
  clear p1 p2 p3 q1 q2 q3
  obtain ⟨a1, a2, a3⟩ := a
  obtain ⟨b1, b2, b3⟩ := b
  by_cases e1 : a1 = b1 <;> by_cases e2 : a2 = b2 <;> by_cases e3 : a3 = b3 <;> simp [e1, e2, e3]

theorem eql_key (a b : Key) (w : World) : (binOp .eql 32 (vKey a) (vKey b)).run Tryz.prog w = .ok (.bool (decide (a = b))) w := by
  have := eqIn_key 9998 a b w
  unfold vKey at this ⊢
  rw [run_eql_struct, this]
  rfl
theorem neq_key (a b : Key) (w : World) : (binOp .neq 32 (vKey a) (vKey b)).run Tryz.prog w = .ok (.bool (!decide (a = b))) w := by
  have := eqIn_key 9998 a b w
  unfold vKey at this ⊢
  rw [run_neq_struct, this]
  rfl
theorem eql_node (a b : Nd) (w : World) : (binOp .eql 34 (vNd a) (vNd b)).run Tryz.prog w = .ok (.bool (decide (a = b))) w := by
  have := eqIn_node 9998 a b w
  unfold vNd at this ⊢
  rw [run_eql_struct, this]
  rfl
theorem neq_node (a b : Nd) (w : World) : (binOp .neq 34 (vNd a) (vNd b)).run Tryz.prog w = .ok (.bool (!decide (a = b))) w := by
  have := eqIn_node 9998 a b w
  unfold vNd at this ⊢
  rw [run_neq_struct, this]
  rfl
theorem eql_entry (a b : En) (w : World) : (binOp .eql 36 (vEn a) (vEn b)).run Tryz.prog w = .ok (.bool (decide (a = b))) w := by
  have := eqIn_entry 9997 a b w
  unfold vEn at this ⊢
  rw [run_eql_struct, this]
  rfl
theorem neq_entry (a b : En) (w : World) : (binOp .neq 36 (vEn a) (vEn b)).run Tryz.prog w = .ok (.bool (!decide (a = b))) w := by
  have := eqIn_entry 9997 a b w
  unfold vEn at this ⊢
  rw [run_neq_struct, this]
  rfl
end Go.Proofs.YtoacobcbloljkaaGreatDoor

/-! # RegInv: A law for a region that draws its order: what is kept by each operation that may come next, whichever came before, holds at the end. No program in it. -/
namespace Go.Proofs.YtoacobcbloljkaaGreatDoor
open Go.RowKit

section
variable {P : Program} {md : Region.Mode} {ops : Array Oper} {Q : Exit → Act → World → Prop}

def unlisted (listed : Array Bool) : Nat := (listed.toList.filter fun b => !b).length

theorem unlisted_set : ∀ (l : List Bool) (i : Nat), l[i]? = some false → ((l.set i true).filter fun b => !b).length + 1 = (l.filter fun b => !b).length
  | [], i, h => by simp at h
  | b :: l, 0, h => by
    simp only [List.getElem?_cons_zero, Option.some.injEq] at h
    subst h
    simp
  | b :: l, i + 1, h => by
    simp only [List.getElem?_cons_succ] at h
    have := unlisted_set l i h
    cases b <;> simp [this] <;> omega

theorem wpAny_inv (I : Array Bool → Act → World → Prop)
    (hstep : ∀ listed i a w, listed.size = ops.size → i ∈ Region.ready md ops listed → I listed a w → wpOp P ops Q i (I (listed.setIfInBounds i true)) a w)
    (hend : ∀ listed a w, Region.ready md ops listed = [] → I listed a w → Q .normal a w) :
    ∀ (fuel : Nat) (listed : Array Bool) (a : Act) (w : World), unlisted listed ≤ fuel → listed.size = ops.size → I listed a w → wpAny P md ops Q fuel listed a w := by
  have hno : ∀ (listed : Array Bool) (i : Nat), listed.size = ops.size → i ∈ Region.ready md ops listed → listed.toList[i]? = some false := fun listed i hs hi => by
    obtain ⟨h0, o, ho, _⟩ := mem_ready.1 hi
    have hlt : i < listed.size := by rw [hs]; exact (Array.getElem?_eq_some_iff.1 ho).1
    rw [Array.getElem?_toList, Array.getElem?_eq_getElem hlt]
    simpa [Array.getD, hlt] using h0
  intro fuel
  induction fuel with
  | zero =>
    intro listed a w hf hs hI
    have hr : Region.ready md ops listed = [] := by
      cases hr : Region.ready md ops listed with
      | nil => rfl
      | cons i r =>
        have h1 := hno listed i hs (by rw [hr]; exact .head _)
        have := unlisted_set listed.toList i h1
        unfold unlisted at hf
        omega
    exact ⟨hr, hend listed a w hr hI⟩
  | succ fuel ih =>
    intro listed a w hf hs hI
    refine ⟨fun hr => hend listed a w hr hI, fun i hi => ?_⟩
    refine wpOp_mono (fun a' w' h' => ih _ a' w' ?_ (by simp [hs]) h') (hstep listed i a w hs hi hI)
    have h1 := hno listed i hs hi
    have := unlisted_set listed.toList i h1
    unfold unlisted at hf ⊢
    rw [Array.toList_setIfInBounds]
    omega

/-- The law. -/
theorem wp_region_inv {id : Nat} {a : Act} {w : World} (hm : P.follows .mixedOrders = true) (I : Array Bool → Act → World → Prop)
    (h0 : I (Array.replicate ops.size false) a { w with drawn := w.drawn + 1 })
    (hstep : ∀ listed i a w, listed.size = ops.size → i ∈ Region.ready .any ops listed → I listed a w → wpOp P ops Q i (I (listed.setIfInBounds i true)) a w)
    (hend : ∀ listed a w, Region.ready .any ops listed = [] → I listed a w → Q .normal a w) : (Code.region id ops true).wp P Q a w :=
  wp_region_any hm (wpAny_inv I hstep hend ops.size _ a _ (by
    unfold unlisted
    refine Nat.le_trans (List.length_filter_le _ _) ?_
    simp) (by simp) h0)

theorem put_same {a : Act} {d : Tmp} {v : Value} (h : d < a.tmps.size) : (a.put (some d) v).tmps.getD d undef = v := by
  simp [Act.put, Array.getD, h]
theorem put_ne {a : Act} {d e : Tmp} {v : Value} (h : d ≠ e) : (a.put (some d) v).tmps.getD e undef = a.tmps.getD e undef := by
  simp [Act.put, Array.getD_eq_getD_getElem?, Array.getElem?_setIfInBounds_ne h]
theorem put_size {a : Act} {d : Option Tmp} {v : Value} : (a.put d v).tmps.size = a.tmps.size := by
  cases d <;> simp [Act.put]

/-- What holds throughout, and what holds of each operation that has been done. -/
def RInv (n : Nat) (B : Act → World → Prop) (F : Nat → Act → World → Prop) (listed : Array Bool) (a : Act) (w : World) : Prop := B a w ∧ ∀ j, j < n → listed.getD j false = true → F j a w

theorem RInv.start {n : Nat} {B : Act → World → Prop} {F : Nat → Act → World → Prop} {m : Nat} {a : Act} {w : World} (h : B a w) : RInv n B F (Array.replicate m false) a w :=
  ⟨h, fun j _ hl => by
    exfalso
    simp only [Array.getD_eq_getD_getElem?, Array.getElem?_replicate] at hl
    split at hl <;> simp at hl⟩

theorem RInv.next {n : Nat} {B : Act → World → Prop} {F : Nat → Act → World → Prop} {listed : Array Bool} {i : Nat} {a a' : Act} {w w' : World} (h : RInv n B F listed a w) (hb : B a' w') (hi : F i a' w')
    (hf : ∀ j, j < n → j ≠ i → F j a w → F j a' w') : RInv n B F (listed.setIfInBounds i true) a' w' :=
  ⟨hb, fun j hj hl => by
    by_cases e : j = i
    · subst e; exact hi
    · rw [getD_set_ne false (Ne.symm e)] at hl
      exact hf j hj e (h.2 j hj hl)⟩

theorem RInv.all {n : Nat} {B : Act → World → Prop} {F : Nat → Act → World → Prop} {listed : Array Bool} {a : Act} {w : World} (h : RInv n B F listed a w) {j : Nat} (hj : j < n) (hl : listed.getD j false = true) : F j a w := h.2 j hj hl

theorem wpOp_of {i : Nat} {o : Oper} {a : Act} {w : World} {K : Act → World → Prop} (ho : ops[i]? = some o) (hw : Region.wanted o (yielded ops a.tmps) = true) (h : Oper.wp P o a w K Q) : wpOp P ops Q i K a w := by
  unfold wpOp
  rw [ho]
  simp only
  rw [if_pos hw]
  exact .inl h
end
end Go.Proofs.YtoacobcbloljkaaGreatDoor

/-! # Mem: Lists of keys, nodes, entries in memory; rows that the call owns. No program is walked here. -/
namespace Go.Proofs.YtoacobcbloljkaaGreatDoor
open Go.RowKit

theorem blk_cell {w : World} {c : Nat} {t : TypeId} {cs : Array Value} (hb : w.heap[c]? = some (.cells cs t (0, 0))) (k : Nat) : w.cell? ⟨c, k, none⟩ = cs[k]? := by
  unfold World.cell?
  rw [hb]
  rfl
theorem blk_frozen {w : World} {c : Nat} {t : TypeId} {cs : Array Value} (hb : w.heap[c]? = some (.cells cs t (0, 0))) (k : Nat) : w.frozen? ⟨c, k, none⟩ = false := by
  unfold World.frozen?
  rw [hb]
  simp
theorem below_drew {B : Nat} {a w : World} (h : Below B a w) : Below B a w.drew := ⟨h.os, h.tape, h.output, h.size, h.block⟩
theorem cell_alloc_old {w : World} {a : Addr} {v : Value} (h : w.cell? a = some v) (o : Obj) : (w.alloc o).cell? a = some v := by
  rw [← h]
  exact World.cell?_of_block ((MapKept.heap_alloc w o).2 a.block (World.block_lt_of_cell? _ _ h))
def cEn (e : En) : List Value := [.int .i64 e.1.1, txt e.1.2, .bool e.2.1, .int .i64 e.2.2.1, .int .i64 e.2.2.2.1, .int .i64 e.2.2.2.2.1, txt e.2.2.2.2.2]
def cEns (l : List En) : List Value := l.flatMap cEn
theorem cEns_get (l : List En) (k : Nat) (x : En) (h : l[k]? = some x) (i : Nat) (hi : i < 7) : (cEns l)[k * 7 + i]? = (cEn x)[i]? := by
  induction l generalizing k with
  | nil => simp at h
  | cons y r ih =>
    have hl : (cEn y).length = 7 := rfl
    unfold cEns at *
    rw [List.flatMap_cons]
    cases k with
    | zero =>
      simp only [List.getElem?_cons_zero] at h
      injection h with h
      subst h
      rw [Nat.zero_mul, Nat.zero_add, List.getElem?_append_left (by omega)]
    | succ k =>
      simp only [List.getElem?_cons_succ] at h
      rw [List.getElem?_append_right (by omega), ← ih k h]
      congr 1
      omega
theorem cEns_length (l : List En) : (cEns l).length = l.length * 7 := by
  induction l with
  | nil => rfl
  | cons y r ih =>
    unfold cEns at *
    rw [List.flatMap_cons, List.length_append, ih]
    have : (cEn y).length = 7 := rfl
    rw [this, List.length_cons]
    omega
theorem heap_new_at (w : World) (o : Obj) {n : Nat} (h : n = w.heap.size) : (w.alloc o).heap[n]? = some o := by subst h; exact heap_alloc_new _ _
theorem add_at (a : Addr) (i : Nat) (h : i ≠ 0) : a.add i = ⟨a.block, a.off + i, none⟩ := by unfold Addr.add; rw [if_neg h]
/-- Reading a list of entries. -/
theorem Rd.en_at {w : World} {A : Option Addr} {n : Nat} {l : List En} (h : Rd w 7 A n (cEns l)) {k : Nat} (hk : k < n) :
    ∃ (ad : Addr) (d : Int) (nm : List UInt8) (ng : Bool) (i kd md : Int) (tg : List UInt8), A = some ad ∧ ad.block < w.heap.size ∧ l[k]? = some ((d, nm), ng, i, kd, md, tg) ∧
      w.cell? (ad.add (k * 7)) = some (.int .i64 d) ∧ w.cell? ⟨(ad.add (k * 7)).block, (ad.add (k * 7)).off + 1, none⟩ = some (.string ⟨nm.toArray⟩) ∧
      w.cell? ⟨(ad.add (k * 7)).block, (ad.add (k * 7)).off + 2, none⟩ = some (.bool ng) ∧ w.cell? ⟨(ad.add (k * 7)).block, (ad.add (k * 7)).off + 3, none⟩ = some (.int .i64 i) ∧
      w.cell? ⟨(ad.add (k * 7)).block, (ad.add (k * 7)).off + 4, none⟩ = some (.int .i64 kd) ∧ w.cell? ⟨(ad.add (k * 7)).block, (ad.add (k * 7)).off + 5, none⟩ = some (.int .i64 md) ∧
      w.cell? ⟨(ad.add (k * 7)).block, (ad.add (k * 7)).off + 6, none⟩ = some (.string ⟨tg.toArray⟩) := by
  obtain ⟨ad, e, hb, hc⟩ := h.2 (by omega)
  have hl : k < l.length := by have := h.1; rw [cEns_length] at this; omega
  obtain ⟨x, hx⟩ : ∃ x, l[k]? = some x := ⟨_, List.getElem?_eq_getElem hl⟩
  have hg := fun i hi => cEns_get l k x hx i hi
  obtain ⟨⟨d, nm⟩, ng, i, kd, md, tg⟩ := x
  have c : ∀ (j : Nat) (u : Value), j < 7 → (cEn ((d, nm), ng, i, kd, md, tg))[j]? = some u → w.cell? ((ad.add (k * 7)).add j) = some u := fun j u hj hu => by
    rw [add_assoc_]
    exact hc _ _ ((hg j hj).trans hu)
  refine ⟨ad, d, nm, ng, i, kd, md, tg, e, hb, hx, ?_, ?_, ?_, ?_, ?_, ?_, ?_⟩
  · have := c 0 (.int .i64 d) (by omega) rfl
    rwa [show (ad.add (k * 7)).add 0 = ad.add (k * 7) from by unfold Addr.add; simp] at this
  all_goals rw [← add_at _ _ (by decide)]
  · exact c 1 _ (by omega) rfl
  · exact c 2 _ (by omega) rfl
  · exact c 3 _ (by omega) rfl
  · exact c 4 _ (by omega) rfl
  · exact c 5 _ (by omega) rfl
  · exact c 6 _ (by omega) rfl
theorem Rd.en_len {w : World} {A : Option Addr} {n : Nat} {l : List En} (h : Rd w 7 A n (cEns l)) : l.length = n := by
  have := h.1
  rw [cEns_length] at this
  omega
def noEn : En := ((0, []), false, 0, 0, 0, [])
def cNd (x : Nd) : List Value := [.int .i64 x.1, .int .i64 x.2.1, .int .i64 x.2.2.1, txt x.2.2.2]
def cNds (l : List Nd) : List Value := l.flatMap cNd
theorem cNds_length (l : List Nd) : (cNds l).length = l.length * 4 := by
  induction l with
  | nil => rfl
  | cons y r ih =>
    unfold cNds at *
    rw [List.flatMap_cons, List.length_append, ih]
    have : (cNd y).length = 4 := rfl
    rw [this, List.length_cons]
    omega
theorem cNds_get (l : List Nd) (k : Nat) (x : Nd) (h : l[k]? = some x) (i : Nat) (hi : i < 4) : (cNds l)[k * 4 + i]? = (cNd x)[i]? := by
  induction l generalizing k with
  | nil => simp at h
  | cons y r ih =>
    have hl : (cNd y).length = 4 := rfl
    unfold cNds at *
    rw [List.flatMap_cons]
    cases k with
    | zero =>
      simp only [List.getElem?_cons_zero] at h
      injection h with h
      subst h
      rw [Nat.zero_mul, Nat.zero_add, List.getElem?_append_left (by omega)]
    | succ k =>
      simp only [List.getElem?_cons_succ] at h
      rw [List.getElem?_append_right (by omega), ← ih k h]
      congr 1
      omega
/-- Reading a list of nodes. -/
theorem Rd.nd_at {w : World} {A : Option Addr} {n : Nat} {l : List Nd} (h : Rd w 4 A n (cNds l)) {k : Nat} (hk : k < n) :
    ∃ (ad : Addr) (i kd md : Int) (tg : List UInt8), A = some ad ∧ ad.block < w.heap.size ∧ l[k]? = some (i, kd, md, tg) ∧
      w.cell? (ad.add (k * 4)) = some (.int .i64 i) ∧ w.cell? ⟨(ad.add (k * 4)).block, (ad.add (k * 4)).off + 1, none⟩ = some (.int .i64 kd) ∧
      w.cell? ⟨(ad.add (k * 4)).block, (ad.add (k * 4)).off + 2, none⟩ = some (.int .i64 md) ∧ w.cell? ⟨(ad.add (k * 4)).block, (ad.add (k * 4)).off + 3, none⟩ = some (.string ⟨tg.toArray⟩) := by
  obtain ⟨ad, e, hb, hc⟩ := h.2 (by omega)
  have hl : k < l.length := by have := h.1; rw [cNds_length] at this; omega
  obtain ⟨x, hx⟩ : ∃ x, l[k]? = some x := ⟨_, List.getElem?_eq_getElem hl⟩
  have hg := fun i hi => cNds_get l k x hx i hi
  obtain ⟨i, kd, md, tg⟩ := x
  have c : ∀ (j : Nat) (u : Value), j < 4 → (cNd (i, kd, md, tg))[j]? = some u → w.cell? ((ad.add (k * 4)).add j) = some u := fun j u hj hu => by
    rw [add_assoc_]
    exact hc _ _ ((hg j hj).trans hu)
  refine ⟨ad, i, kd, md, tg, e, hb, hx, ?_, ?_, ?_, ?_⟩
  · have := c 0 (.int .i64 i) (by omega) rfl
    rwa [show (ad.add (k * 4)).add 0 = ad.add (k * 4) from by unfold Addr.add; simp] at this
  all_goals rw [← add_at _ _ (by decide)]
  · exact c 1 _ (by omega) rfl
  · exact c 2 _ (by omega) rfl
  · exact c 3 _ (by omega) rfl
def cKey (k : Key) : List Value := [.int .i64 k.1, txt k.2]
def cKeys (l : List Key) : List Value := l.flatMap cKey
theorem info_keys : (Tryz.prog.info? 32).map (fun i => (i.zero, i.size, i.bytes)) = some (some (.agg #[.int .i64 0, .string ByteArray.empty]), 2, 24) := by kernel_rfl
theorem elemKeys : Elem Tryz.prog 38 32 2 24 := Elem.mk_ Tryz.underlying38 info_keys rfl (by decide)
theorem cKeys_length (l : List Key) : (cKeys l).length = l.length * 2 := by
  induction l with
  | nil => rfl
  | cons y r ih =>
    unfold cKeys at *
    rw [List.flatMap_cons, List.length_append, ih]
    have : (cKey y).length = 2 := rfl
    rw [this, List.length_cons]
    omega
theorem cKeys_one (l : List Key) : ∀ u ∈ cKeys l, u.oneCell' = true := by
  intro u hu
  simp only [cKeys, List.mem_flatMap, cKey, List.mem_cons, List.not_mem_nil, or_false] at hu
  obtain ⟨k, _, rfl | rfl⟩ := hu <;> rfl
theorem cNds_one (l : List Nd) : ∀ u ∈ cNds l, u.oneCell' = true := by
  intro u hu
  simp only [cNds, List.mem_flatMap, cNd, List.mem_cons, List.not_mem_nil, or_false] at hu
  obtain ⟨k, _, rfl | rfl | rfl | rfl⟩ := hu <;> rfl
/-- A new row of whatever cells. -/
theorem rd_new (w : World) (t : TypeId) (sz n : Nat) (cs : List Value) (h : cs.length = n * sz) : Rd (w.alloc (.cells cs.toArray t)) sz (some ⟨w.heap.size, 0, none⟩) n cs := by
  refine ⟨h, fun _ => ⟨_, rfl, by simp, fun j u hu => ?_⟩⟩
  rw [Addr.add_mid, Nat.zero_add, (At.new w t cs).cell]
  exact hu
theorem own_lt_ {w : World} {base e sz n m : Nat} {A : Option Addr} {c : Nat} {xs : List Value} (h : w.ownsRow base e sz (.slice A m c) n xs) : ∀ ad, A = some ad → base ≤ ad.block ∧ ad.block < w.heap.size := by
  intro ad e
  subst e
  exact h.lt ad.block rfl
theorem own_form {w : World} {base e sz n m : Nat} {A : Option Addr} {c : Nat} {xs : List Value} (h : w.ownsRow base e sz (.slice A m c) n xs) (hn : 0 < n) : ∃ g, A = some ⟨g, 0, none⟩ ∧ m = n ∧ g < w.heap.size ∧ base ≤ g ∧ (Value.slice A m c).ownBlock = some g := by
  obtain ⟨g, cap, hv, hb, hlt⟩ := h.form hn
  injection hv with h1 h2 h3
  subst h1
  exact ⟨g, rfl, h2, hlt, hb, rfl⟩
theorem own_type {w : World} {b1 b2 e1 e2 s1 s2 n1 n2 : Nat} {v1 v2 : Value} {x1 x2 : List Value} {k : Nat} (h1 : w.ownsRow b1 e1 s1 v1 n1 x1) (h2 : w.ownsRow b2 e2 s2 v2 n2 x2) (k1 : v1.ownBlock = some k) (k2 : v2.ownBlock = some k) : e1 = e2 := by
  rcases h1.2 with ⟨rfl, _⟩ | ⟨g, cap, cur, rfl, _, a, _⟩
  · cases k1
  rcases h2.2 with ⟨rfl, _⟩ | ⟨g', cap', cur', rfl, _, a', _⟩
  · cases k2
  injection k1 with k1
  injection k2 with k2
  subst k1
  subst k2
  rw [a] at a'
  injection a' with a'
  injection a'
/-- 'return out': the variable is copied into the result's cells. -/
theorem out_back {P : Program} {id d : Nat} {ty tp1 tp2 : TypeId} {pos1 pos2 : String} {af1 af2 : Array Edge} {a : Act} {w : World} {Q : Exit → Act → World → Prop} {x y : Tmp} (cs olds : List Value) (b r : Nat) {dsc : TypeDesc}
    (hu : P.underlying ty = some dsc) (hds : (match dsc with | .struct _ | .array _ _ => true | _ => false) = true) (hi : (P.info? ty).map (·.size) = some cs.length) (hl : olds.length = cs.length) (h1 : cs.all (·.oneCell') = true)
    (hx : a.eval (.tmp x) = .pointer (some ⟨b, 0, none⟩)) (hy : (a.put (some d) (.agg cs.toArray)).eval (.tmp y) = .pointer (some ⟨r, 0, none⟩)) (hd : (a.put (some d) (.agg cs.toArray)).eval (.tmp d) = .agg cs.toArray)
    (ho : At w b ty cs) (hr : At w r ty olds)
    (h : ∀ w', At w' r ty cs → Kp (fun k => k ≠ r) w w' → Q .normal (a.put (some d) (.agg cs.toArray)) w') :
    (Code.region id [{ dst := some d, op := .load ty (.tmp x), type := tp1, pos := pos1, after := af1, guard := none }, { dst := none, op := .store ty (.tmp y) (.tmp d), type := tp2, pos := pos2, after := af2, guard := none }].toArray false).wp P Q a w := by
  refine wp_region_lit ?_
  refine wpList_load_row rfl ty (.tmp x) rfl b hx ty cs.toArray (0, 0) dsc ho hu hds (by simpa using hi) ?_
  have hc : (Value.agg cs.toArray).cells = cs.toArray := rfl
  refine wpList_store_blk rfl ty (.tmp y) (.tmp d) rfl r 0 (.agg cs.toArray) hy hd hr (by rw [hc]; simpa using hi) (by rw [hc]; simp; omega) (by rw [hc]; simpa using h1) ?_
  intro w' hw hk _
  have e : List.take 0 olds ++ (Value.agg cs.toArray).cells.toList ++ List.drop (0 + (Value.agg cs.toArray).cells.size) olds = cs := by
    rw [hc, List.drop_of_length_le (by simp; omega)]
    simp
  rw [e] at hw
  exact h w' hw hk
theorem own_none (w : World) (base : Nat) (e : TypeId) (hb : base ≤ w.heap.size) : (w.alloc (.cells #[] e)).ownsRow base e 1 (.slice (some ⟨w.heap.size, 0, none⟩) 0 0) 0 [] :=
  ⟨rfl, .inr ⟨_, 0, _, rfl, hb, heap_alloc_new _ _, Nat.le_refl _, by unfold maxLen; omega, rfl, rfl⟩⟩
def vIs (l : List Int) : List Value := l.map vI
theorem info_entries : (Tryz.prog.info? 36).map (fun i => (i.zero, i.size, i.bytes)) = some (some (vEn noEn), 7, 72) := by kernel_rfl
theorem elemEntries : Elem Tryz.prog 23 36 7 72 := Elem.mk_ Tryz.underlying23 info_entries rfl (by decide)
theorem info_ints : (Tryz.prog.info? 3).map (fun i => (i.zero, i.size, i.bytes)) = some (some (.int .i64 0), 1, 8) := by kernel_rfl
theorem elemInts : Elem Tryz.prog 99 3 1 8 := Elem.mk_ Tryz.underlying99 info_ints rfl (by decide)
theorem rd_lay (w : World) (t : TypeId) (cs : List Value) (sz n : Nat) (h : cs.length = n * sz) : Rd (w.alloc (.cells cs.toArray t)) sz (some ⟨w.heap.size, 0, none⟩) n cs := by
  refine ⟨h, fun _ => ⟨_, rfl, by simp, fun j u hu => ?_⟩⟩
  have e : (⟨w.heap.size, 0, none⟩ : Addr).add j = ⟨w.heap.size, j, none⟩ := by unfold Addr.add; split <;> simp_all
  rw [e]
  rw [cell_of_row _ _ _ _ t (0, 0) (heap_alloc_new w _)]
  simpa using hu
theorem cEn_len (x : En) : (cEn x).length = 7 := rfl
theorem cEn_one (x : En) : ∀ v ∈ cEn x, v.oneCell' = true := by
  intro u hu
  simp only [cEn, List.mem_cons, List.not_mem_nil, or_false] at hu
  rcases hu with rfl | rfl | rfl | rfl | rfl | rfl | rfl <;> rfl
theorem cEns_one (l : List En) : ∀ u ∈ cEns l, u.oneCell' = true := by
  intro u hu
  simp only [cEns, List.mem_flatMap, cEn, List.mem_cons, List.not_mem_nil, or_false] at hu
  obtain ⟨k, _, rfl | rfl | rfl | rfl | rfl | rfl | rfl⟩ := hu <;> rfl
theorem vIs_one (l : List Int) : ∀ u ∈ vIs l, u.oneCell' = true := by
  intro u hu
  simp only [vIs, List.mem_map] at hu
  obtain ⟨k, _, rfl⟩ := hu
  rfl
theorem cEns_append (a b : List En) : cEns (a ++ b) = cEns a ++ cEns b := by simp [cEns]
theorem vIs_append (a b : List Int) : vIs (a ++ b) = vIs a ++ vIs b := by simp [vIs]
/-- The head of a list that is read. -/
theorem Rd.take {w : World} {A : Option Addr} {n : Nat} {l : List En} (h : Rd w 7 A n (cEns l)) {i : Nat} (hi : i ≤ n) : Rd w 7 A i (cEns (l.take i)) := by
  have hl := h.en_len
  refine ⟨by rw [cEns_length, List.length_take]; omega, fun h0 => ?_⟩
  obtain ⟨ad, e, hb, hc⟩ := h.2 (by omega)
  refine ⟨ad, e, hb, fun j u hu => hc j u ?_⟩
  have e2 : cEns l = cEns (l.take i) ++ cEns (l.drop i) := by rw [← cEns_append, List.take_append_drop]
  rw [e2, List.getElem?_append_left (List.getElem?_eq_some_iff.1 hu).1]
  exact hu
/-- Its tail. -/
theorem Rd.drop {w : World} {ad : Addr} {n : Nat} {l : List En} (h : Rd w 7 (some ad) n (cEns l)) {i : Nat} (hi : i ≤ n) : Rd w 7 (some (ad.add (i * 7))) (n - i) (cEns (l.drop i)) := by
  have hl := h.en_len
  refine ⟨by rw [cEns_length, List.length_drop]; omega, fun h0 => ?_⟩
  obtain ⟨ad', e, hb, hc⟩ := h.2 (by omega)
  injection e with e
  subst e
  refine ⟨_, rfl, by rw [add_block]; exact hb, fun j u hu => ?_⟩
  rw [add_assoc_]
  refine hc _ u ?_
  have e2 : cEns l = cEns (l.take i) ++ cEns (l.drop i) := by rw [← cEns_append, List.take_append_drop]
  have hlt : (cEns (l.take i)).length = i * 7 := by rw [cEns_length, List.length_take]; omega
  rw [e2, List.getElem?_append_right (by omega), hlt, Nat.add_sub_cancel_left]
  exact hu
theorem Rd.drop0 {w : World} {A A' : Option Addr} {n : Nat} {l : List En} (h : Rd w 7 A n (cEns l)) {i : Nat} (hi : n ≤ i) : Rd w 7 A' 0 (cEns (l.drop i)) := by
  have hl := h.en_len
  rw [List.drop_of_length_le (by omega)]
  exact Rd.empty _ _ _
theorem entry_at {w : World} {A : Option Addr} {n : Nat} {l : List En} (h : Rd w 7 A n (cEns l)) {k : Nat} {x : En} (hx : l[k]? = some x) :
    ∃ (ad : Addr), A = some ad ∧ ad.block < w.heap.size ∧ k < n ∧
      w.cell? (ad.add (k * 7)) = some (.int .i64 x.1.1) ∧ w.cell? ⟨(ad.add (k * 7)).block, (ad.add (k * 7)).off + 1, none⟩ = some (.string ⟨x.1.2.toArray⟩) ∧
      w.cell? ⟨(ad.add (k * 7)).block, (ad.add (k * 7)).off + 2, none⟩ = some (.bool x.2.1) ∧ w.cell? ⟨(ad.add (k * 7)).block, (ad.add (k * 7)).off + 3, none⟩ = some (.int .i64 x.2.2.1) ∧
      w.cell? ⟨(ad.add (k * 7)).block, (ad.add (k * 7)).off + 4, none⟩ = some (.int .i64 x.2.2.2.1) ∧ w.cell? ⟨(ad.add (k * 7)).block, (ad.add (k * 7)).off + 5, none⟩ = some (.int .i64 x.2.2.2.2.1) ∧
      w.cell? ⟨(ad.add (k * 7)).block, (ad.add (k * 7)).off + 6, none⟩ = some (.string ⟨x.2.2.2.2.2.toArray⟩) := by
  have hk : k < n := by rw [← h.en_len]; exact (List.getElem?_eq_some_iff.1 hx).1
  obtain ⟨ad, d, nm, ng, i, kd, md, tg, e, hb, hx2, r⟩ := h.en_at hk
  rw [hx] at hx2
  injection hx2 with hx2
  subst hx2
  exact ⟨ad, e, hb, hk, r⟩
theorem cKeys_get (l : List Key) (k : Nat) (x : Key) (h : l[k]? = some x) (i : Nat) (hi : i < 2) : (cKeys l)[k * 2 + i]? = (cKey x)[i]? := by
  induction l generalizing k with
  | nil => simp at h
  | cons y r ih =>
    have hl : (cKey y).length = 2 := rfl
    unfold cKeys at *
    rw [List.flatMap_cons]
    cases k with
    | zero =>
      simp only [List.getElem?_cons_zero] at h
      injection h with h
      subst h
      rw [Nat.zero_mul, Nat.zero_add, List.getElem?_append_left (by omega)]
    | succ k =>
      simp only [List.getElem?_cons_succ] at h
      rw [List.getElem?_append_right (by omega), ← ih k h]
      congr 1
      omega
/-- Reading a list of keys. -/
theorem Rd.key_at {w : World} {A : Option Addr} {n : Nat} {l : List Key} (h : Rd w 2 A n (cKeys l)) {k : Nat} (hk : k < n) :
    ∃ (ad : Addr) (d : Int) (nm : List UInt8), A = some ad ∧ ad.block < w.heap.size ∧ l[k]? = some (d, nm) ∧
      w.cell? (ad.add (k * 2)) = some (.int .i64 d) ∧ w.cell? ⟨(ad.add (k * 2)).block, (ad.add (k * 2)).off + 1, none⟩ = some (.string ⟨nm.toArray⟩) := by
  obtain ⟨ad, e, hb, hc⟩ := h.2 (by omega)
  have hl : k < l.length := by have := h.1; rw [cKeys_length] at this; omega
  obtain ⟨x, hx⟩ : ∃ x, l[k]? = some x := ⟨_, List.getElem?_eq_getElem hl⟩
  have hg := fun i hi => cKeys_get l k x hx i hi
  obtain ⟨d, nm⟩ := x
  have c : ∀ (j : Nat) (u : Value), j < 2 → (cKey (d, nm))[j]? = some u → w.cell? ((ad.add (k * 2)).add j) = some u := fun j u hj hu => by
    rw [add_assoc_]
    exact hc _ _ ((hg j hj).trans hu)
  refine ⟨ad, d, nm, e, hb, hx, ?_, ?_⟩
  · have := c 0 (.int .i64 d) (by omega) rfl
    rwa [addr_zero] at this
  · rw [← add_at _ _ (by decide)]
    exact c 1 _ (by omega) rfl
theorem Rd.key_len {w : World} {A : Option Addr} {n : Nat} {l : List Key} (h : Rd w 2 A n (cKeys l)) : l.length = n := by
  have := h.1
  rw [cKeys_length] at this
  omega
end Go.Proofs.YtoacobcbloljkaaGreatDoor
