/-
  Names and paths as lists of bytes: what layer 2 answers, in plain Lean. No program in it.
-/
import Derived.Lib.Split
import Derived.Lib.SplitLaws
namespace Go.Proofs.YtmaadimodjnnlaaGreatDoor
namespace Nm

/-- The pieces between slashes. -/
def segs : List UInt8 → List (List UInt8)
  | [] => [[]]
  | c :: l => if c = 47 then [] :: segs l else match segs l with
    | h :: t => (c :: h) :: t
    | [] => [[c]]

theorem segs_ne (l : List UInt8) : segs l ≠ [] := by
  cases l with
  | nil => simp [segs]
  | cons c l =>
    unfold segs
    split
    · simp
    · split <;> simp

theorem segs_slash (l : List UInt8) : segs (47 :: l) = [] :: segs l := by simp [segs]

theorem segs_other {c : UInt8} (l : List UInt8) (h : c ≠ 47) : ∃ x t, segs l = x :: t ∧ segs (c :: l) = (c :: x) :: t := by
  cases e : segs l with
  | nil => exact absurd e (segs_ne l)
  | cons x t => exact ⟨x, t, rfl, by simp [segs, h, e]⟩

theorem segs_app (a b : List UInt8) : segs (a ++ 47 :: b) = segs a ++ segs b := by
  induction a with
  | nil => simp [segs]
  | cons c a ih =>
    by_cases h : c = 47
    · subst h; rw [List.cons_append, segs_slash, segs_slash, ih]; rfl
    · obtain ⟨x, t, h1, h2⟩ := segs_other a h
      obtain ⟨x', t', h1', h2'⟩ := segs_other (a ++ 47 :: b) h
      rw [List.cons_append, h2', h2]
      rw [ih, h1] at h1'
      simp only [List.cons_append, List.cons.injEq] at h1'
      obtain ⟨rfl, rfl⟩ := h1'
      rfl

theorem segs_no {l : List UInt8} (h : (47 : UInt8) ∉ l) : segs l = [l] := by
  induction l with
  | nil => rfl
  | cons c l ih =>
    simp only [List.mem_cons, not_or] at h
    obtain ⟨x, t, h1, h2⟩ := segs_other l (fun e => h.1 e.symm)
    rw [ih h.2] at h1
    simp only [List.cons.injEq] at h1
    obtain ⟨rfl, rfl⟩ := h1
    exact h2

theorem mem_segs (l : List UInt8) : ∀ x ∈ segs l, (47 : UInt8) ∉ x ∧ (∀ c ∈ x, c ∈ l) ∧ x.length ≤ l.length := by
  induction l with
  | nil => intro x hx; simp [segs] at hx; subst hx; simp
  | cons c l ih =>
    intro x hx
    by_cases h : c = 47
    · subst h
      rw [segs_slash] at hx
      rcases List.mem_cons.1 hx with rfl | hx
      · simp
      · obtain ⟨h1, h2, h3⟩ := ih x hx
        exact ⟨h1, fun d hd => List.mem_cons_of_mem _ (h2 d hd), by simp; omega⟩
    · obtain ⟨y, t, h1, h2⟩ := segs_other l h
      rw [h2] at hx
      rcases List.mem_cons.1 hx with rfl | hx
      · obtain ⟨g1, g2, g3⟩ := ih y (by rw [h1]; simp)
        refine ⟨?_, ?_, by simp; omega⟩
        · simp only [List.mem_cons, not_or]; exact ⟨fun e => h e.symm, g1⟩
        · intro d hd
          rcases List.mem_cons.1 hd with rfl | hd
          · simp
          · exact List.mem_cons_of_mem _ (g2 d hd)
      · obtain ⟨g1, g2, g3⟩ := ih x (by rw [h1]; simp [hx])
        exact ⟨g1, fun d hd => List.mem_cons_of_mem _ (g2 d hd), by simp; omega⟩

theorem segs_length (l : List UInt8) : (segs l).length ≤ l.length + 1 := by
  induction l with
  | nil => simp [segs]
  | cons c l ih =>
    by_cases h : c = 47
    · subst h; rw [segs_slash]; simp; omega
    · obtain ⟨y, t, h1, h2⟩ := segs_other l h
      rw [h2]; rw [h1] at ih; simp at ih ⊢; omega

/-- The components: the pieces that are not empty. -/
def comps (l : List UInt8) : List (List UInt8) := (segs l).filter fun x => !x.isEmpty

theorem comps_app (a b : List UInt8) : comps (a ++ 47 :: b) = comps a ++ comps b := by unfold comps; rw [segs_app, List.filter_append]
theorem comps_nil : comps [] = [] := rfl
theorem comps_slash (l : List UInt8) : comps (47 :: l) = comps l := by have := comps_app [] l; simpa [comps_nil] using this
theorem comps_end (l : List UInt8) : comps (l ++ [47]) = comps l := by have := comps_app l []; simpa [comps_nil] using this
theorem comps_no {l : List UInt8} (h : (47 : UInt8) ∉ l) (hne : l ≠ []) : comps l = [l] := by
  unfold comps; rw [segs_no h]; cases l <;> simp_all
theorem mem_comps {l x : List UInt8} (h : x ∈ comps l) : x ≠ [] ∧ (47 : UInt8) ∉ x ∧ (∀ c ∈ x, c ∈ l) ∧ x.length ≤ l.length := by
  unfold comps at h
  rw [List.mem_filter] at h
  obtain ⟨h1, h2, h3⟩ := mem_segs l x h.1
  exact ⟨by rintro rfl; simp at h, h1, h2, h3⟩
theorem comps_length (l : List UInt8) : (comps l).length ≤ l.length + 1 := Nat.le_trans (List.length_filter_le _ _) (segs_length l)

def dotsB (l : List UInt8) : Bool := l == [46] || l == [46, 46]
/-- Is a component longer than a name may be? -/
def longB (l : List UInt8) : Bool := (comps l).any fun x => decide (12 < x.length)
def endSlash (l : List UInt8) : Bool := l.getLast? == some 47
def lastDots (ls : List (List UInt8)) : Bool := match ls.getLast? with
  | some x => dotsB x
  | none => false
def dirB (l : List UInt8) : Bool := endSlash l || lastDots (comps l)

def checkE (l : List UInt8) : Int :=
  if 12 < l.length then 11 else if l = [] ∨ dotsB l = true ∨ l.contains 0 = true ∨ l.contains 47 = true then 10 else 0

def cutR (l : List UInt8) : List (List UInt8) × Bool × Int := if longB l then ([], false, 11) else (comps l, dirB l, 0)

def splitR (l : List UInt8) : List (List UInt8) × Bool × Int :=
  if 96 < l.length then ([], false, 13) else if l.head? ≠ some 47 ∨ l.contains 0 = true then ([], false, 12) else cutR l

def targetR (l : List UInt8) : List (List UInt8) × Bool × Bool × Int :=
  if 96 < l.length then ([], false, false, 13) else if l = [] ∨ l.contains 0 = true then ([], false, false, 12)
  else if longB l then ([], false, false, 11) else (comps l, l.head? == some 47, dirB l, 0)

def parentR (l : List UInt8) : List (List UInt8) × List UInt8 × Int :=
  if (splitR l).2.2 ≠ 0 then ([], [], (splitR l).2.2) else match (comps l).getLast? with
  | none => ([], [], 10)
  | some x => if dotsB x then ([], [], 10) else ((comps l).dropLast, x, 0)

theorem splitR_ok {l : List UInt8} (h : (splitR l).2.2 = 0) : splitR l = (comps l, dirB l, 0) ∧ l.length ≤ 96 ∧ longB l = false ∧ l.head? = some 47 ∧ l.contains 0 = false := by
  unfold splitR at h ⊢
  split at h
  · simp at h
  · rename_i hl
    split at h
    · simp at h
    · rename_i hh
      rw [if_neg hl, if_neg hh]
      unfold cutR at h ⊢
      split at h
      · simp at h
      · rename_i hlb
        rw [if_neg hlb]
        simp only [not_or, Decidable.not_not, Bool.not_eq_true] at hh
        exact ⟨rfl, by omega, by simpa using hlb, hh.1, hh.2⟩

theorem parentR_ok {l : List UInt8} (h : (splitR l).2.2 = 0) : parentR l = match (comps l).getLast? with
    | none => ([], [], 10)
    | some x => if dotsB x then ([], [], 10) else ((comps l).dropLast, x, 0) := by
  unfold parentR; rw [if_neg (by simp [h])]

theorem splitR_len (l : List UInt8) : (splitR l).1.length ≤ 97 := by
  unfold splitR cutR
  split
  · simp
  · split
    · simp
    · split
      · simp
      · exact Nat.le_trans (comps_length _) (by omega)

theorem targetR_len (l : List UInt8) : (targetR l).1.length ≤ 97 := by
  unfold targetR
  split
  · simp
  · split
    · simp
    · split
      · simp
      · exact Nat.le_trans (comps_length _) (by omega)

theorem parentR_len (l : List UInt8) : (parentR l).1.length ≤ 97 := by
  by_cases h : (splitR l).2.2 = 0
  · have hl := (splitR_ok h).2.1
    rw [parentR_ok h]
    split
    · simp
    · split
      · simp
      · have := comps_length l
        simp; omega
  · unfold parentR; rw [if_pos h]; simp

theorem checkE_comp {l x : List UInt8} (hx : x ∈ comps l) (hl : longB l = false) (hz : l.contains 0 = false) (hd : dotsB x = false) : checkE x = 0 := by
  obtain ⟨h1, h2, h3, _⟩ := mem_comps hx
  unfold longB at hl
  rw [List.any_eq_false] at hl
  have h12 := hl x hx
  simp only [decide_eq_true_eq] at h12
  have h0 : x.contains 0 = false := by
    rw [Bool.eq_false_iff]
    intro h
    rw [List.contains_iff_mem] at h
    have := h3 0 h
    rw [← List.contains_iff_mem, hz] at this
    cases this
  have h47 : x.contains 47 = false := by
    rw [Bool.eq_false_iff]
    intro h
    rw [List.contains_iff_mem] at h
    exact h2 h
  unfold checkE
  rw [if_neg h12, if_neg]
  simp only [h1, hd, h0, h47, Bool.false_eq_true, or_self, not_false_eq_true]

/-- One slash behind. -/
theorem splitR_end {l : List UInt8} (h : (splitR l).2.2 = 0) (h96 : l.length < 96) : splitR (l ++ [47]) = (comps l, true, 0) := by
  obtain ⟨h1, h2, h3, h4, h5⟩ := splitR_ok h
  have hlb : longB (l ++ [47]) = false := by unfold longB; rw [comps_end]; exact h3
  have hhd : (l ++ [47]).head? = some 47 := by
    cases l with
    | nil => rfl
    | cons c t => simpa using h4
  have hz : (l ++ [47]).contains 0 = false := by
    rw [Bool.eq_false_iff]
    intro h
    rw [List.contains_iff_mem, List.mem_append, ← List.contains_iff_mem, h5] at h
    simp at h
  unfold splitR
  rw [if_neg (by simp; omega), if_neg (fun h => h.elim (fun h => h hhd) (fun h => by rw [hz] at h; cases h))]
  unfold cutR
  rw [hlb, if_neg (by simp), comps_end]
  have : dirB (l ++ [47]) = true := by unfold dirB endSlash; simp
  rw [this]

/-- One slash more, beside another or behind, of a path that is taken. -/
theorem splitR_slash {l : List UInt8} {k : Nat} (h : (splitR l).2.2 = 0) (h96 : l.length < 96) (hk : k ≤ l.length) (hs : k < l.length → l[k]? = some 47) :
    splitR (l.take k ++ 47 :: l.drop k) = (comps l, (if k < l.length then dirB l else true), 0) := by
  obtain ⟨h1, h2, h3, h4, h5⟩ := splitR_ok h
  by_cases hlt : k < l.length
  · have hd : l.drop k = 47 :: l.drop (k + 1) := by
      obtain ⟨hk', e⟩ := List.getElem?_eq_some_iff.1 (hs hlt)
      rw [List.drop_eq_getElem_cons hk', e]
    have hl : l = l.take k ++ 47 :: l.drop (k + 1) := by rw [← hd, List.take_append_drop]
    have hc : comps (l.take k ++ 47 :: l.drop k) = comps l := by
      rw [comps_app, hd, comps_slash]
      conv => rhs; rw [hl, comps_app]
    have hlb : longB (l.take k ++ 47 :: l.drop k) = false := by unfold longB; rw [hc]; exact h3
    have hhd : (l.take k ++ 47 :: l.drop k).head? = some 47 := by
      cases k with
      | zero => simp
      | succ k => cases l with
        | nil => simp at hlt
        | cons c t => simpa using h4
    have hz : (l.take k ++ 47 :: l.drop k).contains 0 = false := by
      rw [Bool.eq_false_iff]
      intro h
      rw [List.contains_iff_mem] at h
      have : (0 : UInt8) ∈ l := by
        rcases List.mem_append.1 h with h | h
        · exact List.mem_of_mem_take h
        · rcases List.mem_cons.1 h with h | h
          · cases h
          · exact List.mem_of_mem_drop h
      rw [← List.contains_iff_mem, h5] at this
      cases this
    have hdir : dirB (l.take k ++ 47 :: l.drop k) = dirB l := by
      unfold dirB
      rw [hc]
      have : endSlash (l.take k ++ 47 :: l.drop k) = endSlash l := by
        unfold endSlash
        congr 1
        conv => rhs; rw [← List.take_append_drop k l]
        rw [hd, List.getLast?_append, List.getLast?_append, List.getLast?_cons_cons]
      rw [this]
    unfold splitR
    rw [if_neg (by simp; omega), if_neg (fun h => h.elim (fun h => h hhd) (fun h => by rw [hz] at h; cases h))]
    unfold cutR
    rw [hlb, if_neg (by simp), hc, hdir, if_pos hlt]
  · obtain rfl : k = l.length := by omega
    rw [List.take_length, List.drop_length, splitR_end h h96, if_neg hlt]

theorem splitR_bad {l : List UInt8} (h : (splitR l).2.2 ≠ 0) : (splitR l).1 = [] ∧ (splitR l).2.1 = false := by
  unfold splitR cutR at h ⊢
  split
  · exact ⟨rfl, rfl⟩
  · split
    · exact ⟨rfl, rfl⟩
    · split
      · exact ⟨rfl, rfl⟩
      · rename_i h1 h2 h3
        rw [if_neg h1, if_neg h2, if_neg h3] at h
        exact absurd rfl h

theorem longB_segs (l : List UInt8) : longB l = (segs l).any fun x => decide (12 < x.length) := by
  unfold longB comps
  rw [Bool.eq_iff_iff, List.any_eq_true, List.any_eq_true]
  constructor
  · rintro ⟨x, hx, h⟩
    exact ⟨x, (List.mem_filter.1 hx).1, h⟩
  · rintro ⟨x, hx, h⟩
    refine ⟨x, List.mem_filter.2 ⟨hx, ?_⟩, h⟩
    cases x with
    | nil => simp at h
    | cons => rfl

/-! ## The library's Split at a slash -/
open Go.Lib

theorem index_ge_ : ∀ l : List UInt8, -1 ≤ index l [47]
  | [] => by simp [index]
  | b :: l => by
    have := index_ge_ l
    rw [index]
    split
    · omega
    · split <;> omega

theorem splitK_segs : ∀ s : List UInt8, splitK [47] 0 (count s [47]) s = segs s
  | [] => by rw [count_one]; rfl
  | b :: l => by
    have ih := splitK_segs l
    by_cases h : b = 47
    · subst h
      rw [count_cons_eq, Nat.add_comm, segs_slash]
      have hi : index (47 :: l) [47] = 0 := by simp [index, List.isPrefixOf]
      rw [splitK, hi]
      simp only [show ((0 : Int) == -1) = false from rfl, Bool.false_eq_true, if_false]
      simp only [Int.toNat_zero, List.length_singleton, Nat.zero_add, List.take_zero, List.drop_succ_cons, List.drop_zero]
      rw [ih]
    · rw [count_cons_ne b 47 l h]
      obtain ⟨x, t, h1, h2⟩ := segs_other l h
      rw [h2]
      have hix : index (b :: l) [47] = if index l [47] == -1 then -1 else index l [47] + 1 := by
        rw [index, if_neg]
        simp [List.isPrefixOf]
        exact fun e => h e.symm
      by_cases hm : index l [47] = -1
      · rw [hm] at hix
        have hk : splitK [47] 0 (count l [47]) l = [l] := by
          cases hc : count l [47] with
          | zero => rfl
          | succ k => rw [splitK, hm]; rfl
        rw [hk, h1] at ih
        simp only [List.cons.injEq] at ih
        obtain ⟨rfl, rfl⟩ := ih
        cases hc : count l [47] with
        | zero => rfl
        | succ k => rw [splitK, hix]; rfl
      · have hge : -1 ≤ index l [47] := index_ge_ l
        obtain ⟨i, hi⟩ : ∃ i : Nat, index l [47] = i := ⟨(index l [47]).toNat, by omega⟩
        have hc := count_hit (sub := [47]) (by simp) hi
        rw [hc, Nat.add_comm]
        have hne : (((i : Nat) : Int) == -1) = false := by rw [beq_eq_false_iff_ne]; omega
        have hne' : ((((i : Nat) : Int) + 1) == -1) = false := by rw [beq_eq_false_iff_ne]; omega
        rw [hc, Nat.add_comm, splitK, hi, hne] at ih
        rw [hi, hne] at hix
        simp only [Bool.false_eq_true, if_false] at hix ih
        rw [splitK, hix, hne']
        simp only [Bool.false_eq_true, if_false]
        rw [h1] at ih
        simp only [List.cons.injEq, Int.toNat_natCast, Nat.add_zero, List.length_singleton] at ih
        obtain ⟨e1, e2⟩ := ih
        rw [show (((i : Nat) : Int) + 1).toNat = i + 1 from by omega]
        simp only [Nat.add_zero, List.length_singleton, List.take_succ_cons, List.drop_succ_cons]
        rw [e1, e2]
end Nm
end Go.Proofs.YtmaadimodjnnlaaGreatDoor
