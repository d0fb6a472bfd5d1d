/-
  A text gone through rune by rune, asked for signs below 128: the same as asking its bytes. No program in it.
-/
import Derived.Test.YtmaadimodjnnlaaGreatDoorLib
import Derived.Laws.RangeString
import Derived.Laws.RangeAny
namespace Go.Proofs.YtmaadimodjnnlaaGreatDoor
open Go.RowKit

/-- The place of a number in a list, or -1. -/
def idxI (x : Int) : List Int → Int
  | [] => -1
  | z :: zs => if (x == z) = true then 0 else if idxI x zs = -1 then -1 else idxI x zs + 1

theorem idxI_ge (x : Int) (zs : List Int) : -1 ≤ idxI x zs := by
  induction zs with
  | nil => simp [idxI]
  | cons z zs ih => unfold idxI; split <;> (try split) <;> omega

def memI (x : Int) (zs : List Int) : Bool := zs.any fun z => x == z

theorem memI_iff (x : Int) (zs : List Int) : memI x zs = decide (0 ≤ idxI x zs) := by
  induction zs with
  | nil => rfl
  | cons z zs ih =>
    unfold memI at ih ⊢
    rw [List.any_cons, ih, idxI]
    have := idxI_ge x zs
    by_cases h : (x == z) = true
    · rw [h, if_pos rfl]; rfl
    · have h' : (x == z) = false := by simpa using h
      rw [h', Bool.false_or, if_neg (by simp), decide_eq_decide]
      split <;> omega

def hasFrom (zs : List Int) (s : ByteArray) : Nat → Nat → Bool
  | 0, _ => false
  | f + 1, pos => if pos < s.size then memI (Utf8.decode s pos).1 zs || hasFrom zs s f (pos + (Utf8.decode s pos).2) else false

theorem hasFrom_end (zs : List Int) (s : ByteArray) (f pos : Nat) (h : ¬ pos < s.size) : hasFrom zs s f pos = false := by
  cases f with
  | zero => rfl
  | succ f => simp [hasFrom, h]

theorem decode_width (s : ByteArray) (pos : Nat) (h : pos < s.size) : 1 ≤ (Utf8.decode s pos).2 := by
  by_cases ha : (s[pos]'h).toNat < 128
  · rw [decode_ascii s pos h ha]; exact Nat.le_refl _
  · exact (decode_high s pos h (by omega)).2

theorem get_get (s : ByteArray) (i : Nat) (h : i < s.size) : s.get! i = s.data.toList[i]'(by simpa using h) := by
  have := get_at s i h
  rw [Nat.add_zero] at this
  rw [this]
  simp [ByteArray.getElem_eq_getElem_data]

/-- What a rune takes behind a first byte from 128 on is from 128 on, too. -/
theorem decode_bytes (s : ByteArray) (pos : Nat) (_h : pos < s.size) (ha : 128 ≤ (s.get! (pos + 0)).toNat) :
    pos + (Utf8.decode s pos).2 ≤ s.size ∧ ∀ j, j < (Utf8.decode s pos).2 → 128 ≤ (s.get! (pos + j)).toNat := by
  have hc : ∀ k, (decide (pos + k < s.size) && (s.get! (pos + k)).toNat / 64 == 2) = true → pos + k < s.size ∧ 128 ≤ (s.get! (pos + k)).toNat := by
    intro k hk
    simp only [Bool.and_eq_true, decide_eq_true_eq, beq_iff_eq] at hk
    exact ⟨hk.1, by omega⟩
  have h1 : ∀ j, j < 1 → 128 ≤ (s.get! (pos + j)).toNat := fun j hj => by
    obtain rfl : j = 0 := by omega
    exact ha
  have hone : pos + 1 ≤ s.size ∧ ∀ j, j < 1 → 128 ≤ (s.get! (pos + j)).toNat := ⟨by omega, h1⟩
  unfold Utf8.decode
  dsimp only
  split
  · omega
  · split
    · rename_i h2
      simp only [Bool.and_eq_true] at h2
      have c1 := hc 1 (by simpa using h2.2)
      split
      · refine ⟨by omega, fun j hj => ?_⟩
        match j, hj with
        | 0, _ => exact ha
        | 1, _ => exact c1.2
      · exact hone
    · split
      · rename_i h3
        simp only [Bool.and_eq_true] at h3
        have c1 := hc 1 (by simpa using h3.1.2)
        have c2 := hc 2 (by simpa using h3.2)
        split
        · refine ⟨by omega, fun j hj => ?_⟩
          match j, hj with
          | 0, _ => exact ha
          | 1, _ => exact c1.2
          | 2, _ => exact c2.2
        · exact hone
      · split
        · rename_i h4
          simp only [Bool.and_eq_true] at h4
          have c1 := hc 1 (by simpa using h4.1.1.2)
          have c2 := hc 2 (by simpa using h4.1.2)
          have c3 := hc 3 (by simpa using h4.2)
          split
          · refine ⟨by omega, fun j hj => ?_⟩
            match j, hj with
            | 0, _ => exact ha
            | 1, _ => exact c1.2
            | 2, _ => exact c2.2
            | 3, _ => exact c3.2
          · exact hone
        · exact hone

/-- Has a text a byte of some signs? -/
def hasB (zs : List Int) (l : List UInt8) : Bool := l.any fun b => memI (b.toNat : Int) zs

theorem hasB_drop_one (zs : List Int) (l : List UInt8) (i : Nat) (h : i < l.length) : hasB zs (l.drop i) = (memI (l[i].toNat : Int) zs || hasB zs (l.drop (i + 1))) := by
  unfold hasB
  rw [List.drop_eq_getElem_cons h, List.any_cons]

theorem memI_high (zs : List Int) (hz : ∀ z ∈ zs, z < 128) (x : Int) (hx : 128 ≤ x) : memI x zs = false := by
  unfold memI
  rw [List.any_eq_false]
  intro z hm
  have := hz z hm
  simp; omega

theorem hasB_skip (zs : List Int) (hz : ∀ z ∈ zs, z < 128) (l : List UInt8) (i : Nat) : ∀ k, i + k ≤ l.length → (∀ j (h : i + j < l.length), j < k → 128 ≤ (l[i + j]).toNat) →
    hasB zs (l.drop i) = hasB zs (l.drop (i + k)) := by
  intro k
  induction k with
  | zero => intros; rfl
  | succ k ih =>
    intro hle hb
    rw [ih (by omega) (fun j h hj => hb j h (by omega)), hasB_drop_one zs l (i + k) (by omega), memI_high zs hz _ (by have := hb k (by omega) (by omega); omega), Bool.false_or]
    rfl

theorem hasFrom_bytes (zs : List Int) (hz : ∀ z ∈ zs, z < 128) (s : ByteArray) : ∀ f pos, s.size ≤ pos + f → hasFrom zs s f pos = hasB zs (s.data.toList.drop pos)
  | 0, pos, h => by
    rw [List.drop_eq_nil_of_le (by simpa using h)]; rfl
  | f + 1, pos, h => by
    by_cases hp : pos < s.size
    · have hl : pos < s.data.toList.length := by simpa using hp
      rw [hasFrom, if_pos hp]
      have hw := decode_width s pos hp
      rw [hasFrom_bytes zs hz s f _ (by omega)]
      by_cases ha : (s[pos]'hp).toNat < 128
      · rw [decode_ascii s pos hp ha, hasB_drop_one zs _ _ hl]
        simp [ByteArray.getElem_eq_getElem_data]
      · have hg := get_at s pos hp
        obtain ⟨h1, h2⟩ := decode_bytes s pos hp (by rw [hg]; omega)
        have h3 := (decode_high s pos hp (by omega)).1
        rw [memI_high zs hz _ (by omega), Bool.false_or]
        refine (hasB_skip zs hz _ pos _ (by simpa using h1) fun j hj hlt => ?_).symm
        have := h2 j hlt
        rw [get_get s (pos + j) (by simpa using hj)] at this
        exact this
    · rw [hasFrom, if_neg hp, List.drop_eq_nil_of_le (by simpa using hp)]; rfl

theorem hasB_zero (l : List UInt8) : hasB [0] l = l.contains 0 := by
  unfold hasB memI
  rw [Bool.eq_iff_iff, List.any_eq_true, List.contains_iff_mem]
  constructor
  · rintro ⟨b, hb, h⟩
    simp at h
    have : b = 0 := by rw [← UInt8.toNat_inj]; simp; omega
    subst this; exact hb
  · intro h; exact ⟨0, h, by decide⟩

theorem hasB_two (l : List UInt8) : hasB [0, 47] l = (l.contains 0 || l.contains 47) := by
  unfold hasB memI
  rw [Bool.eq_iff_iff, List.any_eq_true, Bool.or_eq_true, List.contains_iff_mem, List.contains_iff_mem]
  constructor
  · rintro ⟨b, hb, h⟩
    simp at h
    rcases h with h | h
    · have : b = 0 := by rw [← UInt8.toNat_inj]; simp; omega
      subst this; exact .inl hb
    · have : b = 47 := by rw [← UInt8.toNat_inj]; simp; omega
      subst this; exact .inr hb
  · rintro (h | h)
    · exact ⟨0, h, by decide⟩
    · exact ⟨47, h, by decide⟩

end Go.Proofs.YtmaadimodjnnlaaGreatDoor
