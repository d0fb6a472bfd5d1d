/-
  What walks come to over a chain of links, and over a link to itself. No program in it.
-/
import Derived.Test.YtmaadimodjnnlaaDoorWalkSpec
namespace Go.Proofs.YtmaadimodjnnlaaDoor
open Go.RowKit

def nmAt (j : Nat) : List UInt8 := [UInt8.ofNat (97 + j)]
def linkAt (j : Nat) : En := ((1, nmAt j), false, 2 + (j : Int), 3, 0, nmAt (j + 1))
def fileAt (k : Nat) : En := ((1, nmAt k), false, 99, 2, 5, [])
def selfNm : List UInt8 := [115, 101, 108, 102]
def selfAt : En := ((1, selfNm), false, 98, 3, 0, selfNm)

theorem nmAt_inj {i j : Nat} (hi : i < 100) (hj : j < 100) (h : nmAt i = nmAt j) : i = j := by
  unfold nmAt at h
  injection h with h
  have := congrArg UInt8.toNat h
  simp only [UInt8.toNat_ofNat'] at this
  omega
theorem nmAt_self (i : Nat) : nmAt i ≠ selfNm := by
  unfold nmAt selfNm
  intro h
  injection h with _ h
  cases h

theorem target_nm : ∀ j : Fin 14, Nm.targetR (nmAt j.val) = ([nmAt j.val], false, false, 0) := by decide
theorem target_self : Nm.targetR selfNm = ([selfNm], false, false, 0) := by decide
theorem nm_dots : ∀ j : Fin 14, nmAt j.val ≠ [46, 46] ∧ nmAt j.val ≠ [46] := by decide

theorem step_link {kn : Key → Option En} {s t : List UInt8} {i m : Int} (hs1 : s ≠ [46, 46]) (hs2 : s ≠ [46]) (ht : Nm.targetR t = ([t], false, false, 0)) (hk : kn (1, s) = some ((1, s), false, i, 3, m, t)) (L : Nat) (used : List Key) :
    Wk.steps kn true L [s] [rootNd] false used = match L with
      | 0 => Wk.fail 49 (used ++ [(1, s)])
      | L + 1 => Wk.steps kn true L [t] [rootNd] false (used ++ [(1, s)]) := by
  rw [Wk.steps_name kn true L [] false used (x := rootNd) rfl rfl hs1 hs2]
  show (match kn (1, s) with | none => _ | some y => _) = _
  rw [hk]
  simp only [Bool.false_eq_true, if_false, ne_eq, not_true_eq_false, false_or, ht, decide_true, Bool.and_false, Bool.or_self, List.append_nil]
  rfl

theorem step_file {kn : Key → Option En} {s : List UInt8} (hs1 : s ≠ [46, 46]) (hs2 : s ≠ [46]) {y : En} (hy : kn (1, s) = some y) (hn : y.2.1 = false) (hk : y.2.2.2.1 ≠ 3) (follow : Bool) (L : Nat) (used : List Key) :
    Wk.steps kn follow L [s] [rootNd] false used = (false, Wk.noKey, 0, y.2.2, used ++ [(1, s)]) := by
  rw [Wk.steps_name kn follow L [] false used (x := rootNd) rfl rfl hs1 hs2]
  show (match kn (1, s) with | none => _ | some y => _) = _
  rw [hy]
  simp only [hn, hk, Bool.false_eq_true, if_false, ne_eq, not_false_eq_true, true_or, if_true]
  rw [Wk.steps]
  simp [Wk.lastNd, rootNd]

theorem links_self {kn : Key → Option En} (hk : kn (1, selfNm) = some selfAt) : ∀ (L : Nat) (used : List Key),
    ∃ us, Wk.steps kn true L [selfNm] [rootNd] false used = Wk.fail 49 us ∧ us.length = used.length + (L + 1)
  | 0, used => ⟨_, step_link (by decide) (by decide) target_self hk 0 used, by simp⟩
  | L + 1, used => by
    obtain ⟨us, h1, h2⟩ := links_self hk L (used ++ [(1, selfNm)])
    refine ⟨us, (step_link (by decide) (by decide) target_self hk (L + 1) used).trans h1, ?_⟩
    rw [h2, List.length_append, List.length_singleton]
    omega

theorem links_chain {kn : Key → Option En} {k : Nat} (hk12 : k < 12) (hl : ∀ t, t < k → kn (1, nmAt t) = some (linkAt t)) (hf : kn (1, nmAt k) = some (fileAt k)) : ∀ (L d i : Nat) (used : List Key), i + d = k →
    (d ≤ L → ∃ us, Wk.steps kn true L [nmAt i] [rootNd] false used = (false, Wk.noKey, 0, (99, 2, 5, []), us) ∧ us.length = used.length + (d + 1)) ∧
    (L < d → ∃ us, Wk.steps kn true L [nmAt i] [rootNd] false used = Wk.fail 49 us ∧ us.length = used.length + (L + 1)) := by
  intro L
  induction L with
  | zero =>
    intro d i used hid
    have hd := nm_dots ⟨i, by omega⟩
    refine ⟨fun h => ?_, fun h => ?_⟩
    · obtain rfl : d = 0 := by omega
      obtain rfl : i = k := by omega
      exact ⟨used ++ [(1, nmAt i)], step_file hd.1 hd.2 hf rfl (show (2 : Int) ≠ 3 by decide) true 0 used, by simp⟩
    · exact ⟨_, step_link hd.1 hd.2 (target_nm ⟨i + 1, by omega⟩) (hl i (by omega)) 0 used, by simp⟩
  | succ L ih =>
    intro d i used hid
    have hd := nm_dots ⟨i, by omega⟩
    by_cases h0 : d = 0
    · refine ⟨fun h => ?_, fun h => absurd h (by omega)⟩
      subst h0
      obtain rfl : i = k := by omega
      exact ⟨used ++ [(1, nmAt i)], step_file hd.1 hd.2 hf rfl (show (2 : Int) ≠ 3 by decide) true (L + 1) used, by simp⟩
    · have hs := step_link hd.1 hd.2 (target_nm ⟨i + 1, by omega⟩) (hl i (by omega)) (L + 1) used
      obtain ⟨d, rfl⟩ : ∃ e, d = e + 1 := ⟨d - 1, by omega⟩
      obtain ⟨a, b⟩ := ih d (i + 1) (used ++ [(1, nmAt i)]) (by omega)
      refine ⟨fun h => ?_, fun h => ?_⟩
      · obtain ⟨us, h1, h2⟩ := a (by omega)
        exact ⟨us, hs.trans h1, by rw [h2, List.length_append, List.length_singleton]; omega⟩
      · obtain ⟨us, h1, h2⟩ := b (by omega)
        exact ⟨us, hs.trans h1, by rw [h2, List.length_append, List.length_singleton]; omega⟩

/-- A link's own node, where it is not followed. -/
theorem self_stays {kn : Key → Option En} (hk : kn (1, selfNm) = some selfAt) (L : Nat) : Wk.steps kn false L [selfNm] [rootNd] false [] = (false, Wk.noKey, 0, (98, 3, 0, selfNm), [(1, selfNm)]) := by
  rw [Wk.steps_name kn false L [] false [] (x := rootNd) rfl rfl (by decide) (by decide)]
  show (match kn (1, selfNm) with | none => _ | some y => _) = _
  rw [hk]
  show (if false = true then _ else if _ then _ else _) = _
  rw [if_neg (by decide), if_pos (by right; decide), Wk.steps]
  rfl

theorem split_a : Nm.splitR [47, 97] = ([nmAt 0], false, 0) := by decide
theorem split_self : Nm.splitR [47, 115, 101, 108, 102] = ([selfNm], false, 0) := by decide

theorem walk_of {kn : Key → Option En} {p s : List UInt8} (hp : Nm.splitR p = ([s], false, 0)) (follow : Bool) (L : Nat) : Wk.walk kn p follow L = Wk.steps kn follow L [s] [rootNd] false [] := by
  unfold Wk.walk
  rw [hp]
  rfl
end Go.Proofs.YtmaadimodjnnlaaDoor
