/-
  The walks of walk.root, (place).node, (place).up.
-/
import Derived.Test.YtmaadimodjnnlaaGreatDoorWalkKnown
namespace Go.Proofs.YtmaadimodjnnlaaGreatDoor
open Go.RowKit

def cNd (x : Nd) : List Value := [.int .i64 x.1, .int .i64 x.2.1, .int .i64 x.2.2.1, txt x.2.2.2]
def cNds (l : List Nd) : List Value := l.flatMap cNd

theorem cNds_length (l : List Nd) : (cNds l).length = l.length * 4 := by
  induction l with
  | nil => rfl
  | cons y r ih =>
    unfold cNds at *
    rw [List.flatMap_cons, List.length_append, ih]
    have : (cNd y).length = 4 := rfl
    rw [this, List.length_cons]
    omega

theorem cNds_get (l : List Nd) (k : Nat) (x : Nd) (h : l[k]? = some x) (i : Nat) (hi : i < 4) : (cNds l)[k * 4 + i]? = (cNd x)[i]? := by
  induction l generalizing k with
  | nil => simp at h
  | cons y r ih =>
    have hl : (cNd y).length = 4 := rfl
    unfold cNds at *
    rw [List.flatMap_cons]
    cases k with
    | zero =>
      simp only [List.getElem?_cons_zero] at h
      injection h with h
      subst h
      rw [Nat.zero_mul, Nat.zero_add, List.getElem?_append_left (by omega)]
    | succ k =>
      simp only [List.getElem?_cons_succ] at h
      rw [List.getElem?_append_right (by omega), ← ih k h]
      congr 1
      omega

/-- Reading a list of nodes. -/
theorem Rd.nd_at {w : World} {A : Option Addr} {n : Nat} {l : List Nd} (h : Rd w 4 A n (cNds l)) {k : Nat} (hk : k < n) :
    ∃ (ad : Addr) (i kd md : Int) (tg : List UInt8), A = some ad ∧ ad.block < w.heap.size ∧ l[k]? = some (i, kd, md, tg) ∧
      w.cell? (ad.add (k * 4)) = some (.int .i64 i) ∧ w.cell? ⟨(ad.add (k * 4)).block, (ad.add (k * 4)).off + 1, none⟩ = some (.int .i64 kd) ∧
      w.cell? ⟨(ad.add (k * 4)).block, (ad.add (k * 4)).off + 2, none⟩ = some (.int .i64 md) ∧ w.cell? ⟨(ad.add (k * 4)).block, (ad.add (k * 4)).off + 3, none⟩ = some (.string ⟨tg.toArray⟩) := by
  obtain ⟨ad, e, hb, hc⟩ := h.2 (by omega)
  have hl : k < l.length := by have := h.1; rw [cNds_length] at this; omega
  obtain ⟨x, hx⟩ : ∃ x, l[k]? = some x := ⟨_, List.getElem?_eq_getElem hl⟩
  have hg := fun i hi => cNds_get l k x hx i hi
  obtain ⟨i, kd, md, tg⟩ := x
  have c : ∀ (j : Nat) (u : Value), j < 4 → (cNd (i, kd, md, tg))[j]? = some u → w.cell? ((ad.add (k * 4)).add j) = some u := fun j u hj hu => by
    rw [add_assoc_]
    exact hc _ _ ((hg j hj).trans hu)
  refine ⟨ad, i, kd, md, tg, e, hb, hx, ?_, ?_, ?_, ?_⟩
  · have := c 0 (.int .i64 i) (by omega) rfl
    rwa [show (ad.add (k * 4)).add 0 = ad.add (k * 4) from by unfold Addr.add; simp] at this
  all_goals rw [← add_at _ _ (by decide)]
  · exact c 1 _ (by omega) rfl
  · exact c 2 _ (by omega) rfl
  · exact c 3 _ (by omega) rfl

def rootNd : Nd := (1, 1, 0, [])

set_option maxHeartbeats 400000 in
theorem root_any (w : World) :
    Calls Tryz.prog 60 #[] w fun r w' => r = .returned (.slice (some ⟨w.heap.size, 0, none⟩) 1 1) ∧ w' = w.alloc (.cells #[.int .i64 1, .int .i64 1, .int .i64 0, .string ⟨#[]⟩] 32) := by
  go_enter Tryz.func60, Tryz.ntmps60
  go_wp2_with fail
  go_ret
  exact ⟨rfl, rfl⟩

set_option maxRecDepth 100000 in
set_option maxHeartbeats 400000 in
theorem node_any (A : Option Addr) (m c : Nat) (l : List Nd) (x : Nd) (w : World) (hm : m ≤ 4000000000) (hr : Rd w 4 A (m + 1) (cNds l)) (hx : l[m]? = some x) :
    Calls Tryz.prog 61 #[.slice A (m + 1) c] w fun r w' => r = .returned (vNd x) ∧ Below w.heap.size w w' := by
  obtain ⟨ad, i, kd, md, tg, rfl, hb, hx2, h0, h1, h2, h3⟩ := hr.nd_at (k := m) (by omega)
  rw [hx] at hx2
  injection hx2 with hx2
  subst hx2
  clear hr hx
  have a0 := fun o => cell_alloc_old h0 o
  have a1 := fun o => cell_alloc_old h1 o
  have a2 := fun o => cell_alloc_old h2 o
  have a3 := fun o => cell_alloc_old h3 o
  go_enter Tryz.func61, Tryz.ntmps61
  go_wp2_with fail
  refine bodyPost_ret (v := vNd (i, kd, md, tg)) (by simp [results, Tryz.results61, go_sem, vNd, txt]) rfl ⟨rfl, ?_⟩
  exact (Below.refl _ w).alloc (Nat.le_refl _) _

/-- A list of the call's own, cut at its end. -/
theorem own_cut {w : World} {base e sz n c : Nat} {A : Option Addr} {xs : List Value} (h : w.ownsRow base e sz (.slice A n c) n xs) {m : Nat} (hm : m ≤ n) (h0 : 0 < n) : w.ownsRow base e sz (.slice A m c) m (xs.take (m * sz)) := by
  rcases h with ⟨hl, ⟨_, rfl⟩ | ⟨g, cap, cur, hv, hg, hh, h1, h2, h3, h4⟩⟩
  · omega
  · injection hv with hA _ hc
    subst hA
    subst hc
    have hmn : m * sz ≤ n * sz := Nat.mul_le_mul_right _ hm
    refine ⟨by rw [List.length_take]; omega, .inr ⟨g, c, cur, rfl, hg, hh, by omega, h2, h3, ?_⟩⟩
    rw [← h4, List.take_take]
    congr 1
    omega

set_option maxHeartbeats 400000 in
theorem up_any (g m c : Nat) (w : World) (hm : m ≤ 4000000000) (hc : m + 1 ≤ c) (hcm : c ≤ maxLen) :
    Calls Tryz.prog 62 #[.slice (some ⟨g, 0, none⟩) (m + 1) c] w fun r w' => r = .returned (.slice (some ⟨g, 0, none⟩) (if m = 0 then 1 else m) c) ∧ w = w' := by
  unfold maxLen at hcm
  go_enter Tryz.func62, Tryz.ntmps62
  cases m with
  | zero =>
    go_wp2_with fail
    go_ret
    exact ⟨rfl, rfl⟩
  | succ m =>
    go_wp2_with fail
    · go_ret
      exact ⟨rfl, rfl⟩
    · obtain rfl : m = 0 := by omega
      go_ret
      exact ⟨rfl, rfl⟩
end Go.Proofs.YtmaadimodjnnlaaGreatDoor
