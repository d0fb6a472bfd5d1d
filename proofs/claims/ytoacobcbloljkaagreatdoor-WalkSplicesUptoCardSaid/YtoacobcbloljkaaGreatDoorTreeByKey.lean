/-
  The walks of byKey (the order of a tree's keys) and of mutations (the map of what can be done).
-/
import Derived.Test.YtoacobcbloljkaaGreatDoorTreeMem
import Derived.Test.YtoacobcbloljkaaGreatDoorLow
import Derived.Test.YtoacobcbloljkaaGreatDoorSortK
import Derived.Test.YtoacobcbloljkaaGreatDoorSorts
import Derived.Deep.RegionHeld3
import Derived.Deep.DrawnRows
namespace Go.Proofs.YtoacobcbloljkaaGreatDoor
open Go.RowKit Go.Sort Go.Shelf

set_option maxRecDepth 100000 in
set_option maxHeartbeats 1000000 in
theorem cmpOr2_any (a b : Int) (A : Option Addr) (c : Nat) (w : World) (h : Rd w 1 A 2 [.int .i64 a, .int .i64 b]) :
    Calls Tryz.prog 134 #[.slice A 2 c] w fun r w' => r = .returned (.int .i64 (if a = 0 then b else a)) ∧ w = w' := by
  obtain ⟨ad, rfl, hlt, hc⟩ := h.2 (by omega)
  have c0 : w.cell? (ad.add 0) = some (.int .i64 a) := hc 0 _ rfl
  have c1 : w.cell? (ad.add 1) = some (.int .i64 b) := hc 1 _ rfl
  rw [addr_zero] at c0
  have e : ∀ k : Nat, 0 < k → ad.add k = ⟨ad.block, ad.off + k, none⟩ := fun k hk => by unfold Addr.add; rw [if_neg (by omega)]
  rw [e 1 (by omega)] at c1
  have hz : ad.add 0 = ad := addr_zero ad
  have ho := e 1 (by omega)
  clear hc h e
  by_cases ha : a = 0
  · subst ha
    rw [if_pos rfl]
    go_enter Tryz.func134, Tryz.ntmps134
    go_wp2_with fail
    go_loopw [8] (fun iv wx => ∃ j : Nat, j ≤ 2 ∧ iv = .int .i64 j ∧ (j = 2 → b = 0) ∧ w = wx) (fun iv _ => 2 - (RowKit.intOf iv).toNat)
    case atStart => exact ⟨0, by omega, rfl, by omega, rfl⟩
    case round =>
      obtain ⟨j, hj, rfl, hb, rfl⟩ := hrel
      by_cases h0 : j = 0
      · subst h0
        go_wp2_with fail
        go_roundw
        case rel => exact ⟨1, by omega, rfl, by omega, by first | rfl | trivial⟩
        case measure => simp [RowKit.intOf]
      · by_cases h1 : j = 1
        · subst h1
          by_cases hb0 : b = 0
          · subst hb0
            go_wp2_with fail
            go_roundw
            case rel => exact ⟨2, by omega, rfl, by first | trivial | (intro _; rfl) | (intro _; trivial), by first | rfl | trivial⟩
            case measure => simp [RowKit.intOf]
          · have hbb : (b == 0) = false := by simpa using hb0
            clear hb
            go_wp2_with fail
            go_ret
            exact ⟨rfl, rfl⟩
        · obtain rfl : j = 2 := by omega
          have hb := hb rfl
          subst hb
          go_wp2_with fail
          go_ret
          exact ⟨rfl, rfl⟩
  · rw [if_neg ha]
    have hab : (a == 0) = false := by simpa using ha
    go_enter Tryz.func134, Tryz.ntmps134
    go_wp2_with fail
    go_loopw [8] (fun iv wx => iv = .int .i64 0 ∧ w = wx) (fun iv _ => 2 - (RowKit.intOf iv).toNat)
    case atStart => exact ⟨rfl, rfl⟩
    case round =>
      obtain ⟨rfl, rfl⟩ := hrel
      go_wp2_with fail
      go_ret
      exact ⟨rfl, rfl⟩

theorem rd_new_at (w : World) (t : TypeId) (sz n : Nat) (cs : List Value) (h : cs.length = n * sz) {g : Nat} (hg : g = w.heap.size) : Rd (w.alloc (.cells cs.toArray t)) sz (some ⟨g, 0, none⟩) n cs := by subst hg; exact rd_new w t sz n cs h

def cK (x y : Key) : Int := if cI x.1 y.1 = 0 then cS x.2 y.2 else cI x.1 y.1

theorem cI_zero {a b : Int} : cI a b = 0 ↔ a = b := by
  unfold cI
  split
  · constructor <;> intro h <;> omega
  · split
    · constructor <;> intro h <;> omega
    · constructor <;> intro h <;> omega
theorem cK_lt (x y : Key) : decide (cK x y < 0) = (decide (x.1 < y.1) || (decide (x.1 = y.1) && decide (x.2 < y.2))) := by
  unfold cK
  by_cases h : x.1 = y.1
  · rw [if_pos (cI_zero.2 h), cS_lt]
    simp [h]
  · rw [if_neg (fun q => h (cI_zero.1 q)), cI_lt]
    simp [h]
theorem swoK : SWO (ltOf cK) := by
  have e : ∀ x y, ltOf cK x y = true ↔ x.1 < y.1 ∨ x.1 = y.1 ∧ x.2 < y.2 := fun x y => by
    show decide (cK x y < 0) = true ↔ _
    rw [cK_lt]
    simp
  have n : ∀ x y, ltOf cK x y = false ↔ ¬ (x.1 < y.1 ∨ x.1 = y.1 ∧ x.2 < y.2) := fun x y => by
    rw [← e, Bool.not_eq_true]
  refine ⟨fun x => ?_, fun x y z h1 h2 => ?_, fun x y z h1 h2 => ?_⟩
  · rw [n]
    rintro (h | ⟨_, h⟩)
    · omega
    · exact List.lt_irrefl _ h
  · rw [e] at *
    rcases h1 with h1 | ⟨h1, h3⟩
    · rcases h2 with h2 | ⟨h2, _⟩
      · exact .inl (by omega)
      · exact .inl (by omega)
    · rcases h2 with h2 | ⟨h2, h4⟩
      · exact .inl (by omega)
      · exact .inr ⟨by omega, List.lt_trans h3 h4⟩
  · rw [n] at *
    rintro (h | ⟨h, h3⟩)
    · by_cases q : x.1 < y.1
      · exact h1 (.inl q)
      · by_cases q2 : y.1 < z.1
        · exact h2 (.inl q2)
        · omega
    · by_cases q : x.1 < y.1
      · exact h1 (.inl q)
      · by_cases q2 : y.1 < z.1
        · exact h2 (.inl q2)
        · have e1 : x.1 = y.1 := by omega
          have e2 : y.1 = z.1 := by omega
          have g1 : y.2 ≤ x.2 := fun g => h1 (.inr ⟨e1, g⟩)
          have g2 : z.2 ≤ y.2 := fun g => h2 (.inr ⟨e2, g⟩)
          exact List.le_trans g2 g1 h3

attribute [local go_sem ↓] Go.wp_at_zero Go.wp_at_succ

set_option maxRecDepth 100000 in
set_option maxHeartbeats 2000000 in
theorem byKey_any (x y : Key) (W : World) :
    Calls Tryz.prog 103 #[.agg (cKey x).toArray, .agg (cKey y).toArray] W fun e w' => e = .returned (.int .i64 (cK x y)) ∧ ∃ q os', w' = grow (W.drewN q) os' := by
  obtain ⟨xd, xn⟩ := x
  obtain ⟨yd, yn⟩ := y
  have h1 := fun W' => cmpI_any xd yd W'
  have h2 := fun W' => cmpS_any ⟨xn.toArray⟩ ⟨yn.toArray⟩ W'
  simp only [toList_mk] at h2
  unfold cK
  simp only
  generalize cI xd yd = a at h1 ⊢
  generalize cS xn yn = b at h2 ⊢
  have h3 := fun (V : World) (g : Nat) (h : Rd V 1 (some ⟨g, 0, none⟩) 2 [.int .i64 a, .int .i64 b]) => cmpOr2_any a b (some ⟨g, 0, none⟩) 2 V h
  generalize (if a = 0 then b else a) = c at h3 ⊢
  unfold cKey
  simp only [txt]
  go_enter Tryz.func103, Tryz.ntmps103
  go_wp2_with fail
  go_region_held3 (fun V => V.cell? ⟨W.heap.size, 0, none⟩ = some (.int .i64 xd) ∧ V.cell? ⟨W.heap.size, 1, none⟩ = some (.string ⟨xn.toArray⟩) ∧ V.cell? ⟨W.heap.size + 1, 0, none⟩ = some (.int .i64 yd) ∧ V.cell? ⟨W.heap.size + 1, 1, none⟩ = some (.string ⟨yn.toArray⟩))
    (first | (simp; done) | exact ⟨cell_alloc_old (by simp) _, cell_alloc_old (by simp) _, cell_alloc_old (by simp) _, cell_alloc_old (by simp) _⟩)
    (first
    | (go_at_call 118; (with_reducible refine (h1 _).mono ?_); rintro e w' ⟨rfl, rfl⟩)
    | (go_at_call 93; (with_reducible refine (h2 _).mono ?_); rintro e w' ⟨rfl, rfl⟩)
    | (go_at_call 134; (with_reducible refine (h3 _ _ ?rd).mono ?_); (case rd => first | exact rd_new_at _ 3 1 2 [.int .i64 a, .int .i64 b] rfl (by simp) | exact (rd_new_at _ 3 1 2 [.int .i64 a, .int .i64 b] rfl (by simp)).drew); rintro e w' ⟨rfl, rfl⟩))
  all_goals
    go_wp2_with fail
    go_ret
    exact ⟨rfl, 1, _, by rw [alloc_eq_grow, alloc_eq_grow, alloc_eq_grow, grow_grow, grow_grow]; rfl⟩

theorem sortKey_any (w : World) (base : Nat) (v : Value) (l : List Key) (hown : w.ownsRow base 32 2 v l.length (cKeys l)) (hn : l.length < 4611686018427387904) :
    Calls Tryz.prog 110 #[v, .func (.func 103) #[] #[]] w (SortPost w base 32 2 v cKey cK l) :=
  sortFunc_own Tryz.sortKey 2 Tryz.isAgg32 Tryz.sizeOf32 cKey (fun _ => rfl) (fun x v hv => by
    simp only [cKey, List.mem_cons, List.not_mem_nil, or_false] at hv
    rcases hv with rfl | rfl <;> rfl) cK swoK 103 (enters_of Tryz.func103 (by kernel_rfl) rfl) byKey_any w base 32 v l hown hn
end Go.Proofs.YtoacobcbloljkaaGreatDoor
