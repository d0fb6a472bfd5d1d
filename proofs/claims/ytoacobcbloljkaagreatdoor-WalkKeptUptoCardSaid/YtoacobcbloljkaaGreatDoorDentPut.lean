/-
  The walk of dent.Put.
-/
import Derived.Test.YtoacobcbloljkaaGreatDoorDent
namespace Go.Proofs.YtoacobcbloljkaaGreatDoor
open Go.RowKit

set_option maxRecDepth 100000 in
set_option maxHeartbeats 2000000 in
theorem dentPut_any (w : World) (c e h : Nat) (l : List (Key × (En × Int))) (wh : List (Int × Bool)) (clk : Int) (x : En) (H : CacheAt w c e h l wh clk) (h0 : 0 ≤ clk) (h1 : clk < 4611686018427387904) :
    Calls Tryz.prog 28 #[.pointer (some ⟨c, 0, none⟩), vEn x] w fun r w' =>
      (x.1.2 = [] ∧ r = .returned (.int .i64 1) ∧ CacheAt w' c e h l wh clk ∧ Below w.heap.size w w') ∨
      (x.1.2 ≠ [] ∧ r = .returned (.int .i64 0) ∧ CacheAt w' c e h (alPut l x.1 (x, clk + 1)) wh (clk + 1) ∧ Kp (fun k => k ≠ c ∧ k ≠ e) w w') := by
  obtain ⟨⟨d, n⟩, neg, i, k, m, t⟩ := x
  have hc0 : w.cell? ⟨c, 0, none⟩ = some (.map (some e)) := by rw [blk_cell H.blk]; rfl
  have hc2 : w.cell? ⟨c, 2, none⟩ = some (.int .i64 clk) := by rw [blk_cell H.blk]; rfl
  have hf2 : w.frozen? ⟨c, 2, none⟩ = false := blk_frozen H.blk 2
  have hlt := H.c_lt
  unfold vEn
  simp only [txt]
  go_enter Tryz.func28, Tryz.ntmps28
  have hca : ∀ o, (w.alloc o).cell? ⟨c, 0, none⟩ = some (.map (some e)) := fun o => cell_alloc_old hc0 o
  have hcb : ∀ o, (w.alloc o).cell? ⟨c, 2, none⟩ = some (.int .i64 clk) := fun o => cell_alloc_old hc2 o
  have hfa : ∀ o, (w.alloc o).frozen? ⟨c, 2, none⟩ = false := fun o => blk_frozen ((H.alloc o).blk) 2
  cases hq : n.isEmpty with
  | true =>
    have hn : n = [] := List.isEmpty_iff.1 hq
    have HH := Lib.hid H
    clear H
    go_wp2_with fail
    go_ret
    exact .inl ⟨hn, rfl, HH.out.alloc _, (Below.refl _ _).alloc (Nat.le_refl _) _⟩
  | false =>
    have hn : n ≠ [] := fun q => by rw [q] at hq; cases hq
    have H1 := (H.ticked (clk + 1)).alloc (.cells #[.int .i64 d, .string ⟨n.toArray⟩, .bool neg, .int .i64 i, .int .i64 k, .int .i64 m, .string ⟨t.toArray⟩] 36)
    obtain ⟨w2, hrun, hm2, ht2⟩ := MapT.update (w := ((w.setCell ⟨c, 2, none⟩ (.int .i64 (clk + 1))).alloc (.cells #[.int .i64 d, .string ⟨n.toArray⟩, .bool neg, .int .i64 i, .int .i64 k, .int .i64 m, .string ⟨t.toArray⟩] 36)).drew) (P := Tryz.prog) H1.me keyK_key Tryz.underlying129 ((d, n) : Key) ((((d, n), neg, i, k, m, t) : En), clk + 1)
    simp only [vKey, vKept, txt] at hrun
    have HM2 := Lib.hid hm2
    have HT2 := Lib.hid ht2
    have HH1 := Lib.hid H1
    clear hm2 ht2 H1 H
    go_wp2_with fail
    go_region_with (go_at_call 87; refine (tick_any _ c clk ?_ ?_ h0 h1).mono ?_; simp [hcb]; simp [hfa]; rintro r w' ⟨rfl, rfl⟩)
    all_goals
      go_wp2_with fail
      go_ret
      exact .inr ⟨hn, rfl, HH1.out.drew.turnedE HT2.out HM2.out, mapTurned_kp ((((Kp.refl _ w).setCell (p := ⟨c, 2, none⟩) (fun _ q => q.1 rfl) _).alloc _).drew) HT2.out (fun _ q => q.2 rfl)⟩
end Go.Proofs.YtoacobcbloljkaaGreatDoor
