/-
  The walks of dent's Clear, Use, Evict.
-/
import Derived.Test.YtoacobcbloljkaaGreatDoorDent
import Derived.Test.YtoacobcbloljkaaGreatDoorLow
namespace Go.Proofs.YtoacobcbloljkaaGreatDoor
open Go.RowKit

set_option maxRecDepth 100000 in
set_option maxHeartbeats 1000000 in
theorem dentClear_any (w : World) (c e h : Nat) (l : List (Key × (En × Int))) (wh : List (Int × Bool)) (clk : Int) (H : CacheAt w c e h l wh clk) :
    Calls Tryz.prog 55 #[.pointer (some ⟨c, 0, none⟩)] w fun r w' =>
      r = .returned (.tuple #[]) ∧ CacheAt w' c e h [] [] clk ∧ Kp (fun k => k ≠ e ∧ k ≠ h) w w' := by
  have hc0 : w.cell? ⟨c, 0, none⟩ = some (.map (some e)) := by rw [blk_cell H.blk]; rfl
  have HH := Lib.hid H
  clear H
  go_enter Tryz.func55, Tryz.ntmps55
  go_upto_region 1 with ((with_reducible refine wpList_isBuiltin .clear ?_); refine wpList_clear_T rfl _ _ rfl Tryz.underlying129 rfl HH.out.me ?_; intro w2 hm2 ht2; have H2 := Lib.hid (HH.out.turnedE ht2 hm2); have K2 := Lib.hid (mapTurned_kp (Kp.refl (fun k => k ≠ e ∧ k ≠ h) w) ht2 (fun _ q => q.1 rfl)); clear hm2 ht2)
  have hc1 : w2.cell? ⟨c, 1, none⟩ = some (.map (some h)) := by rw [blk_cell H2.out.blk]; rfl
  go_wp2_with ((with_reducible refine wpList_isBuiltin .clear ?_); refine wpList_clear_T rfl _ _ rfl Tryz.underlying130 rfl H2.out.mw ?_; intro w3 hm3 ht3; have H3 := Lib.hid (H2.out.turnedW ht3 hm3); have K3 := Lib.hid (mapTurned_kp K2.out ht3 (fun _ q => q.2 rfl)); clear hm3 ht3)
  go_end0
  exact ⟨rfl, H3.out, K3.out⟩

def vK0 : Value := vKept (((0, []), false, 0, 0, 0, []), 0)

def UsePost (w : World) (c e h : Nat) (l : List (Key × (En × Int))) (wh : List (Int × Bool)) (clk : Int) (k : Key) (r : Ending) (w' : World) : Prop :=
  (alGet l k = none ∧ r = .returned (.bool false) ∧ CacheAt w' c e h l wh clk ∧ Below w.heap.size w w') ∨
  (∃ p, alGet l k = some p ∧ r = .returned (.bool true) ∧ CacheAt w' c e h (alPut l k (p.1, clk + 1)) wh (clk + 1) ∧ Kp (fun k => k ≠ c ∧ k ≠ e) w w')

set_option maxRecDepth 100000 in
set_option maxHeartbeats 2000000 in
theorem dentUse_any (w : World) (c e h : Nat) (l : List (Key × (En × Int))) (wh : List (Int × Bool)) (clk : Int) (k : Key) (H : CacheAt w c e h l wh clk) (h0 : 0 ≤ clk) (h1 : clk < 4611686018427387904) :
    Calls Tryz.prog 50 #[.pointer (some ⟨c, 0, none⟩), vKey k] w (UsePost w c e h l wh clk k) := by
  obtain ⟨d, n⟩ := k
  have hc0 : w.cell? ⟨c, 0, none⟩ = some (.map (some e)) := by rw [blk_cell H.blk]; rfl
  have hc2 : w.cell? ⟨c, 2, none⟩ = some (.int .i64 clk) := by rw [blk_cell H.blk]; rfl
  have hf2 : w.frozen? ⟨c, 2, none⟩ = false := blk_frozen H.blk 2
  have hca : ∀ o, (w.alloc o).cell? ⟨c, 0, none⟩ = some (.map (some e)) := fun o => cell_alloc_old hc0 o
  have hcb : ∀ o o', ((w.alloc o).alloc o').cell? ⟨c, 0, none⟩ = some (.map (some e)) := fun o o' => cell_alloc_old (hca o) o'
  have hda : ∀ o o', ((w.alloc o).alloc o').cell? ⟨c, 2, none⟩ = some (.int .i64 clk) := fun o o' => cell_alloc_old (cell_alloc_old hc2 o) o'
  have hfa : ∀ o o', ((w.alloc o).alloc o').frozen? ⟨c, 2, none⟩ = false := fun o o' => blk_frozen (((H.alloc o).alloc o').blk) 2
  have hlt := H.c_lt
  have hz : ∀ W : World, (zeroValue 134).run Tryz.prog W = .ok (vKept (((0, []), false, 0, 0, 0, []), 0)) W := fun W => by kernel_rfl
  have hl : ∀ W : World, MapT vKey vKept W e l → (Instr.lookup 129 (.map (some e)) (vKey (d, n)) true).run Tryz.prog W = .ok (.tuple #[((alGet l (d, n)).map vKept).getD (vKept (((0, []), false, 0, 0, 0, []), 0)), .bool (alGet l (d, n)).isSome]) W :=
    fun W hm => by simpa using hm.lookup keyK_key Tryz.underlying129 (hz W) (d, n) true
  have ha : ∀ o, (Instr.lookup 129 (.map (some e)) (vKey (d, n)) true).run Tryz.prog (w.alloc o).drew = _ := fun o => hl _ (H.me.alloc o)
  have hb : ∀ o o', (Instr.lookup 129 (.map (some e)) (vKey (d, n)) true).run Tryz.prog ((w.alloc o).alloc o').drew = _ := fun o o' => hl _ ((H.me.alloc o).alloc o')
  clear hl hz
  unfold vKey at *
  simp only [txt] at *
  have HH := Lib.hid H
  clear H
  cases hg : alGet l (d, n) with
  | none =>
    simp only [hg, Option.map_none, Option.getD_none, Option.isSome_none, vKept, txt] at ha hb
    have HG := Lib.hid hg
    clear hg
    go_enter Tryz.func50, Tryz.ntmps50
    go_wp2_with fail
    go_region
    all_goals
      clear ha hb
      go_wp2_with fail
      go_ret
      exact .inl ⟨HG.out, rfl, ((HH.out.alloc _).alloc _).drew, below_drew (((Below.refl _ w).alloc (Nat.le_refl _) _).alloc (by simp) _)⟩
  | some p =>
    obtain ⟨⟨⟨d', n'⟩, ng, i, kd, md, tg⟩, u⟩ := p
    simp only [hg, Option.map_some, Option.getD_some, Option.isSome_some, vKept, txt] at ha hb
    have HG := Lib.hid hg
    clear hg
    have H1 := ((HH.out.ticked (clk + 1)).alloc (.cells #[.int .i64 d, .string ⟨n.toArray⟩] 32)).alloc (.cells #[.int .i64 d', .string ⟨n'.toArray⟩, .bool ng, .int .i64 i, .int .i64 kd, .int .i64 md, .string ⟨tg.toArray⟩, .int .i64 u] 134)
    obtain ⟨w2, hrun, hm2, ht2⟩ := MapT.update (w := (((w.setCell ⟨c, 2, none⟩ (.int .i64 (clk + 1))).alloc (.cells #[.int .i64 d, .string ⟨n.toArray⟩] 32)).alloc (.cells #[.int .i64 d', .string ⟨n'.toArray⟩, .bool ng, .int .i64 i, .int .i64 kd, .int .i64 md, .string ⟨tg.toArray⟩, .int .i64 u] 134)).drew.drew) (P := Tryz.prog) H1.me keyK_key Tryz.underlying129 ((d, n) : Key) ((((d', n'), ng, i, kd, md, tg) : En), clk + 1)
    simp only [vKey, vKept, txt] at hrun
    have HM2 := Lib.hid hm2
    have HT2 := Lib.hid ht2
    have HH1 := Lib.hid H1
    clear hm2 ht2 H1
    go_enter Tryz.func50, Tryz.ntmps50
    go_wp2_with fail
    go_region
    all_goals
      clear ha hb
      go_upto_region 3 with fail
      go_region_with (go_at_call 87; refine (tick_any _ c clk ?_ ?_ h0 h1).mono ?_; simp [hda]; simp [hfa]; rintro r w' ⟨rfl, rfl⟩)
      all_goals
        go_wp2_with fail
        go_ret
        exact .inr ⟨_, HG.out, rfl, HH1.out.drew.drew.turnedE HT2.out HM2.out, mapTurned_kp (((((Kp.refl _ w).setCell (p := ⟨c, 2, none⟩) (fun _ q => q.1 rfl) _).alloc _).alloc _).drew).drew HT2.out (fun _ q => q.2 rfl)⟩
end Go.Proofs.YtoacobcbloljkaaGreatDoor
