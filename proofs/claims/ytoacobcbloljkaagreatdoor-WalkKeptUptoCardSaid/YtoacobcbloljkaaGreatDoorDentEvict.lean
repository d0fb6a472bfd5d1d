/-
  The walk of dent's Evict.
-/
import Derived.Test.YtoacobcbloljkaaGreatDoorDent
import Derived.Test.YtoacobcbloljkaaGreatDoorLow
namespace Go.Proofs.YtoacobcbloljkaaGreatDoor
open Go.RowKit

def EvictPost (w : World) (c e h : Nat) (l : List (Key × (En × Int))) (wh : List (Int × Bool)) (clk : Int) (k : Key) (r : Ending) (w' : World) : Prop :=
  r = .returned (.bool (alGet l k).isSome) ∧ CacheAt w' c e h (alDel l k) (match alGet l k with | none => wh | some p => if p.1.2.1 = true then wh else alDel wh k.1) clk ∧ Kp (fun k => k ≠ e ∧ k ≠ h) w w'

theorem mapTurned_at {w w' : World} {b g : Nat} {t : TypeId} {cs : List Value} (h : At w g t cs) (ht : w.mapTurned w' b) (hne : g ≠ b) : At w' g t cs :=
  (ht.grown.block g h.lt (fun q => hne (by injection q))).trans h

set_option maxRecDepth 100000 in
set_option maxHeartbeats 4000000 in
theorem dentEvict_any (w : World) (c e h : Nat) (l : List (Key × (En × Int))) (wh : List (Int × Bool)) (clk : Int) (k : Key) (H : CacheAt w c e h l wh clk) :
    Calls Tryz.prog 57 #[.pointer (some ⟨c, 0, none⟩), vKey k] w (EvictPost w c e h l wh clk k) := by
  obtain ⟨d, n⟩ := k
  have hc0 : w.cell? ⟨c, 0, none⟩ = some (.map (some e)) := by rw [blk_cell H.blk]; rfl
  have hc1 : w.cell? ⟨c, 1, none⟩ = some (.map (some h)) := by rw [blk_cell H.blk]; rfl
  have hca : ∀ o, (w.alloc o).cell? ⟨c, 0, none⟩ = some (.map (some e)) := fun o => cell_alloc_old hc0 o
  have hcb : ∀ o o', ((w.alloc o).alloc o').cell? ⟨c, 0, none⟩ = some (.map (some e)) := fun o o' => cell_alloc_old (hca o) o'
  have hda : ∀ o o', ((w.alloc o).alloc o').cell? ⟨c, 1, none⟩ = some (.map (some h)) := fun o o' => cell_alloc_old (cell_alloc_old hc1 o) o'
  have hlt := H.c_lt
  have hlte := H.me.lt
  have hlth := H.mw.lt
  have hz : ∀ W : World, (zeroValue 134).run Tryz.prog W = .ok (vKept (((0, []), false, 0, 0, 0, []), 0)) W := fun W => by kernel_rfl
  have hl : ∀ W : World, MapT vKey vKept W e l → (Instr.lookup 129 (.map (some e)) (vKey (d, n)) true).run Tryz.prog W = .ok (.tuple #[((alGet l (d, n)).map vKept).getD (vKept (((0, []), false, 0, 0, 0, []), 0)), .bool (alGet l (d, n)).isSome]) W :=
    fun W hm => by simpa using hm.lookup keyK_key Tryz.underlying129 (hz W) (d, n) true
  have ha : ∀ o, (Instr.lookup 129 (.map (some e)) (vKey (d, n)) true).run Tryz.prog (w.alloc o).drew = _ := fun o => hl _ (H.me.alloc o)
  have hb : ∀ o o', (Instr.lookup 129 (.map (some e)) (vKey (d, n)) true).run Tryz.prog ((w.alloc o).alloc o').drew = _ := fun o o' => hl _ ((H.me.alloc o).alloc o')
  clear hl hz
  unfold vKey at *
  simp only [txt] at *
  have HH := Lib.hid H
  clear H
  cases hg : alGet l (d, n) with
  | none =>
    simp only [hg, Option.map_none, Option.getD_none, Option.isSome_none, vKept, txt] at ha hb
    have HG := Lib.hid hg
    clear hg
    go_enter Tryz.func57, Tryz.ntmps57
    go_wp2_with fail
    go_region
    all_goals
      clear ha hb
      go_upto_region 4 with fail
      go_region_law (refine step_delete_T rfl (.tmp 32) (.tmp 33) 129 rfl keyK_key Tryz.underlying129 rfl ((HH.out.alloc _).alloc _).drew.drew.me (d, n) rfl ?_; intro w2 hm2 ht2; have H2 := Lib.hid (((HH.out.alloc _).alloc _).drew.drew.turnedE ht2 hm2); have K2 := Lib.hid (mapTurned_kp ((((Kp.refl (fun k => k ≠ e ∧ k ≠ h) w).alloc _).alloc _).drew).drew ht2 (fun _ q => q.1 rfl)); clear hm2 ht2)
      all_goals
        go_wp2_with fail
        go_ret
        unfold EvictPost
        rw [HG.out]
        exact ⟨rfl, H2.out, K2.out⟩
  | some p =>
    obtain ⟨⟨⟨d', n'⟩, ng, i, kd, md, tg⟩, u⟩ := p
    simp only [hg, Option.map_some, Option.getD_some, Option.isSome_some, vKept, txt] at ha hb
    have HG := Lib.hid hg
    clear hg
    cases ng with
    | true =>
      go_enter Tryz.func57, Tryz.ntmps57
      go_wp2_with fail
      go_region
      all_goals
        clear ha hb
        go_upto_region 4 with fail
        go_region_law (refine step_delete_T rfl (.tmp 32) (.tmp 33) 129 rfl keyK_key Tryz.underlying129 rfl ((HH.out.alloc _).alloc _).drew.drew.me (d, n) rfl ?_; intro w2 hm2 ht2; have H2 := Lib.hid (((HH.out.alloc _).alloc _).drew.drew.turnedE ht2 hm2); have K2 := Lib.hid (mapTurned_kp ((((Kp.refl (fun k => k ≠ e ∧ k ≠ h) w).alloc _).alloc _).drew).drew ht2 (fun _ q => q.1 rfl)); clear hm2 ht2)
        all_goals
          go_wp2_with fail
          go_ret
          unfold EvictPost
          rw [HG.out]
          exact ⟨rfl, H2.out, K2.out⟩
    | false =>
      go_enter Tryz.func57, Tryz.ntmps57
      go_wp2_with fail
      go_region
      all_goals
        clear ha hb
        go_upto_region 3 with fail
        go_region_law (refine step_delete_T rfl (.tmp 26) (.tmp 28) 130 rfl keyK_num Tryz.underlying130 rfl ((HH.out.alloc _).alloc _).drew.drew.mw d rfl ?_; intro w2 hm2 ht2; have H2 := Lib.hid (((HH.out.alloc _).alloc _).drew.drew.turnedW ht2 hm2); have K2 := Lib.hid (mapTurned_kp ((((Kp.refl (fun k => k ≠ e ∧ k ≠ h) w).alloc _).alloc _).drew).drew ht2 (fun _ q => q.2 rfl)); have HK2 := Lib.hid (mapTurned_at ((At.new w 32 [.int .i64 d, .string ⟨n.toArray⟩]).alloc (.cells #[.int .i64 d', .string ⟨n'.toArray⟩, .bool false, .int .i64 i, .int .i64 kd, .int .i64 md, .string ⟨tg.toArray⟩, .int .i64 u] 134)).drew.drew ht2 (by omega)); clear hm2 ht2)
        all_goals
          have e0 : w2.cell? ⟨c, 0, none⟩ = some (.map (some e)) := by rw [blk_cell H2.out.blk]; rfl
          have k0 : w2.cell? ⟨w.heap.size, 0, none⟩ = some (.int .i64 d) := by rw [HK2.out.cell]; rfl
          have k1 : w2.cell? ⟨w.heap.size, 1, none⟩ = some (.string ⟨n.toArray⟩) := by rw [HK2.out.cell]; rfl
          go_upto_region 4 with fail
          go_region_law (refine step_delete_T rfl (.tmp 32) (.tmp 33) 129 rfl keyK_key Tryz.underlying129 rfl H2.out.drew.me (d, n) rfl ?_; intro w3 hm3 ht3; have H3 := Lib.hid (H2.out.drew.turnedE ht3 hm3); have K3 := Lib.hid (mapTurned_kp K2.out.drew ht3 (fun _ q => q.1 rfl)); clear hm3 ht3)
          all_goals
            go_wp2_with fail
            go_ret
            unfold EvictPost
            rw [HG.out]
            exact ⟨rfl, H3.out, K3.out⟩
end Go.Proofs.YtoacobcbloljkaaGreatDoor
