/-
  The walks of layer 12 (dent): a cache is a block of three cells and two maps.
-/
import Derived.Test.YtoacobcbloljkaaGreatDoorLow
import Derived.Deep.DeepCutAuto
import Derived.Deep.CutBlock
import Derived.Deep.RegionWith
import Derived.BigQuiet
import Derived.Deep.QuietTactic
namespace Go.Proofs.YtoacobcbloljkaaGreatDoor
open Go.RowKit

def vB (x : Bool) : Value := .bool x

/-- A cache that lies in the block c, its entries in the map e, its whole directories in the map h. -/
structure CacheAt (w : World) (c e h : Nat) (l : List (Key × (En × Int))) (wh : List (Int × Bool)) (clk : Int) : Prop where
  blk : w.heap[c]? = some (.cells #[.map (some e), .map (some h), .int .i64 clk] 132 (0, 0))
  me : MapT vKey vKept w e l
  mw : MapT vI vB w h wh
  ne : e ≠ h

section
variable {w w' : World} {c e h : Nat} {l : List (Key × (En × Int))} {wh : List (Int × Bool)} {clk : Int}


theorem CacheAt.c_lt (H : CacheAt w c e h l wh clk) : c < w.heap.size := (Array.getElem?_eq_some_iff.1 H.blk).1
theorem CacheAt.ce (H : CacheAt w c e h l wh clk) : c ≠ e := by
  obtain ⟨es, ck, hb, _⟩ := H.me
  intro q
  have := H.blk
  rw [q, hb] at this
  cases this
theorem CacheAt.ch (H : CacheAt w c e h l wh clk) : c ≠ h := by
  obtain ⟨es, ck, hb, _⟩ := H.mw
  intro q
  have := H.blk
  rw [q, hb] at this
  cases this

theorem CacheAt.kp {Q : Nat → Prop} (H : CacheAt w c e h l wh clk) (k : Kp Q w w') (hc : Q c) (he : Q e) (hh : Q h) : CacheAt w' c e h l wh clk :=
  ⟨(k.block c hc H.c_lt).trans H.blk, H.me.kp k he, H.mw.kp k hh, H.ne⟩
theorem CacheAt.below (H : CacheAt w c e h l wh clk) (k : Below w.heap.size w w') : CacheAt w' c e h l wh clk := H.kp (Kp.of_below (P := fun _ => True) k) trivial trivial trivial
theorem CacheAt.drew (H : CacheAt w c e h l wh clk) : CacheAt w.drew c e h l wh clk := ⟨H.blk, H.me, H.mw, H.ne⟩
/-- The map of the entries is turned, and nothing else. -/
theorem CacheAt.turnedE (H : CacheAt w c e h l wh clk) (ht : w.mapTurned w' e) {l' : List (Key × (En × Int))} (hm : MapT vKey vKept w' e l') : CacheAt w' c e h l' wh clk :=
  ⟨(ht.grown.block c H.c_lt (fun q => H.ce (by injection q))).trans H.blk, hm, H.mw.grown ht.grown (fun q => H.ne (by injection q with q; exact q.symm)), H.ne⟩
/-- The map of the whole directories is turned, and nothing else. -/
theorem CacheAt.turnedW (H : CacheAt w c e h l wh clk) (ht : w.mapTurned w' h) {wh' : List (Int × Bool)} (hm : MapT vI vB w' h wh') : CacheAt w' c e h l wh' clk :=
  ⟨(ht.grown.block c H.c_lt (fun q => H.ch (by injection q))).trans H.blk, H.me.grown ht.grown (fun q => H.ne (by injection q)), hm, H.ne⟩
theorem CacheAt.alloc (H : CacheAt w c e h l wh clk) (o : Obj) : CacheAt (w.alloc o) c e h l wh clk := H.below ((Below.refl _ _).alloc (Nat.le_refl _) o)
end



set_option maxHeartbeats 400000 in
theorem dentNew_any (w : World) :
    Calls Tryz.prog 27 #[] w fun r w' => ∃ c e h, r = .returned (.pointer (some ⟨c, 0, none⟩)) ∧ CacheAt w' c e h [] [] 0 ∧ w.heap.size ≤ c ∧ w.heap.size ≤ e ∧ w.heap.size ≤ h ∧ Below w.heap.size w w' := by
  have hmm := @run_makeMap Tryz.prog
  go_enter Tryz.func27, Tryz.ntmps27
  go_wp2_with fail
  go_ret
  refine ⟨_, _, _, rfl, ⟨?_, ?_, ?_, by omega⟩, by omega, Nat.le_refl _, Nat.le_succ _, ?_⟩
  · have := heap_alloc_new ((w.alloc (.map #[] 0)).alloc (.map #[] 0)) (.cells #[.map (some w.heap.size), .map (some (w.heap.size + 1)), .int .i64 0] 132)
    simpa using this
  · exact ((MapT.made vKey vKept w).alloc _).alloc _
  · have := (MapT.made vI vB (w.alloc (.map #[] 0))).alloc (.cells #[.map (some w.heap.size), .map (some (w.heap.size + 1)), .int .i64 0] 132)
    simpa using this
  · exact ((((Below.refl _ _).alloc (Nat.le_refl _) _).alloc (by simp) _).alloc (by simp; omega) _)

theorem tick_any (w : World) (c : Nat) (clk : Int) (hc : w.cell? ⟨c, 2, none⟩ = some (.int .i64 clk)) (hf : w.frozen? ⟨c, 2, none⟩ = false) (h0 : 0 ≤ clk) (h1 : clk < 4611686018427387904) :
    Calls Tryz.prog 87 #[.pointer (some ⟨c, 0, none⟩)] w fun r w' => r = .returned (.int .i64 (clk + 1)) ∧ w' = w.setCell ⟨c, 2, none⟩ (.int .i64 (clk + 1)) := by
  go_enter Tryz.func87, Tryz.ntmps87
  go_wp2_with fail
  go_ret
  exact ⟨rfl, rfl⟩

/-- A clock's cell is written. -/
theorem CacheAt.ticked {w : World} {c e h : Nat} {l : List (Key × (En × Int))} {wh : List (Int × Bool)} {clk : Int} (H : CacheAt w c e h l wh clk) (v : Int) : CacheAt (w.setCell ⟨c, 2, none⟩ (.int .i64 v)) c e h l wh v := by
  refine ⟨?_, H.me.of_heap (Below.heap_setCell _ _ _ _ H.ce.symm), H.mw.of_heap (Below.heap_setCell _ _ _ _ H.ch.symm), H.ne⟩
  exact heap_setCell_same w c 2 _ _ _ H.blk

set_option maxHeartbeats 400000 in
theorem dentSetWhole_any (w : World) (c e h : Nat) (l : List (Key × (En × Int))) (wh : List (Int × Bool)) (clk : Int) (d : Int) (H : CacheAt w c e h l wh clk) :
    Calls Tryz.prog 59 #[.pointer (some ⟨c, 0, none⟩), .int .i64 d] w fun r w' =>
      r = .returned (.tuple #[]) ∧ CacheAt w' c e h l (alPut wh d true) clk ∧ Kp (fun k => k ≠ h) w w' := by
  have hc1 : w.cell? ⟨c, 1, none⟩ = some (.map (some h)) := by rw [blk_cell H.blk]; rfl
  obtain ⟨w2, hrun, hm, ht⟩ := H.mw.update (P := Tryz.prog) keyK_num Tryz.underlying130 d true
  simp only [vI, vB] at hrun
  have HH := Lib.hid H
  have HM := Lib.hid hm
  have HT := Lib.hid ht
  clear H hm ht
  go_enter Tryz.func59, Tryz.ntmps59
  go_wp2_with fail
  go_end0
  exact ⟨rfl, HH.out.turnedW HT.out HM.out, mapTurned_kp (Kp.refl _ w) HT.out (fun _ q => q rfl)⟩

set_option maxHeartbeats 400000 in
theorem dentWhole_any (w : World) (c e h : Nat) (l : List (Key × (En × Int))) (wh : List (Int × Bool)) (clk : Int) (d : Int) (H : CacheAt w c e h l wh clk) :
    Calls Tryz.prog 78 #[.pointer (some ⟨c, 0, none⟩), .int .i64 d] w fun r w' => r = .returned (.bool ((alGet wh d).getD false)) ∧ w = w' := by
  have hc1 : w.cell? ⟨c, 1, none⟩ = some (.map (some h)) := by rw [blk_cell H.blk]; rfl
  have hz : (zeroValue 4).run Tryz.prog w = .ok (.bool false) w := by kernel_rfl
  have hrun := H.mw.lookup keyK_num Tryz.underlying130 hz d false
  simp only [vI, Bool.false_eq_true, if_false] at hrun
  clear H
  go_enter Tryz.func78, Tryz.ntmps78
  go_wp2_with fail
  go_ret
  refine ⟨?_, rfl⟩
  cases alGet wh d <;> rfl

set_option maxHeartbeats 1000000 in
theorem dentGet_any (w : World) (c e h : Nat) (l : List (Key × (En × Int))) (wh : List (Int × Bool)) (clk : Int) (k : Key) (H : CacheAt w c e h l wh clk) :
    Calls Tryz.prog 74 #[.pointer (some ⟨c, 0, none⟩), vKey k] w fun r w' =>
      r = .returned (.tuple #[vEn (((alGet l k).map Prod.fst).getD ((0, []), false, 0, 0, 0, [])), .bool (alGet l k).isSome]) ∧ Below w.heap.size w w' := by
  obtain ⟨d, n⟩ := k
  have hc0 : w.cell? ⟨c, 0, none⟩ = some (.map (some e)) := by rw [blk_cell H.blk]; rfl
  have hca : ∀ o, (w.alloc o).cell? ⟨c, 0, none⟩ = some (.map (some e)) := fun o => cell_alloc_old hc0 o
  have hcb : ∀ o o', ((w.alloc o).alloc o').cell? ⟨c, 0, none⟩ = some (.map (some e)) := fun o o' => cell_alloc_old (hca o) o'
  have hcc : ∀ o o' q, (((w.alloc o).alloc o').alloc q).cell? ⟨c, 0, none⟩ = some (.map (some e)) := fun o o' q => cell_alloc_old (hcb o o') q
  have hlt := H.c_lt
  have hz : ∀ W : World, (zeroValue 134).run Tryz.prog W = .ok (vKept (((0, []), false, 0, 0, 0, []), 0)) W := fun W => by kernel_rfl
  have hl : ∀ W : World, MapT vKey vKept W e l → (Instr.lookup 129 (.map (some e)) (vKey (d, n)) true).run Tryz.prog W = .ok (.tuple #[((alGet l (d, n)).map vKept).getD (vKept (((0, []), false, 0, 0, 0, []), 0)), .bool (alGet l (d, n)).isSome]) W :=
    fun W hm => by simpa using hm.lookup keyK_key Tryz.underlying129 (hz W) (d, n) true
  have ha : ∀ o o', (Instr.lookup 129 (.map (some e)) (vKey (d, n)) true).run Tryz.prog ((w.alloc o).alloc o').drew = _ := fun o o' => hl _ ((H.me.alloc o).alloc o')
  have hb : ∀ o o' q, (Instr.lookup 129 (.map (some e)) (vKey (d, n)) true).run Tryz.prog (((w.alloc o).alloc o').alloc q).drew = _ := fun o o' q => hl _ (((H.me.alloc o).alloc o').alloc q)
  clear hl hz H
  unfold vKey at *
  simp only [txt] at *
  cases hg : alGet l (d, n) with
  | none =>
    simp only [hg, Option.map_none, Option.getD_none, Option.isSome_none, vKept, txt] at ha hb
    go_enter Tryz.func74, Tryz.ntmps74
    go_wp2_with fail
    go_region
    all_goals
      clear ha hb
      go_wp2_with fail
      refine bodyPost_ret (v := .tuple #[vEn ((0, []), false, 0, 0, 0, []), .bool false]) (by simp [results, Tryz.results74, go_sem, vEn, txt]) rfl ⟨rfl, ?_⟩
      exact below_drew ((((Below.refl _ w).alloc (Nat.le_refl _) _).alloc (by simp) _).alloc (by simp; omega) _)
  | some p =>
    obtain ⟨⟨⟨d', n'⟩, ng, i, kd, md, tg⟩, u⟩ := p
    simp only [hg, Option.map_some, Option.getD_some, Option.isSome_some, vKept, txt] at ha hb
    go_enter Tryz.func74, Tryz.ntmps74
    go_wp2_with fail
    go_region
    all_goals
      clear ha hb
      go_wp2_with fail
      refine bodyPost_ret (v := .tuple #[vEn ((d', n'), ng, i, kd, md, tg), .bool true]) (by simp [results, Tryz.results74, go_sem, vEn, txt]) rfl ⟨rfl, ?_⟩
      exact below_drew ((((Below.refl _ w).alloc (Nat.le_refl _) _).alloc (by simp) _).alloc (by simp; omega) _)
end Go.Proofs.YtoacobcbloljkaaGreatDoor
