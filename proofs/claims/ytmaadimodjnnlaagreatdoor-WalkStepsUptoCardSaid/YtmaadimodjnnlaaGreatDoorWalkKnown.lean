/-
  The walks of walk.rest.Get and walk.known.
-/
import Derived.Test.YtmaadimodjnnlaaGreatDoorWalkGet
namespace Go.Proofs.YtmaadimodjnnlaaGreatDoor
open Go.RowKit

set_option maxRecDepth 100000 in
set_option maxHeartbeats 1000000 in
theorem restGet_any (w : World) (c e h : Nat) (l : List (Key × (En × Int))) (wh : List (Int × Bool)) (clk : Int) (k : Key) (H : CacheAt w c e h l wh clk) :
    Calls Tryz.prog 249 #[.agg #[.pointer (some ⟨c, 0, none⟩)], vKey k] w fun r w' =>
      r = .returned (.tuple #[vEn (k, true, 0, 0, 0, []), .bool ((alGet wh k.1).getD false)]) ∧ Below w.heap.size w w' := by
  obtain ⟨d, nm⟩ := k
  have hw := fun W (HC : CacheAt W c e h l wh clk) => dentWhole_any W c e h l wh clk d HC
  have HW := Lib.hid hw
  have HC := Lib.hid H
  clear hw H
  unfold vKey
  simp only [txt]
  generalize (alGet wh d).getD false = q at *
  go_enter Tryz.func249, Tryz.ntmps249
  go_wp2_with fail
  go_region_with (go_at_call 56; refine (HW.out _ (((HC.out.alloc _).alloc _).alloc _).drew).mono ?_; rintro r w1 ⟨rfl, rfl⟩)
  all_goals
    go_wp2_with fail
    go_frame
    refine bodyPost_ret (v := .tuple #[vEn ((d, nm), true, 0, 0, 0, []), .bool q]) (by simp [results, Tryz.results249, go_sem, vEn, txt]) rfl ⟨rfl, ?_⟩
    exact below_drew ((((Below.refl _ w).alloc (Nat.le_refl _) _).alloc (by simp) _).alloc (by simp; omega) _)

/-- What is known of a key: by fresh entries, by the cache, by whole directories. -/
def knownOf (fresh : List En) (l : List (Key × (En × Int))) (wh : List (Int × Bool)) (k : Key) : Option En :=
  match firstOf fresh k with
  | some x => some x
  | none => match alGet l k with
    | some p => some p.1
    | none => if (alGet wh k.1).getD false = true then some (k, true, 0, 0, 0, []) else none

set_option maxRecDepth 100000 in
set_option maxHeartbeats 1000000 in
theorem known_any (w : World) (b : Nat) (A : Option Addr) (n cp : Nat) (fresh : List En) (c e h : Nat) (l : List (Key × (En × Int))) (wh : List (Int × Bool)) (clk : Int) (k : Key) (hn : n ≤ 17592186044416)
    (hb : w.heap[b]? = some (.cells #[.iface 97 (.slice A n cp), .iface 24 (.pointer (some ⟨c, 0, none⟩)), .iface 99 (.agg #[.pointer (some ⟨c, 0, none⟩)])] 138 (0, 0)))
    (hr : Rd w 7 A n (cEns fresh)) (H : CacheAt w c e h l wh clk) :
    Calls Tryz.prog 63 #[.slice (some ⟨b, 0, none⟩) 3 3, vKey k] w fun r w' =>
      r = .returned (.tuple #[vEn ((knownOf fresh l wh k).getD noEn), .bool (knownOf fresh l wh k).isSome]) ∧ Below w.heap.size w w' := by
  have c0 : w.cell? ⟨b, 0, none⟩ = some (.iface 97 (.slice A n cp)) := by rw [blk_cell hb]; rfl
  have c1 : w.cell? ⟨b, 1, none⟩ = some (.iface 24 (.pointer (some ⟨c, 0, none⟩))) := by rw [blk_cell hb]; rfl
  have c2 : w.cell? ⟨b, 2, none⟩ = some (.iface 99 (.agg #[.pointer (some ⟨c, 0, none⟩)])) := by rw [blk_cell hb]; rfl
  have hlt0 : b < w.heap.size := World.block_lt_of_cell? _ _ c0
  have m1 : ∀ m W, (method (m + 1) 97 (.slice A n cp) "Get").run Tryz.prog W = .ok (246, .slice A n cp) W := fun m W => by kernel_rfl
  have m2 : ∀ m W, (method (m + 1) 24 (.pointer (some ⟨c, 0, none⟩)) "Get").run Tryz.prog W = .ok (52, .pointer (some ⟨c, 0, none⟩)) W := fun m W => by kernel_rfl
  have m3 : ∀ m W, (method (m + 1) 99 (.agg #[.pointer (some ⟨c, 0, none⟩)]) "Get").run Tryz.prog W = .ok (249, .agg #[.pointer (some ⟨c, 0, none⟩)]) W := fun m W => by kernel_rfl
  obtain ⟨d, nm⟩ := k
  have g1 := fun W h => listGet_any A n cp fresh (d, nm) W hn h
  have g2 := fun W h' => dentGet_any W c e h l wh clk (d, nm) h'
  have g3 := fun W h' => restGet_any W c e h l wh clk (d, nm) h'
  have G1 := Lib.hid g1
  have G2 := Lib.hid g2
  have G3 := Lib.hid g3
  have HR := Lib.hid hr
  have HC := Lib.hid H
  have C0 := Lib.hid c0
  have C1 := Lib.hid c1
  have C2 := Lib.hid c2
  clear g1 g2 g3 hr H c0 c1 c2 hb
  unfold vKey at *
  simp only [txt] at *
  go_enter Tryz.func63, Tryz.ntmps63
  go_wp2_with fail
  obtain ⟨w0, hw0⟩ : ∃ w0, w0 = ((w.alloc (.cells #[.int .i64 d, .string ⟨nm.toArray⟩] 29)).alloc (.cells #[.int .i64 0, .string ⟨#[]⟩, .bool false, .int .i64 0, .int .i64 0, .int .i64 0, .string ⟨#[]⟩] 52)) := ⟨_, rfl⟩
  rw [← hw0]
  have k0 : w0.heap[w.heap.size]? = some (.cells #[.int .i64 d, .string ⟨nm.toArray⟩] 29 (0, 0)) := by
    rw [hw0]
    exact (heap_alloc_old _ _ (by simp)).trans (heap_alloc_new _ _)
  have k1 : w0.heap[w.heap.size + 1]? = some (.cells #[.int .i64 0, .string ⟨#[]⟩, .bool false, .int .i64 0, .int .i64 0, .int .i64 0, .string ⟨#[]⟩] 52 (0, 0)) := by
    rw [hw0]
    exact heap_new_at _ _ (by simp)
  have kb : Below w.heap.size w w0 := by
    rw [hw0]
    exact ((Below.refl _ _).alloc (Nat.le_refl _) _).alloc (by simp) _
  have ks : w0.heap.size = w.heap.size + 2 := by rw [hw0]; simp
  have K0 := Lib.hid k0
  have K1 := Lib.hid k1
  have KB := Lib.hid kb
  clear hw0 k0 k1 kb
  go_loopw [12] (fun i wr => ∃ j : Nat, j ≤ 3 ∧ i = .int .i64 j ∧ Below w0.heap.size w0 wr ∧ Hid ((0 < j → firstOf fresh (d, nm) = none) ∧ (1 < j → alGet l (d, nm) = none) ∧ (2 < j → (alGet wh d).getD false = false))) (fun i _ => 3 - (intOf i).toNat)
  case atStart => exact ⟨0, by omega, rfl, Below.refl _ _, fun q => absurd q (by omega), fun q => absurd q (by omega), fun q => absurd q (by omega)⟩
  case round =>
    obtain ⟨j, hj, rfl, hbw, hno⟩ := hrel
    have h0 := (hbw.block w.heap.size (by omega)).trans K0.out
    have h1 := (hbw.block (w.heap.size + 1) (by omega)).trans K1.out
    have q0 : wr.cell? ⟨w.heap.size, 0, none⟩ = some (.int .i64 d) := by rw [blk_cell h0]; rfl
    have q1 : wr.cell? ⟨w.heap.size, 1, none⟩ = some (.string ⟨nm.toArray⟩) := by rw [blk_cell h0]; rfl
    have hbb := KB.out.trans (hbw.mono KB.out.size)
    clear h0
    match j, hj with
    | 0, _ =>
      have d0 := (hbb.cell (p := ⟨b, 0, none⟩) hlt0).trans C0.out
      go_wp2_with fail
      refine (G1.out wr (HR.out.below hbb)).mono ?_
      rintro r w1 ⟨rfl, hb1⟩
      have hB := (hb1.block (w.heap.size + 1) (by have := hbw.size; omega)).trans h1
      have hbz := hbb.trans (hb1.mono hbb.size)
      have hbv := hbw.trans (hb1.mono hbw.size)
      have HZ := Lib.hid hbz
      have HW := Lib.hid hbv
      clear hbz hbv
      cases hf : firstOf fresh (d, nm) with
      | some x =>
        obtain ⟨⟨d', nm'⟩, ng, i, kd, md, tg⟩ := x
        simp only [Option.getD_some, Option.isSome_some, vEn, txt]
        have hres : knownOf fresh l wh (d, nm) = some ((d', nm'), ng, i, kd, md, tg) := by unfold knownOf; rw [hf]
        have HF := Lib.hid hres
        clear hres hf hno
        have b0 : w1.cell? ⟨w.heap.size + 1, 0, none⟩ = some (.int .i64 0) := by rw [blk_cell hB]; rfl
        have b1 : w1.cell? ⟨w.heap.size + 1, 1, none⟩ = some (.string ⟨#[]⟩) := by rw [blk_cell hB]; rfl
        have b2 : w1.cell? ⟨w.heap.size + 1, 2, none⟩ = some (.bool false) := by rw [blk_cell hB]; rfl
        have b3 : w1.cell? ⟨w.heap.size + 1, 3, none⟩ = some (.int .i64 0) := by rw [blk_cell hB]; rfl
        have b4 : w1.cell? ⟨w.heap.size + 1, 4, none⟩ = some (.int .i64 0) := by rw [blk_cell hB]; rfl
        have b5 : w1.cell? ⟨w.heap.size + 1, 5, none⟩ = some (.int .i64 0) := by rw [blk_cell hB]; rfl
        have b6 : w1.cell? ⟨w.heap.size + 1, 6, none⟩ = some (.string ⟨#[]⟩) := by rw [blk_cell hB]; rfl
        have bf : ∀ k, w1.frozen? ⟨w.heap.size + 1, k, none⟩ = false := fun k => blk_frozen hB k
        have hsz : w.heap.size + 1 < w1.heap.size := (Array.getElem?_eq_some_iff.1 hB).1
        clear hB hb1
        go_wp2_with fail
        refine bodyPost_ret (v := .tuple #[vEn ((d', nm'), ng, i, kd, md, tg), .bool true]) (by simp [results, Tryz.results63, go_sem, vEn, txt, b0, b1, b2, b3, b4, b5, b6, hsz, World.cell?_alloc_lt]) rfl ?_
        rw [HF.out]
        exact ⟨rfl, (below_sets HZ.out).alloc (by simp; omega) _⟩
      | none =>
        simp only [Option.getD_none, Option.isSome_none, vEn, txt, noEn]
        have HN := Lib.hid hf
        clear hf hno
        clear hB hb1
        go_wp2_with fail
        go_roundw
        case rel => exact ⟨1, by omega, by go_num, HW.out.alloc HW.out.size _, fun _ => HN.out, fun q => absurd q (by omega), fun q => absurd q (by omega)⟩
        case measure => simp [intOf] <;> omega
    | 1, _ =>
      have d0 := (hbb.cell (p := ⟨b, 1, none⟩) hlt0).trans C1.out
      go_wp2_with fail
      refine (G2.out wr (HC.out.below hbb)).mono ?_
      rintro r w1 ⟨rfl, hb1⟩
      have hB := (hb1.block (w.heap.size + 1) (by have := hbw.size; omega)).trans h1
      have hbz := hbb.trans (hb1.mono hbb.size)
      have hbv := hbw.trans (hb1.mono hbw.size)
      have HZ := Lib.hid hbz
      have HW := Lib.hid hbv
      clear hbz hbv
      have hf1 := hno.1 (by omega)
      cases hf : alGet l (d, nm) with
      | some x =>
        obtain ⟨⟨⟨d', nm'⟩, ng, i, kd, md, tg⟩, u⟩ := x
        simp only [Option.map_some, Option.getD_some, Option.isSome_some, vEn, txt]
        have hres : knownOf fresh l wh (d, nm) = some ((d', nm'), ng, i, kd, md, tg) := by unfold knownOf; rw [hf1, hf]
        have HF := Lib.hid hres
        clear hres hf hno hf1
        have b0 : w1.cell? ⟨w.heap.size + 1, 0, none⟩ = some (.int .i64 0) := by rw [blk_cell hB]; rfl
        have b1 : w1.cell? ⟨w.heap.size + 1, 1, none⟩ = some (.string ⟨#[]⟩) := by rw [blk_cell hB]; rfl
        have b2 : w1.cell? ⟨w.heap.size + 1, 2, none⟩ = some (.bool false) := by rw [blk_cell hB]; rfl
        have b3 : w1.cell? ⟨w.heap.size + 1, 3, none⟩ = some (.int .i64 0) := by rw [blk_cell hB]; rfl
        have b4 : w1.cell? ⟨w.heap.size + 1, 4, none⟩ = some (.int .i64 0) := by rw [blk_cell hB]; rfl
        have b5 : w1.cell? ⟨w.heap.size + 1, 5, none⟩ = some (.int .i64 0) := by rw [blk_cell hB]; rfl
        have b6 : w1.cell? ⟨w.heap.size + 1, 6, none⟩ = some (.string ⟨#[]⟩) := by rw [blk_cell hB]; rfl
        have bf : ∀ k, w1.frozen? ⟨w.heap.size + 1, k, none⟩ = false := fun k => blk_frozen hB k
        have hsz : w.heap.size + 1 < w1.heap.size := (Array.getElem?_eq_some_iff.1 hB).1
        clear hB hb1
        go_wp2_with fail
        refine bodyPost_ret (v := .tuple #[vEn ((d', nm'), ng, i, kd, md, tg), .bool true]) (by simp [results, Tryz.results63, go_sem, vEn, txt, b0, b1, b2, b3, b4, b5, b6, hsz, World.cell?_alloc_lt]) rfl ?_
        rw [HF.out]
        exact ⟨rfl, (below_sets HZ.out).alloc (by simp; omega) _⟩
      | none =>
        simp only [Option.map_none, Option.getD_none, Option.isSome_none, vEn, txt]
        have HN := Lib.hid hf
        have HN1 := Lib.hid hf1
        clear hf hno hf1
        clear hB hb1
        go_wp2_with fail
        go_roundw
        case rel => exact ⟨2, by omega, by go_num, HW.out.alloc HW.out.size _, fun _ => HN1.out, fun _ => HN.out, fun q => absurd q (by omega)⟩
        case measure => simp [intOf] <;> omega
    | 2, _ =>
      have d0 := (hbb.cell (p := ⟨b, 2, none⟩) hlt0).trans C2.out
      go_wp2_with fail
      refine (G3.out wr (HC.out.below hbb)).mono ?_
      rintro r w1 ⟨rfl, hb1⟩
      have hB := (hb1.block (w.heap.size + 1) (by have := hbw.size; omega)).trans h1
      have hbz := hbb.trans (hb1.mono hbb.size)
      have hbv := hbw.trans (hb1.mono hbw.size)
      have HZ := Lib.hid hbz
      have HW := Lib.hid hbv
      clear hbz hbv
      have hf1 := hno.1 (by omega)
      have hf2 := hno.2.1 (by omega)
      cases hf : (alGet wh d).getD false with
      | true =>
        simp only [vEn, txt]
        have hres : knownOf fresh l wh (d, nm) = some ((d, nm), true, 0, 0, 0, []) := by unfold knownOf; rw [hf1, hf2]; simp [hf]
        have HF := Lib.hid hres
        clear hres hf hno hf1 hf2
        have b0 : w1.cell? ⟨w.heap.size + 1, 0, none⟩ = some (.int .i64 0) := by rw [blk_cell hB]; rfl
        have b1 : w1.cell? ⟨w.heap.size + 1, 1, none⟩ = some (.string ⟨#[]⟩) := by rw [blk_cell hB]; rfl
        have b2 : w1.cell? ⟨w.heap.size + 1, 2, none⟩ = some (.bool false) := by rw [blk_cell hB]; rfl
        have b3 : w1.cell? ⟨w.heap.size + 1, 3, none⟩ = some (.int .i64 0) := by rw [blk_cell hB]; rfl
        have b4 : w1.cell? ⟨w.heap.size + 1, 4, none⟩ = some (.int .i64 0) := by rw [blk_cell hB]; rfl
        have b5 : w1.cell? ⟨w.heap.size + 1, 5, none⟩ = some (.int .i64 0) := by rw [blk_cell hB]; rfl
        have b6 : w1.cell? ⟨w.heap.size + 1, 6, none⟩ = some (.string ⟨#[]⟩) := by rw [blk_cell hB]; rfl
        have bf : ∀ k, w1.frozen? ⟨w.heap.size + 1, k, none⟩ = false := fun k => blk_frozen hB k
        have hsz : w.heap.size + 1 < w1.heap.size := (Array.getElem?_eq_some_iff.1 hB).1
        clear hB hb1
        go_wp2_with fail
        refine bodyPost_ret (v := .tuple #[vEn ((d, nm), true, 0, 0, 0, []), .bool true]) (by simp [results, Tryz.results63, go_sem, vEn, txt, b0, b1, b2, b3, b4, b5, b6, hsz, World.cell?_alloc_lt]) rfl ?_
        rw [HF.out]
        exact ⟨rfl, (below_sets HZ.out).alloc (by simp; omega) _⟩
      | false =>
        simp only [vEn, txt]
        have HN := Lib.hid hf
        have HN1 := Lib.hid hf1
        have HN2 := Lib.hid hf2
        clear hf hno hf1 hf2
        clear hB hb1
        go_wp2_with fail
        go_roundw
        case rel => exact ⟨3, by omega, by go_num, HW.out.alloc HW.out.size _, fun _ => HN1.out, fun _ => HN2.out, fun _ => HN.out⟩
        case measure => simp [intOf] <;> omega
    | 3, _ =>
      have hf1 := hno.1 (by omega)
      have hf2 := hno.2.1 (by omega)
      have hf3 := hno.2.2 (by omega)
      have hres : knownOf fresh l wh (d, nm) = none := by unfold knownOf; rw [hf1, hf2]; simp [hf3]
      have HF := Lib.hid hres
      have hB := h1
      have HZ := Lib.hid hbb
      clear hres hno hf1 hf2 hf3
      have b0 : wr.cell? ⟨w.heap.size + 1, 0, none⟩ = some (.int .i64 0) := by rw [blk_cell hB]; rfl
      have b1 : wr.cell? ⟨w.heap.size + 1, 1, none⟩ = some (.string ⟨#[]⟩) := by rw [blk_cell hB]; rfl
      have b2 : wr.cell? ⟨w.heap.size + 1, 2, none⟩ = some (.bool false) := by rw [blk_cell hB]; rfl
      have b3 : wr.cell? ⟨w.heap.size + 1, 3, none⟩ = some (.int .i64 0) := by rw [blk_cell hB]; rfl
      have b4 : wr.cell? ⟨w.heap.size + 1, 4, none⟩ = some (.int .i64 0) := by rw [blk_cell hB]; rfl
      have b5 : wr.cell? ⟨w.heap.size + 1, 5, none⟩ = some (.int .i64 0) := by rw [blk_cell hB]; rfl
      have b6 : wr.cell? ⟨w.heap.size + 1, 6, none⟩ = some (.string ⟨#[]⟩) := by rw [blk_cell hB]; rfl
      have bf : ∀ k, wr.frozen? ⟨w.heap.size + 1, k, none⟩ = false := fun k => blk_frozen hB k
      have hsz : w.heap.size + 1 < wr.heap.size := (Array.getElem?_eq_some_iff.1 hB).1
      clear hB h1 hbb
      go_wp2_with fail
      refine bodyPost_ret (v := .tuple #[vEn noEn, .bool false]) (by simp [results, Tryz.results63, go_sem, vEn, txt, noEn, b0, b1, b2, b3, b4, b5, b6]) rfl ?_
      rw [HF.out]
      exact ⟨rfl, below_sets HZ.out⟩
end Go.Proofs.YtmaadimodjnnlaaGreatDoor
