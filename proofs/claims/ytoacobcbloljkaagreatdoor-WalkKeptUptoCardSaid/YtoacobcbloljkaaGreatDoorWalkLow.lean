/-
  Several texts in one: WalkGet, WalkKnown, WalkSmall, WalkMet, WalkSpec, StepsAt.
-/
import Derived.Test.YtoacobcbloljkaaGreatDoorDent
import Derived.Test.YtoacobcbloljkaaGreatDoorNames
import Derived.Lib.SliceRun
import Derived.Test.YtoacobcbloljkaaGreatDoorLow
import Derived.WalkMore
/-! # WalkGet: The walks of layer 14's sources: the first entry of a key in a list; a cache; the names of whole directories. -/
namespace Go.Proofs.YtoacobcbloljkaaGreatDoor
open Go.RowKit







/-- The first entry of a key. -/
def firstOf (l : List En) (k : Key) : Option En := l.find? fun x => decide (x.1 = k)

theorem firstOf_at {l : List En} {k : Key} {j : Nat} {x : En} (h : ∀ i y, i < j → l[i]? = some y → y.1 ≠ k) (hx : l[j]? = some x) (hk : x.1 = k) : firstOf l k = some x := by
  unfold firstOf
  induction l generalizing j with
  | nil => simp at hx
  | cons y r ih =>
    cases j with
    | zero =>
      simp only [List.getElem?_cons_zero] at hx
      injection hx with hx
      subst hx
      rw [List.find?_cons_of_pos (by simp [hk])]
    | succ j =>
      have h0 := h 0 y (by omega) rfl
      rw [List.find?_cons_of_neg (by simp [h0])]
      exact ih (j := j) (fun i z hi hz => h (i + 1) z (by omega) hz) (by simpa using hx)

theorem firstOf_none {l : List En} {k : Key} (h : ∀ i y, i < l.length → l[i]? = some y → y.1 ≠ k) : firstOf l k = none := by
  unfold firstOf
  refine List.find?_eq_none.2 fun y hy => ?_
  obtain ⟨i, hi⟩ := List.getElem?_of_mem hy
  have := h i y (List.getElem?_eq_some_iff.1 hi).1 hi
  simp [this]


set_option maxHeartbeats 400000 in
theorem keyIs_any (x : En) (b : Nat) (k : Key) (w : World) (hk0 : w.cell? ⟨b, 0, none⟩ = some (.int .i64 k.1)) (hk1 : w.cell? ⟨b, 1, none⟩ = some (.string ⟨k.2.toArray⟩)) :
    Calls Tryz.prog 270 #[vEn x, .pointer (some ⟨b, 0, none⟩)] w fun r w' => r = .returned (.bool (decide (x.1 = k))) ∧ Below w.heap.size w w' := by
  obtain ⟨⟨d, nm⟩, ng, i, kd, md, tg⟩ := x
  have hq : ∀ W : World, (binOp .eql 32 (vKey (d, nm)) (vKey k)).run Tryz.prog W = .ok (.bool (decide ((d, nm) = k))) W := fun W => by
    have := eq_key (d, nm) k W
    unfold Op.equal Op.maxDepth at this
    unfold vKey at this ⊢
    rw [run_eql_struct, this]
    rfl
  unfold vKey at hq
  simp only [txt] at hq
  have c0 : ∀ o, (w.alloc o).cell? ⟨b, 0, none⟩ = some (.int .i64 k.1) := fun o => cell_alloc_old hk0 o
  have c1 : ∀ o, (w.alloc o).cell? ⟨b, 1, none⟩ = some (.string ⟨k.2.toArray⟩) := fun o => cell_alloc_old hk1 o
  have hlt : b < w.heap.size := World.block_lt_of_cell? _ _ hk0
  unfold vEn
  simp only [txt]
  generalize decide ((d, nm) = k) = q at *
  go_enter Tryz.func270, Tryz.ntmps270
  go_wp2_with fail
  go_ret
  exact ⟨rfl, (Below.refl _ _).alloc (Nat.le_refl _) _⟩

set_option maxRecDepth 100000 in
set_option maxHeartbeats 400000 in
theorem indexFunc_any (A : Option Addr) (n c b : Nat) (l : List En) (k : Key) (w : World) (hn : n ≤ 17592186044416) (hr : Rd w 7 A n (cEns l)) (hk0 : w.cell? ⟨b, 0, none⟩ = some (.int .i64 k.1)) (hk1 : w.cell? ⟨b, 1, none⟩ = some (.string ⟨k.2.toArray⟩)) :
    Calls Tryz.prog 269 #[.slice A n c, .func (.func 270) #[] #[.pointer (some ⟨b, 0, none⟩)]] w fun r w' =>
      ((∃ (j : Nat) (x : En), r = .returned (.int .i64 j) ∧ j < n ∧ l[j]? = some x ∧ firstOf l k = some x) ∨ (r = .returned (.int .i64 (-1)) ∧ firstOf l k = none)) ∧ Below w.heap.size w w' := by
  have hlt0 : b < w.heap.size := World.block_lt_of_cell? _ _ hk0
  have hlen := hr.en_len
  have HR := Lib.hid hr
  have HK0 := Lib.hid hk0
  have HK1 := Lib.hid hk1
  clear hr hk0 hk1
  go_enter Tryz.func269, Tryz.ntmps269
  go_wp2_with fail
  go_loopw [8, 5] (fun i _ wr => ∃ j : Nat, j ≤ n ∧ i = .int .i64 j ∧ Below w.heap.size w wr ∧ Hid (∀ i y, i < j → l[i]? = some y → y.1 ≠ k)) (fun i _ _ => n - (RowKit.intOf i).toNat)
  case atStart => exact ⟨0, by omega, rfl, Below.refl _ _, fun i y hi => absurd hi (by omega)⟩
  case round =>
    obtain ⟨j, hj, rfl, hb, hno⟩ := hrel
    by_cases hlt : j < n
    · obtain ⟨ad, d, nm, ng, i, kd, md, tg, rfl, hbl, hx, h1, h2, h3, h4, h5, h6, h7⟩ := (HR.out.below hb).en_at hlt
      have hc := keyIs_any ((d, nm), ng, i, kd, md, tg) b k wr ((hb.cell (by exact hlt0)).trans HK0.out) ((hb.cell (by exact hlt0)).trans HK1.out)
      simp only [vEn, txt] at hc
      have HC := Lib.hid hc
      have HX := Lib.hid hx
      clear hc hx
      go_wp2_with fail
      refine (HC.out).mono ?_
      rintro r w2 ⟨rfl, hb2⟩
      by_cases hq : ((d, nm) : Key) = k
      · rw [decide_eq_true hq]
        have hf := firstOf_at hno.out HX.out hq
        have HF := Lib.hid hf
        clear hf
        go_wp2_with fail
        go_ret
        exact ⟨.inl ⟨j, _, rfl, hlt, HX.out, HF.out⟩, hb.trans (hb2.mono hb.size)⟩
      · rw [decide_eq_false hq]
        have HQ := Lib.hid hq
        clear hq
        go_wp2_with fail
        go_roundw
        case rel =>
          refine ⟨j + 1, by omega, by go_num, hb.trans (hb2.mono hb.size), fun i y hi hy => ?_⟩
          by_cases e : i = j
          · subst e
            rw [HX.out] at hy
            injection hy with hy
            subst hy
            exact HQ.out
          · exact hno.out i y (by omega) hy
        case measure => simp [RowKit.intOf] <;> omega
    · have hf : firstOf l k = none := firstOf_none fun i y hi hy => hno.out i y (by omega) hy
      have HF := Lib.hid hf
      clear hf
      go_wp2_with fail
      go_ret
      exact ⟨.inr ⟨rfl, HF.out⟩, hb⟩

theorem below_sets {w w1 : World} {v0 v1 v2 v3 v4 v5 v6 : Value} (h : Below w.heap.size w w1) :
    Below w.heap.size w (((((((w1.setCell ⟨w.heap.size + 1, 0, none⟩ v0).setCell ⟨w.heap.size + 1, 1, none⟩ v1).setCell ⟨w.heap.size + 1, 2, none⟩ v2).setCell ⟨w.heap.size + 1, 3, none⟩ v3).setCell ⟨w.heap.size + 1, 4, none⟩ v4).setCell ⟨w.heap.size + 1, 5, none⟩ v5).setCell ⟨w.heap.size + 1, 6, none⟩ v6) :=
  ((((((h.setCell (by simp) _).setCell (by simp) _).setCell (by simp) _).setCell (by simp) _).setCell (by simp) _).setCell (by simp) _).setCell (by simp) _


set_option maxRecDepth 100000 in
set_option maxHeartbeats 400000 in
theorem listGet_any (A : Option Addr) (n c : Nat) (l : List En) (k : Key) (w : World) (hn : n ≤ 17592186044416) (hr : Rd w 7 A n (cEns l)) :
    Calls Tryz.prog 268 #[.slice A n c, vKey k] w fun r w' =>
      r = .returned (.tuple #[vEn ((firstOf l k).getD noEn), .bool (firstOf l k).isSome]) ∧ Below w.heap.size w w' := by
  have hi := fun b W h1 h2 h3 => indexFunc_any A n c b l k W hn h1 h2 h3
  have HI := Lib.hid hi
  have HR := Lib.hid hr
  clear hi hr
  obtain ⟨d, nm⟩ := k
  unfold vKey
  simp only [txt]
  go_enter Tryz.func268, Tryz.ntmps268
  go_wp2_with fail
  refine (HI.out _ _ ((HR.out.alloc _).alloc _) ?_ ?_).mono ?_
  · simp
  · simp
  rintro r w1 ⟨⟨j, ⟨⟨d', nm'⟩, ng, i, kd, md, tg⟩, rfl, hj, hx, hf⟩ | ⟨rfl, hf⟩, hb⟩
  all_goals
    have hB := (hb.block (w.heap.size + 1) (by simp)).trans (heap_new_at (w.alloc (.cells #[.int .i64 d, .string ⟨nm.toArray⟩] 32)) (.cells #[.int .i64 0, .string ⟨#[]⟩, .bool false, .int .i64 0, .int .i64 0, .int .i64 0, .string ⟨#[]⟩] 36) (n := w.heap.size + 1) (by simp))
    have b0 : w1.cell? ⟨w.heap.size + 1, 0, none⟩ = some (.int .i64 0) := by rw [blk_cell hB]; rfl
    have b1 : w1.cell? ⟨w.heap.size + 1, 1, none⟩ = some (.string ⟨#[]⟩) := by rw [blk_cell hB]; rfl
    have b2 : w1.cell? ⟨w.heap.size + 1, 2, none⟩ = some (.bool false) := by rw [blk_cell hB]; rfl
    have b3 : w1.cell? ⟨w.heap.size + 1, 3, none⟩ = some (.int .i64 0) := by rw [blk_cell hB]; rfl
    have b4 : w1.cell? ⟨w.heap.size + 1, 4, none⟩ = some (.int .i64 0) := by rw [blk_cell hB]; rfl
    have b5 : w1.cell? ⟨w.heap.size + 1, 5, none⟩ = some (.int .i64 0) := by rw [blk_cell hB]; rfl
    have b6 : w1.cell? ⟨w.heap.size + 1, 6, none⟩ = some (.string ⟨#[]⟩) := by rw [blk_cell hB]; rfl
    have bf : ∀ k, w1.frozen? ⟨w.heap.size + 1, k, none⟩ = false := fun k => blk_frozen hB k
    have hbw : Below w.heap.size w w1 := (((Below.refl _ w).alloc (Nat.le_refl _) _).alloc (by simp) _).trans (hb.mono (by simp; omega))
    have HB := Lib.hid hbw
    clear hB hbw
  · obtain ⟨ad, d2, nm2, ng2, i2, kd2, md2, tg2, rfl, hbl, hx2, h1, h2, h3, h4, h5, h6, h7⟩ := (((HR.out.alloc _).alloc _).below hb).en_at hj
    rw [hx] at hx2
    injection hx2 with hx2
    obtain ⟨⟨rfl, rfl⟩, rfl, rfl, rfl, rfl, rfl⟩ : (d' = d2 ∧ nm' = nm2) ∧ ng = ng2 ∧ i = i2 ∧ kd = kd2 ∧ md = md2 ∧ tg = tg2 := by simpa using hx2
    have HF := Lib.hid hf
    clear hf hb hx hx2
    go_wp2_with fail
    refine bodyPost_ret (v := .tuple #[vEn ((d', nm'), ng, i, kd, md, tg), .bool true]) (by simp [results, Tryz.results268, go_sem, vEn, txt, b0, b1, b2, b3, b4, b5, b6]) rfl ?_
    rw [HF.out]
    exact ⟨rfl, below_sets HB.out⟩
  · have HF := Lib.hid hf
    clear hf hb
    go_wp2_with fail
    refine bodyPost_ret (v := .tuple #[vEn noEn, .bool false]) (by simp [results, Tryz.results268, go_sem, vEn, txt, noEn, b0, b1, b2, b3, b4, b5, b6]) rfl ?_
    rw [HF.out]
    exact ⟨rfl, below_sets HB.out⟩
end Go.Proofs.YtoacobcbloljkaaGreatDoor

/-! # WalkKnown: The walks of walk.rest.Get and walk.known. -/
namespace Go.Proofs.YtoacobcbloljkaaGreatDoor
open Go.RowKit

set_option maxRecDepth 100000 in
set_option maxHeartbeats 1000000 in
theorem restGet_any (w : World) (c e h : Nat) (l : List (Key × (En × Int))) (wh : List (Int × Bool)) (clk : Int) (k : Key) (H : CacheAt w c e h l wh clk) :
    Calls Tryz.prog 271 #[.agg #[.pointer (some ⟨c, 0, none⟩)], vKey k] w fun r w' =>
      r = .returned (.tuple #[vEn (k, true, 0, 0, 0, []), .bool ((alGet wh k.1).getD false)]) ∧ Below w.heap.size w w' := by
  obtain ⟨d, nm⟩ := k
  have hw := fun W (HC : CacheAt W c e h l wh clk) => dentWhole_any W c e h l wh clk d HC
  have HW := Lib.hid hw
  have HC := Lib.hid H
  clear hw H
  unfold vKey
  simp only [txt]
  generalize (alGet wh d).getD false = q at *
  go_enter Tryz.func271, Tryz.ntmps271
  go_wp2_with fail
  go_region_with (go_at_call 78; refine (HW.out _ (((HC.out.alloc _).alloc _).alloc _).drew).mono ?_; rintro r w1 ⟨rfl, rfl⟩)
  all_goals
    go_wp2_with fail
    go_frame
    refine bodyPost_ret (v := .tuple #[vEn ((d, nm), true, 0, 0, 0, []), .bool q]) (by simp [results, Tryz.results271, go_sem, vEn, txt]) rfl ⟨rfl, ?_⟩
    exact below_drew ((((Below.refl _ w).alloc (Nat.le_refl _) _).alloc (by simp) _).alloc (by simp; omega) _)

/-- What is known of a key: by fresh entries, by the cache, by whole directories. -/
def knownOf (fresh : List En) (l : List (Key × (En × Int))) (wh : List (Int × Bool)) (k : Key) : Option En :=
  match firstOf fresh k with
  | some x => some x
  | none => match alGet l k with
    | some p => some p.1
    | none => if (alGet wh k.1).getD false = true then some (k, true, 0, 0, 0, []) else none

set_option maxRecDepth 100000 in
set_option maxHeartbeats 1000000 in
theorem known_any (w : World) (b : Nat) (A : Option Addr) (n cp : Nat) (fresh : List En) (c e h : Nat) (l : List (Key × (En × Int))) (wh : List (Int × Bool)) (clk : Int) (k : Key) (hn : n ≤ 17592186044416)
    (hb : w.heap[b]? = some (.cells #[.iface 109 (.slice A n cp), .iface 25 (.pointer (some ⟨c, 0, none⟩)), .iface 111 (.agg #[.pointer (some ⟨c, 0, none⟩)])] 173 (0, 0)))
    (hr : Rd w 7 A n (cEns fresh)) (H : CacheAt w c e h l wh clk) :
    Calls Tryz.prog 65 #[.slice (some ⟨b, 0, none⟩) 3 3, vKey k] w fun r w' =>
      r = .returned (.tuple #[vEn ((knownOf fresh l wh k).getD noEn), .bool (knownOf fresh l wh k).isSome]) ∧ Below w.heap.size w w' := by
  have c0 : w.cell? ⟨b, 0, none⟩ = some (.iface 109 (.slice A n cp)) := by rw [blk_cell hb]; rfl
  have c1 : w.cell? ⟨b, 1, none⟩ = some (.iface 25 (.pointer (some ⟨c, 0, none⟩))) := by rw [blk_cell hb]; rfl
  have c2 : w.cell? ⟨b, 2, none⟩ = some (.iface 111 (.agg #[.pointer (some ⟨c, 0, none⟩)])) := by rw [blk_cell hb]; rfl
  have hlt0 : b < w.heap.size := World.block_lt_of_cell? _ _ c0
  have m1 : ∀ m W, (method (m + 1) 109 (.slice A n cp) "Get").run Tryz.prog W = .ok (268, .slice A n cp) W := fun m W => by kernel_rfl
  have m2 : ∀ m W, (method (m + 1) 25 (.pointer (some ⟨c, 0, none⟩)) "Get").run Tryz.prog W = .ok (74, .pointer (some ⟨c, 0, none⟩)) W := fun m W => by kernel_rfl
  have m3 : ∀ m W, (method (m + 1) 111 (.agg #[.pointer (some ⟨c, 0, none⟩)]) "Get").run Tryz.prog W = .ok (271, .agg #[.pointer (some ⟨c, 0, none⟩)]) W := fun m W => by kernel_rfl
  obtain ⟨d, nm⟩ := k
  have g1 := fun W h => listGet_any A n cp fresh (d, nm) W hn h
  have g2 := fun W h' => dentGet_any W c e h l wh clk (d, nm) h'
  have g3 := fun W h' => restGet_any W c e h l wh clk (d, nm) h'
  have G1 := Lib.hid g1
  have G2 := Lib.hid g2
  have G3 := Lib.hid g3
  have HR := Lib.hid hr
  have HC := Lib.hid H
  have C0 := Lib.hid c0
  have C1 := Lib.hid c1
  have C2 := Lib.hid c2
  clear g1 g2 g3 hr H c0 c1 c2 hb
  unfold vKey at *
  simp only [txt] at *
  go_enter Tryz.func65, Tryz.ntmps65
  go_wp2_with fail
  obtain ⟨w0, hw0⟩ : ∃ w0, w0 = ((w.alloc (.cells #[.int .i64 d, .string ⟨nm.toArray⟩] 32)).alloc (.cells #[.int .i64 0, .string ⟨#[]⟩, .bool false, .int .i64 0, .int .i64 0, .int .i64 0, .string ⟨#[]⟩] 36)) := ⟨_, rfl⟩
  rw [← hw0]
  have k0 : w0.heap[w.heap.size]? = some (.cells #[.int .i64 d, .string ⟨nm.toArray⟩] 32 (0, 0)) := by
    rw [hw0]
    exact (heap_alloc_old _ _ (by simp)).trans (heap_alloc_new _ _)
  have k1 : w0.heap[w.heap.size + 1]? = some (.cells #[.int .i64 0, .string ⟨#[]⟩, .bool false, .int .i64 0, .int .i64 0, .int .i64 0, .string ⟨#[]⟩] 36 (0, 0)) := by
    rw [hw0]
    exact heap_new_at _ _ (by simp)
  have kb : Below w.heap.size w w0 := by
    rw [hw0]
    exact ((Below.refl _ _).alloc (Nat.le_refl _) _).alloc (by simp) _
  have ks : w0.heap.size = w.heap.size + 2 := by rw [hw0]; simp
  have K0 := Lib.hid k0
  have K1 := Lib.hid k1
  have KB := Lib.hid kb
  clear hw0 k0 k1 kb
  go_loopw [12] (fun i wr => ∃ j : Nat, j ≤ 3 ∧ i = .int .i64 j ∧ Below w0.heap.size w0 wr ∧ Hid ((0 < j → firstOf fresh (d, nm) = none) ∧ (1 < j → alGet l (d, nm) = none) ∧ (2 < j → (alGet wh d).getD false = false))) (fun i _ => 3 - (RowKit.intOf i).toNat)
  case atStart => exact ⟨0, by omega, rfl, Below.refl _ _, fun q => absurd q (by omega), fun q => absurd q (by omega), fun q => absurd q (by omega)⟩
  case round =>
    obtain ⟨j, hj, rfl, hbw, hno⟩ := hrel
    have h0 := (hbw.block w.heap.size (by omega)).trans K0.out
    have h1 := (hbw.block (w.heap.size + 1) (by omega)).trans K1.out
    have q0 : wr.cell? ⟨w.heap.size, 0, none⟩ = some (.int .i64 d) := by rw [blk_cell h0]; rfl
    have q1 : wr.cell? ⟨w.heap.size, 1, none⟩ = some (.string ⟨nm.toArray⟩) := by rw [blk_cell h0]; rfl
    have hbb := KB.out.trans (hbw.mono KB.out.size)
    clear h0
    match j, hj with
    | 0, _ =>
      have d0 := (hbb.cell (p := ⟨b, 0, none⟩) hlt0).trans C0.out
      go_wp2_with fail
      refine (G1.out wr (HR.out.below hbb)).mono ?_
      rintro r w1 ⟨rfl, hb1⟩
      have hB := (hb1.block (w.heap.size + 1) (by have := hbw.size; omega)).trans h1
      have hbz := hbb.trans (hb1.mono hbb.size)
      have hbv := hbw.trans (hb1.mono hbw.size)
      have HZ := Lib.hid hbz
      have HW := Lib.hid hbv
      clear hbz hbv
      cases hf : firstOf fresh (d, nm) with
      | some x =>
        obtain ⟨⟨d', nm'⟩, ng, i, kd, md, tg⟩ := x
        simp only [Option.getD_some, Option.isSome_some, vEn, txt]
        have hres : knownOf fresh l wh (d, nm) = some ((d', nm'), ng, i, kd, md, tg) := by unfold knownOf; rw [hf]
        have HF := Lib.hid hres
        clear hres hf hno
        have b0 : w1.cell? ⟨w.heap.size + 1, 0, none⟩ = some (.int .i64 0) := by rw [blk_cell hB]; rfl
        have b1 : w1.cell? ⟨w.heap.size + 1, 1, none⟩ = some (.string ⟨#[]⟩) := by rw [blk_cell hB]; rfl
        have b2 : w1.cell? ⟨w.heap.size + 1, 2, none⟩ = some (.bool false) := by rw [blk_cell hB]; rfl
        have b3 : w1.cell? ⟨w.heap.size + 1, 3, none⟩ = some (.int .i64 0) := by rw [blk_cell hB]; rfl
        have b4 : w1.cell? ⟨w.heap.size + 1, 4, none⟩ = some (.int .i64 0) := by rw [blk_cell hB]; rfl
        have b5 : w1.cell? ⟨w.heap.size + 1, 5, none⟩ = some (.int .i64 0) := by rw [blk_cell hB]; rfl
        have b6 : w1.cell? ⟨w.heap.size + 1, 6, none⟩ = some (.string ⟨#[]⟩) := by rw [blk_cell hB]; rfl
        have bf : ∀ k, w1.frozen? ⟨w.heap.size + 1, k, none⟩ = false := fun k => blk_frozen hB k
        have hsz : w.heap.size + 1 < w1.heap.size := (Array.getElem?_eq_some_iff.1 hB).1
        clear hB hb1
        go_wp2_with fail
        refine bodyPost_ret (v := .tuple #[vEn ((d', nm'), ng, i, kd, md, tg), .bool true]) (by simp [results, Tryz.results65, go_sem, vEn, txt, b0, b1, b2, b3, b4, b5, b6, hsz, World.cell?_alloc_lt]) rfl ?_
        rw [HF.out]
        exact ⟨rfl, (below_sets HZ.out).alloc (by simp; omega) _⟩
      | none =>
        simp only [Option.getD_none, Option.isSome_none, vEn, txt, noEn]
        have HN := Lib.hid hf
        clear hf hno
        clear hB hb1
        go_wp2_with fail
        go_roundw
        case rel => exact ⟨1, by omega, by go_num, HW.out.alloc HW.out.size _, fun _ => HN.out, fun q => absurd q (by omega), fun q => absurd q (by omega)⟩
        case measure => simp [RowKit.intOf] <;> omega
    | 1, _ =>
      have d0 := (hbb.cell (p := ⟨b, 1, none⟩) hlt0).trans C1.out
      go_wp2_with fail
      refine (G2.out wr (HC.out.below hbb)).mono ?_
      rintro r w1 ⟨rfl, hb1⟩
      have hB := (hb1.block (w.heap.size + 1) (by have := hbw.size; omega)).trans h1
      have hbz := hbb.trans (hb1.mono hbb.size)
      have hbv := hbw.trans (hb1.mono hbw.size)
      have HZ := Lib.hid hbz
      have HW := Lib.hid hbv
      clear hbz hbv
      have hf1 := hno.1 (by omega)
      cases hf : alGet l (d, nm) with
      | some x =>
        obtain ⟨⟨⟨d', nm'⟩, ng, i, kd, md, tg⟩, u⟩ := x
        simp only [Option.map_some, Option.getD_some, Option.isSome_some, vEn, txt]
        have hres : knownOf fresh l wh (d, nm) = some ((d', nm'), ng, i, kd, md, tg) := by unfold knownOf; rw [hf1, hf]
        have HF := Lib.hid hres
        clear hres hf hno hf1
        have b0 : w1.cell? ⟨w.heap.size + 1, 0, none⟩ = some (.int .i64 0) := by rw [blk_cell hB]; rfl
        have b1 : w1.cell? ⟨w.heap.size + 1, 1, none⟩ = some (.string ⟨#[]⟩) := by rw [blk_cell hB]; rfl
        have b2 : w1.cell? ⟨w.heap.size + 1, 2, none⟩ = some (.bool false) := by rw [blk_cell hB]; rfl
        have b3 : w1.cell? ⟨w.heap.size + 1, 3, none⟩ = some (.int .i64 0) := by rw [blk_cell hB]; rfl
        have b4 : w1.cell? ⟨w.heap.size + 1, 4, none⟩ = some (.int .i64 0) := by rw [blk_cell hB]; rfl
        have b5 : w1.cell? ⟨w.heap.size + 1, 5, none⟩ = some (.int .i64 0) := by rw [blk_cell hB]; rfl
        have b6 : w1.cell? ⟨w.heap.size + 1, 6, none⟩ = some (.string ⟨#[]⟩) := by rw [blk_cell hB]; rfl
        have bf : ∀ k, w1.frozen? ⟨w.heap.size + 1, k, none⟩ = false := fun k => blk_frozen hB k
        have hsz : w.heap.size + 1 < w1.heap.size := (Array.getElem?_eq_some_iff.1 hB).1
        clear hB hb1
        go_wp2_with fail
        refine bodyPost_ret (v := .tuple #[vEn ((d', nm'), ng, i, kd, md, tg), .bool true]) (by simp [results, Tryz.results65, go_sem, vEn, txt, b0, b1, b2, b3, b4, b5, b6, hsz, World.cell?_alloc_lt]) rfl ?_
        rw [HF.out]
        exact ⟨rfl, (below_sets HZ.out).alloc (by simp; omega) _⟩
      | none =>
        simp only [Option.map_none, Option.getD_none, Option.isSome_none, vEn, txt]
        have HN := Lib.hid hf
        have HN1 := Lib.hid hf1
        clear hf hno hf1
        clear hB hb1
        go_wp2_with fail
        go_roundw
        case rel => exact ⟨2, by omega, by go_num, HW.out.alloc HW.out.size _, fun _ => HN1.out, fun _ => HN.out, fun q => absurd q (by omega)⟩
        case measure => simp [RowKit.intOf] <;> omega
    | 2, _ =>
      have d0 := (hbb.cell (p := ⟨b, 2, none⟩) hlt0).trans C2.out
      go_wp2_with fail
      refine (G3.out wr (HC.out.below hbb)).mono ?_
      rintro r w1 ⟨rfl, hb1⟩
      have hB := (hb1.block (w.heap.size + 1) (by have := hbw.size; omega)).trans h1
      have hbz := hbb.trans (hb1.mono hbb.size)
      have hbv := hbw.trans (hb1.mono hbw.size)
      have HZ := Lib.hid hbz
      have HW := Lib.hid hbv
      clear hbz hbv
      have hf1 := hno.1 (by omega)
      have hf2 := hno.2.1 (by omega)
      cases hf : (alGet wh d).getD false with
      | true =>
        simp only [vEn, txt]
        have hres : knownOf fresh l wh (d, nm) = some ((d, nm), true, 0, 0, 0, []) := by unfold knownOf; rw [hf1, hf2]; simp [hf]
        have HF := Lib.hid hres
        clear hres hf hno hf1 hf2
        have b0 : w1.cell? ⟨w.heap.size + 1, 0, none⟩ = some (.int .i64 0) := by rw [blk_cell hB]; rfl
        have b1 : w1.cell? ⟨w.heap.size + 1, 1, none⟩ = some (.string ⟨#[]⟩) := by rw [blk_cell hB]; rfl
        have b2 : w1.cell? ⟨w.heap.size + 1, 2, none⟩ = some (.bool false) := by rw [blk_cell hB]; rfl
        have b3 : w1.cell? ⟨w.heap.size + 1, 3, none⟩ = some (.int .i64 0) := by rw [blk_cell hB]; rfl
        have b4 : w1.cell? ⟨w.heap.size + 1, 4, none⟩ = some (.int .i64 0) := by rw [blk_cell hB]; rfl
        have b5 : w1.cell? ⟨w.heap.size + 1, 5, none⟩ = some (.int .i64 0) := by rw [blk_cell hB]; rfl
        have b6 : w1.cell? ⟨w.heap.size + 1, 6, none⟩ = some (.string ⟨#[]⟩) := by rw [blk_cell hB]; rfl
        have bf : ∀ k, w1.frozen? ⟨w.heap.size + 1, k, none⟩ = false := fun k => blk_frozen hB k
        have hsz : w.heap.size + 1 < w1.heap.size := (Array.getElem?_eq_some_iff.1 hB).1
        clear hB hb1
        go_wp2_with fail
        refine bodyPost_ret (v := .tuple #[vEn ((d, nm), true, 0, 0, 0, []), .bool true]) (by simp [results, Tryz.results65, go_sem, vEn, txt, b0, b1, b2, b3, b4, b5, b6, hsz, World.cell?_alloc_lt]) rfl ?_
        rw [HF.out]
        exact ⟨rfl, (below_sets HZ.out).alloc (by simp; omega) _⟩
      | false =>
        simp only [vEn, txt]
        have HN := Lib.hid hf
        have HN1 := Lib.hid hf1
        have HN2 := Lib.hid hf2
        clear hf hno hf1 hf2
        clear hB hb1
        go_wp2_with fail
        go_roundw
        case rel => exact ⟨3, by omega, by go_num, HW.out.alloc HW.out.size _, fun _ => HN1.out, fun _ => HN2.out, fun _ => HN.out⟩
        case measure => simp [RowKit.intOf] <;> omega
    | 3, _ =>
      have hf1 := hno.1 (by omega)
      have hf2 := hno.2.1 (by omega)
      have hf3 := hno.2.2 (by omega)
      have hres : knownOf fresh l wh (d, nm) = none := by unfold knownOf; rw [hf1, hf2]; simp [hf3]
      have HF := Lib.hid hres
      have hB := h1
      have HZ := Lib.hid hbb
      clear hres hno hf1 hf2 hf3
      have b0 : wr.cell? ⟨w.heap.size + 1, 0, none⟩ = some (.int .i64 0) := by rw [blk_cell hB]; rfl
      have b1 : wr.cell? ⟨w.heap.size + 1, 1, none⟩ = some (.string ⟨#[]⟩) := by rw [blk_cell hB]; rfl
      have b2 : wr.cell? ⟨w.heap.size + 1, 2, none⟩ = some (.bool false) := by rw [blk_cell hB]; rfl
      have b3 : wr.cell? ⟨w.heap.size + 1, 3, none⟩ = some (.int .i64 0) := by rw [blk_cell hB]; rfl
      have b4 : wr.cell? ⟨w.heap.size + 1, 4, none⟩ = some (.int .i64 0) := by rw [blk_cell hB]; rfl
      have b5 : wr.cell? ⟨w.heap.size + 1, 5, none⟩ = some (.int .i64 0) := by rw [blk_cell hB]; rfl
      have b6 : wr.cell? ⟨w.heap.size + 1, 6, none⟩ = some (.string ⟨#[]⟩) := by rw [blk_cell hB]; rfl
      have bf : ∀ k, wr.frozen? ⟨w.heap.size + 1, k, none⟩ = false := fun k => blk_frozen hB k
      have hsz : w.heap.size + 1 < wr.heap.size := (Array.getElem?_eq_some_iff.1 hB).1
      clear hB h1 hbb
      go_wp2_with fail
      refine bodyPost_ret (v := .tuple #[vEn noEn, .bool false]) (by simp [results, Tryz.results65, go_sem, vEn, txt, noEn, b0, b1, b2, b3, b4, b5, b6]) rfl ?_
      rw [HF.out]
      exact ⟨rfl, below_sets HZ.out⟩
end Go.Proofs.YtoacobcbloljkaaGreatDoor

/-! # WalkSmall: The walks of walk.root, (place).node, (place).up. -/
namespace Go.Proofs.YtoacobcbloljkaaGreatDoor
open Go.RowKit





def rootNd : Nd := (1, 1, 0, [])

set_option maxHeartbeats 400000 in
theorem root_any (w : World) :
    Calls Tryz.prog 62 #[] w fun r w' => r = .returned (.slice (some ⟨w.heap.size, 0, none⟩) 1 1) ∧ w' = w.alloc (.cells #[.int .i64 1, .int .i64 1, .int .i64 0, .string ⟨#[]⟩] 34) := by
  go_enter Tryz.func62, Tryz.ntmps62
  go_wp2_with fail
  go_ret
  exact ⟨rfl, rfl⟩

set_option maxRecDepth 100000 in
set_option maxHeartbeats 400000 in
theorem node_any (A : Option Addr) (m c : Nat) (l : List Nd) (x : Nd) (w : World) (hm : m ≤ 4000000000) (hr : Rd w 4 A (m + 1) (cNds l)) (hx : l[m]? = some x) :
    Calls Tryz.prog 63 #[.slice A (m + 1) c] w fun r w' => r = .returned (vNd x) ∧ Below w.heap.size w w' := by
  obtain ⟨ad, i, kd, md, tg, rfl, hb, hx2, h0, h1, h2, h3⟩ := hr.nd_at (k := m) (by omega)
  rw [hx] at hx2
  injection hx2 with hx2
  subst hx2
  clear hr hx
  have a0 := fun o => cell_alloc_old h0 o
  have a1 := fun o => cell_alloc_old h1 o
  have a2 := fun o => cell_alloc_old h2 o
  have a3 := fun o => cell_alloc_old h3 o
  go_enter Tryz.func63, Tryz.ntmps63
  go_wp2_with fail
  refine bodyPost_ret (v := vNd (i, kd, md, tg)) (by simp [results, Tryz.results63, go_sem, vNd, txt]) rfl ⟨rfl, ?_⟩
  exact (Below.refl _ w).alloc (Nat.le_refl _) _

/-- A list of the call's own, cut at its end. -/
theorem own_cut {w : World} {base e sz n c : Nat} {A : Option Addr} {xs : List Value} (h : w.ownsRow base e sz (.slice A n c) n xs) {m : Nat} (hm : m ≤ n) (h0 : 0 < n) : w.ownsRow base e sz (.slice A m c) m (xs.take (m * sz)) := by
  rcases h with ⟨hl, ⟨_, rfl⟩ | ⟨g, cap, cur, hv, hg, hh, h1, h2, h3, h4⟩⟩
  · omega
  · injection hv with hA _ hc
    subst hA
    subst hc
    have hmn : m * sz ≤ n * sz := Nat.mul_le_mul_right _ hm
    refine ⟨by rw [List.length_take]; omega, .inr ⟨g, c, cur, rfl, hg, hh, by omega, h2, h3, ?_⟩⟩
    rw [← h4, List.take_take]
    congr 1
    omega

set_option maxHeartbeats 400000 in
theorem up_any (g m c : Nat) (w : World) (hm : m ≤ 4000000000) (hc : m + 1 ≤ c) (hcm : c ≤ maxLen) :
    Calls Tryz.prog 64 #[.slice (some ⟨g, 0, none⟩) (m + 1) c] w fun r w' => r = .returned (.slice (some ⟨g, 0, none⟩) (if m = 0 then 1 else m) c) ∧ w = w' := by
  unfold maxLen at hcm
  go_enter Tryz.func64, Tryz.ntmps64
  cases m with
  | zero =>
    go_wp2_with fail
    go_ret
    exact ⟨rfl, rfl⟩
  | succ m =>
    have hmx : max (1 : Int) ((m : Int) + 1) = (m : Int) + 1 := by omega
    go_wp2_with fail
    all_goals
      go_ret
      first
        | exact ⟨rfl, rfl⟩
        | (refine ⟨?_, rfl⟩; simp [hmx]; done)
        | (refine ⟨?_, rfl⟩; obtain rfl : m = 0 := by omega; rfl)
end Go.Proofs.YtoacobcbloljkaaGreatDoor

/-! # WalkMet: The walks of walk.met and of slices.Clone at texts. -/
namespace Go.Proofs.YtoacobcbloljkaaGreatDoor
open Go.RowKit

theorem own_root (w : World) (base : Nat) (hb : base ≤ w.heap.size) :
    (w.alloc (.cells #[.int .i64 1, .int .i64 1, .int .i64 0, .string ⟨#[]⟩] 34)).ownsRow base 34 4 (.slice (some ⟨w.heap.size, 0, none⟩) 1 1) 1 (cNds [rootNd]) :=
  ⟨rfl, .inr ⟨_, 1, _, rfl, hb, heap_alloc_new _ _, Nat.le_refl _, by unfold maxLen; omega, rfl, rfl⟩⟩

set_option maxRecDepth 100000 in
set_option maxHeartbeats 1000000 in
theorem met_any (vat : Value) (A : Option Addr) (n c : Nat) (ls : List (List UInt8)) (dir : Bool) (t : ByteArray) (w : World) (hr : Rd w 1 A n (txts ls)) (hn : n ≤ 4000000000) :
    Calls Tryz.prog 66 #[vat, .slice A n c, .bool dir, .string t] w fun r w' => Below w.heap.size w w' ∧
      (((Nm.targetR t.toList).2.2.2 ≠ 0 ∧ r = .returned (.tuple #[vat, .slice A n c, .bool dir, .int .i64 (Nm.targetR t.toList).2.2.2])) ∨
       ((Nm.targetR t.toList).2.2.2 = 0 ∧ ∃ va v', r = .returned (.tuple #[va, v', .bool (dir || (decide (n = 0) && (Nm.targetR t.toList).2.2.1)), .int .i64 0]) ∧
        ((Nm.targetR t.toList).2.1 = false → va = vat) ∧ ((Nm.targetR t.toList).2.1 = true → w'.ownsRow w.heap.size 34 4 va 1 (cNds [rootNd])) ∧
        w'.ownsRow w.heap.size 9 1 v' ((Nm.targetR t.toList).1.length + n) (txts ((Nm.targetR t.toList).1 ++ ls)))) := by
  have ht := target_text t
  have hl := Nm.targetR_len t.toList
  generalize Nm.targetR t.toList = R at *
  obtain ⟨ts, whole, last, er⟩ := R
  simp only at ht hl
  have HT := Lib.hid ht
  have HR := Lib.hid hr
  clear ht hr
  go_enter Tryz.func66, Tryz.ntmps66
  go_wp2_with fail
  refine (HT.out w).mono ?_
  rintro r w1 ⟨v1, rfl, hown1, hb1⟩
  have HO := Lib.hid hown1
  have HB := Lib.hid hb1
  clear hown1 hb1
  cases he : (er != 0) with
  | true =>
    go_wp2_with fail
    refine bodyPost_ret (results4 rfl _ _ _) rfl ?_
    exact ⟨HB.out, .inl ⟨by simpa using he, rfl⟩⟩
  | false =>
    have h0 : er = 0 := by simpa using he
    subst h0
    have hR1 := Lib.hid (HR.out.below HB.out)
    by_cases hz : n = 0
    · subst hz
      cases whole with
      | false =>
        cases last
        all_goals
          go_wp2_with (first | (go_at_call 62; refine (root_any _).mono ?_; rintro r w2 ⟨rfl, rfl⟩) | (at_builtin; refine wpList_append_rd rfl _ _ rfl elemTexts rfl (by first | exact HO.out | exact HO.out.alloc _) rfl (by first | exact hR1.out | exact hR1.out.alloc _) (txts_one _) ?c1 ?c2 ?c3 ?_; (case c1 => unfold maxLen; omega); (case c2 => omega); (case c3 => have := HB.out.size; simp; omega); intro v' w3 hown3 hg3 hl3))
          rw [← txts_append] at hown3
          have hbw := HB.out.grown hg3 HB.out.size (fun k hk => (HO.out.lt k hk).1)
          refine bodyPost_ret (results4 rfl _ _ _) rfl ?_
          exact ⟨hbw, _, _, rfl, rfl, by simpa using hown3⟩
      | true =>
        cases last
        all_goals
          go_wp2_with (first | (go_at_call 62; refine (root_any _).mono ?_; rintro r w2 ⟨rfl, rfl⟩) | (at_builtin; refine wpList_append_rd rfl _ _ rfl elemTexts rfl (by first | exact HO.out | exact HO.out.alloc _) rfl (by first | exact hR1.out | exact hR1.out.alloc _) (txts_one _) ?c1 ?c2 ?c3 ?_; (case c1 => unfold maxLen; omega); (case c2 => omega); (case c3 => have := HB.out.size; simp; omega); intro v' w3 hown3 hg3 hl3))
          rw [← txts_append] at hown3
          have hbw := (HB.out.alloc HB.out.size _).grown hg3 (by have := HB.out.size; simp; omega) (fun k hk => (HO.out.lt k hk).1)
          have hrt := (own_root w1 w.heap.size HB.out.size).kept hg3 (.inr (fun q => Nat.lt_irrefl _ (HO.out.lt w1.heap.size q.symm).2))
          refine bodyPost_ret (results4 rfl _ _ _) rfl ?_
          exact ⟨hbw, _, _, rfl, hrt, by simpa using hown3⟩
    · cases whole with
      | false =>
        cases last
        all_goals
          go_wp2_with (first | (go_at_call 62; refine (root_any _).mono ?_; rintro r w2 ⟨rfl, rfl⟩) | (at_builtin; refine wpList_append_rd rfl _ _ rfl elemTexts rfl (by first | exact HO.out | exact HO.out.alloc _) rfl (by first | exact hR1.out | exact hR1.out.alloc _) (txts_one _) ?c1 ?c2 ?c3 ?_; (case c1 => unfold maxLen; omega); (case c2 => omega); (case c3 => have := HB.out.size; simp; omega); intro v' w3 hown3 hg3 hl3))
          rw [← txts_append] at hown3
          have hbw := HB.out.grown hg3 HB.out.size (fun k hk => (HO.out.lt k hk).1)
          refine bodyPost_ret (results4 rfl _ _ _) rfl ?_
          exact ⟨hbw, _, _, rfl, rfl, by simpa using hown3⟩
      | true =>
        cases last
        all_goals
          go_wp2_with (first | (go_at_call 62; refine (root_any _).mono ?_; rintro r w2 ⟨rfl, rfl⟩) | (at_builtin; refine wpList_append_rd rfl _ _ rfl elemTexts rfl (by first | exact HO.out | exact HO.out.alloc _) rfl (by first | exact hR1.out | exact hR1.out.alloc _) (txts_one _) ?c1 ?c2 ?c3 ?_; (case c1 => unfold maxLen; omega); (case c2 => omega); (case c3 => have := HB.out.size; simp; omega); intro v' w3 hown3 hg3 hl3))
          rw [← txts_append] at hown3
          have hbw := (HB.out.alloc HB.out.size _).grown hg3 (by have := HB.out.size; simp; omega) (fun k hk => (HO.out.lt k hk).1)
          have hrt := (own_root w1 w.heap.size HB.out.size).kept hg3 (.inr (fun q => Nat.lt_irrefl _ (HO.out.lt w1.heap.size q.symm).2))
          refine bodyPost_ret (results4 rfl _ _ _) rfl ?_
          exact ⟨hbw, _, _, rfl, hrt, by simpa using hown3⟩


set_option maxHeartbeats 1000000 in
theorem cloneTexts_any (A : Option Addr) (n c : Nat) (ls : List (List UInt8)) (w : World) (hr : Rd w 1 A n (txts ls)) (hn : n ≤ 8796093022208) :
    Calls Tryz.prog 61 #[.slice A n c] w fun r w' => ∃ v, r = .returned v ∧ w'.ownsRow w.heap.size 9 1 v n (txts ls) ∧ Below w.heap.size w w' := by
  have qT : ∀ (w : World) (a : Option Addr) (n c n' c' : Nat), (binOp .eql 24 (.slice a n c) (.slice none n' c')).run Tryz.prog w = .ok (.bool a.isNone) w := fun w a n c n' c' => Lib.run_eql_slice_nil w _ _ a n c n' c' Tryz.underlying24
  have HR := Lib.hid hr
  clear hr
  go_enter Tryz.func61, Tryz.ntmps61
  cases A with
  | none =>
    have h0 : n = 0 := by
      by_cases h : 0 < n
      · obtain ⟨ad, e, _⟩ := HR.out.2 h
        cases e
      · omega
    subst h0
    have hls : txts ls = [] := List.eq_nil_of_length_eq_zero (by simpa using HR.out.1)
    go_wp2_with fail
    go_ret
    refine ⟨_, rfl, ?_, Below.refl _ _⟩
    rw [hls]
    exact World.ownsRow_nil _ _ _ _
  | some ad =>
    go_wp2_with (at_builtin; refine wpList_append_rd rfl _ _ rfl elemTexts rfl (own_none w w.heap.size 9 (Nat.le_refl _)) rfl (HR.out.alloc _) (txts_one _) ?c1 ?c2 ?c3 ?_; (case c1 => unfold maxLen; omega); (case c2 => omega); (case c3 => simp); intro v' w3 hown3 hg3 hl3)
    go_ret
    refine ⟨_, rfl, by simpa using hown3, ((Below.refl _ w).alloc (Nat.le_refl _) _).grown hg3 (by simp) (fun k hk => ?_)⟩
    injection hk with hk
    subst hk
    exact Nat.le_refl _
end Go.Proofs.YtoacobcbloljkaaGreatDoor

/-! # WalkSpec: What a walk comes to, in plain words: components one by one, links in their place. No program in it. -/
namespace Go.Proofs.YtoacobcbloljkaaGreatDoor
namespace Wk

/-- need, key, error, node, used keys. -/
abbrev Out := Bool × Key × Int × Nd × List Key

def noKey : Key := (0, [])
def noNd : Nd := (0, 0, 0, [])
def fail (e : Int) (used : List Key) : Out := (false, noKey, e, noNd, used)
def lastNd (way : List Nd) : Nd := way.getLastD noNd
def up (way : List Nd) : List Nd := if way.length ≤ 1 then way else way.dropLast

def steps (kn : Key → Option En) (follow : Bool) : Nat → List (List UInt8) → List Nd → Bool → List Key → Out
  | _, [], way, dir, used => if dir = true ∧ (lastNd way).2.1 ≠ 1 then fail 42 used else (false, noKey, 0, lastNd way, used)
  | links, s :: todo, way, dir, used =>
    if (lastNd way).2.1 ≠ 1 then fail 42 used
    else if s = [46, 46] then steps kn follow links todo (up way) dir used
    else if s = [46] then steps kn follow links todo way dir used
    else match kn ((lastNd way).1, s) with
      | none => (true, ((lastNd way).1, s), 0, noNd, used)
      | some x =>
        if x.2.1 = true then fail 40 (used ++ [((lastNd way).1, s)])
        else if x.2.2.2.1 ≠ 3 ∨ (todo = [] ∧ dir = false ∧ follow = false) then steps kn follow links todo (way ++ [x.2.2]) dir (used ++ [((lastNd way).1, s)])
        else match links with
          | 0 => fail 49 (used ++ [((lastNd way).1, s)])
          | links + 1 =>
            if (Nm.targetR x.2.2.2.2.2).2.2.2 ≠ 0 then fail (Nm.targetR x.2.2.2.2.2).2.2.2 (used ++ [((lastNd way).1, s)])
            else steps kn follow links ((Nm.targetR x.2.2.2.2.2).1 ++ todo) (if (Nm.targetR x.2.2.2.2.2).2.1 = true then [rootNd] else way)
              (dir || (decide (todo = []) && (Nm.targetR x.2.2.2.2.2).2.2.1)) (used ++ [((lastNd way).1, s)])
termination_by links todo => (links, todo.length)

theorem lastNd_at {wl : List Nd} {k : Nat} {x : Nd} (hl : wl.length = k + 1) (hx : wl[k]? = some x) : lastNd wl = x := by
  unfold lastNd
  rw [List.getLastD_eq_getLast?, List.getLast?_eq_getElem?, hl, Nat.add_sub_cancel, hx]
  rfl

theorem steps_notdir (kn : Key → Option En) (follow : Bool) (links : Nat) (s : List UInt8) (todo : List (List UInt8)) {way : List Nd} (dir : Bool) (used : List Key) {x : Nd} (hx : lastNd way = x) (hk : x.2.1 ≠ 1) :
    steps kn follow links (s :: todo) way dir used = fail 42 used := by
  subst hx
  rw [steps, if_pos hk]

theorem steps_up (kn : Key → Option En) (follow : Bool) (links : Nat) (todo : List (List UInt8)) {way : List Nd} (dir : Bool) (used : List Key) {x : Nd} (hx : lastNd way = x) (hk : x.2.1 = 1) :
    steps kn follow links ([46, 46] :: todo) way dir used = steps kn follow links todo (up way) dir used := by
  subst hx
  rw [steps, if_neg (by simp [hk]), if_pos rfl]

theorem steps_dot (kn : Key → Option En) (follow : Bool) (links : Nat) (todo : List (List UInt8)) {way : List Nd} (dir : Bool) (used : List Key) {x : Nd} (hx : lastNd way = x) (hk : x.2.1 = 1) :
    steps kn follow links ([46] :: todo) way dir used = steps kn follow links todo way dir used := by
  subst hx
  rw [steps, if_neg (by simp [hk]), if_neg (by decide), if_pos rfl]

/-- The step at a name. -/
theorem steps_name (kn : Key → Option En) (follow : Bool) (links : Nat) {s : List UInt8} (todo : List (List UInt8)) {way : List Nd} (dir : Bool) (used : List Key) {x : Nd} (hx : lastNd way = x) (hk : x.2.1 = 1) (h1 : s ≠ [46, 46]) (h2 : s ≠ [46]) :
    steps kn follow links (s :: todo) way dir used = match kn (x.1, s) with
      | none => (true, (x.1, s), 0, noNd, used)
      | some y =>
        if y.2.1 = true then fail 40 (used ++ [(x.1, s)])
        else if y.2.2.2.1 ≠ 3 ∨ (todo = [] ∧ dir = false ∧ follow = false) then steps kn follow links todo (way ++ [y.2.2]) dir (used ++ [(x.1, s)])
        else match links with
          | 0 => fail 49 (used ++ [(x.1, s)])
          | links + 1 =>
            if (Nm.targetR y.2.2.2.2.2).2.2.2 ≠ 0 then fail (Nm.targetR y.2.2.2.2.2).2.2.2 (used ++ [(x.1, s)])
            else steps kn follow links ((Nm.targetR y.2.2.2.2.2).1 ++ todo) (if (Nm.targetR y.2.2.2.2.2).2.1 = true then [rootNd] else way)
              (dir || (decide (todo = []) && (Nm.targetR y.2.2.2.2.2).2.2.1)) (used ++ [(x.1, s)]) := by
  subst hx
  rw [steps, if_neg (by simp [hk]), if_neg h1, if_neg h2]

/-- A walk of a raw path. -/
def walk (kn : Key → Option En) (path : List UInt8) (follow : Bool) (links : Nat) : Out :=
  if (Nm.splitR path).2.2 ≠ 0 then fail (Nm.splitR path).2.2 []
  else steps kn follow links (Nm.splitR path).1 [rootNd] (Nm.splitR path).2.1 []
end Wk
end Go.Proofs.YtoacobcbloljkaaGreatDoor

/-! # StepsAt: The walk of walk.Steps: first part: what stands in the frame and in memory at its labels. -/
namespace Go.Proofs.YtoacobcbloljkaaGreatDoor
open Go.RowKit


def outCells (o : Wk.Out) (v : Value) : List Value := [.bool o.1, .int .i64 o.2.1.1, txt o.2.1.2, .int .i64 o.2.2.1, .int .i64 o.2.2.2.1.1, .int .i64 o.2.2.2.1.2.1, .int .i64 o.2.2.2.1.2.2.1, txt o.2.2.2.1.2.2.2, v]
def vOut (o : Wk.Out) (v : Value) : Value := .agg (outCells o v).toArray
def out0 (used : List Key) : Wk.Out := (false, (0, []), 0, (0, 0, 0, []), used)

/-- What a walk hands back. -/
def OutPost (w : World) (o : Wk.Out) (r : Ending) (w' : World) : Prop :=
  ∃ v, r = .returned (vOut o v) ∧ w'.ownsRow w.heap.size 32 2 v o.2.2.2.2.length (cKeys o.2.2.2.2) ∧ Below w.heap.size w w'

/-- The frame of walk.Steps at its labels. -/
def StF (c n cp m cq r b : Nat) (A B : Option Addr) (follow dir : Bool) (L : Int) (todo way ok : Value) (a : Act) : Prop :=
  ∃ us : Nat → Value, a = { tmps := #[.pointer (some ⟨c, 0, none⟩), .slice A n cp, .slice B m cq, .bool dir, .bool follow, .int .i64 L, undef, undef, undef, undef, undef, undef, .pointer (some ⟨r, 0, none⟩), todo, .slice (some ⟨b, 0, none⟩) 3 3, way, .pointer (some ⟨b + 1 + 1, 0, none⟩), .pointer (some ⟨b + 1 + 1 + 1, 0, none⟩), .pointer (some ⟨b + 1 + 1 + 1 + 1, 0, none⟩), ok, us 0, us 1, us 2, us 3, us 4, us 5, us 6, us 7, us 8, us 9, us 10, us 11, us 12, us 13, us 14, us 15, us 16, us 17, us 18, us 19, us 20, us 21, us 22, us 23, us 24, us 25, us 26, us 27, us 28, us 29, us 30, us 31, us 32, us 33, us 34, us 35, us 36, us 37, us 38, us 39, us 40, us 41, us 42, us 43, us 44, us 45, us 46, us 47, us 48, us 49, us 50, us 51, us 52, us 53, us 54, us 55, us 56, us 57, us 58, us 59, us 60, us 61, us 62, us 63, us 64, us 65, us 66, us 67, us 68, us 69, us 70, us 71, us 72, us 73, us 74, us 75, us 76, us 77, us 78, us 79, us 80, us 81, us 82, us 83, us 84, us 85, us 86, us 87, us 88, us 89, us 90, us 91, us 92, us 93, us 94, us 95, us 96, us 97, us 98, us 99, us 100, us 101, us 102, us 103, us 104, us 105, us 106, us 107, us 108, us 109, us 110, us 111, us 112, us 113, us 114, us 115, us 116, us 117, us 118, us 119, us 120, us 121, us 122], defers := [] }

set_option maxRecDepth 100000 in
theorem StF.of {c n cp m cq r b : Nat} {A B : Option Addr} {follow dir : Bool} {L : Int} {todo way ok : Value} {u20 u21 u22 u23 u24 u25 u26 u27 u28 u29 u30 u31 u32 u33 u34 u35 u36 u37 u38 u39 u40 u41 u42 u43 u44 u45 u46 u47 u48 u49 u50 u51 u52 u53 u54 u55 u56 u57 u58 u59 u60 u61 u62 u63 u64 u65 u66 u67 u68 u69 u70 u71 u72 u73 u74 u75 u76 u77 u78 u79 u80 u81 u82 u83 u84 u85 u86 u87 u88 u89 u90 u91 u92 u93 u94 u95 u96 u97 u98 u99 u100 u101 u102 u103 u104 u105 u106 u107 u108 u109 u110 u111 u112 u113 u114 u115 u116 u117 u118 u119 u120 u121 u122 u123 u124 u125 u126 u127 u128 u129 u130 u131 u132 u133 u134 u135 u136 u137 u138 u139 u140 u141 u142 : Value} :
    StF c n cp m cq r b A B follow dir L todo way ok { tmps := #[.pointer (some ⟨c, 0, none⟩), .slice A n cp, .slice B m cq, .bool dir, .bool follow, .int .i64 L, undef, undef, undef, undef, undef, undef, .pointer (some ⟨r, 0, none⟩), todo, .slice (some ⟨b, 0, none⟩) 3 3, way, .pointer (some ⟨b + 1 + 1, 0, none⟩), .pointer (some ⟨b + 1 + 1 + 1, 0, none⟩), .pointer (some ⟨b + 1 + 1 + 1 + 1, 0, none⟩), ok, u20, u21, u22, u23, u24, u25, u26, u27, u28, u29, u30, u31, u32, u33, u34, u35, u36, u37, u38, u39, u40, u41, u42, u43, u44, u45, u46, u47, u48, u49, u50, u51, u52, u53, u54, u55, u56, u57, u58, u59, u60, u61, u62, u63, u64, u65, u66, u67, u68, u69, u70, u71, u72, u73, u74, u75, u76, u77, u78, u79, u80, u81, u82, u83, u84, u85, u86, u87, u88, u89, u90, u91, u92, u93, u94, u95, u96, u97, u98, u99, u100, u101, u102, u103, u104, u105, u106, u107, u108, u109, u110, u111, u112, u113, u114, u115, u116, u117, u118, u119, u120, u121, u122, u123, u124, u125, u126, u127, u128, u129, u130, u131, u132, u133, u134, u135, u136, u137, u138, u139, u140, u141, u142], defers := [] } := ⟨fun i => [u20, u21, u22, u23, u24, u25, u26, u27, u28, u29, u30, u31, u32, u33, u34, u35, u36, u37, u38, u39, u40, u41, u42, u43, u44, u45, u46, u47, u48, u49, u50, u51, u52, u53, u54, u55, u56, u57, u58, u59, u60, u61, u62, u63, u64, u65, u66, u67, u68, u69, u70, u71, u72, u73, u74, u75, u76, u77, u78, u79, u80, u81, u82, u83, u84, u85, u86, u87, u88, u89, u90, u91, u92, u93, u94, u95, u96, u97, u98, u99, u100, u101, u102, u103, u104, u105, u106, u107, u108, u109, u110, u111, u112, u113, u114, u115, u116, u117, u118, u119, u120, u121, u122, u123, u124, u125, u126, u127, u128, u129, u130, u131, u132, u133, u134, u135, u136, u137, u138, u139, u140, u141, u142].getD i undef, rfl⟩


def srcs (A : Option Addr) (n cp c : Nat) : List Value := [.iface 109 (.slice A n cp), .iface 25 (.pointer (some ⟨c, 0, none⟩)), .iface 111 (.agg #[.pointer (some ⟨c, 0, none⟩)])]

def sliceLen : Value → Nat
  | .slice _ n _ => n
  | _ => 0

theorem info_out : (Tryz.prog.info? 40).map (·.size) = some 9 := by kernel_rfl
theorem info_entry : (Tryz.prog.info? 36).map (·.size) = some 7 := by kernel_rfl
theorem info_node : (Tryz.prog.info? 34).map (·.size) = some 4 := by kernel_rfl

/-- None of the blocks of Steps's own variables. -/
def Free (r b k : Nat) : Prop := k ≠ r ∧ k ≠ b ∧ k ≠ b + 1 + 1 ∧ k ≠ b + 1 + 1 + 1 ∧ k ≠ b + 1 + 1 + 1 + 1

/-- The memory of walk.Steps at its labels. -/
structure StW (w0 : World) (b : Nat) (A : Option Addr) (n cp c : Nat) (Ta : Option Addr) (ct g cw : Nat) (Au : Option Addr) (nu cu : Nat) (tl : List (List UInt8)) (wl : List Nd) (used : List Key) (w : World) : Prop where
  blw : Below w0.heap.size w0 w
  hb : w0.heap.size < b
  hr : At w w0.heap.size 40 (outCells (out0 []) (.slice none 0 0))
  hs : At w b 173 (srcs A n cp c)
  ho : At w (b + 1 + 1) 40 (outCells (out0 []) (.slice Au nu cu))
  hh : ∃ k : Key, At w (b + 1 + 1 + 1) 32 (cKey k)
  hx : ∃ x : En, At w (b + 1 + 1 + 1 + 1) 36 (cEn x)
  us : w.ownsRow w0.heap.size 32 2 (.slice Au nu cu) used.length (cKeys used)
  uf : ∀ k, (Value.slice Au nu cu).ownBlock = some k → Free w0.heap.size b k ∧ k ≠ g ∧ ∀ ad, Ta = some ad → ad.block ≠ k
  td : Rd w 1 Ta tl.length (txts tl)
  tc : tl.length ≤ ct ∧ ct ≤ maxLen
  tq : ∀ ad, Ta = some ad → ad.block < w.heap.size
  tf : ∀ ad, Ta = some ad → Free w0.heap.size b ad.block ∧ ad.block ≠ g
  wy : w.ownsRow w0.heap.size 34 4 (.slice (some ⟨g, 0, none⟩) wl.length cw) wl.length (cNds wl)
  wf : Free w0.heap.size b g

section
variable {w0 : World} {b : Nat} {A : Option Addr} {n cp c : Nat} {Ta : Option Addr} {ct g cw : Nat} {Au : Option Addr} {nu cu : Nat} {tl : List (List UInt8)} {wl : List Nd} {used : List Key} {w w' : World}

theorem Rd.mk0 (w : World) (sz : Nat) (A : Option Addr) : Rd w sz A ([] : List (List UInt8)).length (txts []) := ⟨by simp [txts], fun h => absurd h (by simp)⟩

theorem StW.keep (H : StW w0 b A n cp c Ta ct g cw Au nu cu tl wl used w) (k : Kp (fun k => k ≠ b + 1 + 1 + 1 ∧ k ≠ b + 1 + 1 + 1 + 1) w w')
    (hh : ∃ k : Key, At w' (b + 1 + 1 + 1) 32 (cKey k)) (hx : ∃ x : En, At w' (b + 1 + 1 + 1 + 1) 36 (cEn x)) : StW w0 b A n cp c Ta ct g cw Au nu cu tl wl used w' := by
  have hb := H.hb
  refine ⟨H.blw.trans (k.to_below (H.blw.size) (fun j hj => ⟨by omega, by omega⟩)), hb, ?_, ?_, ?_, hh, hx, ?_, H.uf, ?_, H.tc, fun ad e => Nat.lt_of_lt_of_le (H.tq ad e) k.size, H.tf, ?_, H.wf⟩
  · exact H.hr.kp k ⟨by omega, by omega⟩
  · exact H.hs.kp k ⟨by omega, by omega⟩
  · exact H.ho.kp k ⟨by omega, by omega⟩
  · exact own_kp H.us k fun j hj => by have := (H.uf j hj).1; exact ⟨this.2.2.2.1, this.2.2.2.2⟩
  · exact H.td.kp k fun ad e => by have := (H.tf ad e).1; exact ⟨this.2.2.2.1, this.2.2.2.2⟩
  · exact own_kp H.wy k fun j hj => by injection hj with hj; subst hj; exact ⟨H.wf.2.2.2.1, H.wf.2.2.2.2⟩

theorem StW.below (H : StW w0 b A n cp c Ta ct g cw Au nu cu tl wl used w) (k : Below w.heap.size w w') : StW w0 b A n cp c Ta ct g cw Au nu cu tl wl used w' := by
  obtain ⟨q, hq⟩ := H.hh
  obtain ⟨x, hx⟩ := H.hx
  exact H.keep (Kp.of_below k) ⟨q, hq.below k⟩ ⟨x, hx.below k⟩

theorem StW.drew (H : StW w0 b A n cp c Ta ct g cw Au nu cu tl wl used w) : StW w0 b A n cp c Ta ct g cw Au nu cu tl wl used w.drew :=
  H.keep (Kp.refl _ w).drew H.hh H.hx

theorem StW.putKey (H : StW w0 b A n cp c Ta ct g cw Au nu cu tl wl used w) (d : Int) (sb : ByteArray) :
    StW w0 b A n cp c Ta ct g cw Au nu cu tl wl used ((w.setCell ⟨b + 1 + 1 + 1, 0, none⟩ (.int .i64 d)).setCell ⟨b + 1 + 1 + 1, 1, none⟩ (.string sb)) ∧
      At ((w.setCell ⟨b + 1 + 1 + 1, 0, none⟩ (.int .i64 d)).setCell ⟨b + 1 + 1 + 1, 1, none⟩ (.string sb)) (b + 1 + 1 + 1) 32 [.int .i64 d, .string sb] := by
  obtain ⟨k, hk⟩ := H.hh
  obtain ⟨x, hx⟩ := H.hx
  have h2 := (hk.setCell 0 (.int .i64 d)).setCell 1 (.string sb)
  refine ⟨H.keep (((Kp.refl _ w).setCell (p := ⟨b + 1 + 1 + 1, 0, none⟩) (fun _ q => q.1 rfl) _).setCell (p := ⟨b + 1 + 1 + 1, 1, none⟩) (fun _ q => q.1 rfl) _) ⟨(d, sb.toList), ?_⟩ ⟨x, (hx.setOther 0 _ (by omega)).setOther 1 _ (by omega)⟩, h2⟩
  unfold cKey
  rw [txt_toList]
  exact h2

/-- todo = todo[1:]. -/
theorem StW.tail {s : List UInt8} {ad : Addr} (H : StW w0 b A n cp c (some ad) ct g cw Au nu cu (s :: tl) wl used w) :
    (ct = 1 → StW w0 b A n cp c (some ad) 0 g cw Au nu cu tl wl used w) ∧ (ct ≠ 1 → StW w0 b A n cp c (some (ad.add 1)) (ct - 1) g cw Au nu cu tl wl used w) := by
  have hc := H.tc
  rw [List.length_cons] at hc
  have ht := H.td
  constructor
  · intro h1
    have hl : tl = [] := List.eq_nil_of_length_eq_zero (by omega)
    subst hl
    exact ⟨H.blw, H.hb, H.hr, H.hs, H.ho, H.hh, H.hx, H.us, H.uf, Rd.mk0 _ _ _, ⟨Nat.le_refl _, Nat.zero_le _⟩, H.tq, H.tf, H.wy, H.wf⟩
  · intro h1
    refine ⟨H.blw, H.hb, H.hr, H.hs, H.ho, H.hh, H.hx, H.us, fun k hk => ?_, ?_, ⟨by omega, by omega⟩, fun a ha => (by injection ha with ha; subst ha; rw [add_block]; exact H.tq ad rfl), fun a ha => ?_, H.wy, H.wf⟩
    · obtain ⟨q1, q2, q3⟩ := H.uf k hk
      exact ⟨q1, q2, fun a ha => by injection ha with ha; subst ha; rw [add_block]; exact q3 ad rfl⟩
    · refine ⟨by simp [txts_length], fun hn => ?_⟩
      obtain ⟨ad', e, hb, hcl⟩ := ht.2 (by simp)
      injection e with e
      subst e
      refine ⟨_, rfl, by rw [add_block]; exact hb, fun j u hu => ?_⟩
      rw [add_assoc_, Nat.add_comm]
      exact hcl (j + 1) u (by simpa [txts] using hu)
    · injection ha with ha
      subst ha
      rw [add_block]
      exact H.tf ad rfl

/-- at = at.up(). -/
theorem StW.up (H : StW w0 b A n cp c Ta ct g cw Au nu cu tl wl used w) {k : Nat} (hk : wl.length = k + 1) :
    StW w0 b A n cp c Ta ct g cw Au nu cu tl (Wk.up wl) used w ∧ (Wk.up wl).length = if k = 0 then 1 else k := by
  have hl : (Wk.up wl).length = if k = 0 then 1 else k := by
    unfold Wk.up
    by_cases h0 : k = 0
    · rw [if_pos (by omega), if_pos h0]; omega
    · rw [if_neg (by omega), if_neg h0, List.length_dropLast]; omega
  refine ⟨⟨H.blw, H.hb, H.hr, H.hs, H.ho, H.hh, H.hx, H.us, H.uf, H.td, H.tc, H.tq, H.tf, ?_, H.wf⟩, hl⟩
  have hw := H.wy
  unfold Wk.up
  by_cases h0 : k = 0
  · rw [if_pos (by omega)]
    exact hw
  · rw [if_neg (by omega), List.length_dropLast, hk, Nat.add_sub_cancel]
    rw [hk] at hw
    have hc := own_cut hw (m := k) (by omega) (by omega)
    have e : cNds wl.dropLast = (cNds wl).take (k * 4) := by
      have hne : wl ≠ [] := by intro q; subst q; simp at hk
      obtain ⟨x, hs⟩ : ∃ x, wl = wl.dropLast ++ [x] := ⟨wl.getLast hne, (List.dropLast_concat_getLast hne).symm⟩
      have hld : (cNds wl.dropLast).length = k * 4 := by rw [cNds_length, List.length_dropLast, hk, Nat.add_sub_cancel]
      have hap : cNds wl = cNds wl.dropLast ++ cNds [x] := by
        conv => lhs; rw [hs]
        simp [cNds]
      rw [hap, List.take_left' hld]
    rw [e]
    exact hc

/-- x = known(..): the entry is put. -/
theorem StW.putX (H : StW w0 b A n cp c Ta ct g cw Au nu cu tl wl used w) (y : En) (hk : Kp (fun k => k ≠ b + 1 + 1 + 1 + 1) w w') (hx : At w' (b + 1 + 1 + 1 + 1) 36 (cEn y)) :
    StW w0 b A n cp c Ta ct g cw Au nu cu tl wl used w' := by
  obtain ⟨q, hq⟩ := H.hh
  exact H.keep (hk.mono fun j _ h => h.2) ⟨q, hq.kp hk (by omega)⟩ ⟨y, hx⟩

/-- What is read of out and of the result's cells. -/
theorem StW.o (H : StW w0 b A n cp c Ta ct g cw Au nu cu tl wl used w) :
    w.cell? ⟨b + 1 + 1, 0, none⟩ = some (.bool false) ∧ w.cell? ⟨b + 1 + 1, 1, none⟩ = some (.int .i64 0) ∧ w.cell? ⟨b + 1 + 1, 2, none⟩ = some (.string ⟨#[]⟩) ∧ w.cell? ⟨b + 1 + 1, 3, none⟩ = some (.int .i64 0) ∧
    w.cell? ⟨b + 1 + 1, 4, none⟩ = some (.int .i64 0) ∧ w.cell? ⟨b + 1 + 1, 5, none⟩ = some (.int .i64 0) ∧ w.cell? ⟨b + 1 + 1, 6, none⟩ = some (.int .i64 0) ∧ w.cell? ⟨b + 1 + 1, 7, none⟩ = some (.string ⟨#[]⟩) ∧ w.cell? ⟨b + 1 + 1, 8, none⟩ = some (.slice Au nu cu) ∧
    (∀ j, w.frozen? ⟨b + 1 + 1, j, none⟩ = false) := by
  have h := H.ho
  refine ⟨?_, ?_, ?_, ?_, ?_, ?_, ?_, ?_, ?_, fun j => h.frozen j⟩
  all_goals
    rw [h.cell]
    rfl

theorem StW.r (H : StW w0 b A n cp c Ta ct g cw Au nu cu tl wl used w) :
    w.cell? ⟨w0.heap.size, 0, none⟩ = some (.bool false) ∧ w.cell? ⟨w0.heap.size, 1, none⟩ = some (.int .i64 0) ∧ w.cell? ⟨w0.heap.size, 2, none⟩ = some (.string ⟨#[]⟩) ∧ w.cell? ⟨w0.heap.size, 3, none⟩ = some (.int .i64 0) ∧
    w.cell? ⟨w0.heap.size, 4, none⟩ = some (.int .i64 0) ∧ w.cell? ⟨w0.heap.size, 5, none⟩ = some (.int .i64 0) ∧ w.cell? ⟨w0.heap.size, 6, none⟩ = some (.int .i64 0) ∧ w.cell? ⟨w0.heap.size, 7, none⟩ = some (.string ⟨#[]⟩) ∧ w.cell? ⟨w0.heap.size, 8, none⟩ = some (.slice none 0 0) ∧
    (∀ j, w.frozen? ⟨w0.heap.size, j, none⟩ = false) := by
  have h := H.hr
  refine ⟨?_, ?_, ?_, ?_, ?_, ?_, ?_, ?_, ?_, fun j => h.frozen j⟩
  all_goals
    rw [h.cell]
    rfl

theorem StW.h (H : StW w0 b A n cp c Ta ct g cw Au nu cu tl wl used w) :
    ∃ k : Key, w.cell? ⟨b + 1 + 1 + 1, 0, none⟩ = some (.int .i64 k.1) ∧ w.cell? ⟨b + 1 + 1 + 1, 1, none⟩ = some (.string ⟨k.2.toArray⟩) ∧ (∀ j, w.frozen? ⟨b + 1 + 1 + 1, j, none⟩ = false) := by
  obtain ⟨k, h⟩ := H.hh
  refine ⟨k, ?_, ?_, fun j => h.frozen j⟩
  all_goals
    rw [h.cell]
    rfl

theorem StW.x (H : StW w0 b A n cp c Ta ct g cw Au nu cu tl wl used w) :
    ∃ (d : Int) (nm : List UInt8) (ng : Bool) (i kd md : Int) (tg : List UInt8),
      w.cell? ⟨b + 1 + 1 + 1 + 1, 0, none⟩ = some (.int .i64 d) ∧ w.cell? ⟨b + 1 + 1 + 1 + 1, 1, none⟩ = some (.string ⟨nm.toArray⟩) ∧ w.cell? ⟨b + 1 + 1 + 1 + 1, 2, none⟩ = some (.bool ng) ∧ w.cell? ⟨b + 1 + 1 + 1 + 1, 3, none⟩ = some (.int .i64 i) ∧
      w.cell? ⟨b + 1 + 1 + 1 + 1, 4, none⟩ = some (.int .i64 kd) ∧ w.cell? ⟨b + 1 + 1 + 1 + 1, 5, none⟩ = some (.int .i64 md) ∧ w.cell? ⟨b + 1 + 1 + 1 + 1, 6, none⟩ = some (.string ⟨tg.toArray⟩) ∧ (∀ j, w.frozen? ⟨b + 1 + 1 + 1 + 1, j, none⟩ = false) := by
  obtain ⟨⟨⟨d, nm⟩, ng, i, kd, md, tg⟩, h⟩ := H.hx
  refine ⟨d, nm, ng, i, kd, md, tg, ?_, ?_, ?_, ?_, ?_, ?_, ?_, fun j => h.frozen j⟩
  all_goals
    rw [h.cell]
    rfl

/-- At the end. -/
theorem StW.done (H : StW w0 b A n cp c Ta ct g cw Au nu cu tl wl used w) (k : Kp (Free w0.heap.size b) w w') : w'.ownsRow w0.heap.size 32 2 (.slice Au nu cu) used.length (cKeys used) ∧ Below w0.heap.size w0 w' := by
  have hb := H.hb
  exact ⟨own_kp H.us k fun j hj => (H.uf j hj).1, H.blw.trans (k.to_below H.blw.size (fun j hj => by unfold Free; omega))⟩
end

theorem info_nodes : (Tryz.prog.info? 34).map (fun i => (i.zero, i.size, i.bytes)) = some (some (.agg #[.int .i64 0, .int .i64 0, .int .i64 0, .string ByteArray.empty]), 4, 40) := by kernel_rfl
theorem elemPlace : Elem Tryz.prog 113 34 4 40 := Elem.mk_ Tryz.underlying113 info_nodes rfl (by decide)







section
variable {w0 : World} {b : Nat} {A : Option Addr} {n cp c : Nat} {Ta : Option Addr} {ct g cw : Nat} {Au : Option Addr} {nu cu : Nat} {tl : List (List UInt8)} {wl : List Nd} {used : List Key} {w w3 : World}

theorem StW.lts (H : StW w0 b A n cp c Ta ct g cw Au nu cu tl wl used w) (hk : wl ≠ []) : w0.heap.size < w.heap.size ∧ b < w.heap.size ∧ b + 1 + 1 < w.heap.size ∧ b + 1 + 1 + 1 < w.heap.size ∧ b + 1 + 1 + 1 + 1 < w.heap.size ∧ g < w.heap.size := by
  obtain ⟨q, hq⟩ := H.hh
  obtain ⟨x, hx⟩ := H.hx
  have hl : 0 < wl.length := List.length_pos_iff.2 hk
  obtain ⟨g', e, _, h1, _⟩ := own_form H.wy hl
  injection e with e
  injection e with e
  subst e
  exact ⟨H.hr.lt, H.hs.lt, H.ho.lt, hq.lt, hx.lt, h1⟩

/-- out.Used = append(out.Used, here). -/
theorem StW.useKey (H : StW w0 b A n cp c Ta ct g cw Au nu cu tl wl used w) (hk : wl ≠ []) {key : Key} {y : En} (hx : At w (b + 1 + 1 + 1 + 1) 36 (cEn y)) {o : Obj} {A' : Option Addr} {n' c' : Nat}
    (hown : w3.ownsRow w0.heap.size 32 2 (.slice A' n' c') (used.length + 1) (cKeys used ++ cKeys [key])) (hg : (w.alloc o).grownBy w3 (Value.slice Au nu cu).ownBlock)
    (hl : (Value.slice A' n' c').ownBlock = (Value.slice Au nu cu).ownBlock ∨ (Value.slice A' n' c').ownBlock = some (w.alloc o).heap.size) :
    At w3 (b + 1 + 1) 40 (outCells (out0 []) (.slice Au nu cu)) ∧
    StW w0 b A n cp c Ta ct g cw A' n' c' tl wl (used ++ [key]) (w3.setCell ⟨b + 1 + 1, 8, none⟩ (.slice A' n' c')) ∧ At (w3.setCell ⟨b + 1 + 1, 8, none⟩ (.slice A' n' c')) (b + 1 + 1 + 1 + 1) 36 (cEn y) := by
  obtain ⟨l1, l2, l3, l4, l5, l6⟩ := H.lts hk
  have hb := H.hb
  have hk0 : Kp (fun k => (Value.slice Au nu cu).ownBlock ≠ some k) w w3 := ((Kp.refl _ w).alloc o).grown hg fun k e _ q => q e
  have F : ∀ j, ¬ Free w0.heap.size b j → (Value.slice Au nu cu).ownBlock ≠ some j := fun j hj e => hj (H.uf j e).1
  have f1 : ¬ Free w0.heap.size b (b + 1 + 1) := fun q => q.2.2.1 rfl
  have f2 : ¬ Free w0.heap.size b w0.heap.size := fun q => q.1 rfl
  have f3 : ¬ Free w0.heap.size b b := fun q => q.2.1 rfl
  have f4 : ¬ Free w0.heap.size b (b + 1 + 1 + 1) := fun q => q.2.2.2.1 rfl
  have f5 : ¬ Free w0.heap.size b (b + 1 + 1 + 1 + 1) := fun q => q.2.2.2.2 rfl
  have ho := H.ho.kp hk0 (F _ f1)
  obtain ⟨q, hq⟩ := H.hh
  have hk1 : Kp (fun k => (Value.slice Au nu cu).ownBlock ≠ some k ∧ k ≠ b + 1 + 1) w (w3.setCell ⟨b + 1 + 1, 8, none⟩ (.slice A' n' c')) :=
    (hk0.mono fun k _ q => q.1).setCell (fun _ q => q.2 rfl) _
  have hx' := hx.kp hk1 ⟨F _ f5, by omega⟩
  have hnew : ∀ k, (Value.slice A' n' c').ownBlock = some k → ((Value.slice Au nu cu).ownBlock = some k) ∨ k = w.heap.size + 1 := by
    intro k e
    rcases hl with h | h
    · exact .inl (h.symm.trans e)
    · rw [h] at e; injection e with e; right; rw [← e]; simp
  refine ⟨ho, ⟨H.blw.trans (hk1.to_below H.blw.size fun j hj => ⟨fun e => ?_, by omega⟩), hb, H.hr.kp hk1 ⟨F _ f2, by omega⟩, H.hs.kp hk1 ⟨F _ f3, by omega⟩, ho.setCell 8 _, ⟨q, hq.kp hk1 ⟨F _ f4, by omega⟩⟩, ⟨y, hx'⟩, ?_, ?_, ?_, H.tc, fun ad e => Nat.lt_of_lt_of_le (H.tq ad e) hk1.size, H.tf, ?_, H.wf⟩, hx'⟩
  · have := (H.us.lt j e).1
    omega
  · have e : cKeys (used ++ [key]) = cKeys used ++ cKeys [key] := by simp [cKeys]
    rw [List.length_append, e]
    refine own_kp hown ((Kp.refl (fun k => k ≠ b + 1 + 1) w3).setCell (fun _ q => q rfl) _) fun k hk' e => ?_
    rcases hnew k hk' with h | h
    · exact F _ f1 (e ▸ h)
    · omega
  · intro k hk'
    rcases hnew k hk' with h | h
    · exact H.uf k h
    · refine ⟨by unfold Free; omega, by omega, fun ad e q => ?_⟩
      have := H.tq ad e
      omega
  · exact H.td.kp hk1 fun ad e => ⟨fun q => (H.uf _ q).2.2 ad e rfl, (H.tf ad e).1.2.2.1⟩
  · exact own_kp H.wy hk1 fun k e => by
      injection e with e
      subst e
      exact ⟨fun q => (H.uf _ q).2.1 rfl, H.wf.2.2.1⟩

/-- out.Err is laid anew as it was. -/
theorem StW.errZero (H : StW w0 b A n cp c Ta ct g cw Au nu cu tl wl used w) : StW w0 b A n cp c Ta ct g cw Au nu cu tl wl used (w.setCell ⟨b + 1 + 1, 3, none⟩ (.int .i64 0)) := by
  have hb := H.hb
  obtain ⟨q, hq⟩ := H.hh
  obtain ⟨x, hx⟩ := H.hx
  have k : Kp (fun k => k ≠ b + 1 + 1) w (w.setCell ⟨b + 1 + 1, 3, none⟩ (.int .i64 0)) := (Kp.refl _ w).setCell (fun _ q => q rfl) _
  refine ⟨H.blw.trans (k.to_below H.blw.size fun j hj => by omega), hb, H.hr.kp k (by omega), H.hs.kp k (by omega), H.ho.setCell 3 _, ⟨q, hq.kp k (by omega)⟩, ⟨x, hx.kp k (by omega)⟩, ?_, H.uf, ?_, H.tc, fun ad e => Nat.lt_of_lt_of_le (H.tq ad e) k.size, H.tf, ?_, H.wf⟩
  · exact own_kp H.us k fun j hj => (H.uf j hj).1.2.2.1
  · exact H.td.kp k fun ad e => (H.tf ad e).1.2.2.1
  · exact own_kp H.wy k fun j hj => by injection hj with hj; subst hj; exact H.wf.2.2.1

/-- at = append(at, x.Node). -/
theorem StW.way (H : StW w0 b A n cp c Ta ct g cw Au nu cu tl wl used w) (hk : wl ≠ []) {nd : Nd} {o : Obj} {A' : Option Addr} {n' c' : Nat}
    (hown : w3.ownsRow w0.heap.size 34 4 (.slice A' n' c') (wl.length + 1) (cNds wl ++ cNds [nd])) (hg : (w.alloc o).grownBy w3 (some g))
    (hl : (Value.slice A' n' c').ownBlock = some g ∨ (Value.slice A' n' c').ownBlock = some (w.alloc o).heap.size) :
    ∃ g', A' = some ⟨g', 0, none⟩ ∧ n' = wl.length + 1 ∧ StW w0 b A n cp c Ta ct g' c' Au nu cu tl (wl ++ [nd]) used w3 := by
  obtain ⟨l1, l2, l3, l4, l5, l6⟩ := H.lts hk
  obtain ⟨g', rfl, rfl, hlt, hge, hob⟩ := own_form hown (by omega)
  have hb := H.hb
  have hk1 : Kp (fun k => k ≠ g) w w3 := ((Kp.refl _ w).alloc o).grown hg fun k e _ q => by injection e with e; exact q e.symm
  have hwf := H.wf
  unfold Free at hwf
  have hnew : g' = g ∨ g' = w.heap.size + 1 := by
    rw [hob] at hl
    rcases hl with h | h
    · injection h with h; exact .inl h
    · injection h with h; right; rw [h]; simp
  obtain ⟨q, hq⟩ := H.hh
  obtain ⟨x, hx⟩ := H.hx
  refine ⟨g', rfl, rfl, ⟨H.blw.trans (hk1.to_below H.blw.size fun j hj => ?_), hb, H.hr.kp hk1 (by omega), H.hs.kp hk1 (by omega), H.ho.kp hk1 (by omega), ⟨q, hq.kp hk1 (by omega)⟩, ⟨x, hx.kp hk1 (by omega)⟩, ?_, ?_, ?_, H.tc,
    fun ad e => Nat.lt_of_lt_of_le (H.tq ad e) hk1.size, ?_, ?_, ?_⟩⟩
  · obtain ⟨g2, e2, _, _, h2, _⟩ := own_form H.wy (List.length_pos_iff.2 hk)
    injection e2 with e2
    injection e2 with e2
    omega
  · exact own_kp H.us hk1 fun k e => (H.uf k e).2.1
  · intro k e
    obtain ⟨q1, q2, q3⟩ := H.uf k e
    refine ⟨q1, ?_, q3⟩
    have := (H.us.lt k e).2
    omega
  · exact H.td.kp hk1 fun ad e => (H.tf ad e).2
  · intro ad e
    have := H.tq ad e
    refine ⟨(H.tf ad e).1, ?_⟩
    have := (H.tf ad e).2
    omega
  · rw [List.length_append]
    have e : cNds (wl ++ [nd]) = cNds wl ++ cNds [nd] := by simp [cNds]
    rw [e]
    exact hown
  · unfold Free
    omega


/-- A link is met: new components; the way stays. -/
theorem StW.todo (H : StW w0 b A n cp c Ta ct g cw Au nu cu tl wl used w) (hk : wl ≠ []) (hb : Below w.heap.size w w3) {A' : Option Addr} {c' : Nat} {ls : List (List UInt8)} (hv : w3.ownsRow w.heap.size 9 1 (.slice A' ls.length c') ls.length (txts ls)) :
    StW w0 b A n cp c A' c' g cw Au nu cu ls wl used w3 := by
  obtain ⟨l1, l2, l3, l4, l5, l6⟩ := H.lts hk
  have H3 := H.below hb
  have hA := own_lt_ hv
  refine ⟨H3.blw, H3.hb, H3.hr, H3.hs, H3.ho, H3.hh, H3.hx, H3.us, fun k e => ?_, Rd.of_own hv, own_cap hv, fun ad e => (hA ad e).2, fun ad e => ?_, H3.wy, H3.wf⟩
  · obtain ⟨q1, q2, _⟩ := H.uf k e
    refine ⟨q1, q2, fun ad e' q => ?_⟩
    have := (H.us.lt k e).2
    have := (hA ad e').1
    omega
  · have := (hA ad e).1
    unfold Free
    omega

/-- A link is met: the way begins anew. -/
theorem StW.root (H : StW w0 b A n cp c Ta ct g cw Au nu cu tl wl used w) (hk : wl ≠ []) (hb : Below w.heap.size w w3) {A' : Option Addr} {c' : Nat} {ls : List (List UInt8)} (hv : w3.ownsRow w.heap.size 9 1 (.slice A' ls.length c') ls.length (txts ls))
    {va : Value} (hr : w3.ownsRow w.heap.size 34 4 va 1 (cNds [rootNd])) :
    ∃ g' cw', va = .slice (some ⟨g', 0, none⟩) 1 cw' ∧ StW w0 b A n cp c A' c' g' cw' Au nu cu ls [rootNd] used w3 := by
  obtain ⟨l1, l2, l3, l4, l5, l6⟩ := H.lts hk
  have hsz := H.blw.size
  obtain ⟨Aw, cw', rfl⟩ := own_slice hr
  obtain ⟨g', rfl, _, hlt, hge, hob⟩ := own_form hr (by omega)
  have H3 := H.todo hk hb hv
  refine ⟨g', cw', rfl, H3.blw, H3.hb, H3.hr, H3.hs, H3.ho, H3.hh, H3.hx, H3.us, fun k e => ?_, H3.td, H3.tc, H3.tq, fun ad e => ⟨(H3.tf ad e).1, fun q => ?_⟩, own_base hr hsz, ?_⟩
  · obtain ⟨q1, _, q3⟩ := H3.uf k e
    refine ⟨q1, ?_, q3⟩
    have := (H.us.lt k e).2
    omega
  · subst e
    exact absurd (own_type (k := g') hv hr (by rw [← q]; rfl) hob) (by decide)
  · unfold Free
    omega
end

def StJ0 (c n cp m cq : Nat) (A B : Option Addr) (follow : Bool) (fresh : List En) (l : List (Key × (En × Int))) (wh : List (Int × Bool)) (RUN : Wk.Out) (w : World) (a' : Act) (w' : World) : Prop :=
  ∃ (b : Nat) (dir' : Bool) (Lc : Nat) (Ta : Option Addr) (ct g k cw : Nat) (Au : Option Addr) (nu cu : Nat) (ok : Value) (wl : List Nd) (used : List Key),
    StF c n cp m cq w.heap.size b A B follow dir' Lc (.slice Ta 0 ct) (.slice (some ⟨g, 0, none⟩) (k + 1) cw) ok a' ∧ Hid (StW w b A n cp c Ta ct g cw Au nu cu [] wl used w') ∧
      Hid (Wk.steps (knownOf fresh l wh) follow Lc [] wl dir' used = RUN) ∧ Hid (wl.length = k + 1) ∧ k ≤ 3000000

def StJ1 (c n cp m cq : Nat) (A B : Option Addr) (follow : Bool) (fresh : List En) (l : List (Key × (En × Int))) (wh : List (Int × Bool)) (RUN : Wk.Out) (w : World) (a' : Act) (w' : World) : Prop :=
  ∃ (b : Nat) (dir' : Bool) (Lc : Nat) (Ta : Option Addr) (ct g k cw : Nat) (Au : Option Addr) (nu cu : Nat) (ok : Value) (tl : List (List UInt8)) (wl : List Nd) (used : List Key),
    StF c n cp m cq w.heap.size b A B follow dir' Lc (.slice Ta tl.length ct) (.slice (some ⟨g, 0, none⟩) (k + 1) cw) ok a' ∧ Hid (StW w b A n cp c Ta ct g cw Au nu cu tl wl used w') ∧
      Hid (Wk.steps (knownOf fresh l wh) follow Lc tl wl dir' used = RUN) ∧ Hid (wl.length = k + 1) ∧ k + tl.length + 98 * Lc ≤ 3000000 ∧ used.length + tl.length + 98 * Lc ≤ 3000000 ∧ Lc ≤ 8

def stMu (a' : Act) (_ : World) : Nat := 98 * (RowKit.intOf (a'.tmps.getD 5 undef)).toNat + sliceLen (a'.tmps.getD 13 undef)

/-- The memory as the loop begins. -/
theorem stw_start {w w1 : World} {A : Option Addr} {n cp c : Nat} {A1 : Option Addr} {m c1 : Nat} {ss : List (List UInt8)} {o : Obj} (ho : o = .cells (outCells (out0 []) (.slice none 0 0)).toArray 40)
    (hown : w1.ownsRow (w.alloc o).heap.size 9 1 (.slice A1 m c1) m (txts ss)) (hb : Below (w.alloc o).heap.size (w.alloc o) w1) (hm : ss.length = m) :
    StW w w1.heap.size A n cp c A1 c1 (w1.heap.size + 1) 1 none 0 0 ss [rootNd] []
      (((((w1.alloc (.cells (srcs A n cp c).toArray 173)).alloc (.cells (cNd rootNd).toArray 34)).alloc (.cells (outCells (out0 []) (.slice none 0 0)).toArray 40)).alloc (.cells (cKey (0, [])).toArray 32)).alloc (.cells (cEn noEn).toArray 36)) := by
  subst ho
  have hsz := hb.size
  simp only [World.size_alloc] at hsz
  have h0 : At w1 w.heap.size 40 (outCells (out0 []) (.slice none 0 0)) := (At.new w _ _).below hb
  have hbl : Below w.heap.size w w1 := ((Below.refl _ w).alloc (Nat.le_refl _) _).trans (hb.mono (by simp))
  have hl := own_lt_ hown
  simp only [World.size_alloc] at hl
  have hown' := own_base hown (base' := w.heap.size) (by simp)
  refine ⟨((((hbl.alloc (by omega) _).alloc (by simp; omega) _).alloc (by simp; omega) _).alloc (by simp; omega) _).alloc (by simp; omega) _, by omega, ((((h0.alloc _).alloc _).alloc _).alloc _).alloc _, ((((At.new w1 _ _).alloc _).alloc _).alloc _).alloc _, ?_, ⟨(0, []), ?_⟩, ⟨noEn, At.new_ _ _ _ (by simp)⟩, World.ownsRow_nil _ _ _ _, ?_, ?_, ?_, ?_, ?_, ?_, ?_⟩
  · exact ((At.new_ _ _ _ (by simp)).alloc _).alloc _
  · exact (At.new_ _ _ _ (by simp)).alloc _
  · intro k hk
    cases hk
  · rw [hm]
    exact (((((Rd.of_own hown).alloc _).alloc _).alloc _).alloc _).alloc _
  · have := own_cap hown
    rw [hm]
    exact this
  · intro ad e
    have := (hl ad e).2
    simp
    omega
  · intro ad e
    have := hl ad e
    unfold Free
    omega
  · have hr := own_root (w1.alloc (.cells (srcs A n cp c).toArray 173)) w.heap.size (by simp; omega)
    have e : (w1.alloc (.cells (srcs A n cp c).toArray 173)).heap.size = w1.heap.size + 1 := by simp
    rw [e] at hr
    exact own_below (own_below (own_below hr ((Below.refl _ _).alloc (Nat.le_refl _) _)) ((Below.refl _ _).alloc (Nat.le_refl _) _)) ((Below.refl _ _).alloc (Nat.le_refl _) _)
  · unfold Free
    omega

end Go.Proofs.YtoacobcbloljkaaGreatDoor
