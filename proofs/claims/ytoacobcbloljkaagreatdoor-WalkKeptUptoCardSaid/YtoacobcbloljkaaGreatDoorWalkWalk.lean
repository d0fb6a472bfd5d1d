/-
  The walk of walk.Walk.
-/
import Derived.Test.YtoacobcbloljkaaGreatDoorWalkSteps
namespace Go.Proofs.YtoacobcbloljkaaGreatDoor
open Go.RowKit

theorem OutPost.next {w w1 : World} {o : Wk.Out} {r : Ending} {w2 : World} (h : OutPost w1 o r w2) (hb : Below w.heap.size w w1) : OutPost w o r w2 := by
  obtain ⟨v, rfl, h1, h2⟩ := h
  exact ⟨v, rfl, own_base h1 hb.size, hb.trans (h2.mono hb.size)⟩

set_option maxRecDepth 100000 in
set_option maxHeartbeats 1000000 in
theorem walk_any (w : World) (A : Option Addr) (n cp : Nat) (fresh : List En) (p : ByteArray) (follow : Bool) (links : Int) (c e h : Nat) (l : List (Key × (En × Int))) (wh : List (Int × Bool)) (clk : Int) (hn : n ≤ 17592186044416)
    (hl0 : -9223372036854775808 ≤ links) (hl1 : links ≤ 9223372036854775807) (hr : Rd w 7 A n (cEns fresh)) (H : CacheAt w c e h l wh clk) :
    Calls Tryz.prog 24 #[.pointer (some ⟨c, 0, none⟩), .slice A n cp, .string p, .bool follow, .int .i64 links] w (OutPost w (Wk.walk (knownOf fresh l wh) p.toList follow (min (max links 0) 8).toNat)) := by
  have hsp := fun W => split_path p W
  have hlen := Nm.splitR_len p.toList
  obtain ⟨RUN, hRUN⟩ : ∃ RUN, RUN = Wk.walk (knownOf fresh l wh) p.toList follow (min (max links 0) 8).toNat := ⟨_, rfl⟩
  rw [← hRUN]
  unfold Wk.walk at hRUN
  generalize Nm.splitR p.toList = R at hsp hlen hRUN
  obtain ⟨ss, dir, er⟩ := R
  simp only at hsp hlen hRUN
  have hst := fun W B m cq h1 h2 h3 h4 => steps_any W A B n cp m cq fresh ss dir follow links c e h l wh clk hn h1 hl0 hl1 h2 h3 h4
  have HST := Lib.hid hst
  have HSP := Lib.hid hsp
  have HRUN := Lib.hid hRUN
  have HR := Lib.hid hr
  have HC := Lib.hid H
  clear hsp hRUN hr H hst
  go_enter Tryz.func24, Tryz.ntmps24
  go_wp2_with fail
  refine (HSP.out _).mono ?_
  rintro r w1 ⟨v1, rfl, hown1, hb1⟩
  obtain ⟨A1, c1, rfl⟩ := own_slice hown1
  have h0 : At w1 w.heap.size 40 (outCells (out0 []) (.slice none 0 0)) := (At.new w _ (outCells (out0 []) (.slice none 0 0))).below hb1
  have HB := Lib.hid (((Below.refl _ w).alloc (Nat.le_refl _) _).trans (hb1.mono (by simp)))
  have HO := Lib.hid hown1
  have H0 := Lib.hid h0
  clear hown1 hb1 h0
  cases hq : (er != 0) with
  | true =>
    have hq' : er ≠ 0 := by simpa using hq
    have hrun := HRUN.out
    rw [if_pos hq'] at hrun
    have HRUN2 := Lib.hid hrun
    clear hrun hq' HRUN
    go_wp2_with ((with_reducible refine wpList_isStore 40 (.tmp 10) (.tmp 23) ?_); refine wpList_store_blk rfl 40 (.tmp 10) (.tmp 23) rfl w.heap.size 0 (vOut (Wk.fail er []) (.slice none 0 0)) rfl rfl H0.out info_out ?c2 rfl ?_; (case c2 => exact Nat.le_refl 9); intro w3 hr3 hk3 hz3; have HR3 : Hid (At w3 w.heap.size 40 (outCells (Wk.fail er []) (.slice none 0 0))) := hr3; have HK3 := Lib.hid hk3; clear hr3 hk3 hz3)
    refine bodyPost_ret (v := vOut (Wk.fail er []) (.slice none 0 0)) (results_cell_row rfl _ _ _ _ _ _ _ rfl HR3.out Tryz.underlying40 rfl info_out) rfl ?_
    rw [HRUN2.out]
    exact ⟨_, rfl, World.ownsRow_nil _ _ _ _, HB.out.trans (HK3.out.to_below HB.out.size (fun k hk => by omega))⟩
  | false =>
    have hq' : er = 0 := by simpa using hq
    have hrun := HRUN.out
    rw [if_neg (by simp [hq'])] at hrun
    have HRUN2 := Lib.hid hrun
    clear hrun hq' HRUN
    go_wp2_with fail
    refine (HST.out w1 A1 ss.length c1 (by omega) ((HR.out.below HB.out)) (Rd.of_own HO.out) (HC.out.below HB.out)).mono ?_
    rintro r w2 ⟨v2, rfl, hown2, hb2⟩
    obtain ⟨A2, c2, rfl⟩ := own_slice hown2
    rw [← HRUN2.out] at hown2 ⊢
    have HO2 := Lib.hid (own_base hown2 HB.out.size)
    have HB2 := Lib.hid (HB.out.trans (hb2.mono HB.out.size))
    have H2 := Lib.hid (H0.out.below hb2)
    have hfr := own_fresh hown2
    have hwlt := H0.out.lt
    have HF : Hid (∀ k, (Value.slice A2 RUN.2.2.2.2.length c2).ownBlock = some k → k ≠ w.heap.size) := fun k hk q => by
      have := (hown2.lt k hk).1
      omega
    clear hown2 hb2 hfr
    go_wp2_with ((with_reducible refine wpList_isStore 40 (.tmp 10) (.tmp 30) ?_); refine wpList_store_blk rfl 40 (.tmp 10) (.tmp 30) rfl w.heap.size 0 (vOut RUN (.slice A2 RUN.2.2.2.2.length c2)) rfl rfl H2.out info_out ?c2 rfl ?_; (case c2 => exact Nat.le_refl 9); intro w3 hr3 hk3 hz3; have HR3 : Hid (At w3 w.heap.size 40 (outCells RUN (.slice A2 RUN.2.2.2.2.length c2))) := hr3; have HK3 := Lib.hid hk3; clear hr3 hk3 hz3)
    refine bodyPost_ret (v := vOut RUN (.slice A2 RUN.2.2.2.2.length c2)) (results_cell_row rfl _ _ _ _ _ _ _ rfl HR3.out Tryz.underlying40 rfl info_out) rfl ?_
    exact ⟨_, rfl, own_kp HO2.out HK3.out HF.out, HB2.out.trans (HK3.out.to_below HB2.out.size (fun k hk => by omega))⟩
end Go.Proofs.YtoacobcbloljkaaGreatDoor
