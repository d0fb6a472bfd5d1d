/-
  The reference of layer 12: what it tells: Get, Negatives, Leaf.
-/
import Derived.Test.YtoacobcbloljkaaGreatDoorRef12c
import Derived.Test.YtoacobcbloljkaaGreatDoorWalkLow
namespace Go.Proofs.YtoacobcbloljkaaGreatDoor
open Go.RowKit

/-- The entry of a key. -/
def getE (L : List En) (k : Key) : Option En := match ixOf L k with
  | none => none
  | some i => L[i]?

set_option maxRecDepth 100000 in
set_option maxHeartbeats 2000000 in
theorem refGet_any (w : World) (B cb : Nat) (F : Nat → Prop) (Al : Option Addr) (cl : Nat) (Aw : Option Addr) (cw : Nat) (L : List En) (W : List Int) (k : Key) (hn : L.length ≤ 17592186044416) (H : RefAt w B cb F Al cl Aw cw L W) :
    Calls Tryz.prog 75 #[.pointer (some ⟨cb, 0, none⟩), vKey k] w fun r w' => r = .returned (.tuple #[vEn ((getE L k).getD noEn), .bool (getE L k).isSome]) ∧ Below w.heap.size w w' := by
  obtain ⟨d, n⟩ := k
  have hat := fun V Hr => refAt_any V B cb F Al cl Aw cw L W (d, n) (by omega) Hr
  simp only [vKey, txt] at hat
  have HAT := Lib.hid hat
  have HH := Lib.hid H
  clear hat H
  unfold vKey
  simp only [txt]
  cases hix : ixOf L (d, n) with
  | none =>
    have hg : getE L (d, n) = none := by unfold getE; rw [hix]
    rw [hg]
    have HIX := Lib.hid hix
    clear hix hg
    go_enter Tryz.func75, Tryz.ntmps75
    go_wp2_with fail
    refine (HAT.out _ ((HH.out.alloc _).alloc _)).mono ?_
    rintro r w1 ⟨rfl, hb1⟩
    have hz : At w1 (w.heap.size + 1) 36 (cEn noEn) := (At.new_ _ 36 (cEn noEn) (by simp)).below hb1
    have HZ := Lib.hid hz
    have HB := Lib.hid ((((Below.refl _ w).alloc (Nat.le_refl _) _).alloc (by simp) _).trans (hb1.mono (by simp; omega)))
    rw [HIX.out]
    simp only [ixInt]
    clear hb1 hz
    go_wp2_with ((with_reducible refine wpList_isStore 36 (.tmp 4) (.tmp 12) ?_); refine wpList_store_blk rfl 36 (.tmp 4) (.tmp 12) rfl (w.heap.size + 1) 0 (vEn noEn) rfl rfl HZ.out info_entry ?c2 rfl ?_; (case c2 => exact Nat.le_refl 7); intro w3 hr3 hk3 hz3; have HR3 : Hid (At w3 (w.heap.size + 1) 36 (cEn noEn)) := hr3; have HK3 := Lib.hid hk3; clear hr3 hk3 hz3)
    obtain ⟨x0, x1, x2, x3, x4, x5, x6⟩ := En7 HR3.out
    simp only [noEn] at x0 x1 x2 x3 x4 x5 x6
    refine bodyPost_ret (v := .tuple #[vEn noEn, .bool false]) (by simp [results, Tryz.results75, go_sem, vEn, noEn, txt, x0, x1, x2, x3, x4, x5, x6]) rfl ⟨rfl, ?_⟩
    exact HB.out.trans (HK3.out.to_below HB.out.size (fun k hk => by omega))
  | some i =>
    obtain ⟨⟨⟨ed, en⟩, ng, ei, ek, em, et⟩, hx, _⟩ := ixOf_get hix
    have hil := ixOf_lt hix
    have hg : getE L (d, n) = some ((ed, en), ng, ei, ek, em, et) := by unfold getE; rw [hix]; exact hx
    rw [hg]
    have HIX := Lib.hid hix
    have HX := Lib.hid hx
    clear hix hg hx
    go_enter Tryz.func75, Tryz.ntmps75
    go_wp2_with fail
    refine (HAT.out _ ((HH.out.alloc _).alloc _)).mono ?_
    rintro r w1 ⟨rfl, hb1⟩
    have hz : At w1 (w.heap.size + 1) 36 (cEn noEn) := (At.new_ _ 36 (cEn noEn) (by simp)).below hb1
    have HZ := Lib.hid hz
    have hb2 := ((((Below.refl _ w).alloc (Nat.le_refl _) _).alloc (by simp) _).trans (hb1.mono (by simp; omega)))
    have HB := Lib.hid hb2
    have HR := HH.out.below hb2
    have c0 := HR.c0
    obtain ⟨ad, hA, hbl, hin, x0, x1, x2, x3, x4, x5, x6⟩ := entry_at (Rd.of_own HR.lo) HX.out
    subst hA
    rw [HIX.out]
    simp only [ixInt]
    simp only at x0 x1 x2 x3 x4 x5 x6
    clear hb1 hz hb2 HR
    go_wp2_with ((with_reducible refine wpList_isStore 36 (.tmp 4) (.tmp 19) ?_); refine wpList_store_blk rfl 36 (.tmp 4) (.tmp 19) rfl (w.heap.size + 1) 0 (vEn ((ed, en), ng, ei, ek, em, et)) rfl rfl HZ.out info_entry ?c2 rfl ?_; (case c2 => exact Nat.le_refl 7); intro w3 hr3 hk3 hz3; have HR3 : Hid (At w3 (w.heap.size + 1) 36 (cEn ((ed, en), ng, ei, ek, em, et))) := hr3; have HK3 := Lib.hid hk3; clear hr3 hk3 hz3)
    clear x0 x1 x2 x3 x4 x5 x6
    obtain ⟨x0, x1, x2, x3, x4, x5, x6⟩ := En7 HR3.out
    simp only at x0 x1 x2 x3 x4 x5 x6
    refine bodyPost_ret (v := .tuple #[vEn ((ed, en), ng, ei, ek, em, et), .bool true]) (by simp [results, Tryz.results75, go_sem, vEn, txt, x0, x1, x2, x3, x4, x5, x6]) rfl ⟨rfl, ?_⟩
    exact HB.out.trans (HK3.out.to_below HB.out.size (fun k hk => by omega))

def negsE (L : List En) : Nat := (L.filter fun x => x.2.1).length

theorem negsE_step (L : List En) {j : Nat} {x : En} (h : L[j]? = some x) : negsE (L.take (j + 1)) = negsE (L.take j) + if x.2.1 = true then 1 else 0 := by
  unfold negsE
  rw [List.take_add_one, h, List.filter_append, List.length_append]
  cases hx : x.2.1 <;> simp [hx]
theorem negsE_le (L : List En) : negsE L ≤ L.length := List.length_filter_le _ _

set_option maxRecDepth 100000 in
set_option maxHeartbeats 2000000 in
theorem refNegatives_any (w : World) (B cb : Nat) (F : Nat → Prop) (Al : Option Addr) (cl : Nat) (Aw : Option Addr) (cw : Nat) (L : List En) (W : List Int) (hn : L.length ≤ 17592186044416) (H : RefAt w B cb F Al cl Aw cw L W) :
    Calls Tryz.prog 73 #[.pointer (some ⟨cb, 0, none⟩)] w fun r w' => r = .returned (.int .i64 (negsE L)) ∧ w = w' := by
  have c0 := H.c0
  have HR := Lib.hid (Rd.of_own H.lo)
  clear H
  go_enter Tryz.func73, Tryz.ntmps73
  go_wp2_with fail
  go_loop [3, 4] (fun v i => ∃ j q : Nat, j ≤ L.length ∧ i = .int .i64 j ∧ v = .int .i64 q ∧ Hid (q = negsE (L.take j)) ∧ q ≤ j) (fun _ i => L.length - (RowKit.intOf i).toNat)
  case atStart => exact ⟨0, 0, by omega, rfl, rfl, rfl, by omega⟩
  case round =>
    obtain ⟨j, q, hj, rfl, rfl, hq, hqj⟩ := hrel
    by_cases hlt : j < L.length
    · have hx : L[j]? = some L[j] := List.getElem?_eq_getElem hlt
      obtain ⟨ad, hA, hbl, hin, x0, x1, x2, x3, x4, x5, x6⟩ := entry_at HR.out hx
      subst hA
      have hst := negsE_step L hx
      cases hg : L[j].2.1 with
      | true =>
        rw [hg] at hst x2
        have HS := Lib.hid hst
        clear hst hx hg x0 x1 x3 x4 x5 x6
        go_wp2_with fail
        go_round
        case rel => exact ⟨j + 1, q + 1, by omega, by go_num, by go_num, by rw [HS.out, ← hq.out]; rfl, by omega⟩
        case measure => simp [RowKit.intOf] <;> omega
      | false =>
        rw [hg] at hst x2
        have HS := Lib.hid hst
        clear hst hx hg x0 x1 x3 x4 x5 x6
        go_wp2_with fail
        go_round
        case rel => exact ⟨j + 1, q, by omega, by go_num, rfl, by rw [HS.out, ← hq.out]; rfl, by omega⟩
        case measure => simp [RowKit.intOf] <;> omega
    · have hfin : q = negsE L := by rw [hq.out, List.take_of_length_le (by omega)]
      have HF := Lib.hid hfin
      clear hfin
      go_wp2_with fail
      go_ret
      exact ⟨by rw [HF.out]; rfl, rfl⟩

/-- Where an entry leads to. -/
def leafIdE (x : En) : Int := if x.2.1 = true then 0 else x.2.2.1
/-- Does nothing hang below an entry? -/
def leafE (L : List En) (k : Key) : Bool := match getE L k with
  | none => false
  | some x => !(L.any fun y => decide (y.1.1 = leafIdE x))

set_option maxRecDepth 100000 in
set_option maxHeartbeats 2000000 in
theorem refLeaf_any (w : World) (B cb : Nat) (F : Nat → Prop) (Al : Option Addr) (cl : Nat) (Aw : Option Addr) (cw : Nat) (L : List En) (W : List Int) (k : Key) (hn : L.length ≤ 17592186044416) (H : RefAt w B cb F Al cl Aw cw L W) :
    Calls Tryz.prog 77 #[.pointer (some ⟨cb, 0, none⟩), vKey k] w fun r w' => r = .returned (.bool (leafE L k)) ∧ Below w.heap.size w w' := by
  obtain ⟨d, n⟩ := k
  have hat := fun V Hr => refAt_any V B cb F Al cl Aw cw L W (d, n) (by omega) Hr
  simp only [vKey, txt] at hat
  have HAT := Lib.hid hat
  have HH := Lib.hid H
  clear hat H
  unfold vKey
  simp only [txt]
  cases hix : ixOf L (d, n) with
  | none =>
    have hg : getE L (d, n) = none := by unfold getE; rw [hix]
    have hlf : leafE L (d, n) = false := by unfold leafE; rw [hg]
    rw [hlf]
    have HIX := Lib.hid hix
    clear hix hg hlf
    go_enter Tryz.func77, Tryz.ntmps77
    go_wp2_with fail
    refine (HAT.out _ (HH.out.alloc _)).mono ?_
    rintro r w1 ⟨rfl, hb1⟩
    have HB := Lib.hid (((Below.refl _ w).alloc (Nat.le_refl _) _).trans (hb1.mono (by simp)))
    rw [HIX.out]
    simp only [ixInt]
    clear hb1
    go_wp2_with fail
    go_ret
    exact ⟨rfl, HB.out⟩
  | some i =>
    obtain ⟨⟨⟨ed, en⟩, ng, ei, ek, em, et⟩, hx, _⟩ := ixOf_get hix
    have hil := ixOf_lt hix
    have hg : getE L (d, n) = some ((ed, en), ng, ei, ek, em, et) := by unfold getE; rw [hix]; exact hx
    obtain ⟨idv, hid⟩ : ∃ v, leafIdE ((ed, en), ng, ei, ek, em, et) = v := ⟨_, rfl⟩
    have hlf : leafE L (d, n) = !(L.any fun y => decide (y.1.1 = idv)) := by unfold leafE; rw [hg, ← hid]
    rw [hlf]
    have HIX := Lib.hid hix
    have HX := Lib.hid hx
    have HID := Lib.hid hid
    clear hix hg hx hlf hid
    go_enter Tryz.func77, Tryz.ntmps77
    go_wp2_with fail
    refine (HAT.out _ (HH.out.alloc _)).mono ?_
    rintro r w1 ⟨rfl, hb1⟩
    have hb2 := (((Below.refl _ w).alloc (Nat.le_refl _) _).trans (hb1.mono (by simp)))
    have HB := Lib.hid hb2
    have hR := HH.out.below hb2
    have c0 := hR.c0
    have HR := Lib.hid (Rd.of_own hR.lo)
    obtain ⟨ad, hA, hbl, hin, x0, x1, x2, x3, x4, x5, x6⟩ := entry_at HR.out HX.out
    subst hA
    rw [HIX.out]
    simp only [ixInt]
    simp only at x0 x1 x2 x3 x4 x5 x6
    clear hb1 hb2 hR x0 x1 x4 x5 x6
    go_upto_if 29 with fail
    go_cut [6] (fun v wd => v = .int .i64 idv ∧ w1 = wd)
    case first =>
      cases ng with
      | true =>
        go_wp2_with fail
        go_meet
        case rel => exact ⟨by rw [← HID.out]; rfl, rfl⟩
      | false =>
        go_wp2_with fail
        go_meet
        case rel => exact ⟨by rw [← HID.out]; rfl, rfl⟩
    case rest =>
      obtain ⟨rfl, rfl⟩ := hcut
      clear x2 x3
      go_wp2_with fail
      go_loop [7] (fun v => ∃ j : Nat, j ≤ L.length ∧ v = .int .i64 j ∧ Hid (((L.take j).any fun y => decide (y.1.1 = idv)) = false)) (fun v => L.length - (RowKit.intOf v).toNat)
      case atStart => exact ⟨0, by omega, rfl, rfl⟩
      case round =>
        obtain ⟨j, hj, rfl, hno⟩ := hrel
        by_cases hlt : j < L.length
        · have hx : L[j]? = some L[j] := List.getElem?_eq_getElem hlt
          obtain ⟨ad2, hA2, hbl2, hin2, x0, x1, x2, x3, x4, x5, x6⟩ := entry_at HR.out hx
          injection hA2 with hA2
          subst hA2
          have hst : (L.take (j + 1)).any (fun y => decide (y.1.1 = idv)) = (((L.take j).any fun y => decide (y.1.1 = idv)) || decide (L[j].1.1 = idv)) := by
            rw [List.take_add_one, hx, List.any_append]
            simp
          have HS := Lib.hid hst
          obtain ⟨lj, hlj⟩ : ∃ v, L[j].1.1 = v := ⟨_, rfl⟩
          rw [hlj] at HS x0
          have HM : Hid (L[j] ∈ L) := List.getElem_mem hlt
          have HLJ := Lib.hid hlj
          clear hst hx x1 x2 x3 x4 x5 x6 hlj
          cases hq : (lj == idv) with
          | true =>
            have hfin : (L.any fun y => decide (y.1.1 = idv)) = true := by
              rw [List.any_eq_true]
              exact ⟨L[j], HM.out, by rw [HLJ.out]; simpa using hq⟩
            have HF := Lib.hid hfin
            clear hfin
            go_wp2_with fail
            go_ret
            exact ⟨by rw [HF.out]; rfl, HB.out⟩
          | false =>
            have hne : decide (lj = idv) = false := by simpa using hq
            have HN := Lib.hid hne
            clear hne
            go_wp2_with fail
            go_round
            case rel => exact ⟨j + 1, by omega, by go_num, by rw [HS.out, hno.out, HN.out]; rfl⟩
            case measure => simp [RowKit.intOf] <;> omega
        · have hfin : (L.any fun y => decide (y.1.1 = idv)) = false := by
            have := hno.out
            rwa [List.take_of_length_le (by omega)] at this
          have HF := Lib.hid hfin
          clear hfin
          go_wp2_with fail
          go_ret
          exact ⟨by rw [HF.out]; rfl, HB.out⟩
end Go.Proofs.YtoacobcbloljkaaGreatDoor
