/-
  The walk of the tree's rename.
-/
import Derived.Test.YtoacobcbloljkaaGreatDoorTreeR9
import Derived.Deep.RegionHeld3
import Derived.Deep.DrawnRows
namespace Go.Proofs.YtoacobcbloljkaaGreatDoor
open Go.RowKit

attribute [local go_sem ↓] Go.wp_at_zero Go.wp_at_succ

namespace Tr
/-- What a rename comes to, behind directories and names. -/
theorem ren_cases {t : T} {o : Op} {e : Int} {t' : T} (hm : does t o = (e, t')) (hk : o.1 = 10) (hp : placeE t.L o.2.1 o.2.2.1 = 0) (hq : placeE t.L o.to.1 o.to.2 = 0) :
    (byKey t.L o.key = none ∧ e = 40 ∧ t' = t) ∨
    ∃ x, byKey t.L o.key = some x ∧ ((x.2.2.1 = 1 ∧ inside t.L t.L.length o.to.1 x.2.1 = true ∧ e = 45 ∧ t' = t) ∨ (¬ (x.2.2.1 = 1 ∧ inside t.L t.L.length o.to.1 x.2.1 = true) ∧
      ((o.key = o.to ∧ e = 0 ∧ t' = t) ∨ (o.key ≠ o.to ∧ ((byKey t.L o.to = none ∧ e = 0 ∧ t' = ⟨gone t.L o.key ++ [(o.to, x.2)], t.vers, t.next⟩) ∨
        ∃ y, byKey t.L o.to = some y ∧ ((gives t.L x.2 y.2 ≠ 0 ∧ e = gives t.L x.2 y.2 ∧ t' = t) ∨ (gives t.L x.2 y.2 = 0 ∧ e = 0 ∧ t' = ⟨gone (gone t.L o.to) o.key ++ [(o.to, x.2)], t.vers, t.next⟩))))))) := by
  rw [does_10 hp hk, if_neg (by omega)] at hm
  unfold renamed at hm
  cases hb : byKey t.L o.key with
  | none =>
    rw [hb] at hm
    simp only [Prod.mk.injEq] at hm
    exact .inl ⟨rfl, hm.1.symm, hm.2.symm⟩
  | some x =>
    rw [hb] at hm
    simp only at hm
    refine .inr ⟨x, rfl, ?_⟩
    split at hm
    · rename_i h1
      simp only [Prod.mk.injEq] at hm
      exact .inl ⟨h1.1, h1.2, hm.1.symm, hm.2.symm⟩
    · rename_i h1
      refine .inr ⟨h1, ?_⟩
      split at hm
      · rename_i h2
        simp only [Prod.mk.injEq] at hm
        exact .inl ⟨h2, hm.1.symm, hm.2.symm⟩
      · rename_i h2
        refine .inr ⟨h2, ?_⟩
        cases hb2 : byKey t.L o.to with
        | none =>
          rw [hb2] at hm
          simp only [Prod.mk.injEq] at hm
          exact .inl ⟨rfl, hm.1.symm, hm.2.symm⟩
        | some y =>
          rw [hb2] at hm
          simp only at hm
          refine .inr ⟨y, rfl, ?_⟩
          split at hm
          · rename_i h3
            simp only [Prod.mk.injEq] at hm
            exact .inl ⟨h3, hm.1.symm, hm.2.symm⟩
          · rename_i h3
            simp only [Prod.mk.injEq] at hm
            exact .inr ⟨Classical.byContradiction fun q => h3 q, hm.1.symm, hm.2.symm⟩
theorem does_bad2 {t : T} {o : Op} (hk : o.1 = 10) (hp : placeE t.L o.2.1 o.2.2.1 = 0) (h : placeE t.L o.to.1 o.to.2 ≠ 0) : does t o = (placeE t.L o.to.1 o.to.2, t) := by
  rw [does_10 hp hk, if_pos h]
def renKeys (o : Op) : List Key := if o.key = o.to then [o.key] else [o.key, o.to]
end Tr

set_option maxRecDepth 100000 in
set_option maxHeartbeats 8000000 in
theorem treeRename_any (w : World) (M : TM) (t : Tr.T) (o : Tr.Op) (e : Int) (t' : Tr.T) (hm : Tr.does t o = (e, t')) (H : TreeAt w M t) (hk : o.1 = 10) :
    Calls Tryz.prog 143 #[.pointer (some ⟨M.t, 0, none⟩), vOp o] w (DoPost w M t' e (if e = 0 then Tr.renKeys o else [])) := by
  have hgd := H.good.does o
  rw [hm] at hgd
  have hpa := fun V H => treePlace_any V M t o.2.1 o.2.2.1 H
  have hpb := fun V H => treePlace_any V M t o.to.1 o.to.2 H
  have hea := fun V H => treeEntry_any V M t o.key H
  have heb := fun V H => treeEntry_any V M t o.to H
  have hAt := At.new w 96 (cOp o)
  have hcs := fun hp hq => Tr.ren_cases hm hk hp hq
  have hb1 : Tr.placeE t.L o.2.1 o.2.2.1 ≠ 0 → e = Tr.placeE t.L o.2.1 o.2.2.1 ∧ t' = t ∧ (if e = 0 then Tr.renKeys o else []) = [] := fun h => by
    rw [Tr.does_bad (by omega) (by omega) h] at hm
    simp only [Prod.mk.injEq] at hm
    exact ⟨hm.1.symm, hm.2.symm, by rw [if_neg (by omega)]⟩
  have hb2 : Tr.placeE t.L o.2.1 o.2.2.1 = 0 → Tr.placeE t.L o.to.1 o.to.2 ≠ 0 → e = Tr.placeE t.L o.to.1 o.to.2 ∧ t' = t ∧ (if e = 0 then Tr.renKeys o else []) = [] := fun hp h => by
    rw [Tr.does_bad2 hk hp h] at hm
    simp only [Prod.mk.injEq] at hm
    exact ⟨hm.1.symm, hm.2.symm, by rw [if_neg (by omega)]⟩
  obtain ⟨ks, hks⟩ : ∃ ks, (if e = 0 then Tr.renKeys o else []) = ks := ⟨_, rfl⟩
  rw [hks] at hb1 hb2 ⊢
  obtain ⟨ok, od, on, ow, oe, om, og⟩ := o
  simp only [Tr.Op.to, Tr.Op.key] at hpa hpb hea heb hcs hb1 hb2
  simp only [vKey, txt] at hea heb
  have HH := Lib.hid H
  have HA := Lib.hid hAt
  have HPA := Lib.hid hpa
  have HPB := Lib.hid hpb
  have HEA := Lib.hid hea
  have HEB := Lib.hid heb
  have HCS := Lib.hid hcs
  have HB1 := Lib.hid hb1
  have HB2 := Lib.hid hb2
  have HKS := Lib.hid hks
  have HGD := Lib.hid hgd
  clear H hAt hpa hpb hea heb hcs hb1 hb2 hks hgd hm hk
  obtain ⟨c0, c1, c2, c3, c4, c5, c6⟩ := op_cells (o := (ok, od, on, ow, oe, om, og)) HA.out
  simp only at c0 c1 c2 c3 c4 c5 c6
  unfold vOp
  simp only [cOp, txt] at c0 c1 c2 c3 c4 c5 c6 ⊢
  go_enter Tryz.func143, Tryz.ntmps143
  go_upto_region 1 with fail
  go_cut [6, 7] (fun p q wd => ∃ k1 k2, p = .pointer (some ⟨k1, 0, none⟩) ∧ q = .pointer (some ⟨k2, 0, none⟩) ∧ Hid (RK w k1 k2 (od, on) (ow, oe) wd))
  case first =>
    as_aux_lemma =>
      go_region
      all_goals
        clear c0 c1 c2 c3 c4 c5 c6
        go_wp2_with fail
        go_meet
        case rel =>
          refine ⟨_, _, rfl, rfl, ⟨?_, ?_, ?_, by omega, by omega⟩⟩
          · exact below_drew ((((Below.refl _ w).alloc (Nat.le_refl _) _).alloc (by simp) _).alloc (by simp; omega) _)
          · first
              | exact (At.new_ _ _ (kCells (od, on)) (by simp)).drew
              | exact ((At.new_ _ _ (kCells (od, on)) (by simp)).alloc _).drew
          · first
              | exact (At.new_ _ _ (kCells (ow, oe)) (by simp)).drew
              | exact ((At.new_ _ _ (kCells (ow, oe)) (by simp)).alloc _).drew
  case rest =>
    clear c0 c1 c2 c3 c4 c5 c6 HA
    obtain ⟨k1, k2, rfl, rfl, hcut⟩ := hcut
    have HRK := Lib.hid hcut.out
    obtain ⟨w2, hw2⟩ : ∃ w2 : World, w2 = wc := ⟨_, rfl⟩
    subst hw2
    clear hcut
    have a0 : w2.cell? ⟨k1, 0, none⟩ = some (.int .i64 od) := HRK.out.A1.cell 0
    have a1 : w2.cell? ⟨k1, 1, none⟩ = some (.string ⟨on.toArray⟩) := HRK.out.A1.cell 1
    have b0 : w2.cell? ⟨k2, 0, none⟩ = some (.int .i64 ow) := HRK.out.A2.cell 0
    have b1 : w2.cell? ⟨k2, 1, none⟩ = some (.string ⟨oe.toArray⟩) := HRK.out.A2.cell 1
    go_wp2_with fail
    have AS := At.new w2 32 [.int .i64 od, .string ⟨on.toArray⟩, .int .i64 ow, .string ⟨oe.toArray⟩]
    have HL0 : Hid (RK w k1 k2 (od, on) (ow, oe) (w2.alloc (.cells #[.int .i64 od, .string ⟨on.toArray⟩, .int .i64 ow, .string ⟨oe.toArray⟩] 32)) ∧ At (w2.alloc (.cells #[.int .i64 od, .string ⟨on.toArray⟩, .int .i64 ow, .string ⟨oe.toArray⟩] 32)) w2.heap.size 32 [.int .i64 od, .string ⟨on.toArray⟩, .int .i64 ow, .string ⟨oe.toArray⟩]) := ⟨HRK.out.next ((Below.refl _ _).alloc (Nat.le_refl _) _), AS⟩
    clear AS a0 a1 b0 b1
    go_loopw [28] (fun iv wx => ∃ j : Nat, j ≤ 2 ∧ iv = .int .i64 j ∧ (1 ≤ j → Tr.placeE t.L od on = 0) ∧ (2 ≤ j → Tr.placeE t.L ow oe = 0) ∧ Hid (RK w k1 k2 (od, on) (ow, oe) wx ∧ At wx w2.heap.size 32 [.int .i64 od, .string ⟨on.toArray⟩, .int .i64 ow, .string ⟨oe.toArray⟩])) (fun iv _ => 2 - (RowKit.intOf iv).toNat)
    case atStart => exact ⟨0, by omega, rfl, by omega, by omega, HL0⟩
    case round =>
      obtain ⟨j, hj, rfl, hz1, hz2, HI⟩ := hrel
      have hlt2 : w2.heap.size < wr.heap.size := HI.out.2.lt
      have s0 : wr.cell? ⟨w2.heap.size, 0, none⟩ = some (.int .i64 od) := HI.out.2.cell 0
      have s1 : wr.cell? ⟨w2.heap.size, 1, none⟩ = some (.string ⟨on.toArray⟩) := HI.out.2.cell 1
      have s2 : wr.cell? ⟨w2.heap.size, 2, none⟩ = some (.int .i64 ow) := HI.out.2.cell 2
      have s3 : wr.cell? ⟨w2.heap.size, 3, none⟩ = some (.string ⟨oe.toArray⟩) := HI.out.2.cell 3
      by_cases hj0 : j = 0
      · subst hj0
        by_cases hp : Tr.placeE t.L od on = 0
        · rw [hp] at HPA
          go_wp2_with fail
          refine (HPA.out _ ((HH.out.below HI.out.1.bl).alloc _)).mono ?_
          rintro r w3 ⟨rfl, hb3⟩
          have HI3 : Hid (RK w k1 k2 (od, on) (ow, oe) w3 ∧ At w3 w2.heap.size 32 [.int .i64 od, .string ⟨on.toArray⟩, .int .i64 ow, .string ⟨oe.toArray⟩]) := ⟨HI.out.1.next (below_after hb3), (HI.out.2.alloc _).below hb3⟩
          clear hb3 s0 s1 s2 s3
          go_wp2_with fail
          go_roundw
          case rel => exact ⟨1, by omega, rfl, fun _ => hp, by omega, HI3⟩
          case measure => simp [RowKit.intOf]
        · have hpb : (Tr.placeE t.L od on == 0) = false := by simpa using hp
          have HPZ := Lib.hid (HB1.out hp)
          go_wp2_with fail
          refine (HPA.out _ ((HH.out.below HI.out.1.bl).alloc _)).mono ?_
          rintro r w3 ⟨rfl, hb3⟩
          have HB3 := Lib.hid (HI.out.1.bl.trans ((below_after hb3).mono HI.out.1.bl.size))
          clear hb3 s0 s1 s2 s3 hz1 hz2
          generalize Tr.placeE t.L od on = pe at *
          go_wp2_with fail
          refine bodyPost_ret (results2 rfl _ _ _) rfl ?_
          obtain ⟨q1, q2, q3⟩ := HPZ.out
          rw [q1, q2, q3]
          exact DoPost.no HH.out HB3.out
      · by_cases hj1 : j = 1
        · subst hj1
          have hp := hz1 (by omega)
          by_cases hq : Tr.placeE t.L ow oe = 0
          · rw [hq] at HPB
            go_wp2_with fail
            refine (HPB.out _ ((HH.out.below HI.out.1.bl).alloc _)).mono ?_
            rintro r w3 ⟨rfl, hb3⟩
            have HI3 : Hid (RK w k1 k2 (od, on) (ow, oe) w3 ∧ At w3 w2.heap.size 32 [.int .i64 od, .string ⟨on.toArray⟩, .int .i64 ow, .string ⟨oe.toArray⟩]) := ⟨HI.out.1.next (below_after hb3), (HI.out.2.alloc _).below hb3⟩
            clear hb3 s0 s1 s2 s3
            go_wp2_with fail
            go_roundw
            case rel => exact ⟨2, by omega, rfl, fun _ => hp, fun _ => hq, HI3⟩
            case measure => simp [RowKit.intOf]
          · have hpb : (Tr.placeE t.L ow oe == 0) = false := by simpa using hq
            have HPZ := Lib.hid (HB2.out hp hq)
            go_wp2_with fail
            refine (HPB.out _ ((HH.out.below HI.out.1.bl).alloc _)).mono ?_
            rintro r w3 ⟨rfl, hb3⟩
            have HB3 := Lib.hid (HI.out.1.bl.trans ((below_after hb3).mono HI.out.1.bl.size))
            clear hb3 s0 s1 s2 s3 hz1 hz2 hp
            generalize Tr.placeE t.L ow oe = pe at *
            go_wp2_with fail
            refine bodyPost_ret (results2 rfl _ _ _) rfl ?_
            obtain ⟨q1, q2, q3⟩ := HPZ.out
            rw [q1, q2, q3]
            exact DoPost.no HH.out HB3.out
        · obtain rfl : j = 2 := by omega
          have HC := Lib.hid (HCS.out (hz1 (by omega)) (hz2 (by omega)))
          have HDA := Lib.hid (Tr.placeE_zero (hz1 (by omega))).1
          have HDB := Lib.hid (Tr.placeE_zero (hz2 (by omega))).1
          have HR := Lib.hid HI.out.1
          clear s0 s1 s2 s3 hz1 hz2 HI HL0 HRK HPA HPB HB1 HB2 HCS
          generalize hxe : Tr.nowE t.L (od, on) = xe at HEA
          generalize hye : Tr.nowE t.L (ow, oe) = ye at HEB
          have HXE := Lib.hid hxe
          have HYE := Lib.hid hye
          clear hxe hye
          obtain ⟨⟨xd, xn⟩, xg, xi, xk, xm, xt⟩ := xe
          obtain ⟨⟨yd, yn⟩, yg, yi, yk, ym, yt⟩ := ye
          go_upto_region 9 with fail
          have a0 : wr.cell? ⟨k1, 0, none⟩ = some (.int .i64 od) := HR.out.A1.cell 0
          have a1 : wr.cell? ⟨k1, 1, none⟩ = some (.string ⟨on.toArray⟩) := HR.out.A1.cell 1
          have b0 : wr.cell? ⟨k2, 0, none⟩ = some (.int .i64 ow) := HR.out.A2.cell 0
          have b1 : wr.cell? ⟨k2, 1, none⟩ = some (.string ⟨oe.toArray⟩) := HR.out.A2.cell 1
          have HTW := Lib.hid (HH.out.below HR.out.bl)
          have hk1r : k1 < wr.heap.size := HR.out.A1.lt
          have hk2r : k2 < wr.heap.size := HR.out.A2.lt
          go_cut [11, 12] (fun p q wd => ∃ b1 b2, p = .pointer (some ⟨b1, 0, none⟩) ∧ q = .pointer (some ⟨b2, 0, none⟩) ∧ Hid (RX w k1 k2 b1 b2 (od, on) (ow, oe) ((xd, xn), xg, xi, xk, xm, xt) ((yd, yn), yg, yi, yk, ym, yt) wd))
          case first =>
            refine renRegion9 w wr M t k1 k2 (od, on) (ow, oe) ((xd, xn), xg, xi, xk, xm, xt) ((yd, yn), yg, yi, yk, ym, yt) _ (fun V hV => HEA.out V hV) (fun V hV => HEB.out V hV) HR.out HTW.out (by simp) rfl rfl rfl ?_
            intro b1 b2 W hrx
            have HRXW := Lib.hid hrx
            clear hrx
            rename_i J K' hJ hK
            refine hK _ _ ?_
            refine Met.intro ?_
            refine hJ _ _ ?_
            clear hJ hK
            go_frame
            (repeat apply Exists.intro)
            refine ⟨?rel, rfl⟩
            case rel => exact ⟨_, _, rfl, rfl, HRXW⟩
          case rest =>
            obtain ⟨g1, g2, rfl, rfl, hcut⟩ := hcut
            have HRX := Lib.hid hcut.out
            obtain ⟨w3, hw3⟩ : ∃ w3 : World, w3 = wc := ⟨_, rfl⟩
            subst hw3
            have HTX := Lib.hid (HH.out.below HRX.out.bl)
            clear hcut a0 a1 b0 b1 hk1r hk2r HTW HR HEA HEB
            have a0 : w3.cell? ⟨k1, 0, none⟩ = some (.int .i64 od) := HRX.out.A1.cell 0
            have a1 : w3.cell? ⟨k1, 1, none⟩ = some (.string ⟨on.toArray⟩) := HRX.out.A1.cell 1
            have b0 : w3.cell? ⟨k2, 0, none⟩ = some (.int .i64 ow) := HRX.out.A2.cell 0
            have b1 : w3.cell? ⟨k2, 1, none⟩ = some (.string ⟨oe.toArray⟩) := HRX.out.A2.cell 1
            obtain ⟨x0, x1, x2, x3, x4, x5, x6⟩ := en_cells HRX.out.A3
            obtain ⟨y0, y1, y2, y3, y4, y5, y6⟩ := en_cells HRX.out.A4
            simp only [txt] at x0 x1 x2 x3 x4 x5 x6 y0 y1 y2 y3 y4 y5 y6
            rcases HC.out with ⟨hbn, he, ht⟩ | ⟨⟨xkey, n1, n2, n3, n4⟩, hbx, hcase⟩
            · have hn := HXE.out
              unfold Tr.nowE at hn
              rw [hbn] at hn
              simp only [Prod.mk.injEq] at hn
              obtain ⟨-, hxg, -⟩ := hn
              subst hxg
              have HE := Lib.hid he
              have HT' := Lib.hid ht
              clear he ht hbn HC HXE HYE
              go_wp2_with fail
              refine bodyPost_ret (results2 rfl _ _ _) rfl ?_
              have hks := HKS.out
              rw [HE.out, if_neg (by omega)] at hks
              rw [HE.out, HT'.out, ← hks]
              exact DoPost.no HH.out HRX.out.bl
            · have hn := HXE.out
              unfold Tr.nowE at hn
              rw [hbx] at hn
              simp only [Prod.mk.injEq] at hn
              obtain ⟨⟨rfl, rfl⟩, rfl, rfl, rfl, rfl, rfl⟩ := hn
              have HBX := Lib.hid hbx
              simp only at hcase
              clear hbx HC HXE
              rcases hcase with ⟨rfl, hin, he, ht⟩ | ⟨hno, hcase⟩
              · have HE := Lib.hid he
                have HT' := Lib.hid ht
                have hcall := treeInside_any w3 M t ow n1 HTX.out HDB.out
                rw [hin] at hcall
                clear he ht hin
                go_wp2_with fail
                refine hcall.mono ?_
                rintro r w4 ⟨rfl, rfl⟩
                go_wp2_with fail
                refine bodyPost_ret (results2 rfl _ _ _) rfl ?_
                have hks := HKS.out
                rw [HE.out, if_neg (by omega)] at hks
                rw [HE.out, HT'.out, ← hks]
                exact DoPost.no HH.out HRX.out.bl
              · have HCS2 := Lib.hid hcase
                have heql := fun V : World => eql_key (od, on) (ow, oe) V
                simp only [vKey, txt] at heql
                clear hcase
                go_upto_region 12 with fail
                go_cut [51] (fun v wd => v = .bool false ∧ w3 = wd)
                case first =>
                  by_cases hxk : n2 = 1
                  · subst hxk
                    have hin : Tr.inside t.L t.L.length ow n1 = false := by
                      cases hq : Tr.inside t.L t.L.length ow n1 with
                      | false => rfl
                      | true => exact absurd ⟨rfl, hq⟩ hno
                    have hcall := treeInside_any w3 M t ow n1 HTX.out HDB.out
                    rw [hin] at hcall
                    clear hin hno
                    go_wp2_with fail
                    refine hcall.mono ?_
                    rintro r w4 ⟨rfl, rfl⟩
                    go_wp2_with fail
                    go_meet
                    case rel => exact ⟨rfl, rfl⟩
                  · have hxb : (n2 == 1) = false := by simpa using hxk
                    clear hno
                    go_wp2_with fail
                    go_meet
                    case rel => exact ⟨rfl, rfl⟩
                case rest =>
                  obtain ⟨rfl, rfl⟩ := hcut
                  clear hno
                  rcases HCS2.out with ⟨hsame, he, ht⟩ | ⟨hdiff, hcase⟩
                  · have hd : decide (((od, on) : Key) = (ow, oe)) = true := decide_eq_true hsame
                    rw [hd] at heql
                    have HE := Lib.hid he
                    have HT' := Lib.hid ht
                    have HSM := Lib.hid hsame
                    clear he ht hsame hd HCS2
                    go_wp2_with fail
                    refine bodyPost_ret (results2 rfl _ _ _) rfl ?_
                    have hks := HKS.out
                    rw [HE.out, if_pos rfl] at hks
                    have hrk : Tr.renKeys (ok, od, on, ow, oe, om, og) = [(od, on)] := by
                      show (if ((od, on) : Key) = (ow, oe) then [((od, on) : Key)] else [(od, on), (ow, oe)]) = _
                      exact if_pos HSM.out
                    rw [HE.out, HT'.out, ← hks, hrk]
                    refine ⟨_, M, rfl, one_key w3 (od, on) _ HRX.out.bl.size, HTX.out.alloc _, rfl, fun k q => .inl q, fun k q q2 => ?_, (Kp.of_below HRX.out.bl).alloc _⟩
                    have := HTX.out.F.own_lt q2
                    have q3 : some w3.heap.size = some k := q
                    injection q3 with q3
                    omega
                  · have hd : decide (((od, on) : Key) = (ow, oe)) = false := decide_eq_false hdiff
                    rw [hd] at heql
                    have HDF := Lib.hid hdiff
                    obtain ⟨hxm, hxk⟩ := Tr.byKey_some HBX.out
                    simp only at hxk
                    subst hxk
                    have HXM := Lib.hid hxm
                    clear hdiff hd HCS2 hxm
                    rcases hcase with ⟨hbn, he, ht⟩ | ⟨⟨ykey, m1, m2, m3, m4⟩, hby, hcase⟩
                    · have hn := HYE.out
                      unfold Tr.nowE at hn
                      rw [hbn] at hn
                      simp only [Prod.mk.injEq] at hn
                      obtain ⟨-, hyg, -⟩ := hn
                      subst hyg
                      have HE := Lib.hid he
                      have HT' := Lib.hid ht
                      have HBN := Lib.hid hbn
                      have HTM := HTX
                      have HKM : Hid (Kp (fun k => ¬ M.own k) w w3) := Kp.of_below HRX.out.bl
                      have HOM : Hid (∀ k, M.own k → M.own k) := fun _ q => q
                      clear he ht hbn HYE
                      have hxm2 : (((od, on), n1, n2, n3, n4) : Tr.TE) ∈ t.L := HXM.out
                      have hbn2 : Tr.byKey t.L (ow, oe) = none := HBN.out
                      have hda2 : Tr.isDir t.L od = true := HDA.out
                      have hdb2 : Tr.isDir t.L ow = true := HDB.out
                      obtain ⟨ba, hba⟩ := HTM.out.ib hda2
                      obtain ⟨bb, hbb⟩ := HTM.out.ib hdb2
                      have hown : ∀ g, w.heap.size ≤ g → ¬ (M).own g := fun g hg q => by have := HH.out.F.own_lt (HOM.out g q); omega
                      have C1 : At w3 k1 32 (kCells (od, on)) := HRX.out.A1
                      have C2 : At w3 k2 32 (kCells (ow, oe)) := HRX.out.A2
                      have C3 : At w3 g1 36 (cEn ((od, on), false, n1, n2, n3, n4)) := HRX.out.A3
                      have HX2 := Lib.hid hxm2
                      have HB2' := Lib.hid hbn2
                      have HBB := Lib.hid hbb
                      have HC : Hid (At w3 k1 32 (kCells (od, on)) ∧ At w3 k2 32 (kCells (ow, oe)) ∧ At w3 g1 36 (cEn ((od, on), false, n1, n2, n3, n4))) := ⟨C1, C2, C3⟩
                      have HOW := Lib.hid hown
                      have hdrop := treeDrop_any w3 M _ _ _ _ _ n1 (od, on) HTM.out.F (HTM.out.good.placeF_mem hxm2) ba hba
                      clear hxm2 hbn2 hda2 hdb2 hba hbb hown C1 C2 C3
                      go_wp2_with fail
                      refine hdrop.mono ?_
                      rintro r w6 ⟨rfl, F6, K6⟩
                      have D1 := HC.out.1.kp K6 (HOW.out _ HRX.out.h1)
                      have D2 := HC.out.2.1.kp K6 (HOW.out _ HRX.out.h2)
                      have D3 := HC.out.2.2.kp K6 (HOW.out _ HRX.out.h3)
                      have z0 : w6.cell? ⟨k2, 0, none⟩ = some (.int .i64 ow) := D2.cell 0
                      have z1 : w6.cell? ⟨k2, 1, none⟩ = some (.string ⟨oe.toArray⟩) := D2.cell 1
                      have z3 : w6.cell? ⟨g1, 3, none⟩ = some (.int .i64 n1) := D3.cell 3
                      have HD : Hid (At w6 k1 32 (kCells (od, on)) ∧ At w6 k2 32 (kCells (ow, oe))) := ⟨D1, D2⟩
                      have HF6 := Lib.hid F6
                      have HK6 : Hid (Kp (fun k => ¬ M.own k) w w6) := HKM.out.trans (K6.mono fun k _ q q2 => q (HOM.out k q2))
                      have hput := treePut_any w6 M _ _ _ _ _ (ow, oe) n1 HF6.out bb HBB.out
                      simp only [vKey, txt] at hput
                      clear D1 D2 D3 F6 K6 hdrop x3
                      go_wp2_with fail
                      refine hput.mono ?_
                      rintro r w7 ⟨rfl, F7, K7⟩
                      have F8 := TreeF.move_done ((od, on), n1, n2, n3, n4) (ow, oe) HTM.out.good HX2.out HB2'.out F7
                      have D1 := HD.out.1.kp K7 (HOW.out _ HRX.out.h1)
                      have D2 := HD.out.2.kp K7 (HOW.out _ HRX.out.h2)
                      have q0 : w7.cell? ⟨k1, 0, none⟩ = some (.int .i64 od) := D1.cell 0
                      have q1 : w7.cell? ⟨k1, 1, none⟩ = some (.string ⟨on.toArray⟩) := D1.cell 1
                      have q2 : w7.cell? ⟨k2, 0, none⟩ = some (.int .i64 ow) := D2.cell 0
                      have q3 : w7.cell? ⟨k2, 1, none⟩ = some (.string ⟨oe.toArray⟩) := D2.cell 1
                      have T8 : TreeAt w7 (M) t' := by
                        have hg := HGD.out
                        rw [HT'.out] at hg ⊢
                        exact ⟨F8, fun d => by rw [TreeF.isDir_move _ _ HTM.out.good HX2.out]; exact HTM.out.dirs d, hg⟩
                      have HT8 := Lib.hid T8
                      have HK7 : Hid (Kp (fun k => ¬ M.own k) w w7) := HK6.out.trans (K7.mono fun k _ q q2 => q (HOM.out k q2))
                      clear F7 F8 K7 D1 D2 T8 hput z0 z1 z3
                      go_wp2_with fail
                      refine bodyPost_ret (results2 rfl _ _ _) rfl ?_
                      have hks := HKS.out
                      rw [HE.out, if_pos rfl] at hks
                      have hrk : Tr.renKeys (ok, od, on, ow, oe, om, og) = [(od, on), (ow, oe)] := by
                        show (if ((od, on) : Key) = (ow, oe) then [((od, on) : Key)] else [(od, on), (ow, oe)]) = _
                        exact if_neg HDF.out
                      rw [HE.out, ← hks, hrk]
                      refine ⟨_, M, rfl, two_keys w7 (od, on) (ow, oe) _ HK7.out.size, HT8.out.alloc _, rfl, fun k q => .inl (HOM.out k q), fun k q q2 => ?_, HK7.out.alloc _⟩
                      have := HT8.out.F.own_lt q2
                      have q3 : some w7.heap.size = some k := q
                      injection q3 with q3
                      omega
                    · have hn := HYE.out
                      unfold Tr.nowE at hn
                      rw [hby] at hn
                      simp only [Prod.mk.injEq] at hn
                      obtain ⟨-, rfl, rfl, rfl, rfl, rfl⟩ := hn
                      simp only at hcase
                      obtain ⟨hym, hyk⟩ := Tr.byKey_some hby
                      have hgv := treeGives_any w3 M t (n1, n2, n3, n4) (m1, m2, m3, m4) HTX.out (fun h1 => Tr.isDir_iff.2 (.inr ⟨by have := (HH.out.good.lo _ hym).1; simp only at this ⊢; omega, _, Tr.byId_of HH.out.good.ids hym, h1⟩))
                      simp only [vNd, txt] at hgv
                      simp only at hyk
                      subst hyk
                      have HYM := Lib.hid hym
                      clear hby HYE hym
                      rcases hcase with ⟨hg0, he, ht⟩ | ⟨hg0, he, ht⟩
                      · have HE := Lib.hid he
                        have HT' := Lib.hid ht
                        have hgb : (Tr.gives t.L (n1, n2, n3, n4) (m1, m2, m3, m4) == 0) = false := by simpa using hg0
                        have HG0 := Lib.hid hg0
                        clear he ht hg0
                        generalize Tr.gives t.L (n1, n2, n3, n4) (m1, m2, m3, m4) = gv at *
                        go_wp2_with fail
                        refine hgv.mono ?_
                        rintro r w4 ⟨rfl, hb4⟩
                        have HB4 := Lib.hid (HRX.out.bl.trans (hb4.mono HRX.out.bl.size))
                        clear hb4 a0 a1 b0 b1 x0 x1 x2 x3 x4 x5 x6 y0 y1 y2 y3 y4 y5 y6
                        go_wp2_with fail
                        refine bodyPost_ret (results2 rfl _ _ _) rfl ?_
                        have hks := HKS.out
                        rw [if_neg (by rw [HE.out]; exact HG0.out)] at hks
                        rw [HE.out, HT'.out, ← hks]
                        exact DoPost.no HH.out HB4.out
                      · have HE := Lib.hid he
                        have HT' := Lib.hid ht
                        have HG0 := Lib.hid hg0
                        rw [hg0] at hgv
                        clear he ht hg0
                        go_wp2_with fail
                        refine hgv.mono ?_
                        rintro r w4 ⟨rfl, hb4⟩
                        have HRX4 : Hid (RX w k1 k2 g1 g2 (od, on) (ow, oe) ((od, on), false, n1, n2, n3, n4) ((yd, yn), false, m1, m2, m3, m4) w4) := ⟨HRX.out.bl.trans (hb4.mono HRX.out.bl.size), HRX.out.A1.below hb4, HRX.out.A2.below hb4, HRX.out.A3.below hb4, HRX.out.A4.below hb4, HRX.out.h1, HRX.out.h2, HRX.out.h3, HRX.out.h4⟩
                        clear hb4 a0 a1 b0 b1 x0 x1 x2 x3 x4 x5 x6 y0 y1 y2 y3 y4 y5 y6 hgv
                        have y3 : w4.cell? ⟨g2, 3, none⟩ = some (.int .i64 m1) := HRX4.out.A4.cell 3
                        have hgone := treeGone_any w4 M t ((ow, oe), m1, m2, m3, m4) (HH.out.below HRX4.out.bl) HYM.out (Tr.gives_zero HG0.out)
                        simp only at hgone
                        go_wp2_with fail
                        refine hgone.mono ?_
                        rintro r w5 ⟨rfl, M1, hM1, hM2, hM3, T5, K5⟩
                        have HTM := Lib.hid T5
                        have HOM := Lib.hid hM2
                        have HM1 := Lib.hid hM1
                        have HKM : Hid (Kp (fun k => ¬ M.own k) w w5) := (Kp.of_below HRX4.out.bl).trans K5
                        have KX : ∀ g, w.heap.size ≤ g → ¬ M.own g := fun g hg q => by have := HH.out.F.own_lt q; omega
                        have HRX5 : Hid (At w5 k1 32 (kCells (od, on)) ∧ At w5 k2 32 (kCells (ow, oe)) ∧ At w5 g1 36 (cEn ((od, on), false, n1, n2, n3, n4))) :=
                          ⟨HRX4.out.A1.kp K5 (KX _ HRX4.out.h1), HRX4.out.A2.kp K5 (KX _ HRX4.out.h2), HRX4.out.A3.kp K5 (KX _ HRX4.out.h3)⟩
                        clear T5 hM2 hM3 K5 KX hgone y3
                        have hxm2 : (((od, on), n1, n2, n3, n4) : Tr.TE) ∈ (⟨Tr.gone t.L (ow, oe), t.vers, t.next⟩ : Tr.T).L := List.mem_filter.2 ⟨HXM.out, by show (!decide (((od, on) : Key) = (ow, oe))) = true; rw [decide_eq_false HDF.out]; rfl⟩
                        have hbn2 : Tr.byKey (⟨Tr.gone t.L (ow, oe), t.vers, t.next⟩ : Tr.T).L (ow, oe) = none := (by show Tr.byKey (Tr.gone t.L (ow, oe)) (ow, oe) = none; rw [Tr.byKey_gone, if_pos rfl])
                        have hda2 : Tr.isDir (⟨Tr.gone t.L (ow, oe), t.vers, t.next⟩ : Tr.T).L od = true := HTM.out.good.dirs _ (List.mem_filter.2 ⟨HXM.out, by show (!decide (((od, on) : Key) = (ow, oe))) = true; rw [decide_eq_false HDF.out]; rfl⟩)
                        have hdb2 : Tr.isDir (⟨Tr.gone t.L (ow, oe), t.vers, t.next⟩ : Tr.T).L ow = true := (by show Tr.isDir (Tr.gone t.L (ow, oe)) ow = true; have h1 := HH.out.good.isDir_gone HYM.out ow; simp only at h1; rw [h1, if_neg (HH.out.good.noChild HYM.out (Tr.gives_zero HG0.out) _ HYM.out)]; exact HDB.out)
                        obtain ⟨ba, hba⟩ := HTM.out.ib hda2
                        obtain ⟨bb, hbb⟩ := HTM.out.ib hdb2
                        have hown : ∀ g, w.heap.size ≤ g → ¬ (M1).own g := fun g hg q => by have := HH.out.F.own_lt (HOM.out g q); omega
                        have C1 : At w5 k1 32 (kCells (od, on)) := HRX5.out.1
                        have C2 : At w5 k2 32 (kCells (ow, oe)) := HRX5.out.2.1
                        have C3 : At w5 g1 36 (cEn ((od, on), false, n1, n2, n3, n4)) := HRX5.out.2.2
                        have x3 : w5.cell? ⟨g1, 3, none⟩ = some (.int .i64 n1) := C3.cell 3
                        have HX2 := Lib.hid hxm2
                        have HB2' := Lib.hid hbn2
                        have HBB := Lib.hid hbb
                        have HC : Hid (At w5 k1 32 (kCells (od, on)) ∧ At w5 k2 32 (kCells (ow, oe)) ∧ At w5 g1 36 (cEn ((od, on), false, n1, n2, n3, n4))) := ⟨C1, C2, C3⟩
                        have HOW := Lib.hid hown
                        have hdrop := treeDrop_any w5 M1 _ _ _ _ _ n1 (od, on) HTM.out.F (HTM.out.good.placeF_mem hxm2) ba hba
                        rw [HM1.out] at hdrop
                        clear hxm2 hbn2 hda2 hdb2 hba hbb hown C1 C2 C3
                        go_wp2_with fail
                        refine hdrop.mono ?_
                        rintro r w6 ⟨rfl, F6, K6⟩
                        have D1 := HC.out.1.kp K6 (HOW.out _ HRX.out.h1)
                        have D2 := HC.out.2.1.kp K6 (HOW.out _ HRX.out.h2)
                        have D3 := HC.out.2.2.kp K6 (HOW.out _ HRX.out.h3)
                        have z0 : w6.cell? ⟨k2, 0, none⟩ = some (.int .i64 ow) := D2.cell 0
                        have z1 : w6.cell? ⟨k2, 1, none⟩ = some (.string ⟨oe.toArray⟩) := D2.cell 1
                        have z3 : w6.cell? ⟨g1, 3, none⟩ = some (.int .i64 n1) := D3.cell 3
                        have HD : Hid (At w6 k1 32 (kCells (od, on)) ∧ At w6 k2 32 (kCells (ow, oe))) := ⟨D1, D2⟩
                        have HF6 := Lib.hid F6
                        have HK6 : Hid (Kp (fun k => ¬ M.own k) w w6) := HKM.out.trans (K6.mono fun k _ q q2 => q (HOM.out k q2))
                        have hput := treePut_any w6 M1 _ _ _ _ _ (ow, oe) n1 HF6.out bb HBB.out
                        simp only [vKey, txt] at hput
                        rw [HM1.out] at hput
                        clear D1 D2 D3 F6 K6 hdrop x3
                        go_wp2_with fail
                        refine hput.mono ?_
                        rintro r w7 ⟨rfl, F7, K7⟩
                        have F8 := TreeF.move_done ((od, on), n1, n2, n3, n4) (ow, oe) HTM.out.good HX2.out HB2'.out F7
                        have D1 := HD.out.1.kp K7 (HOW.out _ HRX.out.h1)
                        have D2 := HD.out.2.kp K7 (HOW.out _ HRX.out.h2)
                        have q0 : w7.cell? ⟨k1, 0, none⟩ = some (.int .i64 od) := D1.cell 0
                        have q1 : w7.cell? ⟨k1, 1, none⟩ = some (.string ⟨on.toArray⟩) := D1.cell 1
                        have q2 : w7.cell? ⟨k2, 0, none⟩ = some (.int .i64 ow) := D2.cell 0
                        have q3 : w7.cell? ⟨k2, 1, none⟩ = some (.string ⟨oe.toArray⟩) := D2.cell 1
                        have T8 : TreeAt w7 (M1) t' := by
                          have hg := HGD.out
                          rw [HT'.out] at hg ⊢
                          exact ⟨F8, fun d => by rw [TreeF.isDir_move _ _ HTM.out.good HX2.out]; exact HTM.out.dirs d, hg⟩
                        have HT8 := Lib.hid T8
                        have HK7 : Hid (Kp (fun k => ¬ M.own k) w w7) := HK6.out.trans (K7.mono fun k _ q q2 => q (HOM.out k q2))
                        clear F7 F8 K7 D1 D2 T8 hput z0 z1 z3
                        go_wp2_with fail
                        refine bodyPost_ret (results2 rfl _ _ _) rfl ?_
                        have hks := HKS.out
                        rw [HE.out, if_pos rfl] at hks
                        have hrk : Tr.renKeys (ok, od, on, ow, oe, om, og) = [(od, on), (ow, oe)] := by
                          show (if ((od, on) : Key) = (ow, oe) then [((od, on) : Key)] else [(od, on), (ow, oe)]) = _
                          exact if_neg HDF.out
                        rw [HE.out, ← hks, hrk]
                        refine ⟨_, M1, rfl, two_keys w7 (od, on) (ow, oe) _ HK7.out.size, HT8.out.alloc _, HM1.out, fun k q => .inl (HOM.out k q), fun k q q2 => ?_, HK7.out.alloc _⟩
                        have := HT8.out.F.own_lt q2
                        have q3 : some w7.heap.size = some k := q
                        injection q3 with q3
                        omega
end Go.Proofs.YtoacobcbloljkaaGreatDoor
