/-
  The walk of the law TreeMoves.
-/
import Derived.Test.YtjaokljbdoocmaaGreatDoorLawUndone
import Derived.Deep.RegionHeld3
import Derived.Deep.DrawnRows
namespace Go.Proofs.YtjaokljbdoocmaaGreatDoor
open Go.RowKit

attribute [local go_sem ↓] Go.wp_at_zero Go.wp_at_succ

/-- While what lay in a directory is looked up again. -/
structure MvIn (w : World) (M : TM) (t : Tr.T) (gx : Nat) (x : En) (A : Option Addr) (n : Nat) (l : List En) (W : World) : Prop where
  g : Grown w M t W
  bs : Beside M 7 A n (cEns l) W
  ex : At W gx 36 (cEn x)
theorem MvIn.below {w W W' : World} {M : TM} {t : Tr.T} {gx : Nat} {x : En} {A : Option Addr} {n : Nat} {l : List En} (H : MvIn w M t gx x A n l W) (hb : Below W.heap.size W W') : MvIn w M t gx x A n l W' := ⟨H.g.below hb, H.bs.below hb, H.ex.below hb⟩

theorem mv_a {w0 w1 : World} (hb : Below w0.heap.size w0 w1) {d i k m : Int} {n s : List UInt8} {g : Bool} :
    At (w1.alloc (.cells #[.int .i64 d, .string ⟨n.toArray⟩, .bool g, .int .i64 i, .int .i64 k, .int .i64 m, .string ⟨s.toArray⟩] 36)) w1.heap.size 36 (cEn ((d, n), g, i, k, m, s)) ∧ Below w0.heap.size w0 (w1.alloc (.cells #[.int .i64 d, .string ⟨n.toArray⟩, .bool g, .int .i64 i, .int .i64 k, .int .i64 m, .string ⟨s.toArray⟩] 36)) :=
  ⟨At.new w1 36 (cEn ((d, n), g, i, k, m, s)), hb.alloc hb.size _⟩
theorem mv_b {w0 w1 : World} {b : Nat} (hA : At w1 b 36 [.int .i64 0, .string ⟨#[]⟩, .bool false, .int .i64 0, .int .i64 0, .int .i64 0, .string ⟨#[]⟩]) (hg : w0.heap.size ≤ b) (hb : Below w0.heap.size w0 w1) {d i k m : Int} {n s : List UInt8} {g : Bool} :
    At (((((((w1.setCell ⟨b, 0, none⟩ (.int .i64 d)).setCell ⟨b, 1, none⟩ (.string ⟨n.toArray⟩)).setCell ⟨b, 2, none⟩ (.bool g)).setCell ⟨b, 3, none⟩ (.int .i64 i)).setCell ⟨b, 4, none⟩ (.int .i64 k)).setCell ⟨b, 5, none⟩ (.int .i64 m)).setCell ⟨b, 6, none⟩ (.string ⟨s.toArray⟩)) b 36 (cEn ((d, n), g, i, k, m, s)) ∧ Below w0.heap.size w0 (((((((w1.setCell ⟨b, 0, none⟩ (.int .i64 d)).setCell ⟨b, 1, none⟩ (.string ⟨n.toArray⟩)).setCell ⟨b, 2, none⟩ (.bool g)).setCell ⟨b, 3, none⟩ (.int .i64 i)).setCell ⟨b, 4, none⟩ (.int .i64 k)).setCell ⟨b, 5, none⟩ (.int .i64 m)).setCell ⟨b, 6, none⟩ (.string ⟨s.toArray⟩)) :=
  ⟨(((((((hA.setCell 0 _).setCell 1 _).setCell 2 _).setCell 3 _).setCell 4 _).setCell 5 _).setCell 6 _), (((((((hb.setCell hg _).setCell hg _).setCell hg _).setCell hg _).setCell hg _).setCell hg _).setCell hg _)⟩

set_option maxRecDepth 100000 in
set_option maxHeartbeats 8000000 in
theorem treeMoves_walk (A : Option Addr) (n c : Nat) (s : List Tr.Op) (o : Tr.Op) (_ho : OpIn o) (w : World) (hs : Rd w 7 A n (cOps s)) (hn : n ≤ 1759218604391) :
    Calls Tryz.prog 4 #[.slice A n c, vOp o] w fun e w' => e = .returned (.bool true) ∧ Below w.heap.size w w' := by
  have AO := At.new w 54 (cOp o)
  have hbh := behind05_any (w.alloc (.cells (cOp o).toArray 54)) A n c s (hs.alloc _) hn
  have hbd := run_bounds s s.length (by rw [hs.ops_len]; exact hn)
  rw [List.take_length] at hbd
  generalize Tr.run Tr.t0 s = t at hbh hbd
  obtain ⟨k, d, nm, tw, nw, md, tg⟩ := o
  have HAO := Lib.hid AO
  have HS := Lib.hid hbh
  have HBD := Lib.hid hbd
  clear hs hbh AO hbd _ho
  unfold vOp
  simp only [cOp, txt] at HAO HS ⊢
  go_enter Tryz.func4, Tryz.ntmps4
  go_wp2_with fail
  refine HS.out.mono ?_
  rintro r w1 ⟨M, rfl, hg1⟩
  have HO1 : Hid (Opb w M t w.heap.size (k, d, nm, tw, nw, md, tg) w1) := ⟨hg1.later ((Below.refl _ _).alloc (Nat.le_refl _) _), HAO.out.below hg1.bl, Nat.le_refl _, fun q => by have := hg1.own _ q; simp at this; omega⟩
  clear hg1 HS HAO
  have cf := HO1.out.blk.frozen
  have clt := HO1.out.blk.lt
  have c0 : w1.cell? ⟨w.heap.size, 0, none⟩ = some (.int .i64 k) := HO1.out.blk.cell 0
  go_upto_region 5 with fail
  have HO2 : Hid (Opb w M t w.heap.size (10, d, nm, tw, nw, md, tg) (w1.setCell ⟨w.heap.size, 0, none⟩ (.int .i64 10))) := HO1.out.kind 10
  obtain ⟨w2, hw2⟩ : ∃ w2, w1.setCell ⟨w.heap.size, 0, none⟩ (.int .i64 10) = w2 := ⟨_, rfl⟩
  rw [hw2] at HO2 ⊢
  clear hw2 cf clt c0 HO1
  go_wp2_with fail
  refine (treeDump_any w2 M t HO2.out.g.at_ (by have := HBD.out; omega)).mono ?_
  rintro r w3 ⟨v3, rfl, o3, b3⟩
  obtain ⟨A2, c2, rfl, g3, r3⟩ := dump_beside HO2.out.g o3 b3
  have HO3 := Lib.hid (HO2.out.below b3)
  have HB3 := Lib.hid r3
  clear o3 b3 g3 r3 HO2
  obtain ⟨c0, c1, c2', c3, c4, c5, c6⟩ := op_cells (o := (10, d, nm, tw, nw, md, tg)) HO3.out.blk
  have clt := HO3.out.blk.lt
  simp only at c0 c1 c2' c3 c4 c5 c6
  have hlo := treeLook_any w3 M t d nm HO3.out.g.at_
  have hap := fun V H => treeApply_any V M t (10, d, nm, tw, nw, md, tg) H (by have := HBD.out; omega) (by have := HBD.out; omega)
  have hlen := HO3.out.g.at_.good.len
  simp only [vOp, cOp, txt] at hap
  by_cases he : (Tr.does t (10, d, nm, tw, nw, md, tg)).1 = 0
  · obtain ⟨x, hx, hxk, hl1, hl2, ⟨z, hl3, hz⟩, hl4, hnx⟩ := Tr.moves_law HO3.out.g.at_.good (o := (10, d, nm, tw, nw, md, tg)) rfl he
    simp only [Tr.Op.key, Tr.Op.to] at hxk hl1 hl2 hl3 hz
    rw [hl1] at hlo
    rw [Tr.apply_ok he] at hap
    have hvs := (Tr.does_size t (10, d, nm, tw, nw, md, tg)).2.2
    generalize (Tr.does t (10, d, nm, tw, nw, md, tg)).2 = t2 at hap hl2 hl3 hl4 hnx hvs
    obtain ⟨⟨xd, xn⟩, xi, xk, xm, xt⟩ := x
    obtain ⟨⟨zd, zn⟩, zg, zi, zk, zm, zt⟩ := z
    simp only [Prod.mk.injEq] at hxk hz
    obtain ⟨rfl, rfl⟩ := hxk
    have hkl : (Tr.keysOf (10, xd, xn, tw, nw, md, tg)).length = (Tr.keysOf (10, xd, xn, tw, nw, md, tg)).length := rfl
    generalize Tr.keysOf (10, xd, xn, tw, nw, md, tg) = ks at hap hkl
    have HLO := Lib.hid hlo
    have HAP := Lib.hid hap
    have HL2 := Lib.hid hl2
    have HL3 := Lib.hid hl3
    have HL4 := Lib.hid hl4
    have HZ := Lib.hid hz
    have HVS := Lib.hid hvs
    have HNX := Lib.hid hnx
    clear hlo hap hl1 hl2 hl3 hl4 hz hvs hnx hkl he hx
    go_wp2_with fail
    refine HLO.out.mono ?_
    rintro r w4 ⟨rfl, b4⟩
    have HO4 := Lib.hid (HO3.out.below b4)
    have HB4 := Lib.hid (HB3.out.below b4)
    clear b4 c0 c1 c2' c3 c4 c5 c6 clt
    simp only [Tr.enOf, vEn, txt]
    go_upto_region 7 with fail
    have hb5 : Below w4.heap.size w4 (w4.alloc (.cells #[.int .i64 xd, .string ⟨xn.toArray⟩, .bool false, .int .i64 xi, .int .i64 xk, .int .i64 xm, .string ⟨xt.toArray⟩] 36)) := (Below.refl _ _).alloc (Nat.le_refl _) _
    have AX := At.new w4 36 (cEn ((xd, xn), false, xi, xk, xm, xt))
    simp only [cEn, txt] at AX
    have HO5 := Lib.hid (HO4.out.below hb5)
    have HB5 := Lib.hid (HB4.out.below hb5)
    obtain ⟨w5, hw5⟩ : ∃ w5, w4.alloc (.cells #[.int .i64 xd, .string ⟨xn.toArray⟩, .bool false, .int .i64 xi, .int .i64 xk, .int .i64 xm, .string ⟨xt.toArray⟩] 36) = w5 := ⟨_, rfl⟩
    rw [hw5] at AX HO5 HB5 ⊢
    have HX5 : Hid (At w5 w4.heap.size 36 (cEn ((xd, xn), false, xi, xk, xm, xt))) := AX
    have HNO5 : Hid (¬ M.own w4.heap.size) := fun q => by have := HO4.out.g.at_.F.own_lt q; omega
    clear AX hw5 hb5 HO4 HB4
    obtain ⟨c0, c1, c2', c3, c4, c5, c6⟩ := op_cells (o := (10, xd, xn, tw, nw, md, tg)) HO5.out.blk
    have clt := HO5.out.blk.lt
    simp only at c0 c1 c2' c3 c4 c5 c6
    go_wp2_with fail
    refine (HAP.out _ HO5.out.g.at_).mono ?_
    rintro r w6 hpost
    obtain ⟨A6, k6, A7, k7, M6, rfl, -, -, -, -, -, hg6, ht6, ho6, hk6⟩ := HO5.out.g.apply hpost
    simp only [List.length_map] at hg6 ⊢
    have HB6 := Lib.hid (HB5.out.kp hk6 ho6)
    have HO6 := Lib.hid (HO5.out.turn hg6 ho6 hk6)
    have HX6 := Lib.hid (HX5.out.kp hk6 HNO5.out)
    have hlo := fun V d nm H => treeLook_any V M6 ⟨t2.L, t.vers + 1, t2.next⟩ d nm H
    simp only [ht6] at hlo
    have HLO6 := Lib.hid hlo
    clear hpost hg6 ht6 ho6 hk6 HAP hlo c0 c1 c2' c3 c4 c5 c6 clt HLO HO5 HB5 HX5 HNO5
    obtain ⟨c0, c1, c2', c3, c4, c5, c6⟩ := op_cells (o := (10, xd, xn, tw, nw, md, tg)) HO6.out.blk
    have clt := HO6.out.blk.lt
    simp only at c0 c1 c2' c3 c4 c5 c6
    have h1 := HLO6.out w6 tw nw HO6.out.g.at_
    rw [HL2.out] at h1
    go_wp2_with fail
    refine h1.mono ?_
    rintro r w7 ⟨rfl, b7⟩
    have hb8 : Below w6.heap.size w6 (w7.alloc (.cells #[.int .i64 tw, .string ⟨nw.toArray⟩, .bool false, .int .i64 xi, .int .i64 xk, .int .i64 xm, .string ⟨xt.toArray⟩] 36)) := b7.alloc b7.size _
    have AY := At.new w7 36 (cEn ((tw, nw), false, xi, xk, xm, xt))
    simp only [cEn, txt] at AY
    simp only [vEn, txt]
    clear b7 h1 c0 c1 c2' c3 c4 c5 c6 clt
    go_upto_region 11 with fail
    obtain ⟨w8, hw8⟩ : ∃ w8, w7.alloc (.cells #[.int .i64 tw, .string ⟨nw.toArray⟩, .bool false, .int .i64 xi, .int .i64 xk, .int .i64 xm, .string ⟨xt.toArray⟩] 36) = w8 := ⟨_, rfl⟩
    rw [hw8] at AY hb8 ⊢
    have HO8 := Lib.hid (HO6.out.below hb8)
    have HB8 := Lib.hid (HB6.out.below hb8)
    have HX8 := Lib.hid (HX6.out.below hb8)
    have HY8 : Hid (At w8 w7.heap.size 36 (cEn ((tw, nw), false, xi, xk, xm, xt))) := AY
    clear hw8 AY hb8 HO6 HB6 HX6
    obtain ⟨x0, x1, x2, x3, x4, x5, x6⟩ := en_cells HX8.out
    obtain ⟨y0, y1, y2, y3, y4, y5, y6⟩ := en_cells HY8.out
    simp only [txt] at x0 x1 x2 x3 x4 x5 x6 y0 y1 y2 y3 y4 y5 y6
    have hqn : ∀ V : World, (binOp .neq 34 (.agg #[.int .i64 xi, .int .i64 xk, .int .i64 xm, .string ⟨xt.toArray⟩]) (.agg #[.int .i64 xi, .int .i64 xk, .int .i64 xm, .string ⟨xt.toArray⟩])).run Tryz.prog V = .ok (.bool false) V := fun V => by
      have := neq_node (xi, xk, xm, xt) (xi, xk, xm, xt) V
      simpa [vNd, txt] using this
    go_upto_region 13 with fail
    clear x0 x1 x2 x3 x4 x5 x6 y0 y1 y2 y3 y4 y5 y6 hqn HY8
    obtain ⟨c0, c1, c2', c3, c4, c5, c6⟩ := op_cells (o := (10, xd, xn, tw, nw, md, tg)) HO8.out.blk
    have clt := HO8.out.blk.lt
    simp only at c0 c1 c2' c3 c4 c5 c6
    have h1 := HLO6.out w8 xd xn HO8.out.g.at_
    rw [HL3.out] at h1
    go_wp2_with fail
    refine h1.mono ?_
    rintro r w9 ⟨rfl, b9⟩
    simp only [vEn, txt]
    go_upto_region 14 with fail
    have hb10 : Below w8.heap.size w8 (w9.alloc (.cells #[.int .i64 zd, .string ⟨zn.toArray⟩, .bool zg, .int .i64 zi, .int .i64 zk, .int .i64 zm, .string ⟨zt.toArray⟩] 36)) := b9.alloc b9.size _
    have AZ := At.new w9 36 (cEn ((zd, zn), zg, zi, zk, zm, zt))
    simp only [cEn, txt] at AZ
    obtain ⟨w10, hw10⟩ : ∃ w10, w9.alloc (.cells #[.int .i64 zd, .string ⟨zn.toArray⟩, .bool zg, .int .i64 zi, .int .i64 zk, .int .i64 zm, .string ⟨zt.toArray⟩] 36) = w10 := ⟨_, rfl⟩
    rw [hw10] at AZ hb10 ⊢
    have HO10 := Lib.hid (HO8.out.below hb10)
    have HB10 := Lib.hid (HB8.out.below hb10)
    have HX10 := Lib.hid (HX8.out.below hb10)
    have z2 : w10.cell? ⟨w9.heap.size, 2, none⟩ = some (.bool zg) := AZ.cell 2
    clear b9 h1 hw10 AZ hb10 c0 c1 c2' c3 c4 c5 c6 clt HO8 HB8 HX8
    obtain ⟨c0, c1, c2', c3, c4, c5, c6⟩ := op_cells (o := (10, xd, xn, tw, nw, md, tg)) HO10.out.blk
    have clt := HO10.out.blk.lt
    simp only at c0 c1 c2' c3 c4 c5 c6
    go_cut [122] (fun b wd => b = .bool false ∧ w10 = wd)
    case first =>
      by_cases hd : xd = tw
      · subst hd
        by_cases hs : xn = nw
        · subst hs
          have hzg : zg = false := by rw [HZ.out]; simp
          subst hzg
          go_wp2_with fail
          go_meet
          case rel => exact ⟨rfl, rfl⟩
        · have hzg : zg = true := by rw [HZ.out]; simp [hs]
          have hsb : ((⟨xn.toArray⟩ : ByteArray) == ⟨nw.toArray⟩) = false := by rw [bytes_mk_beq]; simp [hs]
          have hsc : ((⟨xn.toArray⟩ : ByteArray) != ⟨nw.toArray⟩) = true := by unfold bne; rw [hsb]; rfl
          have hse : (xn == nw) = false := by simpa using hs
          subst hzg
          clear hs
          go_wp2_with fail
          go_meet
          case rel => exact ⟨by first | rfl | rw [hse], rfl⟩
      · have hzg : zg = true := by rw [HZ.out]; simp [hd]
        have hdb : (xd == tw) = false := by simpa using hd
        have hdc : (xd != tw) = true := by simpa using hd
        subst hzg
        clear hd
        go_wp2_with fail
        go_meet
        case rel => exact ⟨rfl, rfl⟩
    case rest =>
      obtain ⟨rfl, rfl⟩ := hcut
      clear c0 c1 c2' c3 c4 c5 c6 clt z2
      have HM : Hid (MvIn w M6 ⟨t2.L, t.vers + 1, t2.next⟩ w4.heap.size ((xd, xn), false, xi, xk, xm, xt) A2 t.L.length (Tr.dumpR t.L) w10) := ⟨HO10.out.g, HB10.out, HX10.out⟩
      have HLEN := Lib.hid hlen
      have HDL := Lib.hid (Tr.dump_len t.L)
      obtain ⟨m, hm⟩ : ∃ m, t.L.length = m := ⟨_, rfl⟩
      rw [hm] at HM HLEN ⊢
      have hm47 : m ≤ 47 := HLEN.out
      clear HO10 HB10 HX10 hm hlen
      go_wp2_with fail
      go_loopw [17] (fun iv wx => ∃ j : Nat, j ≤ m ∧ iv = .int .i64 j ∧ Hid (MvIn w M6 ⟨t2.L, t.vers + 1, t2.next⟩ w4.heap.size ((xd, xn), false, xi, xk, xm, xt) A2 m (Tr.dumpR t.L) wx)) (fun iv _ => m - (RowKit.intOf iv).toNat)
      case atStart => exact ⟨0, by omega, rfl, HM⟩
      case round =>
        obtain ⟨j, hj, rfl, HI⟩ := hrel
        by_cases hlt : j < m
        · obtain ⟨ad, ed, es, eg, ei, ek, em, et, rfl, hbl, hx, q0, q1, q2, q3, q4, q5, q6⟩ := HI.out.bs.rd.en_at hlt
          obtain ⟨y, hy, hye⟩ := Tr.dump_get hx
          obtain ⟨x0, x1, x2, x3, x4, x5, x6⟩ := en_cells HI.out.ex
          have hy2 : y ∈ t.L := (Tr.srt_perm _).mem_iff.1 (List.mem_of_getElem? hy)
          obtain ⟨⟨yd, yn⟩, yi, yk, ym, yt⟩ := y
          simp only [Tr.enOf, Prod.mk.injEq] at hye
          obtain ⟨⟨rfl, rfl⟩, rfl, rfl, rfl, rfl, rfl⟩ := hye
          have hloc : ed = xi → Tr.lookR t2.L ed es = (((ed, es), false, ei, ek, em, et), 0) := fun h => HL4.out _ hy2 h
          have HLC := Lib.hid hloc
          have HX := Lib.hid hx
          clear hx hy hy2 hloc
          go_upto_region 19 with fail
          go_quiet (fail)
          by_cases hed : ed = xi
          · have hl := HLC.out hed
            have hedb : (ed == xi) = true := by simpa using hed
            obtain ⟨wq, hwq⟩ : ∃ wq, wr.drewN nq = wq := ⟨_, rfl⟩
            have HIQ := Lib.hid (HI.out.below (below_drewN_ (Below.refl _ wr) nq))
            rw [hwq] at HIQ ⊢
            have hlk := fun V (hb : Below wq.heap.size wq V) => HLO6.out V ed es (HIQ.out.below hb).g.at_
            rw [hl] at hlk
            have HLK := Lib.hid hlk
            have hbq : ad.block < wq.heap.size := by rw [← hwq]; exact hbl
            have hKL : ∀ V, Below wq.heap.size wq V → (V.cell? (ad.add (j * 7)) = some (.int .i64 ed) ∧ V.cell? ⟨(ad.add (j * 7)).block, (ad.add (j * 7)).off + 1, none⟩ = some (.string ⟨es.toArray⟩)) ∧ Hid (Below wq.heap.size wq V) := fun V hb => by
              obtain ⟨ad', e, _, _, p0, p1, _⟩ := entry_at (HIQ.out.below hb).bs.rd HX.out
              injection e with e
              subst e
              exact ⟨⟨p0, p1⟩, hb⟩
            have KL := Lib.hid hKL
            clear hKL hlk hl hwq q0 q1 q2 q3 q4 q5 q6 x0 x1 x2 x3 x4 x5 x6 hed hbl
            go_upto_region 20 with fail
            go_cut [18, 19] (fun pv ev wd => ∃ g, pv = .pointer (some ⟨g, 0, none⟩) ∧ ev = .int .i64 0 ∧ Hid (At wd g 36 (cEn ((ed, es), false, ei, ek, em, et)) ∧ Below wq.heap.size wq wd))
            case first =>
              obtain ⟨⟨q0, q1⟩, -⟩ := KL.out wq (Below.refl _ _)
              have q0a : ∀ o, (wq.alloc o).cell? (ad.add (j * 7)) = some (.int .i64 ed) := fun o => cell_alloc_old q0 o
              have q1a : ∀ o, (wq.alloc o).cell? ⟨(ad.add (j * 7)).block, (ad.add (j * 7)).off + 1, none⟩ = some (.string ⟨es.toArray⟩) := fun o => cell_alloc_old q1 o
              have hbq2 : (ad.add (j * 7)).block < wq.heap.size := by rw [add_block]; exact hbq
              go_region_with (go_at_call 25; (with_reducible refine (HLK.out _ ?tt).mono ?_); (case tt => repeat (first | with_reducible exact Below.refl _ _ | with_reducible refine below_drew ?_ | with_reducible refine Below.alloc ?_ (Nat.le_refl _) _)); rintro r w11 ⟨rfl, b11⟩; (have HBW : Hid (Below wq.heap.size wq w11) := (by first | exact Lib.hid (below_next (below_drew (Below.refl _ wq)) (Nat.le_refl _) b11) | exact Lib.hid (below_next (below_drew ((Below.refl _ wq).alloc (Nat.le_refl _) _)) (by simp) b11))); (try (have HAZ : Hid (At w11 wq.heap.size 36 [.int .i64 0, .string ⟨#[]⟩, .bool false, .int .i64 0, .int .i64 0, .int .i64 0, .string ⟨#[]⟩]) := (by with_reducible exact Lib.hid (At.below (At.drew (At.new wq 36 [.int .i64 0, .string ⟨#[]⟩, .bool false, .int .i64 0, .int .i64 0, .int .i64 0, .string ⟨#[]⟩])) b11)); obtain ⟨z0, z1, z2, z3, z4, z5, z6⟩ := en_cells HAZ.out; have zf := HAZ.out.frozen; have zl := HAZ.out.lt)); clear b11; simp only [vEn, txt])
              all_goals
                go_wp2_with fail
                go_meet
                case rel => first | with_reducible exact ⟨_, rfl, rfl, Lib.hid (mv_a HBW.out)⟩ | with_reducible exact ⟨_, rfl, rfl, Lib.hid (mv_b HAZ.out (Nat.le_refl _) HBW.out)⟩
            case rest =>
              obtain ⟨g, rfl, rfl, hcut⟩ := hcut
              have HC := Lib.hid hcut.out
              obtain ⟨wz, hwz⟩ : ∃ wz : World, wz = wc := ⟨_, rfl⟩
              subst hwz
              have HMZ := Lib.hid (HIQ.out.below HC.out.2)
              obtain ⟨ad', e, _, _, q0, q1, q2, q3, q4, q5, q6⟩ := entry_at HMZ.out.bs.rd HX.out
              injection e with e
              subst e
              obtain ⟨v0, v1, v2, v3, v4, v5, v6⟩ := en_cells HC.out.1
              simp only [txt] at v0 v1 v2 v3 v4 v5 v6
              have hqe : ∀ V : World, (binOp .neq 36 (.agg #[.int .i64 ed, .string ⟨es.toArray⟩, .bool false, .int .i64 ei, .int .i64 ek, .int .i64 em, .string ⟨et.toArray⟩]) (.agg #[.int .i64 ed, .string ⟨es.toArray⟩, .bool false, .int .i64 ei, .int .i64 ek, .int .i64 em, .string ⟨et.toArray⟩])).run Tryz.prog V = .ok (.bool false) V := fun V => by
                have := neq_entry ((ed, es), false, ei, ek, em, et) ((ed, es), false, ei, ek, em, et) V
                simpa [vEn, txt] using this
              clear hcut
              go_upto_region 21 with fail
              go_quiet (fail)
              go_wp2_with fail
              go_roundw
              case rel => exact ⟨j + 1, by omega, by go_num, Lib.hid (HMZ.out.below (below_drewN_ (Below.refl _ _) _))⟩
              case measure => simp [RowKit.intOf] <;> omega
          · have hedb : (ed == xi) = false := by simpa using hed
            clear hed
            go_wp2_with fail
            go_roundw
            case rel => exact ⟨j + 1, by omega, by go_num, Lib.hid (HI.out.below (below_drewN_ (Below.refl _ _) _))⟩
            case measure => simp [RowKit.intOf] <;> omega
        · obtain rfl : j = m := by omega
          go_wp2_with fail
          refine (awake05 _).mono ?_
          rintro r w11 ⟨rfl, b11⟩
          go_wp2_with fail
          go_ret
          exact ⟨rfl, HI.out.g.bl.trans (b11.mono HI.out.g.bl.size)⟩
  · have hR := Tr.apply_bad he
    obtain ⟨e, hee⟩ : ∃ e, (Tr.does t (10, d, nm, tw, nw, md, tg)).1 = e := ⟨_, rfl⟩
    rw [hR, hee] at hap
    rw [hee] at he
    have heb : (e == 0) = false := by simpa using he
    generalize Tr.lookR t.L d nm = lr at hlo
    obtain ⟨⟨⟨ld, ln⟩, lg, li, lk, lm, lt⟩, le⟩ := lr
    simp only at hlo
    have HLO := Lib.hid hlo
    have HAP := Lib.hid hap
    have HLEN := Lib.hid hlen
    clear hap hee hR he hlen hlo
    go_wp2_with fail
    refine HLO.out.mono ?_
    rintro r w4 ⟨rfl, b4⟩
    have HO4 := Lib.hid (HO3.out.below b4)
    have HB4 := Lib.hid (HB3.out.below b4)
    clear b4 c0 c1 c2' c3 c4 c5 c6 clt
    simp only [vEn, txt]
    go_upto_region 7 with fail
    have hb5 : Below w4.heap.size w4 (w4.alloc (.cells #[.int .i64 ld, .string ⟨ln.toArray⟩, .bool lg, .int .i64 li, .int .i64 lk, .int .i64 lm, .string ⟨lt.toArray⟩] 36)) := (Below.refl _ _).alloc (Nat.le_refl _) _
    have HO5 := Lib.hid (HO4.out.below hb5)
    have HB5 := Lib.hid (HB4.out.below hb5)
    obtain ⟨w5, hw5⟩ : ∃ w5, w4.alloc (.cells #[.int .i64 ld, .string ⟨ln.toArray⟩, .bool lg, .int .i64 li, .int .i64 lk, .int .i64 lm, .string ⟨lt.toArray⟩] 36) = w5 := ⟨_, rfl⟩
    rw [hw5] at HO5 HB5 ⊢
    clear hw5 hb5 HO4 HB4
    obtain ⟨c0, c1, c2', c3, c4, c5, c6⟩ := op_cells (o := (10, d, nm, tw, nw, md, tg)) HO5.out.blk
    have clt := HO5.out.blk.lt
    simp only at c0 c1 c2' c3 c4 c5 c6
    go_wp2_with fail
    refine (HAP.out _ HO5.out.g.at_).mono ?_
    rintro r w6 hpost
    obtain ⟨A6, k6, A7, k7, M6, rfl, -, -, -, -, -, hg6, ht6, ho6, hk6⟩ := HO5.out.g.apply hpost
    simp only [List.length_nil] at hg6 ⊢
    have HB6 := Lib.hid (HB5.out.kp hk6 ho6)
    have HG6 := Lib.hid hg6
    have hdu := fun V H => treeDump_any V M6 t H (by have := HBD.out; omega)
    rw [ht6] at hdu
    have HDU := Lib.hid hdu
    clear hpost hg6 ht6 ho6 hk6 HAP hdu c0 c1 c2' c3 c4 c5 c6 clt HLO HO5 HB5
    go_wp2_with fail
    refine (HDU.out _ HG6.out.at_).mono ?_
    rintro r w7 ⟨v7, rfl, o7, b7⟩
    obtain ⟨A8, c8, rfl⟩ := own_slice o7
    have HG7 := Lib.hid (HG6.out.below b7)
    have HS7 := Lib.hid (sameDump t HLEN.out A8 A2 c8 c2 w7 (Rd.of_own o7) (HB6.out.below b7).rd)
    clear o7 b7
    go_wp2_with fail
    refine HS7.out.mono ?_
    rintro r w8 ⟨rfl, b8⟩
    have HG8 := Lib.hid (HG7.out.below b8)
    clear b8
    go_wp2_with fail
    refine (awake05 _).mono ?_
    rintro r w9 ⟨rfl, b9⟩
    go_wp2_with fail
    go_ret
    exact ⟨rfl, HG8.out.bl.trans (b9.mono HG8.out.bl.size)⟩
end Go.Proofs.YtjaokljbdoocmaaGreatDoor
