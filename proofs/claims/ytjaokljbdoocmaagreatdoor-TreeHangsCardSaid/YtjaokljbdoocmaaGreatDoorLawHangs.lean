/-
  The walk of the law TreeHangs.
-/
import Derived.Test.YtjaokljbdoocmaaGreatDoorLawNames
import Derived.Deep.RegionHeld3
import Derived.Deep.DrawnRows
namespace Go.Proofs.YtjaokljbdoocmaaGreatDoor
open Go.RowKit

attribute [local go_sem ↓] Go.wp_at_zero Go.wp_at_succ

namespace Tr
/-- A directory that is not the root: its entry, and where it lies. -/
theorem hang_find {t : T} (h : Good t) {k : Nat} {d : Int} (hk : Hang t.L k d) (h1 : d ≠ 1) (hd : isDir t.L d = true) :
    ∃ k' y, k = k' + 1 ∧ y ∈ t.L ∧ findR t.L d = (enOf y, 0) ∧ y.2.2.1 = 1 ∧ Hang t.L k' y.1.1 ∧ isDir t.L y.1.1 = true := by
  obtain ⟨k', y, e, hy, rfl, hk'⟩ := hk.step h1
  refine ⟨k', y, e, hy, ?_, ?_, hk', h.dirs y hy⟩
  · unfold findR
    rw [if_neg h1, byId_of h.ids hy]
  · rcases isDir_iff.1 hd with q | ⟨_, z, hz, hz1⟩
    · exact absurd q h1
    · rw [byId_of h.ids hy] at hz
      injection hz with hz
      rw [hz]
      exact hz1
theorem Good.find_mem {t : T} (h : Good t) {x : TE} (hx : x ∈ t.L) : findR t.L x.2.1 = (enOf x, 0) := by
  have := (h.lo x hx).1
  unfold findR
  rw [if_neg (by omega), byId_of h.ids hx]
theorem Good.list_dir {t : T} (h : Good t) {x : TE} (hx : x ∈ t.L) : listR t.L x.1.1 = (sorted (ofDir t.L x.1.1), 0) := by
  unfold listR
  rw [if_neg (by rw [dirE_zero.2 (h.dirs x hx)]; simp)]
theorem sorted_get {L : List TE} {i : Nat} {e : En} (h : (sorted L)[i]? = some e) : ∃ x, (srt L)[i]? = some x ∧ e = enOf x := dump_get h
/-- Names of a listing rise. -/
theorem list_rise {t : T} (h : Good t) {d : Int} {i : Nat} {e f : En} (he : (sorted (ofDir t.L d))[i]? = some e) (hf : (sorted (ofDir t.L d))[i + 1]? = some f) : e.1.2 < f.1.2 := by
  obtain ⟨x, hx, rfl⟩ := sorted_get he
  obtain ⟨y, hy, rfl⟩ := sorted_get hf
  have hk : ((ofDir t.L d).map Prod.fst).Nodup := List.Nodup.sublist ((List.filter_sublist).map _) h.keys
  have hx1 := (mem_ofDir.1 ((srt_perm _).mem_iff.1 (List.mem_of_getElem? hx))).2
  have hy1 := (mem_ofDir.1 ((srt_perm _).mem_iff.1 (List.mem_of_getElem? hy))).2
  rcases srt_next hk hx hy with q | ⟨_, q⟩
  · omega
  · exact q
theorem list_dir_of {t : T} {d : Int} {i : Nat} {e : En} (he : (sorted (ofDir t.L d))[i]? = some e) : e.1.1 = d := by
  obtain ⟨x, hx, rfl⟩ := sorted_get he
  exact (mem_ofDir.1 ((srt_perm _).mem_iff.1 (List.mem_of_getElem? hx))).2
theorem list_has {t : T} {x : TE} (hx : x ∈ t.L) : ∃ i : Nat, (sorted (ofDir t.L x.1.1))[i]? = some (enOf x) := by
  have hm : x ∈ srt (ofDir t.L x.1.1) := (srt_perm _).mem_iff.2 (mem_ofDir.2 ⟨hx, rfl⟩)
  obtain ⟨i, hi⟩ := List.getElem?_of_mem hm
  exact ⟨i, by unfold sorted; rw [List.getElem?_map]; change Option.map enOf (srt (ofDir t.L x.1.1))[i]? = _; rw [hi]; rfl⟩
end Tr

/-- A tree, and what it has told. -/
structure HgIn (w : World) (M : TM) (t : Tr.T) (A : Option Addr) (n : Nat) (W : World) : Prop where
  g : Grown w M t W
  rd : Rd W 7 A n (cEns (Tr.dumpR t.L))
theorem HgIn.below {w W W' : World} {M : TM} {t : Tr.T} {A : Option Addr} {n : Nat} (H : HgIn w M t A n W) (hb : Below W.heap.size W W') : HgIn w M t A n W' := ⟨H.g.below hb, H.rd.below hb⟩

/-- On the way up: the directory, and how many steps are left. -/
structure HgUp (w : World) (M : TM) (t : Tr.T) (A : Option Addr) (n : Nat) (q : Nat) (d : Int) (W : World) : Prop where
  i : HgIn w M t A n W
  hang : Tr.Hang t.L q d
  dir : Tr.isDir t.L d = true

set_option maxRecDepth 100000 in
set_option maxHeartbeats 8000000 in
theorem treeHangs_walk (A : Option Addr) (n c : Nat) (s : List Tr.Op) (w : World) (hs : Rd w 7 A n (cOps s)) (hn : n ≤ 1759218604391) :
    Calls Tryz.prog 10 #[.slice A n c] w fun e w' => e = .returned (.bool true) ∧ Below w.heap.size w w' := by
  have hbh := behind05_any w A n c s hs hn
  have hbd := run_bounds s s.length (by rw [hs.ops_len]; exact hn)
  rw [List.take_length] at hbd
  generalize Tr.run Tr.t0 s = t at hbh hbd
  have HS := Lib.hid hbh
  have HBD := Lib.hid hbd
  clear hs hbh hbd
  go_enter Tryz.func10, Tryz.ntmps10
  go_wp2_with fail
  refine HS.out.mono ?_
  rintro r w1 ⟨M, rfl, hg1⟩
  have HG1 := Lib.hid hg1
  have HGD := Lib.hid hg1.at_.good
  have hl47 := hg1.at_.good.len
  clear hg1 HS
  go_wp2_with fail
  refine (treeDump_any w1 M t HG1.out.at_ (by have := HBD.out; omega)).mono ?_
  rintro r w2 ⟨v2, rfl, o2, b2⟩
  obtain ⟨A2, c2, rfl⟩ := own_slice o2
  have HI2 : Hid (HgIn w M t A2 t.L.length w2) := ⟨HG1.out.below b2, Rd.of_own o2⟩
  clear o2 b2 HG1
  go_wp2_with fail
  refine (treeCount_any w2 M t HI2.out.g.at_).mono ?_
  rintro r w3 ⟨rfl, rfl⟩
  obtain ⟨m, hm⟩ : ∃ m, t.L.length = m := ⟨_, rfl⟩
  rw [hm] at HI2 hl47 ⊢
  have HM := Lib.hid hm
  clear hm
  have h48 : (m : Int) + 1 ≤ 48 := by omega
  have h481 : ¬ (48 : Int) < (m : Int) + 1 := by omega
  go_wp2_with fail
  refine (treeCount_any w2 M t HI2.out.g.at_).mono ?_
  rintro r w3 ⟨rfl, rfl⟩
  rw [HM.out]
  go_wp2_with fail
  go_loopw [6] (fun iv wx => ∃ j : Nat, j ≤ m ∧ iv = .int .i64 j ∧ Hid (HgIn w M t A2 m wx)) (fun iv _ => m - (RowKit.intOf iv).toNat)
  case atStart => exact ⟨0, by omega, rfl, HI2⟩
  case round =>
    obtain ⟨j, hj, rfl, HI⟩ := hrel
    by_cases hlt : j < m
    · obtain ⟨ad, xd, xn, xg, xi, xk, xm, xt, rfl, hbl, hx, x0, x1, x2, x3, x4, x5, x6⟩ := HI.out.rd.en_at hlt
      obtain ⟨⟨⟨yd, yn⟩, yi, yk, ym, yt⟩, hy, hye⟩ := Tr.dump_get hx
      simp only [Tr.enOf, Prod.mk.injEq] at hye
      obtain ⟨⟨rfl, rfl⟩, rfl, rfl, rfl, rfl, rfl⟩ := hye
      have hmem : ((xd, xn), xi, xk, xm, xt) ∈ t.L := (Tr.srt_perm _).mem_iff.1 (List.mem_of_getElem? hy)
      have HMEM := Lib.hid hmem
      have hlo := HGD.out.lo _ hmem
      have hnm := HGD.out.name _ hmem
      simp only at hlo hnm
      have hck := fun V => check_any ⟨xn.toArray⟩ V
      simp only [toList_mk, hnm] at hck
      have HCK := Lib.hid hck
      have hnx : ∀ V, HgIn w M t (some ad) m V → Calls Tryz.prog 29 #[.pointer (some ⟨M.t, 0, none⟩)] V fun r w' => r = .returned (.int .i64 t.next) ∧ Below V.heap.size V w' := fun V HV => (treeNext_any V M t HV.g.at_).mono fun r w' h => ⟨h.1, h.2 ▸ Below.refl _ _⟩
      have HNX := Lib.hid hnx
      have g1 : decide (xi ≤ 1) = false := decide_eq_false (by omega)
      have g2 : decide (t.next ≤ xi) = false := decide_eq_false (by omega)
      have g3 : ¬ (xi ≤ 1) := by omega
      have g4 : ¬ (t.next ≤ xi) := by omega
      have hKL : ∀ V, HgIn w M t (some ad) m V → (V.cell? (ad.add (j * 7)) = some (.int .i64 xd) ∧ V.cell? ⟨(ad.add (j * 7)).block, (ad.add (j * 7)).off + 1, none⟩ = some (.string ⟨xn.toArray⟩) ∧ V.cell? ⟨(ad.add (j * 7)).block, (ad.add (j * 7)).off + 2, none⟩ = some (.bool false) ∧ V.cell? ⟨(ad.add (j * 7)).block, (ad.add (j * 7)).off + 3, none⟩ = some (.int .i64 xi)) ∧ Hid (HgIn w M t (some ad) m V) := fun V HV => by
        obtain ⟨ad', xd', xn', xg', xi', xk', xm', xt', e, -, hx', p0, p1, p2, p3, -, -, -⟩ := HV.rd.en_at hlt
        injection e with e
        subst e
        rw [hx] at hx'
        simp only [Option.some.injEq, Prod.mk.injEq] at hx'
        obtain ⟨⟨rfl, rfl⟩, rfl, rfl, rfl, rfl, rfl⟩ := hx'
        exact ⟨⟨p0, p1, p2, p3⟩, HV⟩
      have KL := Lib.hid hKL
      have HX := Lib.hid hx
      clear hck hnx hKL hx hy hmem hlo hnm
      go_upto_region 10 with fail
      go_cut [77] (fun bv wd => bv = .bool false ∧ Hid (HgIn w M t (some ad) m wd))
      case first =>
        first
        | (go_region_held3 (fun V => (V.cell? (ad.add (j * 7)) = some (.int .i64 xd) ∧ V.cell? ⟨(ad.add (j * 7)).block, (ad.add (j * 7)).off + 1, none⟩ = some (.string ⟨xn.toArray⟩) ∧ V.cell? ⟨(ad.add (j * 7)).block, (ad.add (j * 7)).off + 2, none⟩ = some (.bool false) ∧ V.cell? ⟨(ad.add (j * 7)).block, (ad.add (j * 7)).off + 3, none⟩ = some (.int .i64 xi)) ∧ Hid (HgIn w M t (some ad) m V))
            (first
            | assumption
            | exact KL.out _ (HgIn.below HI.out (below_drew (Below.refl _ _)))
            | exact KL.out _ (HgIn.below (Hid.out (And.right (by assumption))) (Hid.out (by assumption))))
            (first
            | (go_at_call 30; (with_reducible refine (HCK.out _).mono ?_); rintro r w7 ⟨rfl, hb7⟩; have HB7 := Lib.hid hb7; clear hb7)
            | (go_at_call 29; (with_reducible refine (HNX.out _ (Hid.out (And.right (by assumption)))).mono ?_); rintro r w7 ⟨rfl, hb7⟩; have HB7 := Lib.hid hb7; clear hb7)))
        | fail
        all_goals
          have HF := Lib.hid (HgIn.below (Hid.out (And.right (by assumption)) : HgIn w M t (some ad) m _) (Below.refl _ _))
          go_wp2_with fail
          go_meet
          case rel => exact ⟨rfl, HF⟩
      case rest =>
        obtain ⟨rfl, hcut⟩ := hcut
        have HX4 := Lib.hid hcut.out
        obtain ⟨w4, hw4⟩ : ∃ w4 : World, w4 = wc := ⟨_, rfl⟩
        subst hw4
        clear hcut
        obtain ⟨⟨x0, x1, x2, x3⟩, -⟩ := KL.out _ HX4.out
        have hfd := treeFind_any w4 M t xi HX4.out.g.at_
        rw [HGD.out.find_mem HMEM.out] at hfd
        simp only [vEn, Tr.enOf, txt] at hfd
        have HFD := Lib.hid hfd
        clear hfd
        go_wp2_with fail
        refine HFD.out.mono ?_
        rintro r w5 ⟨rfl, b5⟩
        have HX5 := Lib.hid (HX4.out.below b5)
        clear b5 x0 x1 x2 x3 HFD
        go_upto_region 13 with fail
        have AX := At.new w5 36 (cEn ((xd, xn), false, xi, xk, xm, xt))
        simp only [cEn, txt] at AX
        have HX6 : Hid (HgIn w M t (some ad) m (w5.alloc (.cells #[.int .i64 xd, .string ⟨xn.toArray⟩, .bool false, .int .i64 xi, .int .i64 xk, .int .i64 xm, .string ⟨xt.toArray⟩] 36))) := HX5.out.below ((Below.refl _ _).alloc (Nat.le_refl _) _)
        obtain ⟨w6, hw6⟩ : ∃ w6, w5.alloc (.cells #[.int .i64 xd, .string ⟨xn.toArray⟩, .bool false, .int .i64 xi, .int .i64 xk, .int .i64 xm, .string ⟨xt.toArray⟩] 36) = w6 := ⟨_, rfl⟩
        rw [hw6] at AX HX6 ⊢
        obtain ⟨p0, p1, p2, p3, p4, p5, p6⟩ := en_cells AX
        obtain ⟨ad', xd', xn', xg', xi', xk', xm', xt', e, -, hx', x0, x1, x2, x3, x4, x5, x6⟩ := HX6.out.rd.en_at hlt
        injection e with e
        subst e
        rw [HX.out] at hx'
        simp only [Option.some.injEq, Prod.mk.injEq] at hx'
        obtain ⟨⟨rfl, rfl⟩, rfl, rfl, rfl, rfl, rfl⟩ := hx'
        clear AX hw6 HX5 HX4
        go_cut [98] (fun bv wd => bv = .bool false ∧ Hid (HgIn w M t (some ad) m wd))
        case first =>
          go_quiet (fail)
          go_wp2_with fail
          go_meet
          case rel => exact ⟨rfl, Lib.hid (HX6.out.below (below_drewN_ (Below.refl _ _) _))⟩
        case rest =>
          obtain ⟨rfl, hcut⟩ := hcut
          have HX7 := Lib.hid hcut.out
          obtain ⟨w7, hw7⟩ : ∃ w7 : World, w7 = wc := ⟨_, rfl⟩
          subst hw7
          clear hcut HX6 x0 x1 x2 x3 x4 x5 x6 p0 p1 p2 p3 p4 p5 p6
          obtain ⟨⟨x0, x1, x2, x3⟩, -⟩ := KL.out _ HX7.out
          obtain ⟨k0, hk0⟩ := HGD.out.hang _ HMEM.out
          have hk0m := hk0.le HGD.out.ids
          rw [HM.out] at hk0m
          simp only at hk0
          have HU0 : Hid (HgUp w M t (some ad) m k0 xd w7) := ⟨HX7.out, hk0, HGD.out.dirs _ HMEM.out⟩
          clear hk0
          go_wp2_with fail
          go_loopw [9, 10] (fun dv kv wx => ∃ (k q : Nat) (d : Int), k + q ≤ m ∧ dv = .int .i64 d ∧ kv = .int .i64 k ∧ Hid (HgUp w M t (some ad) m q d wx)) (fun dv kv _ => m - (RowKit.intOf kv).toNat)
          case atStart => exact ⟨0, k0, xd, by omega, rfl, rfl, HU0⟩
          case round =>
            obtain ⟨k, q, d, hkq, rfl, rfl, HU⟩ := hrel
            by_cases hd1 : d = 1
            · subst hd1
              obtain ⟨⟨x0, x1, x2, x3⟩, -⟩ := KL.out _ HU.out.i
              have hls := treeList_any wr M t xd HU.out.i.g.at_
              have HI8 := Lib.hid HU.out.i
              rw [HGD.out.list_dir HMEM.out] at hls
              have HLS := Lib.hid hls
              clear hls hkq HU
              go_wp2_with fail
              refine HLS.out.mono ?_
              rintro r w8 ⟨v8, rfl, o8, b8⟩
              obtain ⟨A8, c8, rfl⟩ := own_slice o8
              have HI9 := Lib.hid (HI8.out.below b8)
              have HL9 : Hid (Rd w8 7 A8 (Tr.sorted (Tr.ofDir t.L xd)).length (cEns (Tr.sorted (Tr.ofDir t.L xd)))) := Lib.hid (Rd.of_own o8)
              obtain ⟨l, hl⟩ : ∃ l, Tr.sorted (Tr.ofDir t.L xd) = l := ⟨_, rfl⟩
              have HLL := Lib.hid hl
              obtain ⟨m2, hm2⟩ : ∃ m2, l.length = m2 := ⟨_, rfl⟩
              simp only at HL9 ⊢
              rw [hl, hm2] at HL9 ⊢
              have HM2 := Lib.hid hm2
              clear hl hm2 o8 b8 x0 x1 x2 x3
              obtain ⟨K0, hK0⟩ := Tr.list_has HMEM.out
              simp only at hK0
              rw [HLL.out] at hK0
              have hKm : K0 < m2 := by rw [← HM2.out]; exact (List.getElem?_eq_some_iff.1 hK0).1
              have hm247 : m2 ≤ 47 := by
                rw [← HM2.out, ← HLL.out]
                unfold Tr.sorted
                rw [List.length_map]
                exact Nat.le_trans (Nat.le_of_eq (Tr.srt_perm _).length_eq) (Nat.le_trans (List.length_filter_le _ _) HGD.out.len)
              have HK0 := Lib.hid hK0
              clear hK0
              go_wp2_with fail
              go_loopw [15, 16] (fun fv kv wx => ∃ (k : Nat) (b : Bool), k ≤ m2 ∧ fv = .bool b ∧ kv = .int .i64 k ∧ Hid (K0 < k → b = true) ∧ Hid (Below w8.heap.size w8 wx)) (fun _ kv _ => m2 - (RowKit.intOf kv).toNat)
              case atStart => exact ⟨0, false, by omega, rfl, rfl, Lib.hid (by omega), Below.refl _ _⟩
              case round =>
                obtain ⟨k, b, hk, rfl, rfl, HF, HB⟩ := hrel
                by_cases hlk : k < m2
                · have HIr := Lib.hid (HI9.out.below HB.out)
                  have HLr := Lib.hid (HL9.out.below HB.out)
                  obtain ⟨ad', xd', xn', xg', xi', xk', xm', xt', e, -, hx', x0, x1, x2, x3, x4, x5, x6⟩ := HIr.out.rd.en_at hlt
                  injection e with e
                  subst e
                  rw [HX.out] at hx'
                  simp only [Option.some.injEq, Prod.mk.injEq] at hx'
                  obtain ⟨⟨rfl, rfl⟩, rfl, rfl, rfl, rfl, rfl⟩ := hx'
                  obtain ⟨ad8, ed, es, eg, ei, ek, em, et, rfl, hbl8, hx8, r0, r1, r2, r3, r4, r5, r6⟩ := HLr.out.en_at hlk
                  have hed : ed = xd := Tr.list_dir_of (by rw [HLL.out]; exact hx8)
                  subst hed
                  have HX8 := Lib.hid hx8
                  clear hx8
                  go_upto_region 28 with fail
                  go_cut [15] (fun fv wd => ∃ b' : Bool, fv = .bool b' ∧ Hid (K0 < k + 1 → b' = true) ∧ Hid (Below w8.heap.size w8 wd))
                  case first =>
                    cases b with
                    | true =>
                      go_quiet (fail)
                      go_wp2_with fail
                      go_meet
                      case rel => exact ⟨true, rfl, Lib.hid (fun _ => rfl), Lib.hid (below_drewN_ HB.out _)⟩
                    | false =>
                      have hq : ∀ V : World, (binOp .eql 36 (.agg #[.int .i64 ed, .string ⟨es.toArray⟩, .bool eg, .int .i64 ei, .int .i64 ek, .int .i64 em, .string ⟨et.toArray⟩]) (.agg #[.int .i64 ed, .string ⟨xn.toArray⟩, .bool false, .int .i64 xi, .int .i64 xk, .int .i64 xm, .string ⟨xt.toArray⟩])).run Tryz.prog V = .ok (.bool (decide ((((ed, es), eg, ei, ek, em, et) : En) = ((ed, xn), false, xi, xk, xm, xt)))) V := fun V => eql_entry ((ed, es), eg, ei, ek, em, et) ((ed, xn), false, xi, xk, xm, xt) V
                      have hFF : Hid (K0 < k + 1 → decide ((((ed, es), eg, ei, ek, em, et) : En) = ((ed, xn), false, xi, xk, xm, xt)) = true) := Lib.hid (fun hh => by
                        have h1 : ¬ K0 < k := fun h2 => Bool.noConfusion (HF.out h2)
                        have h3 : K0 = k := by omega
                        subst h3
                        have h4 := HK0.out
                        rw [HX8.out] at h4
                        injection h4 with h4
                        exact decide_eq_true h4)
                      generalize decide ((((ed, es), eg, ei, ek, em, et) : En) = ((ed, xn), false, xi, xk, xm, xt)) = bq at hq hFF
                      go_quiet (fail)
                      go_wp2_with fail
                      go_meet
                      case rel => exact ⟨bq, rfl, hFF, Lib.hid (below_drewN_ HB.out _)⟩
                  case rest =>
                    obtain ⟨b', rfl, HF', HBc⟩ := hcut
                    have HB9 := Lib.hid HBc.out
                    obtain ⟨w9, hw9⟩ : ∃ w9 : World, w9 = wc := ⟨_, rfl⟩
                    subst hw9
                    clear HBc HIr HLr x0 x1 x2 x3 x4 x5 x6 r0 r1 r2 r3 r4 r5 r6 hbl8
                    have HIr := Lib.hid (HI9.out.below HB9.out)
                    have HLr := Lib.hid (HL9.out.below HB9.out)
                    obtain ⟨ad', xd', xn', xg', xi', xk', xm', xt', e, -, hx', x0, -, -, -, -, -, -⟩ := HIr.out.rd.en_at hlt
                    injection e with e
                    subst e
                    rw [HX.out] at hx'
                    simp only [Option.some.injEq, Prod.mk.injEq] at hx'
                    obtain ⟨⟨rfl, rfl⟩, rfl, rfl, rfl, rfl, rfl⟩ := hx'
                    obtain ⟨ad9, ed', es', eg', ei', ek', em', et', e, hbl8, hx9, r0, r1, -, -, -, -, -⟩ := HLr.out.en_at hlk
                    injection e with e
                    subst e
                    rw [HX8.out] at hx9
                    simp only [Option.some.injEq, Prod.mk.injEq] at hx9
                    obtain ⟨⟨rfl, rfl⟩, rfl, rfl, rfl, rfl, rfl⟩ := hx9
                    rcases Nat.eq_zero_or_pos k with hk0 | hk0
                    · have n0 : ¬ ((0 : Int) < (k : Int)) := by omega
                      have n1 : ¬ (0 < k) := by omega
                      have n2 : decide (0 < k) = false := decide_eq_false n1
                      have n3 : k ≤ 0 := by omega
                      clear hk0
                      go_upto_region 29 with fail
                      go_quiet (fail)
                      go_wp2_with fail
                      go_roundw
                      case rel => exact ⟨k + 1, b', by omega, rfl, by go_num, HF', Lib.hid (below_drewN_ HB9.out _)⟩
                      case measure => simp [RowKit.intOf] <;> omega
                    · obtain ⟨q, rfl⟩ : ∃ q, k = q + 1 := ⟨k - 1, by omega⟩
                      obtain ⟨ad9, fd, fs, fg, fi, fk, fm, ft, e, -, hx9, s0, s1, -, -, -, -, -⟩ := HLr.out.en_at (show q < m2 by omega)
                      injection e with e
                      subst e
                      have hlt9 : fs < es := Tr.list_rise HGD.out (by rw [HLL.out]; exact hx9) (by rw [HLL.out]; exact HX8.out)
                      have gl : Op.bytesLess fs es = true := by rw [bl_eq, decide_eq_true hlt9]
                      have f1 : (q : Int) < (m2 : Int) := by omega
                      have f2 : q < m2 := by omega
                      have f3 : (0 : Int) ≤ (q : Int) := by omega
                      have f4 : IntKind.i64.wrap (q : Int) = (q : Int) := by rw [IntKind.wrap_i64]; omega
                      have f5 : (0 : Int) < (q : Int) + 1 := by omega
                      clear hx9 hlt9 hk0
                      go_upto_region 29 with fail
                      go_quiet (fail)
                      go_wp2_with fail
                      go_roundw
                      case rel => exact ⟨q + 1 + 1, b', by omega, rfl, by go_num, HF', Lib.hid (below_drewN_ HB9.out _)⟩
                      case measure => simp only [RowKit.intOf]; omega
                · obtain rfl : k = m2 := by omega
                  have hb : b = true := HF.out hKm
                  subst hb
                  have HFIN := Lib.hid (HI9.out.below HB.out)
                  go_wp2_with fail
                  go_roundw
                  case rel => exact ⟨j + 1, by omega, by go_num, HFIN⟩
                  case measure => simp [RowKit.intOf] <;> omega
            · obtain ⟨q', y, rfl, hyL, hfd, hy1, hq', hdir⟩ := Tr.hang_find HGD.out HU.out.hang hd1 HU.out.dir
              have hfa := treeFind_any wr M t d HU.out.i.g.at_
              rw [hfd] at hfa
              obtain ⟨⟨yd, yn⟩, yi, yk, ym, yt⟩ := y
              simp only at hy1 hq' hdir
              subst hy1
              simp only [vEn, Tr.enOf, txt] at hfa
              have HFD := Lib.hid hfa
              have HU2 : Hid (∀ W, Below wr.heap.size wr W → HgUp w M t (some ad) m q' yd W) := fun W hW => ⟨HU.out.i.below hW, hq', hdir⟩
              have hd1b : (d == 1) = false := by simpa using hd1
              have hkm : ¬ ((m : Int) < (k : Int)) := by omega
              clear hfa hfd hyL hq' hdir
              go_wp2_with fail
              refine HFD.out.mono ?_
              rintro r w8 ⟨rfl, b8⟩
              have HU8 : Hid (∀ W, Below w8.heap.size w8 W → HgUp w M t (some ad) m q' yd W) := fun W hW => HU2.out W (b8.trans (hW.mono b8.size))
              clear b8 HU2
              go_wp2_with fail
              go_roundw
              case rel => exact ⟨k + 1, q', yd, by omega, rfl, by go_num, Lib.hid (HU8.out _ (by repeat (first | exact Below.refl _ _ | refine below_drewN_ ?_ _ | refine Below.alloc ?_ (by simp) _ | refine Below.setCell ?_ (by simp) _)))⟩
              case measure => simp [RowKit.intOf] <;> omega
    · obtain rfl : j = m := by omega
      go_wp2_with fail
      refine (awake05 _).mono ?_
      rintro r w5 ⟨rfl, b2⟩
      go_wp2_with fail
      go_ret
      exact ⟨rfl, HI.out.g.bl.trans (b2.mono HI.out.g.bl.size)⟩
end Go.Proofs.YtjaokljbdoocmaaGreatDoor
