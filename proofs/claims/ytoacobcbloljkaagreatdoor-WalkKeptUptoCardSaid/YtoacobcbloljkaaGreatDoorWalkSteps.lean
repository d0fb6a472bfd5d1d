/-
  The walk of walk.Steps.
-/
import Derived.Test.YtoacobcbloljkaaGreatDoorWalkLow
namespace Go.Proofs.YtoacobcbloljkaaGreatDoor
open Go.RowKit

set_option maxRecDepth 100000 in
set_option maxHeartbeats 1000000 in
theorem steps_any (w : World) (A B : Option Addr) (n cp m cq : Nat) (fresh : List En) (ss : List (List UInt8)) (dir follow : Bool) (links : Int) (c e h : Nat) (l : List (Key × (En × Int))) (wh : List (Int × Bool)) (clk : Int) (hn : n ≤ 17592186044416) (hm : m ≤ 2000000)
    (hl0 : -9223372036854775808 ≤ links) (hl1 : links ≤ 9223372036854775807)
    (hr : Rd w 7 A n (cEns fresh)) (hs : Rd w 1 B m (txts ss)) (H : CacheAt w c e h l wh clk) :
    Calls Tryz.prog 16 #[.pointer (some ⟨c, 0, none⟩), .slice A n cp, .slice B m cq, .bool dir, .bool follow, .int .i64 links] w (OutPost w (Wk.steps (knownOf fresh l wh) follow (min (max links 0) 8).toNat ss [rootNd] dir [])) := by
  have h1 := fun W hW => cloneTexts_any B m cq ss W hW (by omega)
  have H1 := Lib.hid h1
  have HS := Lib.hid hs
  have HR := Lib.hid hr
  have HC := Lib.hid H
  clear h1 hr H hs
  obtain ⟨L, hL, hL8⟩ : ∃ L : Nat, min (max links 0) 8 = (L : Int) ∧ L ≤ 8 := ⟨(min (max links 0) 8).toNat, by omega, by omega⟩
  obtain ⟨RUN, hRUN⟩ : ∃ RUN, RUN = Wk.steps (knownOf fresh l wh) follow (min (max links 0) 8).toNat ss [rootNd] dir [] := ⟨_, rfl⟩
  rw [← hRUN]
  have hR : Hid (Wk.steps (knownOf fresh l wh) follow L ss [rootNd] dir [] = RUN) := by rw [hRUN, hL]; simp [Hid]
  clear hRUN
  have HL := Lib.hid hL
  clear hL
  go_enter Tryz.func16, Tryz.ntmps16
  go_wp2_with fail
  refine wp_scope_back (StJ0 c n cp m cq A B follow fresh l wh RUN w) (StJ1 c n cp m cq A B follow fresh l wh RUN w) stMu rfl rfl ?pass1 ?first ?pass0 ?hq
  case pass1 =>
    rintro a w' ⟨b, dir', Lc, Ta, ct, g, k, cw, Au, nu, cu, ok, tl, wl, used, hst, HW, HP, HK, hw2, hw3, hw4⟩
    obtain ⟨us, rfl⟩ := hst
    cases tl with
    | nil =>
      simp only [List.length_nil] at *
      go_wp2_with fail
      go_step3
      exact ⟨b, dir', Lc, Ta, ct, g, k, cw, Au, nu, cu, ok, wl, used, StF.of, HW, HP, HK, by omega⟩
    | cons s tl =>
      obtain ⟨x, hx⟩ : ∃ x, wl[k]? = some x := ⟨_, List.getElem?_eq_getElem (by have := HK.out; omega)⟩
      have HL := Lib.hid (Wk.lastNd_at HK.out hx)
      have HX := Lib.hid hx
      clear hx
      have hnd := fun W h => node_any (some ⟨g, 0, none⟩) k cw wl x W (by have := HK.out; omega) h HX.out
      have HN := Lib.hid hnd
      clear hnd
      have hbl : 0 < (s :: tl).length := by simp
      rw [List.length_cons] at *
      go_wp2_with fail
      refine (HN.out _ (by have h := Rd.of_own HW.out.wy; rw [HK.out] at h; exact h)).mono ?_
      rintro r w2 ⟨rfl, hb2⟩
      have HW2 := Lib.hid (HW.out.below hb2)
      clear hb2 HW
      obtain ⟨xi, xk, xm, xt⟩ := x
      simp only [vNd, txt] at HN ⊢
      have hfk : ∀ W : World, (Instr.field 34 (.agg #[.int .i64 xi, .int .i64 xk, .int .i64 xm, .string ⟨xt.toArray⟩]) 1).run Tryz.prog W = .ok (.int .i64 xk) W := fun W => by kernel_rfl
      cases hkd : (xk != 1) with
      | true =>
        have HR1 := Lib.hid (HP.out.symm.trans (Wk.steps_notdir (knownOf fresh l wh) follow Lc s tl dir' used HL.out (by simpa using hkd)))
        obtain ⟨o0, o1, o2, o3, o4, o5, o6, o7, o8, of⟩ := HW2.out.o
        have hrb : w.heap.size ≠ b + 1 + 1 := by have := HW2.out.hb; omega
        go_upto_region 12 with fail
        refine out_back (outCells (Wk.fail 42 used) (.slice Au nu cu)) (outCells (out0 []) (.slice none 0 0)) (b + 1 + 1) w.heap.size Tryz.underlying40 rfl info_out rfl rfl rfl rfl rfl (HW2.out.ho.setCell 3 (.int .i64 42)) (HW2.out.hr.setOther 3 _ hrb) ?_
        intro w3 hr3 hk3
        have hkp := Kp.trans (((Kp.refl (Free w.heap.size b) w2).setCell (p := ⟨b + 1 + 1, 3, none⟩) (fun _ q => q.2.2.1 rfl) (.int .i64 42))) (hk3.mono (fun j _ q => q.1))
        have HD := Lib.hid (HW2.out.done hkp)
        clear o0 o1 o2 o3 o4 o5 o6 o7 o8 of hkp
        go_wp2_with fail
        refine bodyPost_ret (v := vOut (Wk.fail 42 used) (.slice Au nu cu)) (results_cell_row rfl _ _ _ _ _ _ _ rfl hr3 Tryz.underlying40 rfl info_out) rfl ?_
        rw [HR1.out]
        exact ⟨_, rfl, HD.out.1, HD.out.2⟩
      | false =>
        have hk1 : xk = 1 := by simpa using hkd
        subst hk1
        obtain ⟨ad, sb, hTa, hadb, hs0, hc0⟩ := HW2.out.td.str_at (k := 0) (by simp)
        subst hTa
        obtain rfl : s = sb.toList := by simpa using hs0
        have hfi : ∀ W : World, (Instr.field 34 (.agg #[.int .i64 xi, .int .i64 1, .int .i64 xm, .string ⟨xt.toArray⟩]) 0).run Tryz.prog W = .ok (.int .i64 xi) W := fun W => by kernel_rfl
        rw [addr_zero] at hc0
        obtain ⟨ky, h0, h1, hf⟩ := HW2.out.h
        clear hs0
        go_upto_region 13 with fail
        go_cut [] (fun wc => Hid (StW w b A n cp c (some ad) ct g cw Au nu cu (sb.toList :: tl) wl used wc ∧ At wc (b + 1 + 1 + 1) 32 [.int .i64 xi, .string sb]))
        case first =>
          go_region_with (go_at_call 63; refine (HN.out _ (by have h := Rd.of_own HW2.out.drew.wy; rw [HK.out] at h; exact h)).mono ?_; rintro r w3 ⟨rfl, hb3⟩; have hc3 := (hb3.cell (p := ad) hadb).trans hc0; have HW3 := Lib.hid (HW2.out.drew.below hb3); obtain ⟨ky', h0', h1', hf'⟩ := HW3.out.h; clear hb3)
          all_goals
            clear hc3 h0' h1' hf'
            go_wp2_with fail
            go_meet
            case rel => exact HW3.out.putKey xi sb
        case rest =>
          have h0 : wc.cell? ⟨b + 1 + 1 + 1, 0, none⟩ = some (.int .i64 xi) := by rw [hcut.out.2.cell]; rfl
          have h1 : wc.cell? ⟨b + 1 + 1 + 1, 1, none⟩ = some (.string sb) := by rw [hcut.out.2.cell]; rfl
          have hct := hcut.out.1.tc
          rw [List.length_cons] at hct
          unfold maxLen at hct
          obtain ⟨hct1, hct2⟩ := hct
          go_upto_region 14 with fail
          go_cut [13] (fun td wd => ∃ Tb cb, td = .slice Tb tl.length cb ∧ Hid (StW w b A n cp c Tb cb g cw Au nu cu tl wl used wd ∧ At wd (b + 1 + 1 + 1) 32 [.int .i64 xi, .string sb]))
          case first =>
            go_wp2_with fail
            · have h := (hcut.out.1.tail).1 (by assumption)
              go_meet
              case rel => exact ⟨_, _, rfl, h, hcut.out.2⟩
            · have h := (hcut.out.1.tail).2 (by assumption)
              rw [add_at _ _ (by decide)] at h
              go_meet
              case rel => exact ⟨_, _, rfl, h, hcut.out.2⟩
          case rest =>
            clear h0 h1 hct1 hct2 hf hc0 hadb
            obtain ⟨Tb, cb, rfl, hcut⟩ := hcut
            have h0 : wc.cell? ⟨b + 1 + 1 + 1, 0, none⟩ = some (.int .i64 xi) := by rw [hcut.out.2.cell]; rfl
            have h1 : wc.cell? ⟨b + 1 + 1 + 1, 1, none⟩ = some (.string sb) := by rw [hcut.out.2.cell]; rfl
            cases q1 : (sb.toList == [46, 46]) with
            | true =>
              have hq1 : sb.toList = [46, 46] := by simpa using q1
              have hp := HP.out
              rw [hq1] at hp
              have HP' := Lib.hid ((Wk.steps_up (knownOf fresh l wh) follow Lc tl dir' used HL.out rfl).symm.trans hp)
              clear hp
              obtain ⟨k2, hk2⟩ : ∃ k2, (if k = 0 then 1 else k) = k2 + 1 := ⟨(if k = 0 then 1 else k) - 1, by split <;> omega⟩
              have hk3 : k2 ≤ k := by split at hk2 <;> omega
              have HU := hcut.out.1.up HK.out
              have hcap := own_cap (by have h := hcut.out.1.wy; rw [HK.out] at h; exact h)
              have hup := up_any g k cw wc (by omega) hcap.1 hcap.2
              rw [hk2] at hup HU
              have HUP := Lib.hid hup
              have HW4 := Lib.hid HU.1
              have HK4 := Lib.hid HU.2
              clear hq1 hk2 hup HU hcap
              go_wp2_with fail
              refine (HUP.out).mono ?_
              rintro r w4 ⟨rfl, rfl⟩
              go_wp2_with fail
              go_step3
              exact ⟨⟨b, dir', Lc, Tb, cb, g, k2, cw, Au, nu, cu, ok, tl, _, used, StF.of, HW4, HP', HK4, by omega, by omega, hw4⟩, Nat.add_lt_add_left (Nat.lt_succ_self _) _⟩
            | false =>
              cases q2 : (sb.toList == [46]) with
              | true =>
                have hq1 : sb.toList = [46] := by simpa using q2
                have hp := HP.out
                rw [hq1] at hp
                have HP' := Lib.hid ((Wk.steps_dot (knownOf fresh l wh) follow Lc tl dir' used HL.out rfl).symm.trans hp)
                clear hp
                have HW4 := Lib.hid hcut.out.1
                clear hq1
                go_wp2_with fail
                go_step3
                exact ⟨⟨b, dir', Lc, Tb, cb, g, k, cw, Au, nu, cu, ok, tl, _, used, StF.of, HW4, HP', HK, by omega, by omega, hw4⟩, Nat.add_lt_add_left (Nat.lt_succ_self _) _⟩
              | false =>
                have hp := ((Wk.steps_name (knownOf fresh l wh) follow Lc tl dir' used HL.out rfl (s := sb.toList) (by simpa using q1) (by simpa using q2)).symm.trans HP.out)
                have hkn := known_any wc b A n cp fresh c e h l wh clk (xi, sb.toList) hn hcut.out.1.hs (HR.out.below hcut.out.1.blw) (HC.out.below hcut.out.1.blw)
                simp only [vKey, txt_toList] at hkn
                obtain ⟨KN, hKN⟩ : ∃ KN, knownOf fresh l wh (xi, sb.toList) = KN := ⟨_, rfl⟩
                rw [hKN] at hkn
                simp only [hKN] at hp
                have HKN := Lib.hid hkn
                have HP' := Lib.hid hp
                clear hkn hp hKN
                go_upto_region 19 with fail
                go_cut [19] (fun okv wd => okv = .bool KN.isSome ∧ Hid (StW w b A n cp c Tb cb g cw Au nu cu tl wl used wd ∧ At wd (b + 1 + 1 + 1) 32 [.int .i64 xi, .string sb] ∧ At wd (b + 1 + 1 + 1 + 1) 36 (cEn (KN.getD noEn))))
                case first =>
                  go_wp2_with fail
                  refine (HKN.out).mono ?_
                  rintro r w4 ⟨rfl, hb4⟩
                  have HW4 := Lib.hid (hcut.out.1.below hb4)
                  have HH4 := Lib.hid (hcut.out.2.below hb4)
                  obtain ⟨xo, hxo⟩ := HW4.out.hx
                  have HX4 := Lib.hid hxo
                  clear hxo hb4 h0 h1
                  go_wp2_with ((with_reducible refine wpList_isStore 36 (.tmp 18) (.tmp 64) ?_); refine wpList_store_blk rfl 36 (.tmp 18) (.tmp 64) rfl (b + 1 + 1 + 1 + 1) 0 (vEn (KN.getD noEn)) rfl rfl HX4.out info_entry ?c2 rfl ?_; (case c2 => exact Nat.le_refl 7); intro w5 hx5 hk5 hz5)
                  have HW5 := Lib.hid (HW4.out.putX (KN.getD noEn) hk5 hx5)
                  have HH5 := Lib.hid (HH4.out.kp hk5 (by omega))
                  have HX5 : Hid (At w5 (b + 1 + 1 + 1 + 1) 36 (cEn (KN.getD noEn))) := hx5
                  clear hx5 hk5
                  go_wp2_with fail
                  go_meet
                  case rel => exact ⟨rfl, HW5.out, HH5.out, HX5.out⟩
                case rest =>
                  clear h0 h1
                  obtain ⟨rfl, hcut⟩ := hcut
                  have HC5 := Lib.hid hcut.out
                  obtain ⟨w5, hw5⟩ : ∃ w5 : World, w5 = wc := ⟨_, rfl⟩
                  subst hw5
                  have h0 : w5.cell? ⟨b + 1 + 1 + 1, 0, none⟩ = some (.int .i64 xi) := by rw [HC5.out.2.1.cell]; rfl
                  have h1 : w5.cell? ⟨b + 1 + 1 + 1, 1, none⟩ = some (.string sb) := by rw [HC5.out.2.1.cell]; rfl
                  obtain ⟨o0, o1, o2, o3, o4, o5, o6, o7, o8, of⟩ := HC5.out.1.o
                  have hrb : w.heap.size ≠ b + 1 + 1 := by have := HC5.out.1.hb; omega
                  clear hcut
                  cases KN with
                  | none =>
                    simp only at HP'
                    simp only [Option.isSome_none]
                    go_upto_region 21 with fail
                    go_cut [] (fun wd => Hid (At wd (b + 1 + 1) 40 (outCells (true, (xi, sb.toList), 0, Wk.noNd, used) (.slice Au nu cu)) ∧ Kp (fun k => k ≠ b + 1 + 1) w5 wd))
                    case first =>
                      go_region
                      all_goals
                        go_wp2_with fail
                        go_meet
                        case rel =>
                          refine ⟨?_, ((((Kp.refl (fun k => k ≠ b + 1 + 1) w5).setCell (p := ⟨b + 1 + 1, 0, none⟩) (fun _ q => q rfl) _).setCell (p := ⟨b + 1 + 1, 1, none⟩) (fun _ q => q rfl) _).setCell (p := ⟨b + 1 + 1, 2, none⟩) (fun _ q => q rfl) _).drew⟩
                          have := ((HC5.out.1.ho.setCell 0 (.bool true)).setCell 1 (.int .i64 xi)).setCell 2 (.string sb)
                          unfold outCells
                          rw [txt_toList]
                          exact this
                    case rest =>
                      clear o0 o1 o2 o3 o4 o5 o6 o7 o8 of h0 h1
                      go_upto_region 22 with fail
                      refine out_back (outCells (true, (xi, sb.toList), 0, Wk.noNd, used) (.slice Au nu cu)) (outCells (out0 []) (.slice none 0 0)) (b + 1 + 1) w.heap.size Tryz.underlying40 rfl info_out rfl rfl rfl rfl rfl hcut.out.1 (HC5.out.1.hr.kp hcut.out.2 hrb) ?_
                      intro w9 hr9 hk9
                      have HD := Lib.hid (HC5.out.1.done (Kp.trans (hcut.out.2.mono (fun j _ q => q.2.2.1)) (hk9.mono (fun j _ q => q.1))))
                      clear hk9
                      go_wp2_with fail
                      refine bodyPost_ret (v := vOut (true, (xi, sb.toList), 0, Wk.noNd, used) (.slice Au nu cu)) (results_cell_row rfl _ _ _ _ _ _ _ rfl hr9 Tryz.underlying40 rfl info_out) rfl ?_
                      rw [← HP'.out]
                      exact ⟨_, rfl, HD.out.1, HD.out.2⟩
                  | some y =>
                    obtain ⟨⟨yd, yn⟩, yneg, yi, yk, ym, yt⟩ := y
                    have hne : wl ≠ [] := fun q => by have := HK.out; rw [q] at this; simp at this
                    have hub : (used.length + 1) * 24 ≤ 140737488355328 := by omega
                    have hrd : Rd (w5.alloc (.cells #[.int .i64 xi, .string sb] 32)) 2 (some ⟨w5.heap.size, 0, none⟩) 1 (cKeys [(xi, sb.toList)]) := by
                      rw [show cKeys [(xi, sb.toList)] = [.int .i64 xi, .string sb] from by simp [cKeys, cKey, txt_toList]]
                      exact rd_new w5 32 2 1 _ rfl
                    have HRD := Lib.hid hrd
                    simp only [Option.isSome_some]
                    clear hrd o0 o1 o2 o3 o4 o5 o6 o7 of
                    go_upto_region 23 with fail
                    go_cut [] (fun wd => ∃ A' n' c', Hid (StW w b A n cp c Tb cb g cw A' n' c' tl wl (used ++ [(xi, sb.toList)]) wd ∧ At wd (b + 1 + 1 + 1 + 1) 36 (cEn ((yd, yn), yneg, yi, yk, ym, yt))))
                    case first =>
                      go_wp2_with (at_builtin; refine wpList_append_rd rfl _ _ rfl elemKeys rfl (own_below HC5.out.1.us ((Below.refl _ _).alloc (Nat.le_refl _) _)) rfl HRD.out (cKeys_one _) ?c1 ?c2 ?c3 ?_; (case c1 => unfold maxLen; omega); (case c2 => exact hub); (case c3 => have := HC5.out.1.blw.size; simp; omega); intro v' w6 hown6 hg6 hl6; obtain ⟨A', c', rfl⟩ := own_slice hown6; have HUK := Lib.hid (HC5.out.1.useKey hne HC5.out.2.2 hown6 hg6 hl6); clear hown6 hg6 hl6; have o8' := HUK.out.1.cell 8; have of' := HUK.out.1.frozen 8)
                      go_meet
                      case rel => exact ⟨_, _, _, HUK.out.2.1, HUK.out.2.2⟩
                    case rest =>
                      clear h0 h1 o8 hub
                      obtain ⟨A', n', c', hcut⟩ := hcut
                      have HC6 := Lib.hid hcut.out
                      obtain ⟨w6, hw6⟩ : ∃ w6 : World, w6 = wc := ⟨_, rfl⟩
                      subst hw6
                      obtain ⟨o0, o1, o2, o3, o4, o5, o6, o7, o8, of⟩ := HC6.out.1.o
                      have x2 : w6.cell? ⟨b + 1 + 1 + 1 + 1, 2, none⟩ = some (.bool yneg) := by rw [HC6.out.2.cell]; rfl
                      have x3 : w6.cell? ⟨b + 1 + 1 + 1 + 1, 3, none⟩ = some (.int .i64 yi) := by rw [HC6.out.2.cell]; rfl
                      have x4 : w6.cell? ⟨b + 1 + 1 + 1 + 1, 4, none⟩ = some (.int .i64 yk) := by rw [HC6.out.2.cell]; rfl
                      have x5 : w6.cell? ⟨b + 1 + 1 + 1 + 1, 5, none⟩ = some (.int .i64 ym) := by rw [HC6.out.2.cell]; rfl
                      have x6 : w6.cell? ⟨b + 1 + 1 + 1 + 1, 6, none⟩ = some (.string ⟨yt.toArray⟩) := by rw [HC6.out.2.cell]; rfl
                      clear hcut
                      cases yneg with
                      | true =>
                        simp only [if_true] at HP'
                        go_upto_region 26 with fail
                        refine out_back (outCells (Wk.fail 40 (used ++ [(xi, sb.toList)])) (.slice A' n' c')) (outCells (out0 []) (.slice none 0 0)) (b + 1 + 1) w.heap.size Tryz.underlying40 rfl info_out rfl rfl rfl rfl rfl (HC6.out.1.ho.setCell 3 (.int .i64 40)) (HC6.out.1.hr.setOther 3 _ hrb) ?_
                        intro w9 hr9 hk9
                        have HD := Lib.hid (HC6.out.1.done (Kp.trans ((Kp.refl (Free w.heap.size b) w6).setCell (p := ⟨b + 1 + 1, 3, none⟩) (fun _ q => q.2.2.1 rfl) (.int .i64 40)) (hk9.mono (fun j _ q => q.1))))
                        clear hk9 o0 o1 o2 o3 o4 o5 o6 o7 o8 of x2 x3 x4 x5 x6
                        go_wp2_with fail
                        refine bodyPost_ret (v := vOut (Wk.fail 40 (used ++ [(xi, sb.toList)])) (.slice A' n' c')) (results_cell_row rfl _ _ _ _ _ _ _ rfl hr9 Tryz.underlying40 rfl info_out) rfl ?_
                        rw [← HP'.out]
                        exact ⟨_, rfl, HD.out.1, HD.out.2⟩
                      | false =>
                        simp only [Bool.false_eq_true, if_false] at HP'
                        go_upto_region 27 with fail
                        go_cut [83] (fun v wd => v = .bool ((yk != 3) || (((tl.length : Int) == 0) && (!dir' && !follow))) ∧ w6 = wd)
                        case first =>
                          cases hk3 : (yk != 3) with
                          | true =>
                            go_wp2_with fail
                            go_meet
                            case rel => exact ⟨by rw [hk3]; rfl, rfl⟩
                          | false =>
                            cases htl : ((tl.length : Int) == 0) with
                            | false =>
                              go_wp2_with fail
                              go_meet
                              case rel => exact ⟨by rw [hk3, htl]; rfl, rfl⟩
                            | true =>
                              cases dir' with
                              | true =>
                                go_wp2_with fail
                                go_meet
                                case rel => exact ⟨by rw [hk3, htl]; rfl, rfl⟩
                              | false =>
                                go_wp2_with fail
                                go_meet
                                case rel => exact ⟨by rw [hk3, htl]; rfl, rfl⟩
                        case rest =>
                          obtain ⟨rfl, rfl⟩ := hcut
                          cases hCB : ((yk != 3) || (((tl.length : Int) == 0) && (!dir' && !follow))) with
                          | true =>
                            have hC : yk ≠ 3 ∨ (tl = [] ∧ dir' = false ∧ follow = false) := by
                              simp only [Bool.or_eq_true, bne_iff_ne, Bool.and_eq_true, beq_iff_eq, Bool.not_eq_true'] at hCB
                              rcases hCB with h | ⟨h1, h2⟩
                              · exact .inl h
                              · exact .inr ⟨List.eq_nil_of_length_eq_zero (by omega), h2⟩
                            rw [if_pos hC] at HP'
                            have HRD : Hid (Rd (w6.alloc (.cells #[.int .i64 yi, .int .i64 yk, .int .i64 ym, .string ⟨yt.toArray⟩] 34)) 4 (some ⟨w6.heap.size, 0, none⟩) 1 (cNds [(yi, yk, ym, yt)])) := rd_new w6 34 4 1 _ rfl
                            have hwy := HC6.out.1.wy
                            rw [HK.out] at hwy
                            have HWY := Lib.hid hwy
                            clear hwy hC hCB o0 o1 o2 o3 o4 o5 o6 o7 o8 of x2
                            go_wp2_with (at_builtin; refine wpList_append_rd rfl _ _ rfl elemPlace rfl (own_below HWY.out ((Below.refl _ _).alloc (Nat.le_refl _) _)) rfl HRD.out (cNds_one _) ?c1 ?c2 ?c3 ?_; (case c1 => unfold maxLen; omega); (case c2 => omega); (case c3 => have := HC6.out.1.blw.size; simp; omega); intro v' w7 hown7 hg7 hl7; obtain ⟨A2, c2, rfl⟩ := own_slice hown7; rw [← HK.out] at hown7 hl7; obtain ⟨g2, rfl, _, hw7⟩ := HC6.out.1.way hne hown7 hg7 hl7; have HW7 := Lib.hid hw7; clear hown7 hg7 hl7 hw7)
                            go_step3
                            have HK7 : Hid ((wl ++ [((yi, yk, ym, yt) : Nd)]).length = k + 1 + 1) := by rw [List.length_append, HK.out]; rfl
                            exact ⟨⟨b, dir', Lc, Tb, cb, g2, k + 1, c2, A', n', c', _, tl, wl ++ [(yi, yk, ym, yt)], used ++ [(xi, sb.toList)], StF.of, HW7, HP', HK7, by omega, by rw [List.length_append, List.length_singleton]; omega, hw4⟩, Nat.add_lt_add_left (Nat.lt_succ_self _) _⟩
                          | false =>
                            have hC : ¬ (yk ≠ 3 ∨ (tl = [] ∧ dir' = false ∧ follow = false)) := by
                              simp only [Bool.or_eq_false_iff, bne_eq_false_iff_eq, Bool.and_eq_false_iff, beq_eq_false_iff_ne, Bool.not_eq_false'] at hCB
                              rintro (h | ⟨h1, h2, h3⟩)
                              · exact h hCB.1
                              · subst h1
                                rcases hCB.2 with h | h
                                · exact h rfl
                                · rcases h with h | h
                                  · rw [h] at h2; cases h2
                                  · rw [h] at h3; cases h3
                            have hp := HP'.out
                            rw [if_neg hC] at hp
                            clear HP' hC hCB x2 x3 x4 x5
                            by_cases hL0 : Lc = 0
                            · have hp2 : Wk.fail 49 (used ++ [(xi, sb.toList)]) = RUN := by rw [hL0] at hp; exact hp
                              have HP' := Lib.hid hp2
                              have hle : Lc ≤ 0 := by omega
                              clear hp hp2 hL0
                              go_upto_region 32 with fail
                              refine out_back (outCells (Wk.fail 49 (used ++ [(xi, sb.toList)])) (.slice A' n' c')) (outCells (out0 []) (.slice none 0 0)) (b + 1 + 1) w.heap.size Tryz.underlying40 rfl info_out rfl rfl rfl rfl rfl (HC6.out.1.ho.setCell 3 (.int .i64 49)) (HC6.out.1.hr.setOther 3 _ hrb) ?_
                              intro w9 hr9 hk9
                              have HD := Lib.hid (HC6.out.1.done (Kp.trans ((Kp.refl (Free w.heap.size b) w6).setCell (p := ⟨b + 1 + 1, 3, none⟩) (fun _ q => q.2.2.1 rfl) (.int .i64 49)) (hk9.mono (fun j _ q => q.1))))
                              clear hk9 o0 o1 o2 o3 o4 o5 o6 o7 o8 of x6
                              go_wp2_with fail
                              refine bodyPost_ret (v := vOut (Wk.fail 49 (used ++ [(xi, sb.toList)])) (.slice A' n' c')) (results_cell_row rfl _ _ _ _ _ _ _ rfl hr9 Tryz.underlying40 rfl info_out) rfl ?_
                              rw [← HP'.out]
                              exact ⟨_, rfl, HD.out.1, HD.out.2⟩
                            · obtain ⟨L2, hL2⟩ : ∃ L2, Lc = L2 + 1 := ⟨Lc - 1, by omega⟩
                              rw [hL2] at hp
                              simp only at hp
                              rw [show decide (tl = []) = decide (tl.length = 0) from by cases tl <;> simp] at hp
                              have hmet := met_any (.slice (some ⟨g, 0, none⟩) (k + 1) cw) Tb tl.length cb tl dir' ⟨yt.toArray⟩ w6 HC6.out.1.td (by omega)
                              have htl := Nm.targetR_len yt
                              rw [toList_mk] at hmet
                              generalize Nm.targetR yt = R at hmet hp htl
                              obtain ⟨ts, whole, last, er⟩ := R
                              simp only at hmet hp htl
                              have hle : 1 ≤ Lc := by omega
                              have HM := Lib.hid hmet
                              have HP' := Lib.hid hp
                              have HL2 := Lib.hid hL2
                              clear hp hmet hL0 hL2
                              go_wp2_with fail
                              refine (HM.out).mono ?_
                              rintro r w7 ⟨hb7, ⟨her, rfl⟩ | ⟨her, va, v', rfl, hva1, hva2, hv⟩⟩
                              · have o3' := (hb7.cell (p := ⟨b + 1 + 1, 3, none⟩) HC6.out.1.ho.lt).trans o3
                                have HW7 := Lib.hid (HC6.out.1.below hb7)
                                obtain ⟨p0, p1, p2, p3, p4, p5, p6, p7, p8, pf⟩ := HW7.out.o
                                have hq : (er == 0) = false := beq_eq_false_iff_ne.2 her
                                have hp2 := HP'.out
                                rw [if_pos her] at hp2
                                have HP2 := Lib.hid hp2
                                clear hp2 her
                                go_upto_region 35 with fail
                                refine out_back (outCells (Wk.fail er (used ++ [(xi, sb.toList)])) (.slice A' n' c')) (outCells (out0 []) (.slice none 0 0)) (b + 1 + 1) w.heap.size Tryz.underlying40 rfl info_out rfl rfl rfl rfl rfl (HW7.out.ho.setCell 3 (.int .i64 er)) (HW7.out.hr.setOther 3 _ hrb) ?_
                                intro w9 hr9 hk9
                                have HD := Lib.hid (HW7.out.done (Kp.trans ((Kp.refl (Free w.heap.size b) w7).setCell (p := ⟨b + 1 + 1, 3, none⟩) (fun _ q => q.2.2.1 rfl) (.int .i64 er)) (hk9.mono (fun j _ q => q.1))))
                                clear hk9 o0 o1 o2 o3 o3' o4 o5 o6 o7 o8 of p0 p1 p2 p3 p4 p5 p6 p7 p8 pf x6
                                go_wp2_with fail
                                refine bodyPost_ret (v := vOut (Wk.fail er (used ++ [(xi, sb.toList)])) (.slice A' n' c')) (results_cell_row rfl _ _ _ _ _ _ _ rfl hr9 Tryz.underlying40 rfl info_out) rfl ?_
                                rw [← HP2.out]
                                exact ⟨_, rfl, HD.out.1, HD.out.2⟩
                              · subst her
                                obtain ⟨A2, c2, rfl⟩ := own_slice hv
                                rw [← List.length_append] at hv ⊢
                                have hp2 := HP'.out
                                rw [if_neg (fun q => q rfl)] at hp2
                                have HV := Lib.hid hv
                                clear hv HP'
                                generalize (dir' || (decide (tl.length = 0) && last)) = d2 at *
                                have hls : (ts ++ tl).length = ts.length + tl.length := List.length_append
                                have hmu : 98 * ((L2 : Int)).toNat + (ts ++ tl).length < 98 * ((Lc : Int)).toNat + (tl.length + 1) := by have := HL2.out; rw [Int.toNat_natCast, Int.toNat_natCast]; omega
                                have hb2 : (ts ++ tl).length + 98 * L2 ≤ tl.length + 98 * Lc := by have := HL2.out; omega
                                have hL8' : L2 ≤ 8 := by have := HL2.out; omega
                                have heL : ((Lc : Int) - 1) = (L2 : Int) := by have := HL2.out; omega
                                have HLE := Lib.hid heL
                                have HMU := Lib.hid hmu
                                clear hls heL hmu
                                cases whole with
                                | false =>
                                  obtain rfl := hva1 rfl
                                  have HW7 := Lib.hid (HC6.out.1.todo hne hb7 HV.out)
                                  have HP2 : Hid (Wk.steps (knownOf fresh l wh) follow L2 (ts ++ tl) wl d2 (used ++ [(xi, sb.toList)]) = RUN) := hp2
                                  obtain ⟨p0, p1, p2, p3, p4, p5, p6, p7, p8, pf⟩ := HW7.out.o
                                  have HW8 : Hid (StW w b A n cp c A2 c2 g cw A' n' c' (ts ++ tl) wl (used ++ [(xi, sb.toList)]) (w7.setCell ⟨b + 1 + 1, 3, none⟩ (.int .i64 0))) := HW7.out.errZero
                                  clear hp2 hva1 hva2 hb7 o0 o1 o2 o3 o4 o5 o6 o7 o8 of
                                  go_wp2_with fail
                                  go_step3
                                  rw [HLE.out, ← @List.length_append _ ts tl]
                                  exact ⟨⟨b, d2, L2, A2, c2, g, k, cw, A', n', c', _, ts ++ tl, wl, used ++ [(xi, sb.toList)], StF.of, HW8, HP2, HK, by omega, by rw [List.length_append, List.length_singleton]; omega, hL8'⟩, HMU.out⟩
                                | true =>
                                  obtain ⟨g2, cw2, rfl, hw7⟩ := HC6.out.1.root hne hb7 HV.out (hva2 rfl)
                                  have HW7 := Lib.hid hw7
                                  have HP2 : Hid (Wk.steps (knownOf fresh l wh) follow L2 (ts ++ tl) [rootNd] d2 (used ++ [(xi, sb.toList)]) = RUN) := hp2
                                  obtain ⟨p0, p1, p2, p3, p4, p5, p6, p7, p8, pf⟩ := HW7.out.o
                                  have HW8 : Hid (StW w b A n cp c A2 c2 g2 cw2 A' n' c' (ts ++ tl) [rootNd] (used ++ [(xi, sb.toList)]) (w7.setCell ⟨b + 1 + 1, 3, none⟩ (.int .i64 0))) := HW7.out.errZero
                                  clear hp2 hva1 hva2 hb7 hw7 o0 o1 o2 o3 o4 o5 o6 o7 o8 of
                                  go_wp2_with fail
                                  go_step3
                                  rw [HLE.out, ← @List.length_append _ ts tl]
                                  exact ⟨⟨b, d2, L2, A2, c2, g2, 0, cw2, A', n', c', _, ts ++ tl, [rootNd], used ++ [(xi, sb.toList)], StF.of, HW8, HP2, rfl, by omega, by rw [List.length_append, List.length_singleton]; omega, hL8'⟩, HMU.out⟩
  case first =>
    intro hK
    have HKK := Lib.hid hK
    clear hK
    have hL := HL.out
    go_wp2_with fail
    clear hL
    refine (H1.out _ (HS.out.alloc _)).mono ?_
    rintro r w1 ⟨v1, rfl, hown1, hb1⟩
    obtain ⟨A1, c1, rfl⟩ := own_slice hown1
    have HO := Lib.hid hown1
    have HB := Lib.hid hb1
    clear hown1 hb1
    go_wp2_with (go_at_call 62; refine (root_any _).mono ?_; rintro r w2 ⟨rfl, rfl⟩)
    go_step3
    have hm' : ss.length = m := HS.out.txt_len
    have hwl : w.heap.size < w1.heap.size := by have := HB.out.size; simp at this; omega
    have hSW := stw_start (A := A) (n := n) (cp := cp) (c := c) rfl HO.out HB.out hm'
    refine (‹∀ (a : Act) (w' : World), Code.wp Tryz.prog _ _ a w' → _› _ _ ?_)
    refine HKK.out _ _ ?_
    exact ⟨w1.heap.size, dir, L, A1, c1, w1.heap.size + 1, 0, 1, none, 0, 0, _, ss, [rootNd], [], by rw [hm']; exact StF.of, hSW, hR, rfl, by omega, by rw [List.length_nil]; omega, hL8⟩
  case pass0 =>
    rintro a w' ⟨b, dir', Lc, Ta, ct, g, k, cw, Au, nu, cu, ok, wl, used, hst, HW, HP, HK, hk⟩
    obtain ⟨us, rfl⟩ := hst
    obtain ⟨x, hx⟩ : ∃ x, wl[k]? = some x := ⟨_, List.getElem?_eq_getElem (by have := HK.out; omega)⟩
    have HL := Lib.hid (Wk.lastNd_at HK.out hx)
    have HX := Lib.hid hx
    have hnd := fun W h => node_any (some ⟨g, 0, none⟩) k cw wl x W (by omega) h HX.out
    have HN := Lib.hid hnd
    have hp := HP.out
    rw [Wk.steps, HL.out] at hp
    have HP' := Lib.hid hp
    have hrb : w.heap.size ≠ b + 1 + 1 := by have := HW.out.hb; omega
    clear hx hnd HP hp
    go_wp2_with fail
    refine (HN.out _ (by have h := Rd.of_own HW.out.wy; rw [HK.out] at h; exact h)).mono ?_
    rintro r w2 ⟨rfl, hb2⟩
    have HW2 := Lib.hid (HW.out.below hb2)
    clear hb2 HW HN HX
    obtain ⟨xi, xk, xm, xt⟩ := x
    simp only [vNd, txt]
    cases hkd : (xk != 1) with
    | false =>
      have hk1 : xk = 1 := by simpa using hkd
      subst hk1
      have hp := HP'.out
      rw [if_neg (fun q => q.2 rfl)] at hp
      have HP2 := Lib.hid hp
      clear hp HP'
      cases dir'
      all_goals
        go_upto_region 39 with ((with_reducible refine wpList_isStore 34 (.tmp 131) (.tmp 130) ?_); refine wpList_store_blk rfl 34 (.tmp 131) (.tmp 130) rfl (b + 1 + 1) 4 (vNd (xi, 1, xm, xt)) rfl rfl HW2.out.ho info_node ?c2 rfl ?_; (case c2 => exact Nat.le_of_ble_eq_true rfl); intro w3 ho3 hk3 hz3; have HO3 : Hid (At w3 (b + 1 + 1) 40 (outCells (false, (0, []), 0, (xi, 1, xm, xt), used) (.slice Au nu cu))) := ho3; have HK3 := Lib.hid hk3; clear ho3 hk3 hz3; have p0 : w3.cell? ⟨b + 1 + 1, 0, none⟩ = some (.bool false) := HO3.out.cell 0; have p1 : w3.cell? ⟨b + 1 + 1, 1, none⟩ = some (.int .i64 0) := HO3.out.cell 1; have p2 : w3.cell? ⟨b + 1 + 1, 2, none⟩ = some (.string ⟨#[]⟩) := HO3.out.cell 2; have p3 : w3.cell? ⟨b + 1 + 1, 3, none⟩ = some (.int .i64 0) := HO3.out.cell 3; have p4 : w3.cell? ⟨b + 1 + 1, 4, none⟩ = some (.int .i64 xi) := HO3.out.cell 4; have p5 : w3.cell? ⟨b + 1 + 1, 5, none⟩ = some (.int .i64 1) := HO3.out.cell 5; have p6 : w3.cell? ⟨b + 1 + 1, 6, none⟩ = some (.int .i64 xm) := HO3.out.cell 6; have p7 : w3.cell? ⟨b + 1 + 1, 7, none⟩ = some (.string ⟨xt.toArray⟩) := HO3.out.cell 7; have p8 : w3.cell? ⟨b + 1 + 1, 8, none⟩ = some (.slice Au nu cu) := HO3.out.cell 8; have pf := HO3.out.frozen 3)
        refine out_back (outCells (false, Wk.noKey, 0, (xi, 1, xm, xt), used) (.slice Au nu cu)) (outCells (out0 []) (.slice none 0 0)) (b + 1 + 1) w.heap.size Tryz.underlying40 rfl info_out rfl rfl rfl rfl rfl HO3.out (HW2.out.hr.kp HK3.out hrb) ?_
        intro w9 hr9 hk9
        have HD := Lib.hid (HW2.out.done (Kp.trans (HK3.out.mono (fun j _ q => q.2.2.1)) (hk9.mono (fun j _ q => q.1))))
        clear hk9 p0 p1 p2 p3 p4 p5 p6 p7 p8 pf
        go_wp2_with fail
        refine bodyPost_ret (v := vOut (false, Wk.noKey, 0, (xi, 1, xm, xt), used) (.slice Au nu cu)) (results_cell_row rfl _ _ _ _ _ _ _ rfl hr9 Tryz.underlying40 rfl info_out) rfl ?_
        rw [← HP2.out]
        exact ⟨_, rfl, HD.out.1, HD.out.2⟩
    | true =>
      have hk1 : xk ≠ 1 := by simpa using hkd
      cases dir' with
      | false =>
        have hp := HP'.out
        rw [if_neg (fun q => by cases q.1)] at hp
        have HP2 := Lib.hid hp
        clear hp HP' hk1
        go_upto_region 39 with ((with_reducible refine wpList_isStore 34 (.tmp 131) (.tmp 130) ?_); refine wpList_store_blk rfl 34 (.tmp 131) (.tmp 130) rfl (b + 1 + 1) 4 (vNd (xi, xk, xm, xt)) rfl rfl HW2.out.ho info_node ?c2 rfl ?_; (case c2 => exact Nat.le_of_ble_eq_true rfl); intro w3 ho3 hk3 hz3; have HO3 : Hid (At w3 (b + 1 + 1) 40 (outCells (false, (0, []), 0, (xi, xk, xm, xt), used) (.slice Au nu cu))) := ho3; have HK3 := Lib.hid hk3; clear ho3 hk3 hz3; have p0 : w3.cell? ⟨b + 1 + 1, 0, none⟩ = some (.bool false) := HO3.out.cell 0; have p1 : w3.cell? ⟨b + 1 + 1, 1, none⟩ = some (.int .i64 0) := HO3.out.cell 1; have p2 : w3.cell? ⟨b + 1 + 1, 2, none⟩ = some (.string ⟨#[]⟩) := HO3.out.cell 2; have p3 : w3.cell? ⟨b + 1 + 1, 3, none⟩ = some (.int .i64 0) := HO3.out.cell 3; have p4 : w3.cell? ⟨b + 1 + 1, 4, none⟩ = some (.int .i64 xi) := HO3.out.cell 4; have p5 : w3.cell? ⟨b + 1 + 1, 5, none⟩ = some (.int .i64 xk) := HO3.out.cell 5; have p6 : w3.cell? ⟨b + 1 + 1, 6, none⟩ = some (.int .i64 xm) := HO3.out.cell 6; have p7 : w3.cell? ⟨b + 1 + 1, 7, none⟩ = some (.string ⟨xt.toArray⟩) := HO3.out.cell 7; have p8 : w3.cell? ⟨b + 1 + 1, 8, none⟩ = some (.slice Au nu cu) := HO3.out.cell 8; have pf := HO3.out.frozen 3)
        refine out_back (outCells (false, Wk.noKey, 0, (xi, xk, xm, xt), used) (.slice Au nu cu)) (outCells (out0 []) (.slice none 0 0)) (b + 1 + 1) w.heap.size Tryz.underlying40 rfl info_out rfl rfl rfl rfl rfl HO3.out (HW2.out.hr.kp HK3.out hrb) ?_
        intro w9 hr9 hk9
        have HD := Lib.hid (HW2.out.done (Kp.trans (HK3.out.mono (fun j _ q => q.2.2.1)) (hk9.mono (fun j _ q => q.1))))
        clear hk9 p0 p1 p2 p3 p4 p5 p6 p7 p8 pf
        go_wp2_with fail
        refine bodyPost_ret (v := vOut (false, Wk.noKey, 0, (xi, xk, xm, xt), used) (.slice Au nu cu)) (results_cell_row rfl _ _ _ _ _ _ _ rfl hr9 Tryz.underlying40 rfl info_out) rfl ?_
        rw [← HP2.out]
        exact ⟨_, rfl, HD.out.1, HD.out.2⟩
      | true =>
        have hp := HP'.out
        rw [if_pos ⟨rfl, hk1⟩] at hp
        have HP2 := Lib.hid hp
        clear hp HP' hk1
        go_upto_region 39 with (first | ((with_reducible refine wpList_isStore 34 (.tmp 131) (.tmp 130) ?_); refine wpList_store_blk rfl 34 (.tmp 131) (.tmp 130) rfl (b + 1 + 1) 4 (vNd (xi, xk, xm, xt)) rfl rfl HW2.out.ho info_node ?c2 rfl ?_; (case c2 => exact Nat.le_of_ble_eq_true rfl); intro w3 ho3 hk3 hz3; have HO3 : Hid (At w3 (b + 1 + 1) 40 (outCells (false, (0, []), 0, (xi, xk, xm, xt), used) (.slice Au nu cu))) := ho3; have HK3 := Lib.hid hk3; clear ho3 hk3 hz3; have p0 : w3.cell? ⟨b + 1 + 1, 0, none⟩ = some (.bool false) := HO3.out.cell 0; have p1 : w3.cell? ⟨b + 1 + 1, 1, none⟩ = some (.int .i64 0) := HO3.out.cell 1; have p2 : w3.cell? ⟨b + 1 + 1, 2, none⟩ = some (.string ⟨#[]⟩) := HO3.out.cell 2; have p3 : w3.cell? ⟨b + 1 + 1, 3, none⟩ = some (.int .i64 0) := HO3.out.cell 3; have p4 : w3.cell? ⟨b + 1 + 1, 4, none⟩ = some (.int .i64 xi) := HO3.out.cell 4; have p5 : w3.cell? ⟨b + 1 + 1, 5, none⟩ = some (.int .i64 xk) := HO3.out.cell 5; have p6 : w3.cell? ⟨b + 1 + 1, 6, none⟩ = some (.int .i64 xm) := HO3.out.cell 6; have p7 : w3.cell? ⟨b + 1 + 1, 7, none⟩ = some (.string ⟨xt.toArray⟩) := HO3.out.cell 7; have p8 : w3.cell? ⟨b + 1 + 1, 8, none⟩ = some (.slice Au nu cu) := HO3.out.cell 8; have pf := HO3.out.frozen 3) | ((with_reducible refine wpList_isStore 34 (.tmp 140) (.tmp 139) ?_); refine wpList_store_blk rfl 34 (.tmp 140) (.tmp 139) rfl (b + 1 + 1) 4 (vNd (0, 0, 0, [])) rfl rfl HO3.out info_node ?c2 rfl ?_; (case c2 => exact Nat.le_of_ble_eq_true rfl); intro w4 ho4 hk4 hz4; have HO4 : Hid (At w4 (b + 1 + 1) 40 (outCells (false, (0, []), 0, (0, 0, 0, []), used) (.slice Au nu cu))) := ho4; have HK4 := Lib.hid (HK3.out.trans hk4); clear ho4 hk4 hz4 p0 p1 p2 p3 p4 p5 p6 p7 p8 pf; have p3 : w4.cell? ⟨b + 1 + 1, 3, none⟩ = some (.int .i64 0) := HO4.out.cell 3; have pf := HO4.out.frozen 3))
        refine out_back (outCells (Wk.fail 42 used) (.slice Au nu cu)) (outCells (out0 []) (.slice none 0 0)) (b + 1 + 1) w.heap.size Tryz.underlying40 rfl info_out rfl rfl rfl rfl rfl (HO4.out.setCell 3 (.int .i64 42)) ((HW2.out.hr.kp HK4.out hrb).setOther 3 _ hrb) ?_
        intro w9 hr9 hk9
        have HD := Lib.hid (HW2.out.done (Kp.trans (((HK4.out.mono (fun j _ q => q.2.2.1) : Kp (Free w.heap.size b) w2 w4)).setCell (p := ⟨b + 1 + 1, 3, none⟩) (fun _ q => q.2.2.1 rfl) (.int .i64 42)) (hk9.mono (fun j _ q => q.1))))
        clear hk9 p3 pf
        go_wp2_with fail
        refine bodyPost_ret (v := vOut (Wk.fail 42 used) (.slice Au nu cu)) (results_cell_row rfl _ _ _ _ _ _ _ rfl hr9 Tryz.underlying40 rfl info_out) rfl ?_
        rw [← HP2.out]
        exact ⟨_, rfl, HD.out.1, HD.out.2⟩
  case hq => intro l a w h; exact h
end Go.Proofs.YtoacobcbloljkaaGreatDoor
