/-
  The walk of the law TreeCopies.
-/
import Derived.Test.YtjaokljbdoocmaaGreatDoorLawIds
import Derived.Test.YtjaokljbdoocmaaGreatDoorTreeCopy
namespace Go.Proofs.YtjaokljbdoocmaaGreatDoor
open Go.RowKit

attribute [local go_sem ↓] Go.wp_at_zero Go.wp_at_succ

theorem info_ops : (Tryz.prog.info? 54).map (fun i => (i.zero, i.size, i.bytes)) = some (some (vOp (0, 0, [], 0, [], 0, [])), 7, 80) := by kernel_rfl
theorem elemOps : Elem Tryz.prog 52 54 7 80 := Elem.mk_ Tryz.underlying52 info_ops rfl (by decide)
theorem cOps_append (a b : List Tr.Op) : cOps (a ++ b) = cOps a ++ cOps b := by simp [cOps]
theorem cOps_one (l : List Tr.Op) : ∀ u ∈ cOps l, u.oneCell' = true := by
  intro u hu
  simp only [cOps, List.mem_flatMap, cOp, List.mem_cons, List.not_mem_nil, or_false] at hu
  obtain ⟨k, _, rfl | rfl | rfl | rfl | rfl | rfl | rfl⟩ := hu <;> rfl

set_option maxRecDepth 100000 in
theorem copyOps_any (A : Option Addr) (n c : Nat) (ks : List Tr.Op) (w : World) (hr : Rd w 7 A n (cOps ks)) (hn : n ≤ 1759218604391) :
    Calls Tryz.prog 36 #[.slice A n c] w fun e w' => ∃ v, e = .returned v ∧ w'.ownsRow w.heap.size 54 7 v n (cOps ks) ∧ Below w.heap.size w w' := by
  have H := Lib.hid hr
  clear hr
  go_enter Tryz.func36, Tryz.ntmps36
  go_wp2_with (at_builtin; refine wpList_append_rd rfl _ _ rfl elemOps (v := .slice none 0 0) rfl (World.ownsRow_nil w w.heap.size 54 7) rfl H.out (cOps_one _) ?c1 ?c2 (Nat.le_refl _) ?_; (case c1 => unfold maxLen; omega); (case c2 => omega); intro v' w' hown' hg' hl')
  go_ret
  refine ⟨_, rfl, by simpa using hown', (Below.refl _ _).grown hg' (Nat.le_refl _) (fun k hk => by cases hk)⟩

/-- A tree that another one's turn leaves alone. -/
theorem Grown.aside {w W W' : World} {M1 M1' M2 : TM} {t2 : Tr.T} (H2 : Grown w M2 t2 W) (hd : ∀ k, M2.own k → ¬ M1.own k) (hk : Kp (fun k => ¬ M1.own k) W W') (ho : ∀ k, M1'.own k → M1.own k ∨ W.heap.size ≤ k) (hb : Below w.heap.size w W') :
    Grown w M2 t2 W' ∧ ∀ k, M2.own k → ¬ M1'.own k :=
  ⟨⟨H2.at_.kp hk hd, H2.own, hb⟩, fun k q q1 => by
    rcases ho k q1 with h | h
    · exact hd k q h
    · have := H2.at_.F.own_lt q
      omega⟩

/-- Three trees: two alike, and a copy. -/
structure Gr3 (w : World) (M1 M2 M3 : TM) (T C : Tr.T) (W : World) : Prop where
  g1 : Grown w M1 T W
  g2 : Grown w M2 T W
  g3 : Grown w M3 C W
  d12 : ∀ k, M1.own k → ¬ M2.own k
  d13 : ∀ k, M1.own k → ¬ M3.own k
  d23 : ∀ k, M2.own k → ¬ M3.own k
theorem Gr3.below {w W W' : World} {M1 M2 M3 : TM} {T C : Tr.T} (H : Gr3 w M1 M2 M3 T C W) (hb : Below W.heap.size W W') : Gr3 w M1 M2 M3 T C W' := ⟨H.g1.below hb, H.g2.below hb, H.g3.below hb, H.d12, H.d13, H.d23⟩

set_option maxRecDepth 100000 in
set_option maxHeartbeats 8000000 in
theorem treeCopies_walk (A : Option Addr) (n c : Nat) (s : List Tr.Op) (Ah : Option Addr) (nh ch : Nat) (hr : List Tr.Op) (At_ : Option Addr) (nt ct : Nat) (th : List Tr.Op) (w : World) (hs : Rd w 7 A n (cOps s)) (hn : n ≤ 2000000)
    (hhr : Rd w 7 Ah nh (cOps hr)) (hnh : nh ≤ 2000000) (hth : Rd w 7 At_ nt (cOps th)) (hnt : nt ≤ 2000000) :
    Calls Tryz.prog 8 #[.slice A n c, .slice Ah nh ch, .slice At_ nt ct] w fun e w' => e = .returned (.bool true) ∧ Below w.heap.size w w' := by
  have hbh := fun V (h : Rd V 7 A n (cOps s)) => behind05_any V A n c s h (by omega)
  have hlen := hs.ops_len
  have hlh := hhr.ops_len
  have hlt := hth.ops_len
  have hrun := Tr.run_append Tr.t0 s th
  have hb0 := run_bounds s s.length (by omega)
  rw [List.take_length] at hb0
  have hbs : ∀ l : List Tr.Op, l.length ≤ 2000000 → ∀ j, (Tr.run (Tr.run Tr.t0 s) (l.take j)).next < 1759218604400 ∧ (Tr.run (Tr.run Tr.t0 s) (l.take j)).vers < 1759218604400 := fun l hl j => by
    have h1 := Tr.run_size (Tr.run Tr.t0 s) (l.take j)
    have h2 := Tr.run_size Tr.t0 s
    have h3 : (l.take j).length ≤ l.length := by rw [List.length_take]; omega
    have h4 : Tr.t0.next = 2 := rfl
    have h5 : Tr.t0.vers = 0 := rfl
    omega
  generalize hT0 : Tr.run Tr.t0 s = T0 at hbh hrun hb0 hbs
  have HS := Lib.hid hs
  have HH := Lib.hid hhr
  have HT := Lib.hid hth
  have HBH := Lib.hid hbh
  have HB0 := Lib.hid hb0
  have HBS := Lib.hid hbs
  have HRUN := Lib.hid hrun
  have HLS := Lib.hid hlen
  have HLH := Lib.hid hlh
  have HLT := Lib.hid hlt
  clear hs hhr hth hbh hb0 hbs hrun hlen hlh hlt hT0
  go_enter Tryz.func8, Tryz.ntmps8
  go_wp2_with fail
  refine (HBH.out _ HS.out).mono ?_
  rintro r w1 ⟨M1, rfl, hg1⟩
  have HG1 := Lib.hid hg1
  clear hg1
  go_wp2_with fail
  refine (HBH.out _ (HS.out.below HG1.out.bl)).mono ?_
  rintro r w2 ⟨M2, rfl, hg2⟩
  have HG2 := Lib.hid hg2
  clear hg2
  go_wp2_with fail
  refine (treeCopy_any w2 M1 T0 (HG1.out.below HG2.out.bl).at_).mono ?_
  rintro r w3 ⟨M3, rfl, hg3⟩
  have H3 : Hid (Gr3 w M1 M2 M3 T0 T0 w3) := by
    have a1 := HG1.out.below HG2.out.bl
    have a2 := HG2.out.later HG1.out.bl
    refine ⟨a1.below hg3.bl, a2.below hg3.bl, hg3.later a1.bl, fun k q q2 => ?_, fun k q q2 => ?_, fun k q q2 => ?_⟩
    · have := HG1.out.at_.F.own_lt q; have := HG2.out.own k q2; omega
    · have := a1.at_.F.own_lt q; have := hg3.own k q2; omega
    · have := a2.at_.F.own_lt q; have := hg3.own k q2; omega
  clear hg3 HG1 HG2
  have HLEN := Lib.hid H3.out.g1.at_.good.len
  obtain ⟨b1, b2⟩ := HB0.out
  have hdu1 := fun V H => treeDump_any V M1 T0 H (by omega)
  have hdu3 := fun V H => treeDump_any V M3 T0 H (by omega)
  have HDU := Lib.hid (And.intro hdu1 hdu3)
  clear hdu1 hdu3 b1 b2
  go_wp2_with fail
  refine (HDU.out.2 _ H3.out.g3.at_).mono ?_
  rintro r w4 ⟨v4, rfl, o4, b4⟩
  obtain ⟨A4, c4, rfl⟩ := own_slice o4
  have H4 := Lib.hid (H3.out.below b4)
  have HR4 := Lib.hid (Rd.of_own o4)
  clear o4 b4 H3
  go_wp2_with fail
  refine (HDU.out.1 _ H4.out.g1.at_).mono ?_
  rintro r w5 ⟨v5, rfl, o5, b5⟩
  obtain ⟨A5, c5, rfl⟩ := own_slice o5
  have H5 := Lib.hid (H4.out.below b5)
  have HS5 := Lib.hid (sameDump T0 HLEN.out A4 A5 c4 c5 w5 (HR4.out.below b5) (Rd.of_own o5))
  clear o5 b5 H4 HR4
  go_wp2_with fail
  refine HS5.out.mono ?_
  rintro r w6 ⟨rfl, b6⟩
  have H6 := Lib.hid (H5.out.below b6)
  clear b6 H5 HS5
  go_wp2_with fail
  refine (treeVersion_any _ M3 T0 H6.out.g3.at_).mono ?_
  rintro r w7 ⟨rfl, rfl⟩
  go_wp2_with fail
  refine (treeVersion_any _ M1 T0 H6.out.g1.at_).mono ?_
  rintro r w7 ⟨rfl, rfl⟩
  go_wp2_with fail
  refine (treeNext_any _ M3 T0 H6.out.g3.at_).mono ?_
  rintro r w7 ⟨rfl, rfl⟩
  go_wp2_with fail
  refine (treeNext_any _ M1 T0 H6.out.g1.at_).mono ?_
  rintro r w7 ⟨rfl, rfl⟩
  obtain ⟨p1, hp1⟩ : ∃ p, M1.t = p := ⟨_, rfl⟩
  obtain ⟨p2, hp2⟩ : ∃ p, M2.t = p := ⟨_, rfl⟩
  obtain ⟨p3, hp3⟩ : ∃ p, M3.t = p := ⟨_, rfl⟩
  rw [hp1, hp2, hp3]
  have HP := Lib.hid (And.intro hp1 (And.intro hp2 hp3))
  have HI0 : Hid (Gr3 w M1 M2 M3 (Tr.run T0 (hr.take 0)) (Tr.run T0 (th.take 0)) w6) := H6.out
  clear hp1 hp2 hp3 H6 HDU HLEN
  go_wp2_with fail
  go_loopw [12] (fun iv wx => ∃ (j : Nat) (M1 M2 M3 : TM), j ≤ max nh nt ∧ iv = .int .i64 j ∧ Hid (M1.t = p1 ∧ M2.t = p2 ∧ M3.t = p3) ∧ Hid (Gr3 w M1 M2 M3 (Tr.run T0 (hr.take j)) (Tr.run T0 (th.take j)) wx)) (fun iv _ => max nh nt - (RowKit.intOf iv).toNat)
  case atStart => exact ⟨0, M1, M2, M3, by omega, rfl, HP, HI0⟩
  case round =>
    obtain ⟨j, M1, M2, M3, hj, rfl, HM, HI⟩ := hrel
    by_cases hin : j < nh ∨ j < nt
    · go_upto_region 9 with fail
      go_cut [72] (fun b wd => b = .bool true ∧ wr = wd)
      case first =>
        by_cases hjh : j < nh
        · go_wp2_with fail
          go_meet
          case rel => exact ⟨rfl, rfl⟩
        · have hjt : j < nt := hin.resolve_left hjh
          go_wp2_with fail
          go_meet
          case rel => exact ⟨rfl, rfl⟩
      case rest =>
        obtain ⟨rfl, rfl⟩ := hcut
        go_upto_if 78 with fail
        have htk : ∀ (l : List Tr.Op) (m : Nat), l.length = m → ¬ j < m → l.take (j + 1) = l.take j := fun l m hl hm => by rw [List.take_of_length_le (by omega), List.take_of_length_le (by omega)]
        have HTK := Lib.hid htk
        have HIN := Lib.hid hin
        clear htk hin
        go_cut [12] (fun iv wd => iv = .int .i64 j ∧ ∃ M1' M2' M3' : TM, Hid (M1'.t = p1 ∧ M2'.t = p2 ∧ M3'.t = p3) ∧ Hid (Gr3 w M1' M2' M3' (Tr.run T0 (hr.take (j + 1))) (Tr.run T0 (th.take j)) wd))
        case first =>
          by_cases hjh : j < nh
          · obtain ⟨ad, kd, d, nm, tw, nw, md, tg, rfl, hbl, hx, q0, q1, q2, q3, q4, q5, q6⟩ := (HH.out.below HI.out.g1.bl).op_cells hjh
            have hst := Tr.run_step T0 hr hx
            have hbd := HBS.out hr (by rw [HLH.out]; exact hnh) j
            generalize Tr.run T0 (hr.take j) = T at HI hst hbd
            have hap1 := fun V H => treeApply_any V M1 T (kd, d, nm, tw, nw, md, tg) H (by omega) (by omega)
            have hap2 := fun V H => treeApply_any V M2 T (kd, d, nm, tw, nw, md, tg) H (by omega) (by omega)
            generalize Tr.apply T (kd, d, nm, tw, nw, md, tg) = R at hap1 hap2 hst
            simp only [vOp, cOp, txt] at hap1 hap2
            rw [HM.out.1] at hap1
            rw [HM.out.2.1] at hap2
            have HA1 := Lib.hid hap1
            have HA2 := Lib.hid hap2
            have HST := Lib.hid hst
            have HX := Lib.hid hx
            clear hap1 hap2 hst hbd hx
            go_wp2_with fail
            refine (HA1.out _ HI.out.g1.at_).mono ?_
            rintro r w7 hpost
            obtain ⟨A7, k7, A8, k8, M1', rfl, o7, -, -, -, -, hg7, ht7, ho7, hk7⟩ := HI.out.g1.apply hpost
            obtain ⟨hg2, hd2⟩ := HI.out.g2.aside (fun k q q1 => HI.out.d12 k q1 q) hk7 ho7 hg7.bl
            obtain ⟨hg3, hd3⟩ := HI.out.g3.aside (fun k q q1 => HI.out.d13 k q1 q) hk7 ho7 hg7.bl
            have H7 : Hid (Gr3 w M1' M2 M3 R.1 T w7 ∨ True) := .inr trivial
            have HG7 : Hid (Grown w M1' R.1 w7 ∧ Grown w M2 T w7 ∧ Grown w M3 (Tr.run T0 (th.take j)) w7 ∧ (∀ k, M2.own k → ¬ M1'.own k) ∧ (∀ k, M3.own k → ¬ M1'.own k)) := ⟨hg7, hg2, hg3, hd2, hd3⟩
            have HO7 := Lib.hid o7
            have HN7 : Hid (∀ k, (Value.slice A7 R.2.1.length k7).ownBlock = some k → ¬ M2.own k) := fun k q q2 => by have := (o7.lt k q).1; have := HI.out.g2.at_.F.own_lt q2; omega
            have HT7 := Lib.hid ht7
            have HRH := Lib.hid ((HH.out.below hg7.bl).op_cells hjh)
            clear hpost o7 hg7 ht7 ho7 hk7 hg2 hd2 hg3 hd3 H7 q0 q1 q2 q3 q4 q5 q6 hbl HA1
            obtain ⟨ad', kd', d', nm', tw', nw', md', tg', e, hbl', hx', q0, q1, q2, q3, q4, q5, q6⟩ := HRH.out
            injection e with e
            subst e
            rw [HX.out] at hx'
            simp only [Option.some.injEq, Prod.mk.injEq] at hx'
            obtain ⟨rfl, rfl, rfl, rfl, rfl, rfl, rfl⟩ := hx'
            go_wp2_with fail
            refine (HA2.out _ HG7.out.2.1.at_).mono ?_
            rintro r w8 hpost
            obtain ⟨A9, k9, A10, k10, M2', rfl, o9, -, -, -, -, hg9, ht9, ho9, hk9⟩ := HG7.out.2.1.apply hpost
            obtain ⟨hg1, hd1⟩ := HG7.out.1.aside (fun k q q1 => HG7.out.2.2.2.1 k q1 q) hk9 ho9 hg9.bl
            obtain ⟨hg3, hd3⟩ := HG7.out.2.2.1.aside (fun k q q1 => HI.out.d23 k q1 q) hk9 ho9 hg9.bl
            have HG9 : Hid (Gr3 w M1' M2' M3 R.1 (Tr.run T0 (th.take j)) w8) := ⟨hg1, hg9, hg3, hd1, fun k q q2 => HG7.out.2.2.2.2 k q2 q, fun k q q2 => hd3 k q2 q⟩
            have HM9 : Hid (M1'.t = p1 ∧ M2'.t = p2 ∧ M3.t = p3) := ⟨HT7.out.trans HM.out.1, ht9.trans HM.out.2.1, HM.out.2.2⟩
            have hse := sameEntries_any A7 A9 R.2.1.length R.2.1.length k7 k9 R.2.1 R.2.1 w8 (Rd.of_own (own_kp HO7.out hk9 HN7.out)) (Rd.of_own o9) (own_le o9)
            rw [decide_eq_true rfl] at hse
            have HSE := Lib.hid hse
            clear hpost o9 hg9 ht9 ho9 hk9 hg1 hd1 hg3 hd3 hse q0 q1 q2 q3 q4 q5 q6 hbl' HA2
            go_wp2_with fail
            refine HSE.out.mono ?_
            rintro r w9 ⟨rfl, nq, rfl⟩
            have HFIN := Lib.hid (HG9.out.below (below_drewN_ (Below.refl _ _) nq))
            rw [← HST.out] at HFIN
            go_wp2_with fail
            go_meet
            case rel => exact ⟨rfl, M1', M2', M3, HM9, HFIN⟩
          · have HFIN := HI
            rw [← HTK.out hr nh HLH.out hjh] at HFIN
            go_wp2_with fail
            go_meet
            case rel => exact ⟨rfl, M1, M2, M3, HM, HFIN⟩
        case rest =>
          obtain ⟨rfl, M1', M2', M3', hm, hcut⟩ := hcut
          obtain ⟨w7, hw7⟩ : ∃ w7 : World, w7 = wc := ⟨_, rfl⟩
          subst hw7
          have HI7 := Lib.hid hcut.out
          have HM7 := Lib.hid hm.out
          clear hcut hm HI HM
          by_cases hjt : j < nt
          · obtain ⟨ad, kd, d, nm, tw, nw, md, tg, rfl, hbl, hx, q0, q1, q2, q3, q4, q5, q6⟩ := (HT.out.below HI7.out.g1.bl).op_cells hjt
            have hst := Tr.run_step T0 th hx
            have hbd := HBS.out th (by rw [HLT.out]; exact hnt) j
            generalize Tr.run T0 (th.take j) = C at HI7 hst hbd
            have hap := fun V H => treeApply_any V M3' C (kd, d, nm, tw, nw, md, tg) H (by omega) (by omega)
            generalize Tr.apply C (kd, d, nm, tw, nw, md, tg) = R at hap hst
            simp only [vOp, cOp, txt] at hap
            rw [HM7.out.2.2] at hap
            have HA := Lib.hid hap
            have HST := Lib.hid hst
            clear hap hst hbd hx
            go_wp2_with fail
            refine (HA.out _ HI7.out.g3.at_).mono ?_
            rintro r w8 hpost
            obtain ⟨A9, k9, A10, k10, M3'', rfl, -, -, -, -, -, hg9, ht9, ho9, hk9⟩ := HI7.out.g3.apply hpost
            obtain ⟨hg1, hd1⟩ := HI7.out.g1.aside HI7.out.d13 hk9 ho9 hg9.bl
            obtain ⟨hg2, hd2⟩ := HI7.out.g2.aside HI7.out.d23 hk9 ho9 hg9.bl
            have HG9 : Hid (Gr3 w M1' M2' M3'' (Tr.run T0 (hr.take (j + 1))) (Tr.run T0 (th.take (j + 1))) w8) := by
              rw [HST.out]
              exact ⟨hg1, hg2, hg9, HI7.out.d12, hd1, hd2⟩
            have HM9 : Hid (M1'.t = p1 ∧ M2'.t = p2 ∧ M3''.t = p3) := ⟨HM7.out.1, HM7.out.2.1, ht9.trans HM7.out.2.2⟩
            clear hpost hg9 ht9 ho9 hk9 hg1 hd1 hg2 hd2 q0 q1 q2 q3 q4 q5 q6 hbl HA
            go_wp2_with fail
            go_roundw
            case rel => exact ⟨j + 1, M1', M2', M3'', by omega, by go_num, HM9, HG9⟩
            case measure => simp [RowKit.intOf] <;> omega
          · have HFIN := HI7
            have hjh := HIN.out.resolve_right hjt
            rw [← HTK.out th nt HLT.out hjt] at HFIN
            go_wp2_with fail
            go_roundw
            case rel => exact ⟨j + 1, M1', M2', M3', by omega, by go_num, HM7, HFIN⟩
            case measure => simp [RowKit.intOf] <;> omega
    · obtain ⟨h1, h2⟩ := not_or.1 hin
      have HF : Hid (Gr3 w M1 M2 M3 (Tr.run T0 hr) (Tr.run T0 th) wr) := by
        have := HI.out
        rwa [List.take_of_length_le (by rw [HLH.out]; omega), List.take_of_length_le (by rw [HLT.out]; omega)] at this
      clear HI hin
      go_wp2_with fail
      refine (copyOps_any A n c s _ (HS.out.below HF.out.g1.bl) (by omega)).mono ?_
      rintro r w7 ⟨v7, rfl, o7, b7⟩
      obtain ⟨A7, c7, rfl⟩ := own_slice o7
      have H7 := Lib.hid (HF.out.below b7)
      have HO7 : Hid (w7.ownsRow w.heap.size 54 7 (.slice A7 n c7) n (cOps s)) := own_base o7 HF.out.g1.bl.size
      have HN7 : Hid (∀ k, (Value.slice A7 n c7).ownBlock = some k → wr.heap.size ≤ k) := fun k q => (o7.lt k q).1
      have HT7 : Hid (Rd w7 7 At_ nt (cOps th)) := HT.out.below H7.out.g1.bl
      clear o7 b7
      go_wp2_with ((with_reducible refine wpList_isBuiltin .append ?_); refine wpList_hold ?_)
      refine Lib.hid ?_
      refine wpList_append_rd rfl _ _ rfl elemOps (v := .slice A7 n c7) rfl HO7.out rfl HT7.out (cOps_one _) ?c1 ?c2 H7.out.g1.bl.size ?_
      case c1 => unfold maxLen; omega
      case c2 => omega
      intro v8 w8 hown8 hg8 hl8
      obtain ⟨A8, c8, rfl⟩ := own_slice hown8
      have hk8 : Kp (fun k => (Value.slice A7 n c7).ownBlock ≠ some k) w7 w8 := (Kp.refl _ w7).grown hg8 (fun k q _ q2 => q2 q)
      have hb8 : Below w.heap.size w w8 := H7.out.g1.bl.grown hg8 H7.out.g1.bl.size fun k q => (HO7.out.lt k q).1
      have H8 : Hid (Gr3 w M1 M2 M3 (Tr.run T0 hr) (Tr.run T0 th) w8) :=
        ⟨⟨H7.out.g1.at_.kp hk8 fun k q q2 => by have := HN7.out k q2; have := HF.out.g1.at_.F.own_lt q; omega, H7.out.g1.own, hb8⟩,
         ⟨H7.out.g2.at_.kp hk8 fun k q q2 => by have := HN7.out k q2; have := HF.out.g2.at_.F.own_lt q; omega, H7.out.g2.own, hb8⟩,
         ⟨H7.out.g3.at_.kp hk8 fun k q q2 => by have := HN7.out k q2; have := HF.out.g3.at_.F.own_lt q; omega, H7.out.g3.own, hb8⟩, H7.out.d12, H7.out.d13, H7.out.d23⟩
      have hbe := behind05_any w8 A8 (n + nt) c8 (s ++ th) (by rw [cOps_append]; exact Rd.of_own hown8) (by omega)
      rw [HRUN.out] at hbe
      have HBE := Lib.hid hbe
      clear hown8 hg8 hl8 hk8 hb8 hbe HO7 HN7 HT7 H7
      go_wp2_with fail
      refine HBE.out.mono ?_
      rintro r w9 ⟨M4, rfl, hg4⟩
      have H9 := Lib.hid (H8.out.below hg4.bl)
      have HG9 := Lib.hid (hg4.later H8.out.g1.bl)
      have hbh := HBS.out hr (by rw [HLH.out]; exact hnh) hr.length
      have hbt := HBS.out th (by rw [HLT.out]; exact hnt) th.length
      rw [List.take_length] at hbh hbt
      clear hg4 H8 HBE HF
      generalize Tr.run T0 hr = T1 at H9 hbh
      generalize Tr.run T0 th = C1 at H9 HG9 hbt
      have hl1 := H9.out.g1.at_.good.len
      have hl2 := H9.out.g3.at_.good.len
      have hd1 := fun V H => treeDump_any V M1 T1 H (by omega)
      have hd2 := fun V H => treeDump_any V M2 T1 H (by omega)
      have hd3 := fun V H => treeDump_any V M3 C1 H (by omega)
      have hd4 := fun V H => treeDump_any V M4 C1 H (by omega)
      have hv3 := fun V H => treeVersion_any V M3 C1 H
      rw [HM.out.1] at hd1
      rw [HM.out.2.1] at hd2
      rw [HM.out.2.2] at hd3 hv3
      have HD := Lib.hid (And.intro hd1 (And.intro hd2 (And.intro hd3 (And.intro hd4 hv3))))
      have HL := Lib.hid (And.intro hl1 hl2)
      clear hd1 hd2 hd3 hd4 hv3 hbh hbt hl1 hl2
      go_wp2_with fail
      refine (HD.out.1 _ H9.out.g1.at_).mono ?_
      rintro r w10 ⟨v10, rfl, o10, b10⟩
      obtain ⟨A10, c10, rfl⟩ := own_slice o10
      have H10 := Lib.hid (H9.out.below b10)
      have HG10 := Lib.hid (HG9.out.below b10)
      have HR10 := Lib.hid (Rd.of_own o10)
      clear o10 b10 H9 HG9
      go_wp2_with fail
      refine (HD.out.2.1 _ H10.out.g2.at_).mono ?_
      rintro r w11 ⟨v11, rfl, o11, b11⟩
      obtain ⟨A11, c11, rfl⟩ := own_slice o11
      have H11 := Lib.hid (H10.out.below b11)
      have HG11 := Lib.hid (HG10.out.below b11)
      have HS11 := Lib.hid (sameDump T1 HL.out.1 A10 A11 c10 c11 w11 (HR10.out.below b11) (Rd.of_own o11))
      clear o11 b11 H10 HG10 HR10
      go_wp2_with fail
      refine HS11.out.mono ?_
      rintro r w12 ⟨rfl, b12⟩
      have H12 := Lib.hid (H11.out.below b12)
      have HG12 := Lib.hid (HG11.out.below b12)
      clear b12 H11 HG11 HS11
      go_wp2_with fail
      refine (HD.out.2.2.1 _ H12.out.g3.at_).mono ?_
      rintro r w13 ⟨v13, rfl, o13, b13⟩
      obtain ⟨A13, c13, rfl⟩ := own_slice o13
      have H13 := Lib.hid (H12.out.below b13)
      have HG13 := Lib.hid (HG12.out.below b13)
      have HR13 := Lib.hid (Rd.of_own o13)
      clear o13 b13 H12 HG12
      go_wp2_with fail
      refine (HD.out.2.2.2.1 _ HG13.out.at_).mono ?_
      rintro r w14 ⟨v14, rfl, o14, b14⟩
      obtain ⟨A14, c14, rfl⟩ := own_slice o14
      have H14 := Lib.hid (H13.out.below b14)
      have HG14 := Lib.hid (HG13.out.below b14)
      have HS14 := Lib.hid (sameDump C1 HL.out.2 A13 A14 c13 c14 w14 (HR13.out.below b14) (Rd.of_own o14))
      clear o14 b14 H13 HG13 HR13
      go_wp2_with fail
      refine HS14.out.mono ?_
      rintro r w15 ⟨rfl, b15⟩
      have H15 := Lib.hid (H14.out.below b15)
      have HG15 := Lib.hid (HG14.out.below b15)
      clear b15 H14 HG14 HS14
      go_wp2_with fail
      refine (HD.out.2.2.2.2 _ H15.out.g3.at_).mono ?_
      rintro r w16 ⟨rfl, rfl⟩
      go_wp2_with fail
      refine (treeVersion_any _ M4 C1 HG15.out.at_).mono ?_
      rintro r w16 ⟨rfl, rfl⟩
      go_wp2_with fail
      refine (awake05 _).mono ?_
      rintro r w17 ⟨rfl, b17⟩
      go_wp2_with fail
      go_ret
      exact ⟨rfl, H15.out.g1.bl.trans (b17.mono H15.out.g1.bl.size)⟩
end Go.Proofs.YtjaokljbdoocmaaGreatDoor
