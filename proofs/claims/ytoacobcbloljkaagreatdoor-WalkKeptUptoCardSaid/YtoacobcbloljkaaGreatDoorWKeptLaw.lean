/-
  The walk of the law WalkKept.
-/
import Derived.Test.YtoacobcbloljkaaGreatDoorOfWalk
import Derived.Test.YtoacobcbloljkaaGreatDoorSameOut
import Derived.Test.YtoacobcbloljkaaGreatDoorAwake14
import Derived.Test.YtoacobcbloljkaaGreatDoorCopyE
import Derived.Test.YtoacobcbloljkaaGreatDoorCopyT
import Derived.Test.YtoacobcbloljkaaGreatDoorRef14
import Derived.Test.YtoacobcbloljkaaGreatDoorSameEn
import Derived.Test.YtoacobcbloljkaaGreatDoorLow
import Derived.Test.YtoacobcbloljkaaGreatDoorSame
import Derived.Test.YtoacobcbloljkaaGreatDoorWKeptB
namespace Go.Proofs.YtoacobcbloljkaaGreatDoor
open Go.RowKit

attribute [local go_sem ↓] Go.wp_at_zero Go.wp_at_succ

set_option maxRecDepth 100000 in
set_option maxHeartbeats 4000000 in
theorem walkKept_walk (A : Option Addr) (n cp : Nat) (s : List Op12) (Af : Option Addr) (nf cf : Nat) (fresh : List En) (As : Option Addr) (ns cs : Nat) (ss : List (List UInt8)) (links : Int) (hl0 : -9223372036854775808 ≤ links) (hl1 : links ≤ 9223372036854775807) (w : World)
    (hs : ScriptAt w w.heap.size A n s) (hn : n ≤ 1256584717421) (hf : Rd w 7 Af nf (cEns fresh)) (hnf : nf ≤ 1048576) (hss : Rd w 1 As ns (txts ss)) (hns : ns ≤ 1048576) :
    Calls Tryz.prog 3 #[.slice A n cp, .slice Af nf cf, .slice As ns cs, .int .i64 links] w fun e w' => e = .returned (.bool true) ∧ Below w.heap.size w w' := by
  have hof := fun V H => of_any V A n cp s hn H
  have hok := StOk.all s s.length (Nat.le_refl _)
  rw [List.take_length] at hok
  have hlen : s.length = n := hs.1
  generalize stAll s = S at hof hok
  obtain ⟨l, wh, clk, L, W⟩ := S
  obtain ⟨hrel, hk0, hk1, hLn, hWn⟩ := hok
  simp only at hrel hk0 hk1 hLn hWn
  have hkk : knownOf fresh l wh = knownR fresh L W := funext fun k => Rel.known hrel fresh k
  obtain ⟨RUN, hRUN⟩ : ∃ RUN, Wk.steps (knownOf fresh l wh) true (min (max links 0) 8).toNat ss [rootNd] false [] = RUN := ⟨_, rfl⟩
  have hwk := fun V A0 n0 c0 B0 m0 d0 c e h h1 h2 h3 h4 H => steps_any V A0 B0 n0 c0 m0 d0 fresh ss false true links c e h l wh clk h1 h2 hl0 hl1 h3 h4 H
  have hrw := fun (V : World) (B cb : Nat) (F : Nat → Prop) (A1 : Option Addr) (c1 : Nat) (A2 : Option Addr) (c2 : Nat) (H : RefAt V B cb F A1 c1 A2 c2 L W) (hr : Rd V 7 Af nf (cEns fresh)) (h2 : Rd V 1 As ns (txts ss)) =>
    refSteps_any V (.pointer (some ⟨cb, 0, none⟩)) (.slice Af nf cf) (.pointer none) (knownR fresh L W) (fun V' k hV => look14_any V' B cb F A1 c1 A2 c2 L W Af nf cf fresh k (by omega) (hr.below hV) (by omega) (by omega) (H.below hV)) ⟨rfl, rfl, rfl⟩ As ns cs ss false true links (by omega) hl0 hl1 h2
  rw [← hkk] at hrw
  rw [hRUN] at hwk hrw
  have hli := fun V B cb F A1 c1 A2 c2 c e h hc hr => like_any V B cb F A1 c1 A2 c2 L W c e h l wh clk hc hr hrel (by omega) (by omega)
  have hlf := hf.en_len
  have hls := hss.txt_len
  have HSC := Lib.hid hs
  have HF := Lib.hid hf
  have HT := Lib.hid hss
  have HOF := Lib.hid hof
  have HWK := Lib.hid hwk
  have HRW := Lib.hid hrw
  have HLI := Lib.hid hli
  have HLF := Lib.hid hlf
  have HLS := Lib.hid hls
  clear hs hf hss hof hwk hrw hli hRUN hkk hrel hk0 hk1 hLn hWn hlen hlf hls
  go_enter Tryz.func3, Tryz.ntmps3
  go_wp2_with fail
  refine (HOF.out _ HSC.out).mono ?_
  rintro r w1 ⟨c, e, h, cb, rfl, hca, ⟨A1, c1, A2, c2, hra⟩, hb1, _, _, _⟩
  have HB1 := Lib.hid hb1
  have HF1 := Lib.hid (HF.out.below hb1)
  have HT1 := Lib.hid (HT.out.below hb1)
  have HL1 : Hid (LK w1 w.heap.size cb (fun k => k < w.heap.size ∨ k = c ∨ k = e ∨ k = h) A1 c1 A2 c2 L W c e h l wh clk w1) := ⟨hca, hra, Below.refl _ _⟩
  clear hb1 hca hra HOF HSC HF HT
  go_wp2_with fail
  refine (copyEntries_any Af nf cf fresh _ HF1.out (by omega)).mono ?_
  rintro r w2 ⟨v2, rfl, hown2, hb2⟩
  obtain ⟨Ae, ce, rfl⟩ := own_slice hown2
  have HE2 := Lib.hid hown2
  have HB2 := Lib.hid hb2
  clear hown2 hb2
  go_wp2_with fail
  refine (copyT_any As ns cs ss _ (HT1.out.below HB2.out) (by omega)).mono ?_
  rintro r w3 ⟨v3, rfl, hown3, hb3⟩
  obtain ⟨Aq, ct, rfl⟩ := own_slice hown3
  have hK : Hid (WK w1 fresh nf ss ns 0 0 Ae ce Aq ct w3) := by
    refine ⟨HB2.out.trans (hb3.mono HB2.out.size), ?_, ?_, ?_⟩
    · have := own_below HE2.out hb3
      simpa using this
    · have := own_base hown3 HB2.out.size
      simpa using this
    · intro k q h
      have h1 := (HE2.out.lt k q).2
      have h2 := (hown3.lt k h).1
      omega
  clear hown3 hb3 HE2 HB2
  go_wp2_with fail
  go_loopw [12, 13, 14] (fun ev sv iv wx => ∃ (j : Nat) (Ae : Option Addr) (ce : Nat) (Aq : Option Addr) (ct : Nat), j ≤ 70 ∧ ev = .slice Ae (nf + j) ce ∧ sv = .slice Aq (ns + j) ct ∧ iv = .int .i64 j ∧ Hid (WK w1 fresh nf ss ns j j Ae ce Aq ct wx)) (fun _ _ iv _ => 70 - (RowKit.intOf iv).toNat)
  case atStart => exact ⟨0, Ae, ce, Aq, ct, by omega, rfl, rfl, rfl, hK⟩
  case round =>
    obtain ⟨j, Ae, ce, Aq, ct, hj, rfl, rfl, rfl, HI⟩ := hrel
    by_cases hlt : j < 70
    · have HRD : Hid (Rd (wr.alloc (.cells #[.int .i64 (-3), .string ⟨#[]⟩, .bool false, .int .i64 0, .int .i64 0, .int .i64 0, .string ⟨#[]⟩] 36)) 7 (some ⟨wr.heap.size, 0, none⟩) 1 (cEns [markE])) := rd_new wr 36 7 1 [.int .i64 (-3), .string ⟨#[]⟩, .bool false, .int .i64 0, .int .i64 0, .int .i64 0, .string ⟨#[]⟩] rfl
      have HI1 := Lib.hid (HI.out.next ((Below.refl _ _).alloc (Nat.le_refl _) (.cells #[.int .i64 (-3), .string ⟨#[]⟩, .bool false, .int .i64 0, .int .i64 0, .int .i64 0, .string ⟨#[]⟩] 36)))
      go_wp2_with ((with_reducible refine wpList_isBuiltin .append ?_); refine wpList_hold ?_)
      refine Lib.hid ?_
      refine wpList_append_rd rfl _ _ rfl elemEntries (v := .slice Ae (nf + j) ce) rfl HI1.out.eo rfl HRD.out (cEns_one _) ?c1 ?c2 HI1.out.bl.size ?_
      case c1 => unfold maxLen; omega
      case c2 => omega
      intro v5 w5 hown5 hg5 hl5
      obtain ⟨A5, c5, rfl, hi5⟩ := HI1.out.putE hown5 hg5 hl5
      have HI5 := Lib.hid hi5
      have HRT : Hid (Rd (w5.alloc (.cells #[.string ⟨#[109, 97, 114, 107]⟩] 9)) 1 (some ⟨w5.heap.size, 0, none⟩) 1 (txts [markT])) := rd_new w5 9 1 1 [.string ⟨#[109, 97, 114, 107]⟩] rfl
      have HI6 := Lib.hid (HI5.out.next ((Below.refl _ _).alloc (Nat.le_refl _) (.cells #[.string ⟨#[109, 97, 114, 107]⟩] 9)))
      clear hown5 hg5 hl5 hi5 HI HI1 HRD
      go_wp2_with ((with_reducible refine wpList_isBuiltin .append ?_); refine wpList_hold ?_)
      refine Lib.hid ?_
      refine wpList_append_rd rfl _ _ rfl elemTexts (v := .slice Aq (ns + j) ct) rfl HI6.out.so rfl HRT.out (txts_one _) ?c1 ?c2 HI6.out.bl.size ?_
      case c1 => unfold maxLen; omega
      case c2 => omega
      intro v7 w7 hown7 hg7 hl7
      obtain ⟨A7, c7, rfl, hi7⟩ := HI6.out.putS hown7 hg7 hl7
      have HI7 := Lib.hid hi7
      clear hown7 hg7 hl7 hi7 HI5 HI6 HRT
      go_wp2_with fail
      go_roundw
      case rel => exact ⟨j + 1, A5, c5, A7, c7, by omega, rfl, rfl, by go_num, HI7⟩
      case measure => simp [RowKit.intOf] <;> omega
    · obtain rfl : j = 70 := by omega
      obtain ⟨nd, ⟨kd, kn⟩, er, ⟨ni, nk, nm, nt⟩, us⟩ := RUN
      have HPE := Lib.hid (HI.out.pe HLF.out)
      have HPS := Lib.hid (HI.out.ps HLS.out)
      have HLW := Lib.hid (HL1.out.next HI.out.bl)
      obtain ⟨⟨cp1, cp2⟩, cp3, cp4⟩ := HI.out.caps
      unfold maxLen at cp2 cp4
      go_upto_region 11 with fail
      go_cut [15] (fun pv wd => ∃ ab Au cu, pv = .pointer (some ⟨ab, 0, none⟩) ∧ Hid (KO w1 fresh nf ss ns Ae ce Aq ct ab (nd, (kd, kn), er, (ni, nk, nm, nt), us) Au cu wd))
      case first =>
        go_region_with (first
          | (go_at_call 16; (with_reducible refine (HWK.out (wr.drew) Ae nf ce Aq ns ct c e h (by omega) (by omega) HPE.out.drew HPS.out.drew HLW.out.drew.ca).mono ?_); rintro r w5 ⟨v5, rfl, hown5, hb5⟩; obtain ⟨Au, cu, rfl⟩ := own_slice hown5; have HFI : Hid (KO w1 fresh nf ss ns Ae ce Aq ct w5.heap.size (nd, (kd, kn), er, (ni, nk, nm, nt), us) Au cu (w5.alloc (.cells (outCells (nd, (kd, kn), er, (ni, nk, nm, nt), us) (.slice Au us.length cu)).toArray 40))) := KO.made HI.out.drew hb5 hown5 rfl; clear hown5 hb5; simp only [vOut, outCells, txt])
          | (go_at_call 16; refine (HWK.out _ Ae nf ce Aq ns ct c e h (by omega) (by omega) (HPE.out.alloc _).drew (HPS.out.alloc _).drew (HLW.out.alloc _).drew.ca).mono ?_; rintro r w5 ⟨v5, rfl, hown5, hb5⟩; obtain ⟨Au, cu, rfl⟩ := own_slice hown5; have AO5 : Hid (At w5 wr.heap.size 40 (outCells (out0 []) (.slice none 0 0))) := At.below (At.drew (At.new wr 40 (outCells (out0 []) (.slice none 0 0)))) hb5; have HO5 := Lib.hid hown5; have HB5 := Lib.hid hb5; clear hown5 hb5; obtain ⟨o0, o1, o2, o3, o4, o5, o6, o7, o8⟩ := out_cells AO5.out; have of := AO5.out.frozen; simp only [vOut, outCells, txt]))
        all_goals
          go_wp2_with fail
          go_meet
          case rel => first | exact ⟨_, Au, cu, rfl, HFI⟩ | exact ⟨_, Au, cu, rfl, KO.made2 (V4 := (wr.alloc (.cells (outCells (out0 []) (.slice none 0 0)).toArray 40)).drew) HI.out rfl (below_drew ((Below.refl _ _).alloc (Nat.le_refl _) _)) (by show (wr.alloc _).heap.size = _; simp) HB5.out HO5.out ((((((((((Kp.refl (fun k => k ≠ wr.heap.size) w5).setCell (p := ⟨wr.heap.size, 0, none⟩) (fun _ q => q rfl) (.bool nd)).setCell (p := ⟨wr.heap.size, 1, none⟩) (fun _ q => q rfl) (.int .i64 kd)).setCell (p := ⟨wr.heap.size, 2, none⟩) (fun _ q => q rfl) (.string ⟨kn.toArray⟩)).setCell (p := ⟨wr.heap.size, 3, none⟩) (fun _ q => q rfl) (.int .i64 er)).setCell (p := ⟨wr.heap.size, 4, none⟩) (fun _ q => q rfl) (.int .i64 ni)).setCell (p := ⟨wr.heap.size, 5, none⟩) (fun _ q => q rfl) (.int .i64 nk)).setCell (p := ⟨wr.heap.size, 6, none⟩) (fun _ q => q rfl) (.int .i64 nm)).setCell (p := ⟨wr.heap.size, 7, none⟩) (fun _ q => q rfl) (.string ⟨nt.toArray⟩)).setCell (p := ⟨wr.heap.size, 8, none⟩) (fun _ q => q rfl) (.slice Au us.length cu)) (((((((((AO5.out.setCell 0 (.bool nd)).setCell 1 (.int .i64 kd)).setCell 2 (.string ⟨kn.toArray⟩)).setCell 3 (.int .i64 er)).setCell 4 (.int .i64 ni)).setCell 5 (.int .i64 nk)).setCell 6 (.int .i64 nm)).setCell 7 (.string ⟨nt.toArray⟩)).setCell 8 (.slice Au us.length cu)) rfl⟩
      case rest =>
        obtain ⟨ab, Au, cu, rfl, hcut⟩ := hcut
        have HC := Lib.hid hcut.out
        obtain ⟨w6, hw6⟩ : ∃ w6 : World, w6 = wc := ⟨_, rfl⟩
        subst hw6
        have hq : ∀ V : World, (binOp .neq 36 (.agg #[.int .i64 (-3), .string ⟨#[]⟩, .bool false, .int .i64 0, .int .i64 0, .int .i64 0, .string ⟨#[]⟩]) (.agg #[.int .i64 (-3), .string ⟨#[]⟩, .bool false, .int .i64 0, .int .i64 0, .int .i64 0, .string ⟨#[]⟩])).run Tryz.prog V = .ok (.bool false) V := fun V => by
          have := neq_entry markE markE V
          simpa [markE, vEn, txt] using this
        clear hcut HPE HPS HLW HI hK
        go_wp2_with fail
        go_loopw [16] (fun iv wx => ∃ j : Nat, j ≤ 70 ∧ iv = .int .i64 j ∧ w6 = wx) (fun iv _ => 70 - (RowKit.intOf iv).toNat)
        case atStart => exact ⟨0, by omega, rfl, rfl⟩
        case round =>
          obtain ⟨j, hj2, rfl, rfl⟩ := hrel
          by_cases hlt : j < 70
          · obtain ⟨ad, rfl, hb, h0, h1, h2, h3, h4, h5, h6⟩ := HC.out.wk.mark_at HLF.out hlt
            obtain ⟨ae, rfl, hb2, g0⟩ := HC.out.wk.text_at HLS.out hlt
            have e1 : ((nf : Int) + (j : Int)).toNat = nf + j := by omega
            have e2 : ((ns : Int) + (j : Int)).toNat = ns + j := by omega
            go_wp2_with fail
            go_roundw
            case rel => exact ⟨j + 1, by omega, by go_num, trivial⟩
            case measure => simp [RowKit.intOf] <;> omega
          · obtain rfl : j = 70 := by omega
            go_upto_region 17 with fail
            have HF6 := Lib.hid (HF1.out.below HC.out.wk.bl)
            have HT6 := Lib.hid (HT1.out.below HC.out.wk.bl)
            go_wp2_with fail
            refine (sameEntries_any Ae Af nf nf ce cf fresh fresh _ (HC.out.wk.pe HLF.out) HF6.out (by unfold maxLen; omega)).mono ?_
            rintro r w7 ⟨rfl, q7, rfl⟩
            rw [decide_eq_true rfl]
            have HC7 := Lib.hid (HC.out.next (below_drewN_ (Below.refl _ w6) q7))
            have HT7 := Lib.hid (HT6.out.below (below_drewN_ (Below.refl _ w6) q7))
            have HF7 := Lib.hid (HF6.out.below (below_drewN_ (Below.refl _ w6) q7))
            clear HF6 HT6 HC
            go_wp2_with fail
            refine (sameTexts_any Aq As ns ns ct cs ss ss _ (HC7.out.wk.ps HLS.out) HT7.out (by unfold maxLen; omega)).mono ?_
            rintro r w8 ⟨rfl, q8, rfl⟩
            rw [decide_eq_true rfl]
            generalize w6.drewN q7 = wa at *
            have HC8 := Lib.hid (HC7.out.next (below_drewN_ (Below.refl _ wa) q8))
            have HT8 := Lib.hid (HT7.out.below (below_drewN_ (Below.refl _ wa) q8))
            have HF8 := Lib.hid (HF7.out.below (below_drewN_ (Below.refl _ wa) q8))
            clear HF7 HT7 HC7
            generalize wa.drewN q8 = wb at *
            go_upto_region 19 with fail
            have HPE := Lib.hid (HC8.out.wk.pe HLF.out)
            have HPS := Lib.hid (HC8.out.wk.ps HLS.out)
            have HLW := Lib.hid (HL1.out.next HC8.out.wk.bl)
            go_cut [17] (fun pv wd => ∃ bb Bu du, pv = .pointer (some ⟨bb, 0, none⟩) ∧ Hid (KU w1 ab (nd, (kd, kn), er, (ni, nk, nm, nt), us) Au cu bb Bu du wd))
            case first =>
              go_region_with (first
                | (go_at_call 16; (with_reducible refine (HWK.out (wb.drew) Ae nf ce Aq ns ct c e h (by omega) (by omega) HPE.out.drew HPS.out.drew HLW.out.drew.ca).mono ?_); rintro r w5 ⟨v5, rfl, hown5, hb5⟩; obtain ⟨Bu, du, rfl⟩ := own_slice hown5; have HFI : Hid (KU w1 ab (nd, (kd, kn), er, (ni, nk, nm, nt), us) Au cu w5.heap.size Bu du (w5.alloc (.cells (outCells (nd, (kd, kn), er, (ni, nk, nm, nt), us) (.slice Bu us.length du)).toArray 40))) := Lib.hid (KU.made (HC8.out.next (below_drew (Below.refl _ wb))) hb5 hown5 rfl); clear hown5 hb5; simp only [vOut, outCells, txt])
                | (go_at_call 16; refine (HWK.out _ Ae nf ce Aq ns ct c e h (by omega) (by omega) (HPE.out.alloc _).drew (HPS.out.alloc _).drew (HLW.out.alloc _).drew.ca).mono ?_; rintro r w5 ⟨v5, rfl, hown5, hb5⟩; obtain ⟨Bu, du, rfl⟩ := own_slice hown5; have AO5 : Hid (At w5 wb.heap.size 40 (outCells (out0 []) (.slice none 0 0))) := At.below (At.drew (At.new wb 40 (outCells (out0 []) (.slice none 0 0)))) hb5; have HO5 := Lib.hid hown5; have HB5 := Lib.hid hb5; clear hown5 hb5; obtain ⟨o0, o1, o2, o3, o4, o5, o6, o7, o8⟩ := out_cells AO5.out; have of := AO5.out.frozen; simp only [vOut, outCells, txt]))
              all_goals
                go_wp2_with fail
                go_meet
                case rel => first | exact ⟨_, Bu, du, rfl, HFI⟩ | exact ⟨_, Bu, du, rfl, Lib.hid (KU.made2 (V4 := (wb.alloc (.cells (outCells (out0 []) (.slice none 0 0)).toArray 40)).drew) HC8.out rfl (below_drew ((Below.refl _ _).alloc (Nat.le_refl _) _)) (by show (wb.alloc _).heap.size = _; simp) HB5.out HO5.out ((((((((((Kp.refl (fun k => k ≠ wb.heap.size) w5).setCell (p := ⟨wb.heap.size, 0, none⟩) (fun _ q => q rfl) (.bool nd)).setCell (p := ⟨wb.heap.size, 1, none⟩) (fun _ q => q rfl) (.int .i64 kd)).setCell (p := ⟨wb.heap.size, 2, none⟩) (fun _ q => q rfl) (.string ⟨kn.toArray⟩)).setCell (p := ⟨wb.heap.size, 3, none⟩) (fun _ q => q rfl) (.int .i64 er)).setCell (p := ⟨wb.heap.size, 4, none⟩) (fun _ q => q rfl) (.int .i64 ni)).setCell (p := ⟨wb.heap.size, 5, none⟩) (fun _ q => q rfl) (.int .i64 nk)).setCell (p := ⟨wb.heap.size, 6, none⟩) (fun _ q => q rfl) (.int .i64 nm)).setCell (p := ⟨wb.heap.size, 7, none⟩) (fun _ q => q rfl) (.string ⟨nt.toArray⟩)).setCell (p := ⟨wb.heap.size, 8, none⟩) (fun _ q => q rfl) (.slice Bu us.length du)) (((((((((AO5.out.setCell 0 (.bool nd)).setCell 1 (.int .i64 kd)).setCell 2 (.string ⟨kn.toArray⟩)).setCell 3 (.int .i64 er)).setCell 4 (.int .i64 ni)).setCell 5 (.int .i64 nk)).setCell 6 (.int .i64 nm)).setCell 7 (.string ⟨nt.toArray⟩)).setCell 8 (.slice Bu us.length du)) rfl)⟩
            case rest =>
              obtain ⟨bb, Bu, du, rfl, hcut⟩ := hcut
              have HU := Lib.hid hcut.out
              clear hcut HPE HPS HLW HC8
              obtain ⟨wm, hw9⟩ : ∃ wm : World, wm = wc := ⟨_, rfl⟩
              subst hw9
              have HF9 := Lib.hid (HF1.out.below HU.out.bl)
              have HT9 := Lib.hid (HT1.out.below HU.out.bl)
              have HL9 := Lib.hid (HL1.out.next HU.out.bl)
              go_wp2_with fail
              go_loopw [18] (fun iv wx => ∃ j : Nat, j ≤ us.length ∧ iv = .int .i64 j ∧ Hid (KU w1 ab (nd, (kd, kn), er, (ni, nk, nm, nt), us) Au cu bb Bu du wx)) (fun iv _ => us.length - (RowKit.intOf iv).toNat)
              case atStart => exact ⟨0, by omega, rfl, HU⟩
              case round =>
                obtain ⟨j, hj3, rfl, HI⟩ := hrel
                obtain ⟨a0, a1, a2, a3, a4, a5, a6, a7, a8⟩ := out_cells HI.out.ao
                simp only at a8
                clear a0 a1 a2 a3 a4 a5 a6 a7
                by_cases hlt : j < us.length
                · obtain ⟨ys, hy⟩ := HI.out.us
                  obtain ⟨g, hAu, -⟩ := own_form hy (by show 0 < us.length; omega)
                  subst hAu
                  obtain ⟨⟨v1, p1⟩, ⟨v2, p2⟩, f1, f2, -⟩ := own_put2 hy j hlt
                  have HP := Lib.hid (fun u v => HI.out.put rfl hlt u v)
                  clear hy
                  have hltI : (j : Int) < (us.length : Int) := by omega
                  have hltI2 : (0 : Int) ≤ (j : Int) := by omega
                  have HLT := Lib.hid hlt
                  have HLM : Hid (us.length ≤ 9223372036854775807) := Lib.hid (by have := own_le HI.out.ub; unfold maxLen at this; exact Nat.le_trans this (by decide))
                  have hlm := HLM.out
                  have hlm2 : (j : Int) + 1 ≤ 9223372036854775807 := by omega
                  go_wp2_with fail
                  go_roundw
                  case rel => exact ⟨j + 1, by have := HLT.out; omega, by have := HLT.out; have := HLM.out; go_num, Lib.hid (HP.out _ _)⟩
                  case measure => have := HLT.out; have := HLM.out; simp [RowKit.intOf] <;> omega
                · obtain rfl : j = us.length := by omega
                  go_upto_region 24 with fail
                  have hso := fun V A6 c6 h1 h2 => sameOut_yes (nd, (kd, kn), er, (ni, nk, nm, nt), us) Bu A6 us.length du c6 V h1 h2 (by have := own_le HI.out.ub; exact this)
                  simp only [vOut, outCells, txt] at hso
                  have HSO := Lib.hid hso
                  have hr2 : ∀ V, KU w1 ab (nd, (kd, kn), er, (ni, nk, nm, nt), us) Au cu bb Bu du V → Calls Tryz.prog 20 #[.agg #[.pointer (some ⟨cb, 0, none⟩), .slice Af nf cf, .pointer none], .slice As ns cs, .bool false, .bool true, .int .i64 links] V (OutPost V (nd, (kd, kn), er, (ni, nk, nm, nt), us)) := fun V H =>
                    have H1 := HL1.out.next H.bl
                    HRW.out V _ cb _ A1 c1 A2 c2 H1.ra (HF1.out.below H.bl) (HT1.out.below H.bl)
                  have HR2 := Lib.hid hr2
                  have hl2 : ∀ V, KU w1 ab (nd, (kd, kn), er, (ni, nk, nm, nt), us) Au cu bb Bu du V → Calls Tryz.prog 21 #[.pointer (some ⟨c, 0, none⟩), .pointer (some ⟨cb, 0, none⟩), .slice none 0 0] V fun r w' => r = .returned (.bool true) ∧ Below V.heap.size V w' := fun V H =>
                    have H1 := HL1.out.next H.bl
                    HLI.out V _ cb _ A1 c1 A2 c2 c e h H1.ca H1.ra
                  have HL2 := Lib.hid hl2
                  have HBW : Hid (∀ V, KU w1 ab (nd, (kd, kn), er, (ni, nk, nm, nt), us) Au cu bb Bu du V → Below w.heap.size w V) := Lib.hid fun V H => HB1.out.trans (H.bl.mono HB1.out.size)
                  have HKR := Lib.hid HI.out
                  clear hso hr2 hl2 HI HU HWK HRW HLI HF9 HT9 HL9 HF8 HT8 HF1 HT1 HL1 a8
                  go_region_held3 (fun W => (W.cell? ⟨bb, 0, none⟩ = some (.bool nd) ∧ W.cell? ⟨bb, 1, none⟩ = some (.int .i64 kd) ∧ W.cell? ⟨bb, 2, none⟩ = some (.string ⟨kn.toArray⟩) ∧ W.cell? ⟨bb, 3, none⟩ = some (.int .i64 er) ∧ W.cell? ⟨bb, 4, none⟩ = some (.int .i64 ni) ∧ W.cell? ⟨bb, 5, none⟩ = some (.int .i64 nk) ∧ W.cell? ⟨bb, 6, none⟩ = some (.int .i64 nm) ∧ W.cell? ⟨bb, 7, none⟩ = some (.string ⟨nt.toArray⟩) ∧ W.cell? ⟨bb, 8, none⟩ = some (.slice Bu us.length du)) ∧ Hid (KU w1 ab (nd, (kd, kn), er, (ni, nk, nm, nt), us) Au cu bb Bu du W))
                    (first
                      | exact (KU.next HKR.out (below_drew (Below.refl _ _))).kh
                      | exact (KU.next (Hid.out (And.right (by assumption))) (Hid.out (by assumption))).kh)
                    (first
                      | (go_at_call 20; (with_reducible refine (HR2.out _ (Hid.out (And.right (by assumption)))).mono ?_); rintro r w6 ⟨v6, rfl, hown6, hb6⟩; obtain ⟨A6, c6, rfl⟩ := own_slice hown6; have HO6 := Lib.hid (Rd.of_own hown6); have HB6 := Lib.hid hb6; clear hown6 hb6; simp only [vOut, outCells, txt])
                      | (go_at_call 19; (with_reducible refine (HSO.out _ _ _ (Rd.of_own (KU.ub (Hid.out (And.right (by assumption))))) (Hid.out (by assumption))).mono ?_); rintro r w7 ⟨rfl, hb7⟩; have HB7 := Lib.hid hb7; clear hb7)
                      | (go_at_call 21; (with_reducible refine (HL2.out _ (Hid.out (And.right (by assumption)))).mono ?_); rintro r w8 ⟨rfl, hb8⟩; have HB8 := Lib.hid hb8; clear hb8)
                      | (go_at_call 22; refine (awake14 _).mono ?_; rintro r w9 ⟨rfl, hb9⟩; have HB9 := Lib.hid hb9; clear hb9))
                  have hfin : Below w.heap.size w w9 := HBW.out _ (Hid.out (And.right (by assumption)))
                  go_wp2_with fail
                  go_ret
                  exact ⟨rfl, hfin⟩
end Go.Proofs.YtoacobcbloljkaaGreatDoor
