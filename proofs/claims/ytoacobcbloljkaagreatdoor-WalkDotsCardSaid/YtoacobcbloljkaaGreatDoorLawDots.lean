/-
  The walk of the law WalkDots.
-/
import Derived.Test.YtoacobcbloljkaaGreatDoorFilled
import Derived.Test.YtoacobcbloljkaaGreatDoorWalkPure2
import Derived.Test.YtoacobcbloljkaaGreatDoorAwake14
import Derived.Test.YtoacobcbloljkaaGreatDoorSameOut
import Derived.Test.YtoacobcbloljkaaGreatDoorCopyT
import Derived.Test.YtoacobcbloljkaaGreatDoorPlace
import Derived.Test.YtoacobcbloljkaaGreatDoorRegF
import Derived.Deep.RegionWith
import Derived.Deep.DrawnRows
namespace Go.Proofs.YtoacobcbloljkaaGreatDoor
open Go.RowKit

theorem bel_app {a W W' : World} {row : Option Nat} (h : Below a.heap.size a W) (hg : W.grownBy W' row) (hr : ∀ k, row = some k → a.heap.size ≤ k) : Below a.heap.size a W' := h.grown hg h.size hr
theorem rdT_take {w : World} {A : Option Addr} {n : Nat} {ls : List (List UInt8)} (h : Rd w 1 A n (txts ls)) {i : Nat} (hi : i ≤ n) : Rd w 1 A i (txts (ls.take i)) := by
  have hl := h.txt_len
  refine ⟨by simp [txts, List.length_take]; omega, fun h0 => ?_⟩
  obtain ⟨ad, e, hb, hc⟩ := h.2 (by omega)
  refine ⟨ad, e, hb, fun j u hu => hc j u ?_⟩
  rw [txts_get] at hu ⊢
  rw [List.getElem?_take] at hu
  split at hu
  · exact hu
  · cases hu
theorem rdT_drop {w : World} {ad : Addr} {n : Nat} {ls : List (List UInt8)} (h : Rd w 1 (some ad) n (txts ls)) {i : Nat} (hi : i ≤ n) : Rd w 1 (some (ad.add i)) (n - i) (txts (ls.drop i)) := by
  have hl := h.txt_len
  refine ⟨by simp [txts, List.length_drop]; omega, fun h0 => ?_⟩
  obtain ⟨ad', e, hb, hc⟩ := h.2 (by omega)
  injection e with e
  subst e
  refine ⟨_, rfl, by rw [add_block]; exact hb, fun j u hu => ?_⟩
  rw [add_assoc_]
  refine hc _ _ ?_
  rw [txts_get] at hu ⊢
  rw [List.getElem?_drop] at hu
  exact hu

set_option maxRecDepth 100000 in
set_option maxHeartbeats 4000000 in
theorem walkDots_walk (A : Option Addr) (n cp : Nat) (s : List Tr.Op) (p : ByteArray) (at_ : Int) (ha0 : -9223372036854775808 ≤ at_) (ha1 : at_ ≤ 9223372036854775807) (follow : Bool) (links : Int) (hl0 : -9223372036854775808 ≤ links) (hl1 : links ≤ 9223372036854775807) (w : World)
    (hs : Rd w 7 A n (cOps s)) (hn : n ≤ 1759218604391) :
    Calls Tryz.prog 6 #[.slice A n cp, .string p, .int .i64 at_, .bool follow, .int .i64 links] w fun e w' => e = .returned (.bool true) ∧ Below w.heap.size w w' := by
  have hfi := filled_any w A n cp s hs hn
  generalize Tr.run Tr.t0 s = t at hfi
  obtain ⟨F, hF⟩ : ∃ F, fillS (Tr.dumpR t.L) = F := ⟨_, rfl⟩
  rw [hF] at hfi
  clear hF
  obtain ⟨l, wh, clk⟩ := F
  have hsp := fun W => split_path p W
  have hlen := Nm.splitR_len p.toList
  generalize Nm.splitR p.toList = R at hsp hlen
  obtain ⟨ss, dir, er⟩ := R
  simp only at hsp hlen
  have hst := fun V B m cq s2 c e h h1 h2 H => steps_any V none B 0 0 m cq [] s2 dir follow links c e h l wh clk (by omega) h1 hl0 hl1 (Rd.empty _ _ _) h2 H
  generalize knownOf [] l wh = kn at hst
  have HFI := Lib.hid hfi
  have HSP := Lib.hid hsp
  have HST := Lib.hid hst
  clear hfi hsp hst hs
  go_enter Tryz.func6, Tryz.ntmps6
  go_wp2_with fail
  refine HFI.out.mono ?_
  rintro r w1 ⟨M, c, e, h, rfl, hf1⟩
  have HC1 := Lib.hid hf1.ca
  have HB1 := Lib.hid hf1.g.bl
  clear hf1 HFI
  simp only at HC1
  go_wp2_with fail
  refine (HSP.out _).mono ?_
  rintro r w2 ⟨v2, rfl, hown2, hb2⟩
  obtain ⟨A2, c2, rfl⟩ := own_slice hown2
  have HO2 := Lib.hid hown2
  have HC2 := Lib.hid (HC1.out.below hb2)
  have HB2 := Lib.hid (HB1.out.trans (hb2.mono HB1.out.size))
  clear hown2 hb2 HC1 HB1 HSP
  by_cases he : er = 0
  · subst he
    by_cases hne : ss.length = 0
    · have hz : ((ss.length : Int) == 0) = true := by simp [hne]
      go_wp2_with fail
      refine (awake14 _).mono ?_
      rintro r w9 ⟨rfl, hb9⟩
      go_wp2_with fail
      go_ret
      exact ⟨rfl, HB2.out.trans (hb9.mono HB2.out.size)⟩
    · have hz : ((ss.length : Int) == 0) = false := by rw [beq_eq_false_iff_ne]; omega
      obtain ⟨ad, rfl, hadb, _⟩ := (Rd.of_own HO2.out).2 (by omega)
      obtain ⟨q1, q2⟩ := own_cap HO2.out
      unfold maxLen at q2
      have hpl := fun V => place_any at_ ss.length ha0 ha1 (by omega) (by omega) V
      have hp0 : 0 ≤ at_ % (ss.length : Int) := Int.emod_nonneg _ (by omega)
      have hp1 : at_ % (ss.length : Int) < ss.length := Int.emod_lt_of_pos _ (by omega)
      obtain ⟨k, hk⟩ : ∃ k : Nat, at_ % (ss.length : Int) = k := ⟨(at_ % (ss.length : Int)).toNat, by omega⟩
      rw [hk] at hpl hp0 hp1
      have hkl : k < ss.length := by omega
      have hct := fun V (hV : Below w2.heap.size w2 V) => copyT_any (some ad) k c2 (ss.take k) V (rdT_take ((Rd.of_own HO2.out).below hV) (by omega)) (by omega)
      have hrd := fun V (hV : Below w2.heap.size w2 V) => rdT_drop ((Rd.of_own HO2.out).below hV) (i := k) (by omega)
      have HPL := Lib.hid hpl
      have HCT := Lib.hid hct
      have HRD := Lib.hid hrd
      have HK := Lib.hid hk
      clear hpl hct hrd hk hp0 hp1
      go_wp2_with fail
      refine (HPL.out _).mono ?_
      rintro r w3 ⟨rfl, rfl⟩
      go_upto_region 8 with fail
      go_cut [18] (fun v wd => ∃ (A8 : Option Addr) (c8 : Nat), v = .slice A8 (ss.length + 1) c8 ∧ Hid (Rd wd 1 A8 (ss.length + 1) (txts (ss.take k ++ [46] :: ss.drop k))) ∧ Hid (Below w2.heap.size w2 wd))
      case first =>
        have hkc : k ≤ c2 := by omega
        have hck : c2 ≠ k := by omega
        have hkn : k ≤ ss.length := by omega
        have hen : ∀ (args : Array Value) (V : World), (callFunc 15 args).run Tryz.prog V = .ok (.enter 15 args) V := enters_of Tryz.func15 (by kernel_rfl) rfl
        --REG r8
        have hSoft : Softs [isV (.slice (some ad) ss.length c2), isV (.int .i64 k), isV (.slice (some ad) k c2), fun u V => ∃ (A' : Option Addr) (c' : Nat), u = .slice A' (k) c' ∧ Hid (V.ownsRow w2.heap.size 9 1 (.slice A' (k) c') (k) (txts (ss.take k))), fun u V => ∃ g : Nat, u = .slice (some ⟨g, 0, none⟩) 1 1 ∧ Hid (Rd V 1 (some ⟨g, 0, none⟩) 1 (txts [[46]])), fun u V => ∃ (A' : Option Addr) (c' : Nat), u = .slice A' (k + 1) c' ∧ Hid (V.ownsRow w2.heap.size 9 1 (.slice A' (k + 1) c') (k + 1) (txts (ss.take k ++ [[46]]))), isV (.slice (some ad) ss.length c2), isV (.int .i64 k), isV (.slice (some (ad.add k)) (ss.length - k) (c2 - k)), fun u V => ∃ (A' : Option Addr) (c' : Nat), u = .slice A' (ss.length + 1) c' ∧ Hid (V.ownsRow w2.heap.size 9 1 (.slice A' (ss.length + 1) c') (ss.length + 1) (txts (ss.take k ++ [46] :: ss.drop k))), fun u V => ∃ (A' : Option Addr) (c' : Nat), u = .slice A' (ss.length + 1) c' ∧ Hid (V.ownsRow w2.heap.size 9 1 (.slice A' (ss.length + 1) c') (ss.length + 1) (txts (ss.take k ++ [46] :: ss.drop k)))] := ⟨soft_is, soft_is, soft_is, fun u V V' hb ⟨A', c', e, h⟩ => ⟨A', c', e, Lib.hid (own_below h.out hb)⟩, fun u V V' hb ⟨g, e, h⟩ => ⟨g, e, Lib.hid (h.out.below hb)⟩, fun u V V' hb ⟨A', c', e, h⟩ => ⟨A', c', e, Lib.hid (own_below h.out hb)⟩, soft_is, soft_is, soft_is, fun u V V' hb ⟨A', c', e, h⟩ => ⟨A', c', e, Lib.hid (own_below h.out hb)⟩, fun u V V' hb ⟨A', c', e, h⟩ => ⟨A', c', e, Lib.hid (own_below h.out hb)⟩, trivial⟩
        refine wp_region_facts (by kernel_rfl) ([47, 48, 49, 50, 51, 52, 53, 54, 55, 56, 18] : List Tmp) ([2, 2, 3, 5, 5, 9, 8, 8, 9, 10, 11] : List Nat) [isV (.slice (some ad) ss.length c2), isV (.int .i64 k), isV (.slice (some ad) k c2), fun u V => ∃ (A' : Option Addr) (c' : Nat), u = .slice A' (k) c' ∧ Hid (V.ownsRow w2.heap.size 9 1 (.slice A' (k) c') (k) (txts (ss.take k))), fun u V => ∃ g : Nat, u = .slice (some ⟨g, 0, none⟩) 1 1 ∧ Hid (Rd V 1 (some ⟨g, 0, none⟩) 1 (txts [[46]])), fun u V => ∃ (A' : Option Addr) (c' : Nat), u = .slice A' (k + 1) c' ∧ Hid (V.ownsRow w2.heap.size 9 1 (.slice A' (k + 1) c') (k + 1) (txts (ss.take k ++ [[46]]))), isV (.slice (some ad) ss.length c2), isV (.int .i64 k), isV (.slice (some (ad.add k)) (ss.length - k) (c2 - k)), fun u V => ∃ (A' : Option Addr) (c' : Nat), u = .slice A' (ss.length + 1) c' ∧ Hid (V.ownsRow w2.heap.size 9 1 (.slice A' (ss.length + 1) c') (ss.length + 1) (txts (ss.take k ++ [46] :: ss.drop k))), fun u V => ∃ (A' : Option Addr) (c' : Nat), u = .slice A' (ss.length + 1) c' ∧ Hid (V.ownsRow w2.heap.size 9 1 (.slice A' (ss.length + 1) c') (ss.length + 1) (txts (ss.take k ++ [46] :: ss.drop k)))] (fun V => Hid (Below w2.heap.size w2 V)) rfl (by simp) (by kernel_rfl) (by kernel_rfl) (by kernel_rfl) ?hB ?steps ?hend
        case hB => exact Lib.hid (below_drew (Below.refl _ _))
        case steps =>
          refine (?gen : ∀ a1 : Act, _ = a1 → StepsF _ _ _ _ _ _ a1 _ _) _ rfl
          intro a1 ha1
          have hs1 : ∀ d ∈ ([47, 48, 49, 50, 51, 52, 53, 54, 55, 56, 18] : List Tmp), d < a1.tmps.size := by rw [← ha1]; simp
          have B14 : ∀ y, (putsA y ([47, 48, 49, 50, 51, 52, 53, 54, 55, 56, 18] : List Tmp) a1).tmps[14]?.getD undef = .slice (some ad) ss.length c2 := fun y => puts_norm0 (by decide) (by rw [← ha1]; rfl)
          have B17 : ∀ y, (putsA y ([47, 48, 49, 50, 51, 52, 53, 54, 55, 56, 18] : List Tmp) a1).tmps[17]?.getD undef = .int .i64 k := fun y => puts_norm0 (by decide) (by rw [← ha1]; rfl)
          clear ha1
          show StepsF _ _ _ _ _ _ _ _ [_, _, _, _, _, _, _, _, _, _, _]
          iterate 11 (with_reducible refine stepsF_cons ?_ ?_; rotate_left)
          with_reducible exact stepsF_nil
          · rintro y W hB ⟨-⟩
            exact sf_value hB rfl rfl (v := .slice (some ad) ss.length c2) (by simp [execOp, B14, go_sem]) rfl
          · rintro y W hB ⟨-⟩
            exact sf_value hB rfl rfl (v := .int .i64 k) (by simp [execOp, B17, go_sem]) rfl
          · rintro y W hB ⟨d0, d1, -⟩
            have e47 : y 47 = .slice (some ad) ss.length c2 := d0
            have N47 : (putsA y ([47, 48, 49, 50, 51, 52, 53, 54, 55, 56, 18] : List Tmp) a1).tmps[47]?.getD undef = .slice (some ad) ss.length c2 := puts_norm (by decide) hs1 e47
            have e48 : y 48 = .int .i64 k := d1
            have N48 : (putsA y ([47, 48, 49, 50, 51, 52, 53, 54, 55, 56, 18] : List Tmp) a1).tmps[48]?.getD undef = .int .i64 k := puts_norm (by decide) hs1 e48
            exact sf_value hB rfl rfl (v := .slice (some ad) k c2) (by simp [execOp, N47, N48, hkc, go_sem]) rfl
          · rintro y W hB ⟨d2, -⟩
            have e49 : y 49 = .slice (some ad) k c2 := d2
            have E49 : (putsA y ([47, 48, 49, 50, 51, 52, 53, 54, 55, 56, 18] : List Tmp) a1).eval (.tmp 49) = .slice (some ad) k c2 := puts_eval (by decide) hs1 e49
            refine sf_enter hSoft rfl rfl (exec_call1 (f := 15) rfl hen E49) ?_
            have hbw : Below w2.heap.size w2 W := hB.out
            refine (HCT.out W hbw).mono ?_
            rintro e' w5 ⟨v5, rfl, hown5, hb5⟩
            obtain ⟨A5, c5, rfl⟩ := own_slice hown5
            exact ⟨_, rfl, hb5, Lib.hid (hbw.trans (hb5.mono hbw.size)), A5, c5, rfl, Lib.hid (own_base hown5 hbw.size)⟩
          · rintro y W hB ⟨-⟩
            have hb1 : Below W.heap.size W (W.alloc (.cells #[.string ⟨#[46]⟩] 9)) := (Below.refl _ _).alloc (Nat.le_refl _) _
            refine sf_new hSoft rfl rfl (v := .slice (some ⟨W.heap.size, 0, none⟩) 1 1) (W' := W.alloc (.cells #[.string ⟨#[46]⟩] 9)) (by simp [execOp, go_sem]) hb1 (Lib.hid (hB.out.trans (hb1.mono hB.out.size))) ⟨_, rfl, Lib.hid (rd_new W 9 1 1 [.string ⟨#[46]⟩] rfl)⟩
          · rintro y W hB ⟨d3, d4, -, -⟩
            obtain ⟨A5, c5, e50, HO5⟩ : ∃ (A' : Option Addr) (c' : Nat), y 50 = .slice A' (k) c' ∧ Hid (W.ownsRow w2.heap.size 9 1 (.slice A' (k) c') (k) (txts (ss.take k))) := d3
            have E50 : (putsA y ([47, 48, 49, 50, 51, 52, 53, 54, 55, 56, 18] : List Tmp) a1).eval (.tmp 50) = .slice A5 k c5 := puts_eval (by decide) hs1 e50
            obtain ⟨g, e51, HG⟩ : ∃ g : Nat, y 51 = .slice (some ⟨g, 0, none⟩) 1 1 ∧ Hid (Rd W 1 (some ⟨g, 0, none⟩) 1 (txts [[46]])) := d4
            have E51 : (putsA y ([47, 48, 49, 50, 51, 52, 53, 54, 55, 56, 18] : List Tmp) a1).eval (.tmp 51) = .slice (some ⟨g, 0, none⟩) 1 1 := puts_eval (by decide) hs1 e51
            have hbw : Below w2.heap.size w2 W := hB.out
            refine sf_append rfl rfl (.tmp 50) (.tmp 51) rfl elemTexts E50 HO5.out E51 HG.out (txts_one _) (by unfold maxLen; omega) (by omega) hbw.size ?_
            intro A' c' w' h1 h2 h3
            refine ⟨Lib.hid (bel_app hbw h2 (fun q e => (HO5.out.lt q e).1)), ⟨A', c', rfl, Lib.hid (by rw [txts_append]; exact h1)⟩, ?_⟩
            intro j hj hL u
            have hj' : j < 11 := hj
            match j, hj', hL with
            | 0, _, _ => exact id
            | 1, _, _ => exact id
            | 2, _, hL => exact (Bool.false_ne_true ((show false = liveB _ _ _ _ from by kernel_rfl).trans hL)).elim
            | 3, _, hL => exact (Bool.false_ne_true ((show false = liveB _ _ _ _ from by kernel_rfl).trans hL)).elim
            | 4, _, hL => exact (Bool.false_ne_true ((show false = liveB _ _ _ _ from by kernel_rfl).trans hL)).elim
            | 5, _, hL => exact (Bool.false_ne_true ((show false = liveB _ _ _ _ from by kernel_rfl).trans hL)).elim
            | 6, _, _ => exact id
            | 7, _, _ => exact id
            | 8, _, _ => exact id
            | 9, _, hL => exact (Bool.false_ne_true ((show false = liveB _ _ _ _ from by kernel_rfl).trans hL)).elim
            | 10, _, hL => exact (Bool.false_ne_true ((show false = liveB _ _ _ _ from by kernel_rfl).trans hL)).elim
          · rintro y W hB ⟨-⟩
            exact sf_value hB rfl rfl (v := .slice (some ad) ss.length c2) (by simp [execOp, B14, go_sem]) rfl
          · rintro y W hB ⟨-⟩
            exact sf_value hB rfl rfl (v := .int .i64 k) (by simp [execOp, B17, go_sem]) rfl
          · rintro y W hB ⟨d6, d7, -⟩
            have e53 : y 53 = .slice (some ad) ss.length c2 := d6
            have N53 : (putsA y ([47, 48, 49, 50, 51, 52, 53, 54, 55, 56, 18] : List Tmp) a1).tmps[53]?.getD undef = .slice (some ad) ss.length c2 := puts_norm (by decide) hs1 e53
            have e54 : y 54 = .int .i64 k := d7
            have N54 : (putsA y ([47, 48, 49, 50, 51, 52, 53, 54, 55, 56, 18] : List Tmp) a1).tmps[54]?.getD undef = .int .i64 k := puts_norm (by decide) hs1 e54
            exact sf_value hB rfl rfl (v := .slice (some (ad.add k)) (ss.length - k) (c2 - k)) (by simp [execOp, N53, N54, hck, hkn, go_sem]) rfl
          · rintro y W hB ⟨d5, d8, -, -⟩
            obtain ⟨A6, c6, e52, HO6⟩ : ∃ (A' : Option Addr) (c' : Nat), y 52 = .slice A' (k + 1) c' ∧ Hid (W.ownsRow w2.heap.size 9 1 (.slice A' (k + 1) c') (k + 1) (txts (ss.take k ++ [[46]]))) := d5
            have E52 : (putsA y ([47, 48, 49, 50, 51, 52, 53, 54, 55, 56, 18] : List Tmp) a1).eval (.tmp 52) = .slice A6 (k + 1) c6 := puts_eval (by decide) hs1 e52
            have e55 : y 55 = .slice (some (ad.add k)) (ss.length - k) (c2 - k) := d8
            have E55 : (putsA y ([47, 48, 49, 50, 51, 52, 53, 54, 55, 56, 18] : List Tmp) a1).eval (.tmp 55) = .slice (some (ad.add k)) (ss.length - k) (c2 - k) := puts_eval (by decide) hs1 e55
            have hbw : Below w2.heap.size w2 W := hB.out
            have hr := HRD.out W hbw
            have hn : k + 1 + (ss.length - k) = ss.length + 1 := by omega
            refine sf_append rfl rfl (.tmp 52) (.tmp 55) rfl elemTexts E52 HO6.out E55 hr (txts_one _) (by unfold maxLen; omega) (by omega) hbw.size ?_
            rw [hn]
            intro A' c' w' h1 h2 h3
            refine ⟨Lib.hid (bel_app hbw h2 (fun q e => (HO6.out.lt q e).1)), ⟨A', c', rfl, Lib.hid (by rw [← txts_append, List.append_assoc] at h1; exact h1)⟩, ?_⟩
            intro j hj hL u
            have hj' : j < 11 := hj
            match j, hj', hL with
            | 0, _, _ => exact id
            | 1, _, _ => exact id
            | 2, _, _ => exact id
            | 3, _, hL => exact (Bool.false_ne_true ((show false = liveB _ _ _ _ from by kernel_rfl).trans hL)).elim
            | 4, _, hL => exact (Bool.false_ne_true ((show false = liveB _ _ _ _ from by kernel_rfl).trans hL)).elim
            | 5, _, hL => exact (Bool.false_ne_true ((show false = liveB _ _ _ _ from by kernel_rfl).trans hL)).elim
            | 6, _, hL => exact (Bool.false_ne_true ((show false = liveB _ _ _ _ from by kernel_rfl).trans hL)).elim
            | 7, _, hL => exact (Bool.false_ne_true ((show false = liveB _ _ _ _ from by kernel_rfl).trans hL)).elim
            | 8, _, hL => exact (Bool.false_ne_true ((show false = liveB _ _ _ _ from by kernel_rfl).trans hL)).elim
            | 9, _, hL => exact (Bool.false_ne_true ((show false = liveB _ _ _ _ from by kernel_rfl).trans hL)).elim
            | 10, _, hL => exact (Bool.false_ne_true ((show false = liveB _ _ _ _ from by kernel_rfl).trans hL)).elim
          · rintro y W hB ⟨d9, -, -, -, -, -, -, -, -, -, -, -, -⟩
            obtain ⟨A7, c7, e56, HO7⟩ : ∃ (A' : Option Addr) (c' : Nat), y 56 = .slice A' (ss.length + 1) c' ∧ Hid (W.ownsRow w2.heap.size 9 1 (.slice A' (ss.length + 1) c') (ss.length + 1) (txts (ss.take k ++ [46] :: ss.drop k))) := d9
            have N56 : (putsA y ([47, 48, 49, 50, 51, 52, 53, 54, 55, 56, 18] : List Tmp) a1).tmps[56]?.getD undef = .slice A7 (ss.length + 1) c7 := puts_norm (by decide) hs1 e56
            exact sf_value hB rfl rfl (v := .slice A7 (ss.length + 1) c7) (by simp [execOp, N56, go_sem]) ⟨A7, c7, rfl, HO7⟩
        case hend =>
          rintro y W hB hφ
          obtain ⟨A8, c8, e18, HO8⟩ : ∃ (A' : Option Addr) (c' : Nat), y 18 = .slice A' (ss.length + 1) c' ∧ Hid (W.ownsRow w2.heap.size 9 1 (.slice A' (ss.length + 1) c') (ss.length + 1) (txts (ss.take k ++ [46] :: ss.drop k))) := hφ 10 (by decide) (by decide)
          have hr8 := Rd.of_own HO8.out
          clear hφ
          simp only [putsA]
          go_frame
          go_wp2_with fail
          go_meet
          case rel => exact ⟨A8, c8, e18, Lib.hid hr8, hB⟩
        --END r8
      case rest =>
        obtain ⟨A8, c8, rfl, HR8, hcut⟩ := hcut
        obtain ⟨w4, hw4⟩ : ∃ w4 : World, w4 = wc := ⟨_, rfl⟩
        subst hw4
        have HB4 := Lib.hid (HB2.out.trans (hcut.out.mono HB2.out.size))
        have HC4 := Lib.hid (HC2.out.below hcut.out)
        have HS4 := Lib.hid ((Rd.of_own HO2.out).below hcut.out)
        have hne2 : ss.drop k ≠ [] := by rw [Ne, List.drop_eq_nil_iff]; omega
        obtain ⟨RUN, hRUN⟩ : ∃ RUN, Wk.steps kn follow (min (max links 0) 8).toNat ss [rootNd] dir [] = RUN := ⟨_, rfl⟩
        have hRUN2 : Wk.steps kn follow (min (max links 0) 8).toNat (ss.take k ++ [46] :: ss.drop k) [rootNd] dir [] = RUN := by
          rw [Wk.steps_ins kn follow hne2, List.take_append_drop]
          exact hRUN
        have h1 := HST.out w4 (some ad) ss.length c2 ss c e h (by omega) HS4.out HC4.out
        have h2 := fun V hV => HST.out V A8 (ss.length + 1) c8 _ c e h (by omega) (HR8.out.below hV) (HC4.out.below hV)
        rw [hRUN] at h1
        simp only [hRUN2] at h2
        have H1 := Lib.hid h1
        have H2 := Lib.hid h2
        clear h1 h2 hRUN hRUN2 hne2 hcut HST HS4 HR8 HO2 HC2 HB2
        go_wp2_with fail
        refine H1.out.mono ?_
        rintro r w5 ⟨v5, rfl, hown5, hb5⟩
        have hle5 := own_le hown5
        obtain ⟨A5, c5, rfl⟩ := own_slice hown5
        obtain ⟨nd, ⟨kd, kn⟩, er, ⟨ni, nk, nm, nt⟩, us⟩ := RUN
        simp only [vOut, outCells, txt] at hown5 hle5 ⊢
        have HLE : Hid (us.length ≤ maxLen) := hle5
        have HO5 := Lib.hid (Rd.of_own hown5)
        have HB5 := Lib.hid hb5
        clear hown5 hb5 hle5 H1
        go_upto_region 10 with fail
        have AO : Hid (At (w5.alloc (.cells #[.bool nd, .int .i64 kd, .string ⟨kn.toArray⟩, .int .i64 er, .int .i64 ni, .int .i64 nk, .int .i64 nm, .string ⟨nt.toArray⟩, .slice A5 us.length c5] 40)) w5.heap.size 40 (outCells (nd, (kd, kn), er, (ni, nk, nm, nt), us) (.slice A5 us.length c5))) := At.new w5 40 (outCells (nd, (kd, kn), er, (ni, nk, nm, nt), us) (.slice A5 us.length c5))
        have hb6 : Below w5.heap.size w5 (w5.alloc (.cells #[.bool nd, .int .i64 kd, .string ⟨kn.toArray⟩, .int .i64 er, .int .i64 ni, .int .i64 nk, .int .i64 nm, .string ⟨nt.toArray⟩, .slice A5 us.length c5] 40)) := (Below.refl _ _).alloc (Nat.le_refl _) _
        have HB6 := Lib.hid (HB5.out.trans (hb6.mono HB5.out.size))
        have HO6 := Lib.hid (HO5.out.below hb6)
        obtain ⟨w6, hw6⟩ : ∃ w6, w5.alloc (.cells #[.bool nd, .int .i64 kd, .string ⟨kn.toArray⟩, .int .i64 er, .int .i64 ni, .int .i64 nk, .int .i64 nm, .string ⟨nt.toArray⟩, .slice A5 us.length c5] 40) = w6 := ⟨_, rfl⟩
        rw [hw6] at AO HB6 HO6 ⊢
        clear hw6 hb6 HO5 HB5
        go_wp2_with fail
        refine (H2.out w6 HB6.out).mono ?_
        rintro r w7 ⟨v7, rfl, hown7, hb7⟩
        obtain ⟨A7, c7, rfl⟩ := own_slice hown7
        simp only [vOut, outCells, txt] at hown7 ⊢
        have HO7 := Lib.hid (HO6.out.below hb7)
        have HP7 := Lib.hid (Rd.of_own hown7)
        have AO7 := Lib.hid (AO.out.below hb7)
        have HB7 := Lib.hid ((HB4.out.trans (HB6.out.mono HB4.out.size)).trans (hb7.mono (HB4.out.trans (HB6.out.mono HB4.out.size)).size))
        clear hown7 hb7 HO6 AO HB6 H2 HB4 HC4
        go_upto_region 11 with fail
        have AP : Hid (At (w7.alloc (.cells #[.bool nd, .int .i64 kd, .string ⟨kn.toArray⟩, .int .i64 er, .int .i64 ni, .int .i64 nk, .int .i64 nm, .string ⟨nt.toArray⟩, .slice A7 us.length c7] 40)) w7.heap.size 40 (outCells (nd, (kd, kn), er, (ni, nk, nm, nt), us) (.slice A7 us.length c7))) := At.new w7 40 (outCells (nd, (kd, kn), er, (ni, nk, nm, nt), us) (.slice A7 us.length c7))
        have hb8 : Below w7.heap.size w7 (w7.alloc (.cells #[.bool nd, .int .i64 kd, .string ⟨kn.toArray⟩, .int .i64 er, .int .i64 ni, .int .i64 nk, .int .i64 nm, .string ⟨nt.toArray⟩, .slice A7 us.length c7] 40)) := (Below.refl _ _).alloc (Nat.le_refl _) _
        have HB8 := Lib.hid (HB7.out.trans (hb8.mono HB7.out.size))
        have HO8 := Lib.hid (HO7.out.below hb8)
        have HP8 := Lib.hid (HP7.out.below hb8)
        have AO8 := Lib.hid (AO7.out.below hb8)
        obtain ⟨w8, hw8⟩ : ∃ w8, w7.alloc (.cells #[.bool nd, .int .i64 kd, .string ⟨kn.toArray⟩, .int .i64 er, .int .i64 ni, .int .i64 nk, .int .i64 nm, .string ⟨nt.toArray⟩, .slice A7 us.length c7] 40) = w8 := ⟨_, rfl⟩
        rw [hw8] at AP HB8 HO8 HP8 AO8 ⊢
        clear hw8 hb8 HO7 HP7 AO7 HB7
        obtain ⟨o0, o1, o2, o3, o4, o5, o6, o7, o8⟩ := out_cells AO8.out
        obtain ⟨p0, p1, p2, p3, p4, p5, p6, p7, p8⟩ := out_cells AP.out
        have hso := sameOut_yes (nd, (kd, kn), er, (ni, nk, nm, nt), us) A5 A7 us.length c5 c7 w8 HO8.out HP8.out HLE.out
        simp only [vOut, outCells, txt] at hso
        have HSO := Lib.hid hso
        clear hso
        go_wp2_with fail
        refine (HSO.out).mono ?_
        rintro r w9 ⟨rfl, hb9⟩
        have HB9 := Lib.hid (HB8.out.trans (hb9.mono HB8.out.size))
        clear hb9 o0 o1 o2 o3 o4 o5 o6 o7 o8 p0 p1 p2 p3 p4 p5 p6 p7 p8
        go_wp2_with fail
        refine (awake14 _).mono ?_
        rintro r w10 ⟨rfl, hb10⟩
        go_wp2_with fail
        go_ret
        exact ⟨rfl, HB9.out.trans (hb10.mono HB9.out.size)⟩
  · have heb : (er != 0) = true := by simpa using he
    go_wp2_with fail
    refine (awake14 _).mono ?_
    rintro r w9 ⟨rfl, hb9⟩
    go_wp2_with fail
    go_ret
    exact ⟨rfl, HB2.out.trans (hb9.mono HB2.out.size)⟩
end Go.Proofs.YtoacobcbloljkaaGreatDoor
