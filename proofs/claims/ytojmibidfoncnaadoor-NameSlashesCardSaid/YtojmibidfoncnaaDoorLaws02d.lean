/-
  The walk of NameSlashes.
-/
import Derived.Test.YtojmibidfoncnaaDoorLaws02
import Derived.Test.YtojmibidfoncnaaDoorPlace
import Derived.Deep.DeepCutAuto
import Derived.Deep.CutBlock
import Derived.Deep.RegionWith
namespace Go.Proofs.YtojmibidfoncnaaDoor
open Go.RowKit

set_option maxRecDepth 100000 in
set_option maxHeartbeats 12000000 in
theorem nameSlashes_walk (s : ByteArray) (at_ : Int) (ha1 : -9223372036854775808 ≤ at_) (ha2 : at_ ≤ 9223372036854775807) (w : World) (hs : s.size ≤ 140737488355328) :
    Calls Tryd.prog 5 #[.string s, .int .i64 at_] w fun e w' => e = .returned (.bool true) ∧ Below w.heap.size w w' := by
  have h1 := split_path s w
  have h3 := Lib.hid awake02
  by_cases hok : (Nm.splitR s.toList).2.2 = 0
  · obtain ⟨hE, hlen, hlb, hhd, hz⟩ := Nm.splitR_ok hok
    have hcl : (Nm.comps s.toList).length ≤ 97 := Nat.le_trans (Nm.comps_length _) (by omega)
    have hck : ∀ x, x ∈ Nm.comps s.toList → Nm.dotsB x = false → Nm.checkE x = 0 := fun x hx hd => Nm.checkE_comp hx hlb hz hd
    rw [hE] at h1
    have hsz := size_toList s
    obtain ⟨k, hk, hkl⟩ : ∃ k : Nat, at_ % ((s.size : Int) + 1) = (k : Int) ∧ k ≤ s.size := by
      have h0 := Int.emod_nonneg at_ (show ((s.size : Int) + 1) ≠ 0 by omega)
      have h1 := Int.emod_lt_of_pos at_ (show (0 : Int) < (s.size : Int) + 1 by omega)
      exact ⟨(at_ % ((s.size : Int) + 1)).toNat, by omega, by omega⟩
    have hpl := fun W => place_any at_ ((s.size : Int) + 1) ha1 ha2 (by omega) (by omega) W
    rw [hk] at hpl
    have hsl : s.size < 96 → (k < s.size → s.toList[k]? = some 47) → Nm.splitR (s.toList.take k ++ 47 :: s.toList.drop k) = (Nm.comps s.toList, (if k < s.toList.length then Nm.dirB s.toList else true), 0) :=
      fun h1 h2 => Nm.splitR_slash hok (by omega) (by omega) (fun h => h2 (by omega))
    have H1 := Lib.hid h1
    have HPL := Lib.hid hpl
    have HSL := Lib.hid hsl
    have HCK := Lib.hid hck
    have HSZ := Lib.hid hsz
    have hs96 : s.size ≤ 96 := by omega
    clear h1 hpl hsl hck hE hlen hlb hhd hz hok hk hsz
    generalize Nm.comps s.toList = cs at *
    generalize Nm.dirB s.toList = db at *
    go_enter Tryd.func5, Tryd.ntmps5
    go_wp2_with fail
    refine (H1.out).mono ?_
    rintro e w1 ⟨v1, rfl, hown1, hb1⟩
    obtain ⟨A1, c1, rfl⟩ := own_slice hown1
    have HO1 := Lib.hid hown1
    clear hown1
    go_wp2_with fail
    go_loopw [8] (fun i wr => ∃ k : Nat, k ≤ cs.length ∧ i = .int .i64 k ∧ Below w1.heap.size w1 wr) (fun i _ => cs.length - (intOf i).toNat)
    case atStart => exact ⟨0, by omega, rfl, Below.refl _ _⟩
    case round =>
      obtain ⟨j, hj, rfl, hbr⟩ := hrel
      by_cases hlt : j < cs.length
      · obtain ⟨ad, b, rfl, _, hx, hc⟩ := ((Rd.of_own HO1.out).below hbr).str_at hlt
        have hc0 : Nm.dotsB b.toList = false → Nm.checkE b.toList = 0 := HCK.out _ (List.mem_of_getElem? hx)
        cases q1 : (b.toList == [46]) with
        | true =>
          clear hx hc0
          go_wp2_with fail
          go_roundw
          case rel => exact ⟨j + 1, by omega, by go_num, hbr⟩
          case measure => simp [intOf] <;> omega
        | false =>
          cases q2 : (b.toList == [46, 46]) with
          | true =>
            clear hx hc0
            go_wp2_with fail
            go_roundw
            case rel => exact ⟨j + 1, by omega, by go_num, hbr⟩
            case measure => simp [intOf] <;> omega
          | false =>
            have hck := fun W => check_any b W
            rw [hc0 (by unfold Nm.dotsB; rw [q1, q2]; rfl)] at hck
            have HC := Lib.hid hck
            clear hx hc0 hck
            go_wp2_with fail
            refine (HC.out _).mono ?_
            rintro e w2 ⟨rfl, hb2⟩
            go_wp2_with fail
            go_roundw
            case rel => exact ⟨j + 1, by omega, by go_num, hbr.trans (hb2.mono hbr.size)⟩
            case measure => simp [intOf] <;> omega
      · have hbw := hb1.trans (hbr.mono hb1.size)
        have HB := Lib.hid hbw
        have HR1 := Lib.hid ((Rd.of_own HO1.out).below hbr)
        clear hbw hbr hb1
        go_wp2_with fail
        refine (HPL.out _).mono ?_
        rintro e w2 ⟨rfl, rfl⟩
        by_cases h96 : (96 : Int) ≤ (s.size : Int)
        · go_wp2_with fail
          refine (h3.out _).mono ?_
          rintro e w2 ⟨rfl, hb2⟩
          go_wp2_with fail
          go_ret
          exact ⟨rfl, HB.out.trans (hb2.mono HB.out.size)⟩
        · have hs95 : s.size < 96 := by omega
          by_cases hks : k < s.size
          · cases hq : (((s[k]'hks).toNat : Int) == 47) with
            | false =>
              have hqn : (((s[k]'hks).toNat : Int) != 47) = true := by rw [bne, hq]; rfl
              go_wp2_with fail
              refine (h3.out _).mono ?_
              rintro e w2 ⟨rfl, hb2⟩
              go_wp2_with fail
              go_ret
              exact ⟨rfl, HB.out.trans (hb2.mono HB.out.size)⟩
            | true =>
              have hqn : (((s[k]'hks).toNat : Int) != 47) = false := by rw [bne, hq]; rfl
              have hsk : s.toList[k]? = some 47 := by
                rw [get_list s k hks]
                congr 1
                rw [← UInt8.toNat_inj]
                have h := beq_iff_eq.1 hq
                have : (47 : UInt8).toNat = 47 := rfl
                omega
              have hsp := HSL.out hs95 (fun _ => hsk)
              rw [if_pos (by rw [← HSZ.out]; exact hks)] at hsp
              have hcat : (s.extract 0 k ++ ⟨#[47]⟩ ++ s.extract k s.size).toList = s.toList.take k ++ 47 :: s.toList.drop k := by
                rw [app_list, app_list, extract_list, extract_list, List.drop_zero, Nat.sub_zero, show (ByteArray.mk #[47]).toList = [47] from by rw [ByteArray.toList_eq], List.append_assoc]
                rw [List.take_of_length_le (l := s.toList.drop k) (by simp [HSZ.out])]
                rfl
              have hcs := fun W => split_path (s.extract 0 k ++ ⟨#[47]⟩ ++ s.extract k s.size) W
              rw [hcat, hsp] at hcs
              have HCS := Lib.hid hcs
              clear hsk hsp hcat hcs
              have e1 : (s.extract 0 k).size ≤ 96 := by rw [size_toList, extract_list]; simp <;> omega
              have e2 : (s.extract k s.size).size ≤ 96 := by rw [size_toList, extract_list]; simp [← size_toList] <;> omega
              have e3 : (s.extract 0 k ++ ⟨#[47]⟩).size ≤ 97 := by rw [ByteArray.size_append]; have : (ByteArray.mk #[47]).size = 1 := rfl; omega
              have ha1 : ∀ W : World, (Op.stringOp .add (s.extract 0 k) ⟨#[47]⟩).run Tryd.prog W = .ok (.string (s.extract 0 k ++ ⟨#[47]⟩)) W := fun W => run_string_add_sum W _ _ (by have : (ByteArray.mk #[47]).size = 1 := rfl; omega)
              have ha2 : ∀ W : World, (Op.stringOp .add (s.extract 0 k ++ ⟨#[47]⟩) (s.extract k s.size)).run Tryd.prog W = .ok (.string (s.extract 0 k ++ ⟨#[47]⟩ ++ s.extract k s.size)) W := fun W => run_string_add_sum W _ _ (by omega)
              clear e1 e2 e3
              go_upto_region 12 with fail
              go_cut [10, 11, 12] (fun v d e wc => ∃ A c, v = .slice A cs.length c ∧ d = .bool db ∧ e = .int .i64 0 ∧ Hid (Rd wc 1 A cs.length (txts cs)) ∧ Below wr.heap.size wr wc)
              case first =>
                go_region_with (go_at_call 16; refine (HCS.out _).mono ?_; rintro e w2 ⟨v2, rfl, hown2, hb2⟩; obtain ⟨A2, c2, rfl⟩ := own_slice hown2; have HO2 := Lib.hid hown2; clear hown2)
                all_goals
                  go_wp2_with fail
                  go_meet
                  case rel => exact ⟨_, _, rfl, rfl, rfl, Rd.of_own HO2.out, ⟨hb2.os, hb2.tape, hb2.output, hb2.size, hb2.block⟩⟩
              case rest =>
                obtain ⟨A2, c2, rfl, rfl, rfl, hr2, hb2⟩ := hcut
                have hsame := same_yes A2 A1 _ _ c2 c1 _ _ wc hr2.out (HR1.out.below hb2) (by omega) rfl
                have HS := Lib.hid hsame
                clear hsame
                go_wp2_with fail
                refine (HS.out).mono ?_
                rintro e w5 ⟨rfl, hb5⟩
                go_wp2_with fail
                refine (h3.out _).mono ?_
                rintro e w6 ⟨rfl, hb6⟩
                go_wp2_with fail
                go_ret
                have h12 := HB.out.trans (hb2.mono HB.out.size)
                have h13 := h12.trans (hb5.mono h12.size)
                exact ⟨rfl, h13.trans (hb6.mono h13.size)⟩
          · have hsp := HSL.out hs95 (fun h => absurd h hks)
            rw [if_neg (by rw [← HSZ.out]; exact hks)] at hsp
            have hcat : (s.extract 0 k ++ ⟨#[47]⟩ ++ s.extract k s.size).toList = s.toList.take k ++ 47 :: s.toList.drop k := by
              rw [app_list, app_list, extract_list, extract_list, List.drop_zero, Nat.sub_zero, show (ByteArray.mk #[47]).toList = [47] from by rw [ByteArray.toList_eq], List.append_assoc]
              rw [List.take_of_length_le (l := s.toList.drop k) (by simp [HSZ.out])]
              rfl
            have hcs := fun W => split_path (s.extract 0 k ++ ⟨#[47]⟩ ++ s.extract k s.size) W
            rw [hcat, hsp] at hcs
            have HCS := Lib.hid hcs
            clear hsp hcat hcs
            have e1 : (s.extract 0 k).size ≤ 96 := by rw [size_toList, extract_list]; simp <;> omega
            have e2 : (s.extract k s.size).size ≤ 96 := by rw [size_toList, extract_list]; simp [← size_toList] <;> omega
            have e3 : (s.extract 0 k ++ ⟨#[47]⟩).size ≤ 97 := by rw [ByteArray.size_append]; have : (ByteArray.mk #[47]).size = 1 := rfl; omega
            have ha1 : ∀ W : World, (Op.stringOp .add (s.extract 0 k) ⟨#[47]⟩).run Tryd.prog W = .ok (.string (s.extract 0 k ++ ⟨#[47]⟩)) W := fun W => run_string_add_sum W _ _ (by have : (ByteArray.mk #[47]).size = 1 := rfl; omega)
            have ha2 : ∀ W : World, (Op.stringOp .add (s.extract 0 k ++ ⟨#[47]⟩) (s.extract k s.size)).run Tryd.prog W = .ok (.string (s.extract 0 k ++ ⟨#[47]⟩ ++ s.extract k s.size)) W := fun W => run_string_add_sum W _ _ (by omega)
            clear e1 e2 e3
            go_upto_region 12 with fail
            go_cut [10, 11, 12] (fun v d e wc => ∃ A c, v = .slice A cs.length c ∧ d = .bool true ∧ e = .int .i64 0 ∧ Hid (Rd wc 1 A cs.length (txts cs)) ∧ Below wr.heap.size wr wc)
            case first =>
              go_region_with (go_at_call 16; refine (HCS.out _).mono ?_; rintro e w2 ⟨v2, rfl, hown2, hb2⟩; obtain ⟨A2, c2, rfl⟩ := own_slice hown2; have HO2 := Lib.hid hown2; clear hown2)
              all_goals
                go_wp2_with fail
                go_meet
                case rel => exact ⟨_, _, rfl, rfl, rfl, Rd.of_own HO2.out, ⟨hb2.os, hb2.tape, hb2.output, hb2.size, hb2.block⟩⟩
            case rest =>
              obtain ⟨A2, c2, rfl, rfl, rfl, hr2, hb2⟩ := hcut
              have hsame := same_yes A2 A1 _ _ c2 c1 _ _ wc hr2.out (HR1.out.below hb2) (by omega) rfl
              have HS := Lib.hid hsame
              clear hsame
              go_wp2_with fail
              refine (HS.out).mono ?_
              rintro e w5 ⟨rfl, hb5⟩
              go_wp2_with fail
              refine (h3.out _).mono ?_
              rintro e w6 ⟨rfl, hb6⟩
              go_wp2_with fail
              go_ret
              have h12 := HB.out.trans (hb2.mono HB.out.size)
              have h13 := h12.trans (hb5.mono h12.size)
              exact ⟨rfl, h13.trans (hb6.mono h13.size)⟩
  · have hb : ((Nm.splitR s.toList).2.2 == 0) = false := beq_eq_false_iff_ne.2 hok
    have hr := Nm.splitR_bad hok
    generalize Nm.splitR s.toList = r at *
    obtain ⟨ls, db, er⟩ := r
    obtain ⟨rfl, rfl⟩ := hr
    have H1 := Lib.hid h1
    clear h1 hok
    go_enter Tryd.func5, Tryd.ntmps5
    go_wp2_with fail
    refine (H1.out).mono ?_
    rintro e w1 ⟨v1, rfl, hown1, hb1⟩
    obtain ⟨A1, c1, rfl⟩ := own_slice hown1
    have HO := Lib.hid hown1
    clear hown1
    go_wp2_with fail
    refine (h3.out _).mono ?_
    rintro e w2 ⟨rfl, hb2⟩
    go_wp2_with fail
    go_ret
    exact ⟨rfl, hb1.trans (hb2.mono hb1.size)⟩
end Go.Proofs.YtojmibidfoncnaaDoor
