/-
  The walk of the law WalkLinks.
-/
import Derived.Test.YtmaadimodjnnlaaDoorAwake14
import Derived.Test.YtmaadimodjnnlaaDoorLinksSpec
import Derived.Test.YtmaadimodjnnlaaDoorPlace
import Derived.IntWalk
namespace Go.Proofs.YtmaadimodjnnlaaDoor
open Go.RowKit

theorem known_get (l : List (Key × (En × Int))) (wh : List (Int × Bool)) (k : Key) {y : En} (h : (alGet l k).map Prod.fst = some y) : knownOf [] l wh k = some y := by
  unfold knownOf
  rw [show firstOf [] k = none from rfl]
  cases hq : alGet l k with
  | none => rw [hq] at h; cases h
  | some p => rw [hq] at h; simpa using h

theorem get_put (l : List (Key × (En × Int))) (x : En) (n : Int) (k : Key) {y : En} (h : x.1 ≠ k) (hl : (alGet l k).map Prod.fst = some y) : (alGet (alPut l x.1 (x, n)) k).map Prod.fst = some y := by
  rw [alGet_put, if_neg h]
  exact hl
theorem get_new (l : List (Key × (En × Int))) (x : En) (n : Int) : (alGet (alPut l x.1 (x, n)) x.1).map Prod.fst = some x := by
  rw [alGet_put, if_pos rfl]
  rfl

theorem run_slice_str {P : Program} {t : TypeId} (s : ByteArray) (i j : Int) (a b : Nat) (hi : i = a) (hj : j = b) (h : a ≤ b) (h2 : b ≤ s.size) (ht : P.underlying t = some .string) (w : World) :
    (Instr.slice t (.string s) (some (.int .i64 i)) (some (.int .i64 j)) none).run P w = .ok (.string (s.extract a b)) w := by
  subst hi
  subst hj
  simp [Instr.slice, run_underlying ht, Instr.sliceBounds, run_sliceBound, h, h2]

def abcS : ByteArray := ⟨#[97, 98, 99, 100, 101, 102, 103, 104, 105, 106, 107, 108, 109]⟩
theorem abc_at : ∀ j : Fin 13, abcS.extract j.val (j.val + 1) = ⟨(nmAt j.val).toArray⟩ := by decide

theorem abc_run (i j : Int) (a : Nat) (hi : i = a) (hj : j = a + 1) (ha : a < 13) (w : World) :
    (Instr.slice 9 (.string ⟨#[97, 98, 99, 100, 101, 102, 103, 104, 105, 106, 107, 108, 109]⟩) (some (.int .i64 i)) (some (.int .i64 j)) none).run Tryd.prog w = .ok (.string ⟨(nmAt a).toArray⟩) w := by
  have h := abc_at ⟨a, ha⟩
  simp only at h
  rw [← h]
  exact run_slice_str abcS i j a (a + 1) hi (by rw [hj]; rfl) (by omega) (by have : abcS.size = 13 := rfl; omega) Tryd.underlying9 w

theorem put_yes (w : World) (c e h : Nat) (l : List (Key × (En × Int))) (wh : List (Int × Bool)) (clk : Int) (x : En) (hx : x.1.2 ≠ []) (H : CacheAt w c e h l wh clk) (h0 : 0 ≤ clk) (h1 : clk < 4611686018427387904) :
    Calls Tryd.prog 7 #[.pointer (some ⟨c, 0, none⟩), vEn x] w fun r w' =>
      r = .returned (.int .i64 0) ∧ CacheAt w' c e h (alPut l x.1 (x, clk + 1)) wh (clk + 1) ∧ Kp (fun k => k ≠ c ∧ k ≠ e) w w' := by
  refine (dentPut_any w c e h l wh clk x H h0 h1).mono ?_
  rintro r w2 (⟨hno, _⟩ | ⟨_, h1, h2, h3⟩)
  · exact absurd hno hx
  · exact ⟨h1, h2, h3⟩

set_option maxRecDepth 100000 in
set_option maxHeartbeats 2000000 in
theorem walkLinks_walk (n : Int) (hn0 : -9223372036854775808 ≤ n) (hn1 : n ≤ 9223372036854775807) (links : Int) (hl0 : -9223372036854775808 ≤ links) (hl1 : links ≤ 9223372036854775807) (w : World) :
    Calls Tryd.prog 3 #[.int .i64 n, .int .i64 links] w fun e w' => e = .returned (.bool true) ∧ Below w.heap.size w w' := by
  obtain ⟨k, hk, hkl⟩ : ∃ k : Nat, n % 12 = (k : Int) ∧ k < 12 := ⟨(n % 12).toNat, by omega, by omega⟩
  have hpl := fun W => place_any n 12 hn0 hn1 (by omega) (by omega) W
  rw [hk] at hpl
  have HPL := Lib.hid hpl
  have HN := Lib.hid (dentNew_any w)
  clear hpl hk
  go_enter Tryd.func3, Tryd.ntmps3
  go_wp2_with fail
  refine (HN.out).mono ?_
  rintro r w1 ⟨c, e, h, rfl, HC, hc, he, hh, hb1⟩
  have HC1 := Lib.hid HC
  have HB1 := Lib.hid hb1
  clear HC hb1
  go_wp2_with fail
  refine (HPL.out _).mono ?_
  rintro r w2 ⟨rfl, rfl⟩
  go_wp2_with fail
  go_loopw [8] (fun i wr => ∃ (j : Nat) (l : List (Key × (En × Int))), j ≤ k ∧ i = .int .i64 j ∧ Hid (CacheAt wr c e h l [] j) ∧ Hid (∀ t, t < j → (alGet l (1, nmAt t)).map Prod.fst = some (linkAt t)) ∧ Below w.heap.size w wr) (fun i _ => k - (intOf i).toNat)
  case atStart => exact ⟨0, [], by omega, rfl, HC1, fun t ht => absurd ht (by omega), HB1.out⟩
  case round =>
    obtain ⟨j, l, hj, rfl, HCR, HG, hbr⟩ := hrel
    by_cases hlt : j < k
    · have s1 := fun W => abc_run j (j + 1) j rfl rfl (by omega) W
      have s2 := fun W => abc_run ((j : Int) + 1) ((j : Int) + 2) (j + 1) (by omega) (by omega) (by omega) W
      have q1 : IntKind.i64.wrap ((j : Int) + 1) = (j : Int) + 1 := IntWalk.i64_in _ (by omega)
      have q2 : IntKind.i64.wrap ((j : Int) + 2) = (j : Int) + 2 := IntWalk.i64_in _ (by omega)
      have q3 : IntKind.i64.wrap (2 + (j : Int)) = 2 + (j : Int) := IntWalk.i64_in _ (by omega)
      have hp := fun W H => put_yes W c e h l [] j (linkAt j) (by unfold linkAt nmAt; simp) H (by omega) (by omega)
      simp only [linkAt, vEn, txt] at hp
      have HP := Lib.hid hp
      clear hp
      go_upto_region 9 with fail
      go_region_with (go_at_call 7; refine ((HP.out _ HCR.out.drew)).mono ?_; rintro r w3 ⟨rfl, hc3, hk3⟩; have HC3 := Lib.hid hc3; have HK3 := Lib.hid hk3; clear hc3 hk3)
      have HG2 : Hid (∀ t, t < j + 1 → (alGet (alPut l (linkAt j).1 (linkAt j, (j : Int) + 1)) (1, nmAt t)).map Prod.fst = some (linkAt t)) := by
        intro t ht
        by_cases e : t = j
        · subst e
          exact get_new l (linkAt t) _
        · exact get_put l (linkAt j) _ _ (fun q => e (nmAt_inj (by omega) (by omega) (congrArg Prod.snd q).symm)) (HG.out t (by omega))
      have HC4 : Hid (CacheAt w3 c e h (alPut l (linkAt j).1 (linkAt j, (j : Int) + 1)) [] ((j + 1 : Nat) : Int)) := by
        rw [show ((j + 1 : Nat) : Int) = (j : Int) + 1 from by omega]
        exact HC3.out
      have HB3 := Lib.hid ((below_drew hbr).trans (HK3.out.to_below hbr.size (fun i hi => by omega)))
      clear s1 s2 q1 q2 q3 HC3
      go_wp2_with fail
      go_roundw
      case rel => exact ⟨j + 1, _, by omega, by go_num, HC4, HG2, HB3.out⟩
      case measure => simp [intOf] <;> omega
    · obtain rfl : j = k := by omega
      have s1 := fun W => abc_run j (j + 1) j rfl rfl (by omega) W
      have hp1 := fun W H => put_yes W c e h l [] j (fileAt j) (by unfold fileAt nmAt; simp) H (by omega) (by omega)
      simp only [fileAt, vEn, txt] at hp1
      have HP1 := Lib.hid hp1
      clear hp1
      go_wp2_with fail
      refine ((HP1.out _ HCR.out)).mono ?_
      rintro r w2 ⟨rfl, hc2, hk2⟩
      have hp2 := put_yes w2 c e h _ [] _ selfAt (by decide) hc2 (by omega) (by omega)
      simp only [selfAt, selfNm, vEn, txt] at hp2
      have HP2 := Lib.hid hp2
      have HB2 := Lib.hid (hbr.trans (hk2.to_below hbr.size (fun i hi => by omega)))
      clear hp2 hc2 hk2 s1
      go_wp2_with fail
      refine (HP2.out).mono ?_
      rintro r w3 ⟨rfl, hc3, hk3⟩
      have HC3 := Lib.hid hc3
      have HB3 := Lib.hid (HB2.out.trans (hk3.to_below HB2.out.size (fun i hi => by omega)))
      clear hc3 hk3
      obtain ⟨L, hL⟩ : ∃ L : Nat, min (max links 0) 8 = (L : Int) := ⟨(min (max links 0) 8).toNat, by omega⟩
      have hL' : (min (max links 0) 8).toNat = L := by omega
      obtain ⟨l3, clk, hk1, hk2, hk3, HC4⟩ : ∃ l3 clk, (∀ t, t < j → knownOf [] l3 [] (1, nmAt t) = some (linkAt t)) ∧ knownOf [] l3 [] (1, nmAt j) = some (fileAt j) ∧ knownOf [] l3 [] (1, selfNm) = some selfAt ∧ Hid (CacheAt w3 c e h l3 [] clk) := by
        refine ⟨_, _, fun t ht => ?_, ?_, ?_, HC3⟩
        · exact known_get _ _ _ (get_put _ selfAt _ _ (fun q => nmAt_self t (congrArg Prod.snd q).symm) (get_put _ (fileAt j) _ _ (fun q => absurd (nmAt_inj (by omega) (by omega) (congrArg Prod.snd q)) (by omega)) (HG.out t ht)))
        · exact known_get _ _ _ (get_put _ selfAt _ _ (fun q => nmAt_self j (congrArg Prod.snd q).symm) (get_new _ (fileAt j) _))
        · exact known_get _ _ _ (get_new _ selfAt _)
      obtain ⟨ux, hx1, hx2⟩ := links_self hk3 L []
      have hy1 := self_stays hk3 L
      obtain ⟨hoa, hob⟩ := links_chain hkl hk1 hk2 L j 0 [] (by omega)
      rw [← walk_of split_self] at hx1
      rw [← walk_of split_self] at hy1
      rw [← walk_of split_a] at hoa hob
      have hwx : ∀ W, CacheAt W c e h l3 [] clk → Calls Tryd.prog 8 #[.pointer (some ⟨c, 0, none⟩), .slice none 0 0, .string ⟨#[47, 115, 101, 108, 102]⟩, .bool true, .int .i64 links] W (OutPost W (Wk.fail 49 ux)) := fun W H => by
        have := walk_any W none 0 0 [] ⟨#[47, 115, 101, 108, 102]⟩ true links c e h _ _ _ (by omega) hl0 hl1 (Rd.empty _ _ _) H
        rwa [hL', toList_mk [47, 115, 101, 108, 102], hx1] at this
      have hwy : ∀ W, CacheAt W c e h l3 [] clk → Calls Tryd.prog 8 #[.pointer (some ⟨c, 0, none⟩), .slice none 0 0, .string ⟨#[47, 115, 101, 108, 102]⟩, .bool false, .int .i64 links] W (OutPost W (false, Wk.noKey, 0, (98, 3, 0, selfNm), [(1, selfNm)])) := fun W H => by
        have := walk_any W none 0 0 [] ⟨#[47, 115, 101, 108, 102]⟩ false links c e h _ _ _ (by omega) hl0 hl1 (Rd.empty _ _ _) H
        rwa [hL', toList_mk [47, 115, 101, 108, 102], hy1] at this
      have hwo : ∃ uo, (j ≤ L → uo.length = j + 1 ∧ ∀ W, CacheAt W c e h l3 [] clk → Calls Tryd.prog 8 #[.pointer (some ⟨c, 0, none⟩), .slice none 0 0, .string ⟨#[47, 97]⟩, .bool true, .int .i64 links] W (OutPost W (false, Wk.noKey, 0, (99, 2, 5, []), uo))) ∧
          (L < j → uo.length = L + 1 ∧ ∀ W, CacheAt W c e h l3 [] clk → Calls Tryd.prog 8 #[.pointer (some ⟨c, 0, none⟩), .slice none 0 0, .string ⟨#[47, 97]⟩, .bool true, .int .i64 links] W (OutPost W (Wk.fail 49 uo))) := by
        have hw := fun W H => walk_any W none 0 0 [] ⟨#[47, 97]⟩ true links c e h l3 [] clk (by omega) hl0 hl1 (Rd.empty _ _ _) H
        rw [hL', toList_mk [47, 97]] at hw
        by_cases hjl : j ≤ L
        · obtain ⟨uo, h1, h2⟩ := hoa hjl
          refine ⟨uo, fun _ => ⟨by simpa using h2, fun W H => ?_⟩, fun q => absurd q (by omega)⟩
          have := hw W H
          rwa [h1] at this
        · obtain ⟨uo, h1, h2⟩ := hob (by omega)
          refine ⟨uo, fun q => absurd q hjl, fun _ => ⟨by simpa using h2, fun W H => ?_⟩⟩
          have := hw W H
          rwa [h1] at this
      obtain ⟨uo, hwo1, hwo2⟩ := hwo
      have HWX := Lib.hid hwx
      have HWY := Lib.hid hwy
      have HX2 : Hid (ux.length = L + 1) := hx2.trans (by simp)
      have HO1 := Lib.hid hwo1
      have HO2 := Lib.hid hwo2
      have HLL := Lib.hid hL
      clear hwx hwy hx1 hx2 hy1 hoa hob hwo1 hwo2 hk1 hk2 hk3 hL' HG HC3
      go_upto_if 58 with fail
      go_cut [9] (fun m wd => m = .int .i64 (max links 0) ∧ w3 = wd)
      case first =>
        by_cases hl : links < 0
        · have e : max links 0 = 0 := by omega
          have E := Lib.hid e
          clear e
          go_wp2_with fail
          go_meet
          case rel => exact ⟨by rw [E.out], rfl⟩
        · have e : max links 0 = links := by omega
          have E := Lib.hid e
          clear e
          go_wp2_with fail
          go_meet
          case rel => exact ⟨by rw [E.out], rfl⟩
      case rest =>
        obtain ⟨rfl, rfl⟩ := hcut
        go_upto_if 60 with fail
        go_cut [9] (fun m wd => m = .int .i64 L ∧ w3 = wd)
        case first =>
          have hL := HLL.out
          by_cases hl : 8 < max links 0
          · have e : (L : Int) = 8 := by omega
            have E := Lib.hid e
            clear e hL
            go_wp2_with fail
            go_meet
            case rel => exact ⟨by rw [E.out], rfl⟩
          · have e : max links 0 = (L : Int) := by omega
            have E := Lib.hid e
            clear e hL
            go_wp2_with fail
            go_meet
            case rel => exact ⟨by rw [E.out], rfl⟩
        case rest =>
          obtain ⟨rfl, rfl⟩ := hcut
          have hL8 : L ≤ 8 := by have := HLL.out; omega
          by_cases hjl : j ≤ L
          · obtain ⟨huo, hwo⟩ := HO1.out hjl
            have HWO := Lib.hid hwo
            have HUO := Lib.hid huo
            clear hwo huo
            go_wp2_with fail
            refine (HWO.out _ HC4.out).mono ?_
            rintro r w4 ⟨v4, rfl, hown4, hb4⟩
            rw [HUO.out] at hown4
            obtain ⟨A4, c4, rfl⟩ := own_slice hown4
            have HC5 := Lib.hid (HC4.out.below hb4)
            have HB5 := Lib.hid (HB3.out.trans (hb4.mono HB3.out.size))
            clear hown4 hb4
            simp only [vOut, outCells, txt]
            go_wp2_with fail
            refine (HWX.out _ (HC5.out.alloc _)).mono ?_
            rintro r w5 ⟨v5, rfl, hown5, hb5⟩
            have hown5' : w5.ownsRow _ 28 2 v5 ux.length (cKeys ux) := hown5
            rw [HX2.out] at hown5'
            obtain ⟨A5, c5, rfl⟩ := own_slice hown5'
            have AO := Lib.hid ((At.new w4 35 (outCells (false, Wk.noKey, 0, (99, 2, 5, []), uo) (.slice A4 (j + 1) c4))).below hb5)
            have HC6 := Lib.hid ((HC5.out.alloc (.cells (outCells (false, Wk.noKey, 0, (99, 2, 5, []), uo) (.slice A4 (j + 1) c4)).toArray 35)).below hb5)
            have HB6 := Lib.hid ((HB5.out.alloc HB5.out.size (.cells (outCells (false, Wk.noKey, 0, (99, 2, 5, []), uo) (.slice A4 (j + 1) c4)).toArray 35)).trans (hb5.mono (by have := HB5.out.size; simp; omega)))
            clear hown5 hown5' hb5
            simp only [vOut, outCells, txt, Wk.fail]
            go_wp2_with fail
            refine (HWY.out _ (HC6.out.alloc _)).mono ?_
            rintro r w6 ⟨v6, rfl, hown6, hb6⟩
            obtain ⟨A6, c6, rfl⟩ := own_slice hown6
            have hlt := AO.out.lt
            have AX := Lib.hid ((At.new w5 35 (outCells (Wk.fail 49 ux) (.slice A5 (L + 1) c5))).below hb6)
            have AO2 := Lib.hid ((AO.out.alloc (.cells (outCells (Wk.fail 49 ux) (.slice A5 (L + 1) c5)).toArray 35)).below hb6)
            have HB7 := Lib.hid ((HB6.out.alloc HB6.out.size (.cells (outCells (Wk.fail 49 ux) (.slice A5 (L + 1) c5)).toArray 35)).trans (hb6.mono (by have := HB6.out.size; simp; omega)))
            obtain ⟨o0, o1, o2, o3, o4, o5, o6, o7, o8⟩ := out_cells AO2.out
            obtain ⟨x0, x1, x2, x3, x4, x5, x6, x7, x8⟩ := out_cells AX.out
            have hlt2 := AX.out.lt
            have hlt3 := AO2.out.lt
            clear hown6 hb6
            simp only [vOut, outCells, txt, selfNm]
            have hq : ∀ W : World, (binOp .eql 30 (.agg #[.int .i64 99, .int .i64 2, .int .i64 5, .string ⟨#[]⟩]) (.agg #[.int .i64 99, .int .i64 2, .int .i64 5, .string ⟨#[]⟩])).run Tryd.prog W = .ok (.bool true) W := fun W => eql_node (99, 2, 5, []) (99, 2, 5, []) W
            go_wp2_with fail
            refine (awake14 _).mono ?_
            rintro r w7 ⟨rfl, hb7⟩
            go_wp2_with fail
            go_ret
            have h8 := HB7.out.alloc HB7.out.size (.cells #[.bool false, .int .i64 Wk.noKey.1, .string ⟨Wk.noKey.2.toArray⟩, .int .i64 0, .int .i64 98, .int .i64 3, .int .i64 0, .string ⟨#[115, 101, 108, 102]⟩, .slice A6 1 c6] 35)
            exact ⟨rfl, h8.trans (hb7.mono h8.size)⟩
          · obtain ⟨huo, hwo⟩ := HO2.out (by omega)
            have HWO := Lib.hid hwo
            have HUO := Lib.hid huo
            clear hwo huo
            go_wp2_with fail
            refine (HWO.out _ HC4.out).mono ?_
            rintro r w4 ⟨v4, rfl, hown4, hb4⟩
            have hown4' : w4.ownsRow _ 28 2 v4 uo.length (cKeys uo) := hown4
            rw [HUO.out] at hown4'
            obtain ⟨A4, c4, rfl⟩ := own_slice hown4'
            have HC5 := Lib.hid (HC4.out.below hb4)
            have HB5 := Lib.hid (HB3.out.trans (hb4.mono HB3.out.size))
            clear hown4 hown4' hb4
            simp only [vOut, outCells, txt, Wk.fail]
            go_wp2_with fail
            refine (HWX.out _ (HC5.out.alloc _)).mono ?_
            rintro r w5 ⟨v5, rfl, hown5, hb5⟩
            have hown5' : w5.ownsRow _ 28 2 v5 ux.length (cKeys ux) := hown5
            rw [HX2.out] at hown5'
            obtain ⟨A5, c5, rfl⟩ := own_slice hown5'
            have AO := Lib.hid ((At.new w4 35 (outCells (Wk.fail 49 uo) (.slice A4 (L + 1) c4))).below hb5)
            have HC6 := Lib.hid ((HC5.out.alloc (.cells (outCells (Wk.fail 49 uo) (.slice A4 (L + 1) c4)).toArray 35)).below hb5)
            have HB6 := Lib.hid ((HB5.out.alloc HB5.out.size (.cells (outCells (Wk.fail 49 uo) (.slice A4 (L + 1) c4)).toArray 35)).trans (hb5.mono (by have := HB5.out.size; simp; omega)))
            clear hown5 hown5' hb5
            simp only [vOut, outCells, txt, Wk.fail]
            go_wp2_with fail
            refine (HWY.out _ (HC6.out.alloc _)).mono ?_
            rintro r w6 ⟨v6, rfl, hown6, hb6⟩
            obtain ⟨A6, c6, rfl⟩ := own_slice hown6
            have hlt := AO.out.lt
            have AX := Lib.hid ((At.new w5 35 (outCells (Wk.fail 49 ux) (.slice A5 (L + 1) c5))).below hb6)
            have AO2 := Lib.hid ((AO.out.alloc (.cells (outCells (Wk.fail 49 ux) (.slice A5 (L + 1) c5)).toArray 35)).below hb6)
            have HB7 := Lib.hid ((HB6.out.alloc HB6.out.size (.cells (outCells (Wk.fail 49 ux) (.slice A5 (L + 1) c5)).toArray 35)).trans (hb6.mono (by have := HB6.out.size; simp; omega)))
            obtain ⟨o0, o1, o2, o3, o4, o5, o6, o7, o8⟩ := out_cells AO2.out
            obtain ⟨x0, x1, x2, x3, x4, x5, x6, x7, x8⟩ := out_cells AX.out
            have hlt2 := AX.out.lt
            have hlt3 := AO2.out.lt
            clear hown6 hb6
            simp only [vOut, outCells, txt, selfNm]
            go_wp2_with fail
            refine (awake14 _).mono ?_
            rintro r w7 ⟨rfl, hb7⟩
            go_wp2_with fail
            go_ret
            have h8 := HB7.out.alloc HB7.out.size (.cells #[.bool false, .int .i64 Wk.noKey.1, .string ⟨Wk.noKey.2.toArray⟩, .int .i64 0, .int .i64 98, .int .i64 3, .int .i64 0, .string ⟨#[115, 101, 108, 102]⟩, .slice A6 1 c6] 35)
            exact ⟨rfl, h8.trans (hb7.mono h8.size)⟩
end Go.Proofs.YtmaadimodjnnlaaDoor
