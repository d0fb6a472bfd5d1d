/-
  The walk of the law TreeFull.
-/
import Derived.Test.YtjaokljbdoocmaaDoorBehind
import Derived.Test.YtjaokljbdoocmaaDoorPlace
import Derived.Test.YtjaokljbdoocmaaDoorFullP
namespace Go.Proofs.YtjaokljbdoocmaaDoor
open Go.RowKit

/-- The kind that is asked for. -/
def fAsk (K : List Int) (i : Nat) : Int := if K.length = 0 then 0 else (K[i % K.length]?.getD 0) % 3
theorem fAsk_in (K : List Int) (i : Nat) : fAsk K i = 0 ∨ fAsk K i = 1 ∨ fAsk K i = 2 := by
  unfold fAsk
  split
  · exact .inl rfl
  · have h1 := Int.emod_nonneg (K[i % K.length]?.getD 0) (show (3 : Int) ≠ 0 by omega)
    have h2 := Int.emod_lt_of_pos (K[i % K.length]?.getD 0) (show (0 : Int) < 3 by omega)
    omega

set_option maxHeartbeats 2000000 in
theorem full_ask (A : Option Addr) (n c B : Nat) (K : List Int) (i : Nat) (w : World) (hc : w.cell? ⟨B, 0, none⟩ = some (.slice A n c)) (hr : Rd w 1 A n (cNums K)) (hK : K.length = n) (hi : i < 64) (hb : ∀ a ∈ K, -9223372036854775808 ≤ a ∧ a ≤ 9223372036854775807) (hn : n ≤ 4611686018427387904) :
    Calls Tryd.prog 6 #[.int .i64 i, .pointer (some ⟨B, 0, none⟩)] w fun e w' => e = .returned (.int .i64 (5 + fAsk K i)) ∧ Below w.heap.size w w' := by
  rcases Nat.eq_zero_or_pos n with rfl | h0
  · have hz : fAsk K i = 0 := by unfold fAsk; rw [if_pos hK]
    rw [hz]
    clear hr hz hb
    go_enter Tryd.func6, Tryd.ntmps6
    go_wp2
    go_ret
    exact ⟨rfl, Below.refl _ _⟩
  · have hlt : i % n < n := Nat.mod_lt _ h0
    obtain ⟨ad, a, rfl, hbl, hx, s0⟩ := hr.num_at hlt
    have hz : fAsk K i = a % 3 := by unfold fAsk; rw [if_neg (by omega), hK, hx]; rfl
    rw [hz]
    obtain ⟨ha0, ha1⟩ := hb a (List.mem_of_getElem? hx)
    have hq := fun V => place_any a 3 ha0 ha1 (by omega) (by omega) V
    have hq0 : 0 ≤ a % 3 := Int.emod_nonneg _ (by omega)
    have hq1 : a % 3 < 3 := Int.emod_lt_of_pos _ (by omega)
    generalize a % 3 = q at hq hq0 hq1
    have HQ := Lib.hid hq
    have hm : (i : Int).tmod (n : Int) = ((i % n : Nat) : Int) := by
      rw [Int.tmod_eq_emod_of_nonneg (by omega)]
      omega
    obtain ⟨r, hre⟩ : ∃ r, i % n = r := ⟨_, rfl⟩
    rw [hre] at hm s0 hlt
    have hn0 : ((n : Int) == 0) = false := beq_eq_false_iff_ne.2 (by omega)
    have hn1 : ¬ n = 0 := by omega
    have hn2 : ¬ (n : Int) = 0 := by omega
    have hr1 : (r : Int) < (n : Int) := by omega
    have h5 : IntKind.i64.wrap (5 + q) = 5 + q := by rw [IntKind.wrap_i64]; omega
    clear hx hz hr hb hre hq
    go_enter Tryd.func6, Tryd.ntmps6
    go_wp2_with fail
    go_upto_region 3 with fail
    go_region_with (go_at_call 7; (with_reducible refine (HQ.out _).mono ?_); rintro r w2 ⟨rfl, rfl⟩)
    all_goals
      go_wp2
      go_ret
    all_goals
      refine ⟨rfl, ?_⟩
      repeat (first | exact Below.refl _ _ | refine below_drew ?_ | refine below_drewN_ ?_ _)

theorem abc_at : ∀ a : Fin 26, (ByteArray.mk #[97, 98, 99, 100, 101, 102, 103, 104, 105, 106, 107, 108, 109, 110, 111, 112, 113, 114, 115, 116, 117, 118, 119, 120, 121, 122]).extract a (a + 1) = ⟨#[UInt8.ofNat (97 + a)]⟩ := by decide +kernel
theorem abc_slice (a : Nat) (ha : a < 26) (V : World) : (Instr.slice 9 (.string (ByteArray.mk #[97, 98, 99, 100, 101, 102, 103, 104, 105, 106, 107, 108, 109, 110, 111, 112, 113, 114, 115, 116, 117, 118, 119, 120, 121, 122])) (some (.int .i64 a)) (some (.int .i64 ((a : Int) + 1))) none).run Tryd.prog V = .ok (.string ⟨#[UInt8.ofNat (97 + a)]⟩) V := by
  have h := run_slice_string (P := Tryd.prog) V 9 (ByteArray.mk #[97, 98, 99, 100, 101, 102, 103, 104, 105, 106, 107, 108, 109, 110, 111, 112, 113, 114, 115, 116, 117, 118, 119, 120, 121, 122]) .i64 .i64 a ((a : Int) + 1) Tryd.underlying9 (by omega) (by omega) (by change (a : Int) + 1 ≤ ((26 : Nat) : Int); omega)
  rw [h, show ((a : Int)).toNat = a by omega, show ((a : Int) + 1).toNat = a + 1 by omega, abc_at ⟨a, ha⟩]

theorem and63 (m : Int) : ∃ e : Nat, e < 64 ∧ bits .and .i64 m 63 = e := by
  have h : (BitVec.ofInt 64 m &&& BitVec.ofInt 64 63).toNat < 64 := by
    rw [BitVec.toNat_and]
    exact Nat.lt_of_le_of_lt Nat.and_le_right (by decide)
  refine ⟨_, h, ?_⟩
  unfold bits
  change IntKind.i64.wrap (((BitVec.ofInt 64 m &&& BitVec.ofInt 64 63).toNat : Nat) : Int) = _
  rw [IntKind.wrap_i64]
  omega

set_option maxRecDepth 100000 in
set_option maxHeartbeats 8000000 in
theorem treeFull_walk (A : Option Addr) (n c : Nat) (K : List Int) (m : Int) (_hm0 : -9223372036854775808 ≤ m) (_hm1 : m ≤ 9223372036854775807) (w : World) (hr : Rd w 1 A n (cNums K)) (hin : ∀ o ∈ K, -9223372036854775808 ≤ o ∧ o ≤ 9223372036854775807) (hn : n ≤ 17592186043904) :
    Calls Tryd.prog 3 #[.slice A n c, .int .i64 m] w fun e w' => e = .returned (.bool true) ∧ Below w.heap.size w w' := by
  have hK := hr.nums_len
  have hask := fun (i : Nat) (hi : i < 64) (w1 : World) (hw1 : w.alloc (.cells #[.slice A n c] 22) = w1) (V : World) (hb : Below w1.heap.size w1 V) => full_ask A n c w.heap.size K i V (by subst hw1; exact (hb.cell (by simp)).trans (by simp)) (by subst hw1; exact (hr.below ((Below.refl _ _).alloc (Nat.le_refl _) _)).below hb) hK hi hin (by omega)
  have hf := fAsk_in K
  generalize fAsk K = f at hask hf
  have HASK := Lib.hid hask
  have HF := Lib.hid hf
  clear hask hf hr hK hin
  go_enter Tryd.func3, Tryd.ntmps3
  go_wp2_with fail
  obtain ⟨w1, hw1⟩ : ∃ w1, w.alloc (.cells #[.slice A n c] 22) = w1 := ⟨_, rfl⟩
  have HB1 : Hid (Below w.heap.size w w1) := by
    refine Lib.hid ?_
    subst hw1
    exact (Below.refl _ _).alloc (Nat.le_refl _) _
  rw [hw1]
  have hak := fun i hi => HASK.out i hi w1 hw1
  have HAK := Lib.hid hak
  clear hak hw1 HASK
  refine (treeNew_any _).mono ?_
  rintro r w2 ⟨M0, rfl, H1, ho1, hb1⟩
  have HG : Hid (Grown w1 M0 (Tr.fullT f 0) w2) := ⟨H1, ho1, hb1⟩
  obtain ⟨p, hp⟩ : ∃ p, M0.t = p := ⟨_, rfl⟩
  rw [hp]
  have HP := Lib.hid hp
  clear H1 ho1 hb1 hp
  go_wp2_with fail
  go_loopw [8] (fun iv wx => ∃ (j : Nat) (M : TM), j ≤ 47 ∧ iv = .int .i64 j ∧ Hid (M.t = p) ∧ Hid (Grown w1 M (Tr.fullT f j) wx)) (fun iv _ => 47 - (RowKit.intOf iv).toNat)
  case atStart => exact ⟨0, M0, by omega, rfl, HP, HG⟩
  case round =>
    obtain ⟨j, M, hj, rfl, HM, HI⟩ := hrel
    by_cases hlt : j < 47
    · have hlt2 : (j : Int) < 47 := by omega
      have hap := fun V (H : TreeAt V M (Tr.fullT f j)) => treeApply_any V M _ (5 + f j, 1, Tr.fName j, 0, [], 0, [97]) H (by simp only [Tr.fullT]; omega) (by simp only [Tr.fullT]; omega)
      obtain ⟨hc1, hc2⟩ := Tr.full_apply HF.out hlt
      generalize Tr.apply (Tr.fullT f j) (5 + f j, 1, Tr.fName j, 0, [], 0, [97]) = R at hap hc1 hc2
      obtain ⟨T, es, ks, er⟩ := R
      simp only at hc1 hc2
      subst hc1 hc2
      have hak := fun V hb => HAK.out j (by omega) V hb
      simp only [vOp, cOp, txt, Tr.fName] at hap
      rw [HM.out] at hap
      generalize f j = q at hap hak
      have hd1 : (j : Int).tmod 26 = ((j % 26 : Nat) : Int) := by
        rw [Int.tmod_eq_emod_of_nonneg (by omega)]
        omega
      have hd2 : (j : Int).tdiv 26 = ((j / 26 : Nat) : Int) := by
        rw [Int.tdiv_eq_ediv_of_nonneg (by omega)]
        omega
      have hr1 : j % 26 < 26 := Nat.mod_lt _ (by omega)
      have hr2 : j / 26 < 26 := by omega
      have hs1 := fun V => abc_slice (j % 26) hr1 V
      have hs2 := fun V => abc_slice (j / 26) hr2 V
      generalize j % 26 = r1 at hd1 hr1 hs1 hap
      generalize j / 26 = r2 at hd2 hr2 hs2 hap
      have hadd : ∀ V, (binOp .add 9 (.string ⟨#[UInt8.ofNat (97 + r1)]⟩) (.string ⟨#[UInt8.ofNat (97 + r2)]⟩)).run Tryd.prog V = .ok (.string ⟨#[UInt8.ofNat (97 + r1), UInt8.ofNat (97 + r2)]⟩) V := fun V => rfl
      generalize UInt8.ofNat (97 + r1) = y1 at hs1 hap hadd
      generalize UInt8.ofNat (97 + r2) = y2 at hs2 hap hadd
      have HAP := Lib.hid hap
      have HAJ := Lib.hid hak
      clear hap hak
      go_wp2_with fail
      go_upto_region 9 with fail
      go_quiet (fail)
      rw [show (ByteArray.mk #[y1] ++ ByteArray.mk #[y2]) = ByteArray.mk #[y1, y2] from rfl]
      have HI2 : Hid (Grown w1 M (Tr.fullT f j) (wr.drewN nq)) := HI.out.below (below_drewN_ (Below.refl _ _) _)
      go_wp2_with fail
      refine (HAJ.out _ HI2.out.bl).mono ?_
      rintro r w3 ⟨rfl, b3⟩
      have HI3 := Lib.hid (HI2.out.below b3)
      clear b3 hs1 hs2 hadd hd1 hd2
      go_wp2_with fail
      refine (HAP.out _ HI3.out.at_).mono ?_
      rintro r w4 hpost
      obtain ⟨A1, c1, A2, c2, M', rfl, -, -, -, -, -, HG', ht, -, -⟩ := HI3.out.apply hpost
      simp only at HG' ⊢
      have HG3 := Lib.hid HG'
      have HM2 : Hid (M'.t = p) := ht.trans HM.out
      clear hpost HG' ht
      go_wp2_with fail
      go_roundw
      case rel => exact ⟨j + 1, M', by omega, by go_num, HM2, HG3⟩
      case measure => simp [RowKit.intOf] <;> omega
    · obtain rfl : j = 47 := by omega
      obtain ⟨e, he, hbits⟩ := and63 m
      have hak := fun V hb => HAK.out e he V hb
      have hroom := fun V M (H : TreeAt V M (Tr.fullT f 47)) => treeApply_any V M _ (5 + f e, 1, [109, 111, 114, 101], 0, [], 0, [97]) H (by simp only [Tr.fullT]; omega) (by simp only [Tr.fullT]; omega)
      have hexist := fun V M (H : TreeAt V M (Tr.fullT f 47)) => treeApply_any V M _ (5 + f e, 1, [97, 97], 0, [], 0, [97]) H (by simp only [Tr.fullT]; omega) (by simp only [Tr.fullT]; omega)
      have hren := fun V M (H : TreeAt V M (Tr.fullT f 47)) => treeApply_any V M _ (10, 1, [97, 97], 1, [122, 122], 0, []) H (by simp only [Tr.fullT]; omega) (by simp only [Tr.fullT]; omega)
      obtain ⟨hr1, hr2⟩ := Tr.full_ren HF.out
      rw [Tr.full_room (HF.out e)] at hroom
      rw [Tr.full_exist HF.out (HF.out e)] at hexist
      generalize Tr.apply (Tr.fullT f 47) (10, 1, [97, 97], 1, [122, 122], 0, []) = R at hren hr1 hr2
      obtain ⟨T, es, ks, er⟩ := R
      simp only at hr1 hr2
      subst hr1 hr2
      simp only [vOp, cOp, txt] at hroom hexist hren
      generalize f e = q at hak hroom hexist
      have HAE := Lib.hid hak
      have HROOM := Lib.hid hroom
      have HEX := Lib.hid hexist
      have HREN := Lib.hid hren
      have hlen := Tr.full_len f 47
      have HLEN := Lib.hid hlen
      clear hak hroom hexist hren hlen hj hlt
      go_wp2_with fail
      refine (HAE.out _ HI.out.bl).mono ?_
      rintro r w3 ⟨rfl, b3⟩
      have HI3 := Lib.hid (HI.out.below b3)
      have ap3 := HROOM.out w3 M HI3.out.at_
      rw [HM.out] at ap3
      have AP3 := Lib.hid ap3
      clear b3 ap3
      go_wp2_with fail
      refine AP3.out.mono ?_
      rintro r w4 hpost
      obtain ⟨A1, c1, A2, c2, M4, rfl, -, -, -, -, -, HG', ht, -, -⟩ := HI3.out.apply hpost
      simp only [List.length_nil] at HG' ⊢
      have HG4 := Lib.hid HG'
      have HM4 : Hid (M4.t = p) := ht.trans HM.out
      clear hpost HG' ht AP3
      go_wp2_with fail
      refine (HAE.out _ HG4.out.bl).mono ?_
      rintro r w5 ⟨rfl, b5⟩
      have HG5 := Lib.hid (HG4.out.below b5)
      have ap5 := HEX.out w5 M4 HG5.out.at_
      rw [HM4.out] at ap5
      have AP5 := Lib.hid ap5
      clear b5 ap5 hbits
      go_wp2_with fail
      refine AP5.out.mono ?_
      rintro r w6 hpost
      obtain ⟨A3, c3, A4, c4, M6, rfl, -, -, -, -, -, HG', ht, -, -⟩ := HG5.out.apply hpost
      simp only [List.length_nil] at HG' ⊢
      have HG6 := Lib.hid HG'
      have HM6 : Hid (M6.t = p) := ht.trans HM4.out
      have hcn := treeCount_any w6 M6 _ HG6.out.at_
      rw [HM6.out, show (Tr.fullT f 47).L.length = 47 from HLEN.out] at hcn
      have HCN := Lib.hid hcn
      have ap6 := HREN.out w6 M6 HG6.out.at_
      rw [HM6.out] at ap6
      have AP6 := Lib.hid ap6
      clear hpost HG' ht AP5 ap6 hcn
      go_wp2_with fail
      refine HCN.out.mono ?_
      rintro r w7 ⟨rfl, rfl⟩
      go_wp2_with fail
      refine AP6.out.mono ?_
      rintro r w7 hpost
      obtain ⟨A5, c5, A6, c6, M7, rfl, -, -, -, -, -, HG', ht, -, -⟩ := HG6.out.apply hpost
      simp only at HG' ⊢
      have HG7 := Lib.hid HG'
      have HM7 : Hid (M7.t = p) := ht.trans HM6.out
      have hlk := treeLook_any w7 M7 _ 1 [98, 97] HG7.out.at_
      rw [HM7.out, Tr.ren_look HG7.out.at_.good] at hlk
      simp only [vEn, txt] at hlk
      have HLK := Lib.hid hlk
      have HKD := Lib.hid (Tr.ren_cut HG7.out.at_.good)
      have HMK := Lib.hid (Tr.cut_make HG7.out.at_.good)
      clear hpost HG' ht AP6 HCN hlk
      generalize Tr.fKind (f 1) = kd at HLK HKD
      go_wp2_with fail
      refine HLK.out.mono ?_
      rintro r w8 ⟨rfl, b8⟩
      have HG8 := Lib.hid (HG7.out.below b8)
      clear b8 HLK
      by_cases hk : kd = 1
      · subst hk
        have hkd := HKD.out
        rw [if_pos rfl] at hkd
        obtain ⟨hkd1, hkd2⟩ := hkd
        have hap := fun V (H : TreeAt V M7 ⟨Tr.renL f, 48, 49⟩) => treeApply_any V M7 _ (9, 1, [98, 97], 0, [], 0, []) H (by simp only; omega) (by simp only; omega)
        generalize Tr.apply ⟨Tr.renL f, 48, 49⟩ (9, 1, [98, 97], 0, [], 0, []) = R at hap hkd1 hkd2
        obtain ⟨T, es2, ks2, er⟩ := R
        simp only at hkd1 hkd2
        subst hkd1 hkd2
        simp only [vOp, cOp, txt] at hap
        rw [HM7.out] at hap
        have HAP := Lib.hid hap
        clear hap HKD
        go_wp2_with fail
        have HG9 : Hid (Grown w1 M7 ⟨Tr.renL f, 48, 49⟩ (w8.alloc (.cells #[.int .i64 1, .string ⟨#[98, 97]⟩, .bool false, .int .i64 3, .int .i64 1, .int .i64 0, .string ⟨(Tr.fTg (f 1)).toArray⟩] 40))) := HG8.out.below ((Below.refl _ _).alloc (Nat.le_refl _) _)
        refine (HAP.out _ HG9.out.at_).mono ?_
        rintro r w10 hpost
        obtain ⟨A7, c7, A8, c8, M10, rfl, -, -, -, -, -, HG', ht, -, -⟩ := HG9.out.apply hpost
        simp only at HG' ⊢
        have HG10 := Lib.hid HG'
        have HM10 : Hid (M10.t = p) := ht.trans HM7.out
        have hap := treeApply_any w10 M10 _ (6, 1, [109, 111, 114, 101], 0, [], 0, []) HG10.out.at_ (by simp only; omega) (by simp only; omega)
        obtain ⟨T2, hT2⟩ := HMK.out
        rw [hT2] at hap
        simp only [vOp, cOp, txt] at hap
        rw [HM10.out] at hap
        have HAP2 := Lib.hid hap
        clear hpost HG' ht hap hT2 HAP
        go_wp2_with fail
        refine HAP2.out.mono ?_
        rintro r w11 hpost
        obtain ⟨A9, c9, A10, c10, M11, rfl, o9, -, -, -, -, HG', -, -, -⟩ := HG10.out.apply hpost
        simp only [List.length_cons, List.length_nil, Nat.zero_add] at o9 HG' ⊢
        obtain ⟨g4, rfl, l4, -, -, -, -, p3, -, -, -⟩ := row_en1 o9
        simp only at p3
        have HG11 := Lib.hid HG'
        clear hpost HG' o9 HAP2 HMK
        go_wp2_with fail
        refine (awake05 _).mono ?_
        rintro r w12 ⟨rfl, b12⟩
        go_wp2_with fail
        go_ret
        exact ⟨rfl, (HB1.out.trans (HG11.out.bl.mono HB1.out.size)).trans (b12.mono (Nat.le_trans HB1.out.size HG11.out.bl.size))⟩
      · have hkd := HKD.out
        rw [if_neg hk] at hkd
        obtain ⟨hkd1, hkd2⟩ := hkd
        have hkb : (kd == 1) = false := by simpa using hk
        have hap := fun V (H : TreeAt V M7 ⟨Tr.renL f, 48, 49⟩) => treeApply_any V M7 _ (8, 1, [98, 97], 0, [], 0, []) H (by simp only; omega) (by simp only; omega)
        generalize Tr.apply ⟨Tr.renL f, 48, 49⟩ (8, 1, [98, 97], 0, [], 0, []) = R at hap hkd1 hkd2
        obtain ⟨T, es2, ks2, er⟩ := R
        simp only at hkd1 hkd2
        subst hkd1 hkd2
        simp only [vOp, cOp, txt] at hap
        rw [HM7.out] at hap
        have HAP := Lib.hid hap
        clear hap HKD
        go_wp2_with fail
        have HG9 : Hid (Grown w1 M7 ⟨Tr.renL f, 48, 49⟩ (w8.alloc (.cells #[.int .i64 1, .string ⟨#[98, 97]⟩, .bool false, .int .i64 3, .int .i64 kd, .int .i64 0, .string ⟨(Tr.fTg (f 1)).toArray⟩] 40))) := HG8.out.below ((Below.refl _ _).alloc (Nat.le_refl _) _)
        refine (HAP.out _ HG9.out.at_).mono ?_
        rintro r w10 hpost
        obtain ⟨A7, c7, A8, c8, M10, rfl, -, -, -, -, -, HG', ht, -, -⟩ := HG9.out.apply hpost
        simp only at HG' ⊢
        have HG10 := Lib.hid HG'
        have HM10 : Hid (M10.t = p) := ht.trans HM7.out
        have hap := treeApply_any w10 M10 _ (6, 1, [109, 111, 114, 101], 0, [], 0, []) HG10.out.at_ (by simp only; omega) (by simp only; omega)
        obtain ⟨T2, hT2⟩ := HMK.out
        rw [hT2] at hap
        simp only [vOp, cOp, txt] at hap
        rw [HM10.out] at hap
        have HAP2 := Lib.hid hap
        clear hpost HG' ht hap hT2 HAP
        go_wp2_with fail
        refine HAP2.out.mono ?_
        rintro r w11 hpost
        obtain ⟨A9, c9, A10, c10, M11, rfl, o9, -, -, -, -, HG', -, -, -⟩ := HG10.out.apply hpost
        simp only [List.length_cons, List.length_nil, Nat.zero_add] at o9 HG' ⊢
        obtain ⟨g4, rfl, l4, -, -, -, -, p3, -, -, -⟩ := row_en1 o9
        simp only at p3
        have HG11 := Lib.hid HG'
        clear hpost HG' o9 HAP2 HMK
        go_wp2_with fail
        refine (awake05 _).mono ?_
        rintro r w12 ⟨rfl, b12⟩
        go_wp2_with fail
        go_ret
        exact ⟨rfl, (HB1.out.trans (HG11.out.bl.mono HB1.out.size)).trans (b12.mono (Nat.le_trans HB1.out.size HG11.out.bl.size))⟩
end Go.Proofs.YtjaokljbdoocmaaDoor
