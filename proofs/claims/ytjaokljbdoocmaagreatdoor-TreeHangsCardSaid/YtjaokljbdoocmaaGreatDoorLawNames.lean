/-
  The walk of the law TreeNames.
-/
import Derived.Test.YtjaokljbdoocmaaGreatDoorBehind
namespace Go.Proofs.YtjaokljbdoocmaaGreatDoor
open Go.RowKit

attribute [local go_sem ↓] Go.wp_at_zero Go.wp_at_succ

/-- A dump that lies beside its tree. -/
theorem dump_beside {w W W' : World} {M : TM} {t : Tr.T} {v : Value} (HG : Grown w M t W) (h : W'.ownsRow W.heap.size 36 7 v t.L.length (cEns (Tr.dumpR t.L))) (hb : Below W.heap.size W W') :
    ∃ A c, v = .slice A t.L.length c ∧ Grown w M t W' ∧ Beside M 7 A t.L.length (cEns (Tr.dumpR t.L)) W' := by
  obtain ⟨A, c, rfl⟩ := own_slice h
  exact ⟨A, c, rfl, HG.below hb, Beside.of_new HG.at_ h⟩

/-- Two dumps of one tree are alike. -/
theorem sameDump (t : Tr.T) (hl : t.L.length ≤ 47) (A B : Option Addr) (c d : Nat) (w : World) (hA : Rd w 7 A t.L.length (cEns (Tr.dumpR t.L))) (hB : Rd w 7 B t.L.length (cEns (Tr.dumpR t.L))) :
    Calls Tryz.prog 17 #[.slice A t.L.length c, .slice B t.L.length d] w fun e w' => e = .returned (.bool true) ∧ Below w.heap.size w w' := by
  refine (sameEntries_any A B t.L.length t.L.length c d _ _ w hA hB (by unfold maxLen; omega)).mono ?_
  rintro r w' ⟨rfl, q, rfl⟩
  exact ⟨by simp, below_drewN_ (Below.refl _ _) q⟩

set_option maxRecDepth 100000 in
set_option maxHeartbeats 4000000 in
theorem treeNames_walk (A : Option Addr) (n c : Nat) (s : List Tr.Op) (dir : Int) (_hd0 : -9223372036854775808 ≤ dir) (_hd1 : dir ≤ 9223372036854775807) (nm : ByteArray) (kind : Int) (hk0 : -9223372036854775808 ≤ kind) (hk1 : kind ≤ 9223372036854775807) (w : World)
    (hs : Rd w 7 A n (cOps s)) (hn : n ≤ 1759218604391) :
    Calls Tryz.prog 6 #[.slice A n c, .int .i64 dir, .string nm, .int .i64 kind] w fun e w' => e = .returned (.bool true) ∧ Below w.heap.size w w' := by
  obtain ⟨l, rfl⟩ : ∃ l : List UInt8, nm = ⟨l.toArray⟩ := ⟨nm.toList, (mk_toList nm).symm⟩
  have hbh := behind05_any w A n c s hs hn
  have hbd := run_bounds s s.length (by rw [hs.ops_len]; exact hn)
  rw [List.take_length] at hbd
  generalize Tr.run Tr.t0 s = t at hbh hbd
  have hq := fun V => place_any kind 7 hk0 hk1 (by omega) (by omega) V
  have hq0 : 0 ≤ kind % 7 := Int.emod_nonneg _ (by omega)
  have hq1 : kind % 7 < 7 := Int.emod_lt_of_pos _ (by omega)
  generalize kind % 7 = q at hq hq0 hq1
  have hck := fun V => check_any ⟨l.toArray⟩ V
  simp only [toList_mk] at hck
  obtain ⟨hl1, hl2, hl3⟩ := Tr.names_law (t := t) (o := (5 + q, dir, l, 1, [120], 0, [97])) (by simp only; omega) (by simp only; omega)
  simp only at hl1 hl2 hl3
  have hdump := fun V M (H : TreeAt V M t) => treeDump_any V M t H (by omega)
  have hlist := fun V M (H : TreeAt V M t) => treeList_any V M t dir H
  have hlook := fun V M (H : TreeAt V M t) => treeLook_any V M t dir l H
  have happ := fun V M (H : TreeAt V M t) => treeApply_any V M t (5 + q, dir, l, 1, [120], 0, [97]) H (by omega) (by omega)
  simp only [vOp, cOp, txt, Tr.listR_err] at happ hlist
  generalize Tr.dirE t.L dir = de at hl1 hl2 hl3 hlist
  generalize Nm.checkE l = ce at hl1 hl2 hl3 hck
  generalize Tr.apply t (5 + q, dir, l, 1, [120], 0, [97]) = R at hl1 hl2 happ
  generalize Tr.lookR t.L dir l = lr at hl1 hl2 hl3 hlook
  obtain ⟨⟨⟨ed, es⟩, eg, ei, ek, em, et⟩, le⟩ := lr
  simp only at hl1 hl2 hl3 hlook
  have HQ := Lib.hid hq
  have HCK := Lib.hid hck
  have HDU := Lib.hid hdump
  have HLI := Lib.hid hlist
  have HLO := Lib.hid hlook
  have HAP := Lib.hid happ
  have HLAW := Lib.hid (And.intro hl1 (And.intro hl2 hl3))
  clear hq hck hdump hlist hlook happ hl1 hl2 hl3 hs hbd
  go_enter Tryz.func6, Tryz.ntmps6
  go_wp2_with fail
  refine hbh.mono ?_
  rintro r w1 ⟨M, rfl, hg1⟩
  have HG1 := Lib.hid hg1
  clear hg1 hbh
  go_wp2_with fail
  refine (HDU.out _ _ HG1.out.at_).mono ?_
  rintro r w2 ⟨v2, rfl, o2, b2⟩
  obtain ⟨A2, c2, rfl, g2, r2⟩ := dump_beside HG1.out o2 b2
  have HG2 := Lib.hid g2
  have HB2 := Lib.hid r2
  clear o2 b2 g2 r2
  go_wp2_with fail
  refine (HCK.out _).mono ?_
  rintro r w3 ⟨rfl, b3⟩
  have HG3 := Lib.hid (HG2.out.below b3)
  have HB3 := Lib.hid (HB2.out.below b3)
  clear b3
  go_wp2_with fail
  refine (HLI.out _ _ HG3.out.at_).mono ?_
  rintro r w4 ⟨v4, rfl, _, b4⟩
  have HG4 := Lib.hid (HG3.out.below b4)
  have HB4 := Lib.hid (HB3.out.below b4)
  clear b4
  go_wp2_with fail
  refine (HLO.out _ _ HG4.out.at_).mono ?_
  rintro r w5 ⟨rfl, b5⟩
  have HG5 := Lib.hid (HG4.out.below b5)
  have HB5 := Lib.hid (HB4.out.below b5)
  clear b5
  simp only [vEn, txt]
  go_wp2_with fail
  refine (HQ.out _).mono ?_
  rintro r w6 ⟨rfl, rfl⟩
  go_wp2_with fail
  refine (HAP.out _ _ (HG5.out.at_.alloc _)).mono ?_
  rintro r w7 hpost
  obtain ⟨A1, k1, A3, k3, M', rfl, _, _, _, _, _, hg7, ht, ho7, hk7⟩ := (HG5.out.below ((Below.refl _ _).alloc (Nat.le_refl _) _)).apply hpost
  have HB7 : Hid (Beside M' 7 A2 t.L.length (cEns (Tr.dumpR t.L)) w7) := (HB5.out.below ((Below.refl _ _).alloc (Nat.le_refl _) _)).kp hk7 ho7
  have HG7 := Lib.hid hg7
  have hdu := fun V H => HDU.out V M' H
  rw [ht] at hdu
  have HDU' := Lib.hid hdu
  have HLEN := Lib.hid HG5.out.at_.good.len
  clear hpost hg7 ho7 hk7 hdu
  by_cases hde : de = 0
  · have hdb : (de == 0) = true := by simpa using hde
    by_cases hce : ce = 0
    · have hz := HLAW.out.2.2 hde hce
      subst hz hde hce
      go_wp2_with fail
      refine (awake05 _).mono ?_
      rintro r w8 ⟨rfl, b8⟩
      go_wp2_with fail
      go_ret
      exact ⟨rfl, HG7.out.bl.trans (b8.mono HG7.out.bl.size)⟩
    · have hcb : (ce == 0) = false := by simpa using hce
      obtain ⟨hle, hR⟩ := HLAW.out.2.1 hde hce
      subst hle hR hde
      simp only at HG7 ⊢
      clear HLAW HAP
      go_wp2_with fail
      refine (HDU'.out _ HG7.out.at_).mono ?_
      rintro r w8 ⟨v8, rfl, o8, b8⟩
      obtain ⟨A8, c8, rfl⟩ := own_slice o8
      have HG8 := Lib.hid (HG7.out.below b8)
      have HS8 := Lib.hid (sameDump t HLEN.out A8 A2 c8 c2 w8 (Rd.of_own o8) (HB7.out.below b8).rd)
      clear o8 b8
      go_wp2_with fail
      refine HS8.out.mono ?_
      rintro r w9 ⟨rfl, b9⟩
      have HG9 := Lib.hid (HG8.out.below b9)
      clear b9
      go_wp2_with fail
      refine (awake05 _).mono ?_
      rintro r w10 ⟨rfl, b10⟩
      go_wp2_with fail
      go_ret
      exact ⟨rfl, HG9.out.bl.trans (b10.mono HG9.out.bl.size)⟩
  · have hdb : (de == 0) = false := by simpa using hde
    obtain ⟨hle, hR⟩ := HLAW.out.1 hde
    subst hle hR
    simp only at HG7 ⊢
    clear HLAW HAP
    go_wp2_with fail
    refine (HDU'.out _ HG7.out.at_).mono ?_
    rintro r w8 ⟨v8, rfl, o8, b8⟩
    obtain ⟨A8, c8, rfl⟩ := own_slice o8
    have HG8 := Lib.hid (HG7.out.below b8)
    have HS8 := Lib.hid (sameDump t HLEN.out A8 A2 c8 c2 w8 (Rd.of_own o8) (HB7.out.below b8).rd)
    clear o8 b8
    go_wp2_with fail
    refine HS8.out.mono ?_
    rintro r w9 ⟨rfl, b9⟩
    have HG9 := Lib.hid (HG8.out.below b9)
    clear b9
    go_wp2_with fail
    refine (awake05 _).mono ?_
    rintro r w10 ⟨rfl, b10⟩
    go_wp2_with fail
    go_ret
    exact ⟨rfl, HG9.out.bl.trans (b10.mono HG9.out.bl.size)⟩
end Go.Proofs.YtjaokljbdoocmaaGreatDoor
