/-
  The walk of the law WalkWants.
-/
import Derived.Test.YtoacobcbloljkaaGreatDoorFilled
import Derived.Test.YtoacobcbloljkaaGreatDoorWalkPure2
import Derived.Test.YtoacobcbloljkaaGreatDoorAwake14
import Derived.Test.YtoacobcbloljkaaGreatDoorSameOut
import Derived.Test.YtoacobcbloljkaaGreatDoorRegF
import Derived.Deep.RegionHeld3
import Derived.Deep.DrawnRows
namespace Go.Proofs.YtoacobcbloljkaaGreatDoor
open Go.RowKit

namespace Wk
theorem known_fresh1 (l : List (Key × (En × Int))) (x : En) : knownOf [x] l [] = plus (knownOf [] l []) x := by
  funext k
  unfold plus knownOf
  have h0 : firstOf [] k = none := rfl
  rw [h0]
  by_cases h : x.1 = k
  · have : firstOf [x] k = some x := by simp [firstOf, h]
    rw [this, if_pos h]
  · have : firstOf [x] k = none := by simp [firstOf, h]
    rw [this, if_neg h]
theorem known_put1 (l : List (Key × (En × Int))) (x : En) (q : Int) : knownOf [] (alPut l x.1 (x, q)) [] = plus (knownOf [] l []) x := by
  funext k
  unfold plus knownOf
  have h0 : firstOf [] k = none := rfl
  rw [h0]
  simp only [alGet_put]
  by_cases h : x.1 = k
  · rw [if_pos h, if_pos h]
  · rw [if_neg h, if_neg h]
theorem part_nil (t : Tr.T) : Part t (knownOf [] [] []) := fun k y h => by
  unfold knownOf firstOf at h
  simp [alGet] at h
end Wk

/-- What the last region keeps. -/
structure WB (w : World) (bo : Nat) (o : Wk.Out) (A3 : Option Addr) (c3 c e h : Nat) (s : Cst) (W : World) : Prop where
  ao : At W bo 40 (outCells o (.slice A3 o.2.2.2.2.length c3))
  rd : Rd W 2 A3 o.2.2.2.2.length (cKeys o.2.2.2.2)
  ca : CacheAt W c e h s.1 s.2.1 s.2.2
  bl : Below w.heap.size w W
section
variable {w W W' : World} {bo : Nat} {nd : Bool} {kd : Int} {kk : List UInt8} {er ni nk nm : Int} {nt : List UInt8} {us : List Key} {A3 : Option Addr} {c3 c e h : Nat} {s : Cst} {o : Wk.Out}
theorem WB.next (H : WB w bo o A3 c3 c e h s W) (hb : Below W.heap.size W W') : WB w bo o A3 c3 c e h s W' := ⟨H.ao.below hb, H.rd.below hb, H.ca.below hb, H.bl.trans (hb.mono H.bl.size)⟩
theorem WB.kh (H : WB w bo (nd, (kd, kk), er, (ni, nk, nm, nt), us) A3 c3 c e h s W) :
    (W.cell? ⟨bo, 0, none⟩ = some (.bool nd) ∧ W.cell? ⟨bo, 1, none⟩ = some (.int .i64 kd) ∧ W.cell? ⟨bo, 2, none⟩ = some (.string ⟨kk.toArray⟩) ∧ W.cell? ⟨bo, 3, none⟩ = some (.int .i64 er) ∧ W.cell? ⟨bo, 4, none⟩ = some (.int .i64 ni) ∧ W.cell? ⟨bo, 5, none⟩ = some (.int .i64 nk) ∧
      W.cell? ⟨bo, 6, none⟩ = some (.int .i64 nm) ∧ W.cell? ⟨bo, 7, none⟩ = some (.string ⟨nt.toArray⟩) ∧ W.cell? ⟨bo, 8, none⟩ = some (.slice A3 us.length c3)) ∧ Hid (WB w bo (nd, (kd, kk), er, (ni, nk, nm, nt), us) A3 c3 c e h s W) := ⟨out_cells H.ao, Lib.hid H⟩
end

attribute [local go_sem ↓] Go.wp_at_zero Go.wp_at_succ

set_option maxRecDepth 100000 in
set_option maxHeartbeats 4000000 in
theorem walkWants_walk (A : Option Addr) (n cp : Nat) (s : List Tr.Op) (p : ByteArray) (follow : Bool) (links : Int) (hl0 : -9223372036854775808 ≤ links) (hl1 : links ≤ 9223372036854775807) (w : World)
    (hs : Rd w 7 A n (cOps s)) (hn : n ≤ 1759218604391) :
    Calls Tryz.prog 5 #[.slice A n cp, .string p, .bool follow, .int .i64 links] w fun e w' => e = .returned (.bool true) ∧ Below w.heap.size w w' := by
  have hfi := fun V hV => filled_any V A n cp s (hs.below hV) hn
  generalize Tr.run Tr.t0 s = t at hfi
  obtain ⟨lk, hlk⟩ : ∃ lk, (min (max links 0) 8).toNat = lk := ⟨_, rfl⟩
  have hlk8 : lk ≤ 8 := by omega
  have hwk := fun V A n cp fresh c e h l wh clk hn h1 H => walk_any V A n cp fresh p follow links c e h l wh clk hn hl0 hl1 h1 H
  simp only [hlk] at hwk
  have HFI := Lib.hid hfi
  have HWK := Lib.hid hwk
  clear hfi hwk hs hlk
  go_enter Tryz.func5, Tryz.ntmps5
  go_wp2_with fail
  refine (HFI.out w (Below.refl _ _)).mono ?_
  rintro r w1 ⟨M, c0, e0, h0, rfl, hf1⟩
  have HG1 := Lib.hid hf1.g
  have HGD := Lib.hid hf1.g.at_.good
  clear hf1
  go_wp2_with fail
  refine (dentNew_any _).mono ?_
  rintro r w2 ⟨c, e, h, rfl, hca, h1, h2, h3, hb2⟩
  have HF2 := Lib.hid (Filled.start HG1.out hca hb2 h1 h2 h3)
  clear hca hb2 h1 h2 h3 HG1
  go_wp2_with fail
  go_loopw [13] (fun iv wx => ∃ (j : Nat) (l : List (Key × (En × Int))) (clk : Int), j ≤ 432 ∧ iv = .int .i64 j ∧ Hid (Filled w M t c e h (l, [], clk) wx) ∧ Hid (Wk.Part t (knownOf [] l [])) ∧ Hid (j ≤ (Wk.outUsed (Wk.walk (knownOf [] l []) p.toList follow lk)).length ∧ 0 ≤ clk ∧ clk ≤ j)) (fun iv _ => 600 - (RowKit.intOf iv).toNat)
  case atStart => exact ⟨0, [], 0, by omega, rfl, HF2, Lib.hid (Wk.part_nil t), Lib.hid ⟨Nat.zero_le _, by omega, by omega⟩⟩
  case round =>
    obtain ⟨j, l, clk, hj, rfl, HI, HP, HJ⟩ := hrel
    have hw1 := HWK.out wr none 0 0 [] c e h l [] clk (by omega) (Rd.empty _ _ _) HI.out.ca
    have hmax := Wk.walk_len (knownOf [] l []) p.toList follow hlk8
    have hwf := fun V A cp x hr H => HWK.out V A 1 cp [x] c e h l [] clk (by omega) hr H
    have hkp := fun x q => Wk.known_put1 l x q
    simp only [Wk.known_fresh1] at hwf
    have hpart := HP.out
    have hlen := HJ.out
    obtain ⟨kn, hkn⟩ : ∃ kn, knownOf [] l [] = kn := ⟨_, rfl⟩
    simp only [hkn] at hw1 hmax hwf hkp hpart hlen
    have hwant := fun hh => Wk.want_walk HGD.out hpart (p := p.toList) (follow := follow) (links := lk) hh
    have hmore := fun hh x hx => Wk.more_walk (kn := kn) (p := p.toList) (follow := follow) (links := lk) hh (x := x) hx
    have hunused := fun hh => Wk.unused_walk (kn := kn) (p := p.toList) (follow := follow) (links := lk) hh
    have hlast := fun hh => Wk.last_walk hpart (p := p.toList) (follow := follow) (links := lk) hh
    obtain ⟨o, ho⟩ : ∃ o, Wk.walk kn p.toList follow lk = o := ⟨_, rfl⟩
    simp only [ho] at hw1 hmax hwant hmore hunused hlast hlen
    have HW1 := Lib.hid hw1
    have HPT := Lib.hid hpart
    have HLEN := Lib.hid hlen
    clear hw1 HP HJ hkn hpart hlen ho
    go_wp2_with fail
    refine HW1.out.mono ?_
    rintro r w3 ⟨v3, rfl, hown3, hb3⟩
    have hle3 := own_le hown3
    obtain ⟨A3, c3, rfl⟩ := own_slice hown3
    obtain ⟨nd, ⟨kd, kk⟩, er, ⟨ni, nk, nm, nt⟩, us⟩ := o
    simp only [vOut, outCells, txt, Wk.outUsed] at hown3 hle3 hmax hwant hmore hunused hlast ⊢
    have HWANT := Lib.hid hwant
    have HMORE := Lib.hid hmore
    have HUN := Lib.hid hunused
    have HLAST := Lib.hid hlast
    have HLE : Hid (us.length ≤ maxLen) := hle3
    have hb4 : Below w3.heap.size w3 (w3.alloc (.cells #[.bool nd, .int .i64 kd, .string ⟨kk.toArray⟩, .int .i64 er, .int .i64 ni, .int .i64 nk, .int .i64 nm, .string ⟨nt.toArray⟩, .slice A3 us.length c3] 40)) := (Below.refl _ _).alloc (Nat.le_refl _) _
    have AO : Hid (At (w3.alloc (.cells #[.bool nd, .int .i64 kd, .string ⟨kk.toArray⟩, .int .i64 er, .int .i64 ni, .int .i64 nk, .int .i64 nm, .string ⟨nt.toArray⟩, .slice A3 us.length c3] 40)) w3.heap.size 40 (outCells (nd, (kd, kk), er, (ni, nk, nm, nt), us) (.slice A3 us.length c3))) := Lib.hid (At.new w3 40 (outCells (nd, (kd, kk), er, (ni, nk, nm, nt), us) (.slice A3 us.length c3)))
    have HRU := Lib.hid ((Rd.of_own hown3).below hb4)
    have HI4 := Lib.hid ((HI.out.below hb3).below hb4)
    clear hwant hmore hunused hlast hle3 hown3 HW1
    go_upto_region 9 with fail
    obtain ⟨w4, hw4⟩ : ∃ w4, w3.alloc (.cells #[.bool nd, .int .i64 kd, .string ⟨kk.toArray⟩, .int .i64 er, .int .i64 ni, .int .i64 nk, .int .i64 nm, .string ⟨nt.toArray⟩, .slice A3 us.length c3] 40) = w4 := ⟨_, rfl⟩
    rw [hw4] at AO HRU HI4 ⊢
    obtain ⟨bo, hbo⟩ : ∃ bo, w3.heap.size = bo := ⟨_, rfl⟩
    rw [hbo] at AO ⊢
    clear hw4 hb3 hb4 hbo HI
    obtain ⟨o0, o1, o2, o3, o4, o5, o6, o7, o8⟩ := out_cells AO.out
    simp only at o2 o7
    cases nd with
    | false =>
      have hl2 := HLAST.out rfl
      go_wp2_with fail
      refine (HFI.out w4 HI4.out.g.bl).mono ?_
      rintro r w5 ⟨M2, c2, e2, h2, rfl, hf2⟩
      have hb5 := hf2.g.bl
      have hwc := hf2.ca
      obtain ⟨F, hF⟩ : ∃ F, fillS (Tr.dumpR t.L) = F := ⟨_, rfl⟩
      have hkf := known_fill HGD.out
      rw [hF] at hkf hwc
      obtain ⟨l2, wh2, clk2⟩ := F
      simp only at hkf hwc
      have hw3 := fun V Hc => HWK.out V none 0 0 [] c2 e2 h2 l2 wh2 clk2 (by omega) (Rd.empty _ _ _) Hc
      simp only [hkf, hl2] at hw3
      have HW2 := Lib.hid hw3
      have hso := fun V A6 c6 h1 h2 => sameOut_yes (false, (kd, kk), er, (ni, nk, nm, nt), us) A3 A6 us.length c3 c6 V h1 h2 HLE.out
      simp only [vOut, outCells, txt] at hso
      have HSO := Lib.hid hso
      have HKR : Hid (WB w bo (false, (kd, kk), er, (ni, nk, nm, nt), us) A3 c3 c2 e2 h2 (l2, wh2, clk2) w5) := Lib.hid ⟨AO.out.below hb5, HRU.out.below hb5, hwc, HI4.out.g.bl.trans (hb5.mono HI4.out.g.bl.size)⟩
      clear hw3 hwc hkf hF hf2 hb5 hl2 hso AO HRU o0 o1 o2 o3 o4 o5 o6 o7 o8 hkp hwf hmax HPT HLEN HWANT HMORE HUN HLAST HI4 HFI HWK
      go_upto_region 11 with fail
      go_region_held3 (fun W => (W.cell? ⟨bo, 0, none⟩ = some (.bool false) ∧ W.cell? ⟨bo, 1, none⟩ = some (.int .i64 kd) ∧ W.cell? ⟨bo, 2, none⟩ = some (.string ⟨kk.toArray⟩) ∧ W.cell? ⟨bo, 3, none⟩ = some (.int .i64 er) ∧ W.cell? ⟨bo, 4, none⟩ = some (.int .i64 ni) ∧ W.cell? ⟨bo, 5, none⟩ = some (.int .i64 nk) ∧
          W.cell? ⟨bo, 6, none⟩ = some (.int .i64 nm) ∧ W.cell? ⟨bo, 7, none⟩ = some (.string ⟨nt.toArray⟩) ∧ W.cell? ⟨bo, 8, none⟩ = some (.slice A3 us.length c3)) ∧ Hid (WB w bo (false, (kd, kk), er, (ni, nk, nm, nt), us) A3 c3 c2 e2 h2 (l2, wh2, clk2) W))
        (first
          | exact (WB.next HKR.out (below_drew (Below.refl _ _))).kh
          | exact (WB.next (Hid.out (And.right (by assumption))) (Hid.out (by assumption))).kh)
        (first
          | (go_at_call 24; (with_reducible refine (HW2.out _ (WB.ca (Hid.out (And.right (by assumption))))).mono ?_); rintro r w6 ⟨v6, rfl, hown6, hb6⟩; obtain ⟨A6, c6, rfl⟩ := own_slice hown6; have HO6 := Lib.hid (Rd.of_own hown6); have HB6 := Lib.hid hb6; clear hown6 hb6; simp only [vOut, outCells, txt])
          | (go_at_call 19; (with_reducible refine (HSO.out _ _ _ (WB.rd (Hid.out (And.right (by assumption)))) (Hid.out (by assumption))).mono ?_); rintro r w7 ⟨rfl, hb7⟩; have HB7 := Lib.hid hb7; clear hb7)
          | (go_at_call 22; refine (awake14 _).mono ?_; rintro r w9 ⟨rfl, hb9⟩; have HB9 := Lib.hid hb9; clear hb9))
      have hfin : Below w.heap.size w w9 := WB.bl (Hid.out (And.right (by assumption)))
      go_wp2_with fail
      go_ret
      exact ⟨rfl, hfin⟩
    | true =>
      obtain ⟨hpl, hno⟩ := HWANT.out rfl
      have hmo := HMORE.out rfl (Tr.nowE t.L (kd, kk)) (Wk.nowE_key _ _)
      have hun := HUN.out hno
      have hpp := HPT.out.plus (k := (kd, kk)) hpl
      have hkp2 := fun q => hkp (Tr.nowE t.L (kd, kk)) q
      rw [Wk.nowE_key] at hkp2
      have hwf2 := fun V A cp hr H => hwf V A cp (Tr.nowE t.L (kd, kk)) hr H
      have hlk2 := fun V H => treeLook_any V M t kd kk H
      have hlr : Tr.lookR t.L kd kk = (Tr.nowE t.L (kd, kk), 0) := by unfold Tr.lookR; rw [if_neg (by simp [hpl])]
      simp only [hlr] at hlk2
      have hnn : kk ≠ [] := by
        have := (Tr.placeE_zero hpl).2
        rintro rfl
        simp [Nm.checkE] at this
      have hyk := Wk.nowE_key t.L (kd, kk)
      clear hwf hkp
      generalize Tr.nowE t.L (kd, kk) = x at hmo hpp hkp2 hwf2 hlk2 hyk
      obtain ⟨⟨xd, xn⟩, xg, xi, xk, xm, xt⟩ := x
      simp only [Prod.mk.injEq] at hyk
      obtain ⟨rfl, rfl⟩ := hyk
      obtain ⟨o2, ho2⟩ : ∃ o2, Wk.walk (Wk.plus kn ((xd, xn), xg, xi, xk, xm, xt)) p.toList follow lk = o2 := ⟨_, rfl⟩
      have hnl : ∀ q, Wk.walk (knownOf [] (alPut l (xd, xn) (((xd, xn), xg, xi, xk, xm, xt), q)) []) p.toList follow lk = o2 := fun q => by rw [hkp2 q]; exact ho2
      simp only [ho2] at hmo hwf2
      have hm2 : (Wk.outUsed o2).length ≤ 432 := by rw [← ho2]; exact Wk.walk_len _ _ _ hlk8
      obtain ⟨nd2, ⟨kd2, kk2⟩, er2, ⟨ni2, nk2, nm2, nt2⟩, us2⟩ := o2
      simp only [Wk.outUsed] at hmo hwf2 hnl hm2
      simp only [vEn, txt] at hlk2
      have hgt : us.length + 1 ≤ us2.length := by have := hmo.length_le; simpa using this
      have hget : us2[us.length]? = some (xd, xn) := by
        obtain ⟨r, hr⟩ := hmo
        rw [← hr]
        simp
      have HPP := Lib.hid hpp
      have HUN2 := Lib.hid hun
      have HWF2 := Lib.hid hwf2
      have HLK2 := Lib.hid hlk2
      have HNL := Lib.hid hnl
      have HKP2 := Lib.hid hkp2
      have HGET := Lib.hid hget
      clear hpl hno hmo hun hpp hkp2 hwf2 hlk2 hlr hnl ho2 hget HLAST HWANT HMORE HUN
      go_wp2_with fail
      go_loopw [18] (fun iv wx => ∃ k q : Nat, k ≤ us.length ∧ iv = .int .i64 k ∧ wx = w4.drewN q) (fun iv _ => us.length - (RowKit.intOf iv).toNat)
      case atStart => exact ⟨0, 0, by omega, rfl, rfl⟩
      case round =>
        obtain ⟨k, q, hk, rfl, rfl⟩ := hrel
        by_cases hlt : k < us.length
        · obtain ⟨ad, d1, n1, rfl, hbl, hx, p1, p2⟩ := HRU.out.key_at hlt
          have hne : ((d1, n1) : Key) ≠ (xd, xn) := fun e' => HUN2.out (by rw [← e']; exact List.mem_of_getElem? hx)
          have hq : ∀ V : World, (binOp .eql 32 (.agg #[.int .i64 d1, .string ⟨n1.toArray⟩]) (.agg #[.int .i64 xd, .string ⟨xn.toArray⟩])).run Tryz.prog V = .ok (.bool false) V := fun V => by
            have := eql_key (d1, n1) (xd, xn) V
            rw [decide_eq_false hne] at this
            exact this
          clear hne hx
          go_wp2_with fail
          go_quiet (fail)
          go_wp2_with fail
          go_roundw
          case rel => exact ⟨k + 1, _, by omega, by go_num, rfl⟩
          case measure => simp [RowKit.intOf] <;> omega
        · obtain rfl : k = us.length := by omega
          obtain ⟨w5, hw5⟩ : ∃ w5, w4.drewN q = w5 := ⟨_, rfl⟩
          have hb5 : Below w4.heap.size w4 (w4.drewN q) := below_drewN_ (Below.refl _ _) q
          have HI5 := Lib.hid (HI4.out.below hb5)
          have AO5 := Lib.hid (AO.out.below hb5)
          have HR5 := Lib.hid (HRU.out.below hb5)
          rw [hw5] at HI5 AO5 HR5 ⊢
          clear hw5 hb5 HI4 AO HRU o0 o1 o2 o3 o4 o5 o6 o7 o8 hlt
          obtain ⟨o0, o1, o2, o3, o4, o5, o6, o7, o8⟩ := out_cells AO5.out
          simp only at o2 o7
          go_wp2_with fail
          refine (HLK2.out w5 HI5.out.g.at_).mono ?_
          rintro r w6 ⟨rfl, hb6⟩
          have hb7 : Below w6.heap.size w6 (w6.alloc (.cells #[.int .i64 xd, .string ⟨xn.toArray⟩, .bool xg, .int .i64 xi, .int .i64 xk, .int .i64 xm, .string ⟨xt.toArray⟩] 36)) := (Below.refl _ _).alloc (Nat.le_refl _) _
          have AX : Hid (At (w6.alloc (.cells #[.int .i64 xd, .string ⟨xn.toArray⟩, .bool xg, .int .i64 xi, .int .i64 xk, .int .i64 xm, .string ⟨xt.toArray⟩] 36)) w6.heap.size 36 (cEn ((xd, xn), xg, xi, xk, xm, xt))) := Lib.hid (At.new w6 36 (cEn ((xd, xn), xg, xi, xk, xm, xt)))
          have HI7 := Lib.hid ((HI5.out.below hb6).below hb7)
          have AO7 := Lib.hid ((AO5.out.below hb6).below hb7)
          have HR7 := Lib.hid ((HR5.out.below hb6).below hb7)
          clear o0 o1 o2 o3 o4 o5 o6 o7 o8
          go_upto_region 20 with fail
          obtain ⟨w7, hw7⟩ : ∃ w7, w6.alloc (.cells #[.int .i64 xd, .string ⟨xn.toArray⟩, .bool xg, .int .i64 xi, .int .i64 xk, .int .i64 xm, .string ⟨xt.toArray⟩] 36) = w7 := ⟨_, rfl⟩
          rw [hw7] at AX HI7 AO7 HR7 ⊢
          obtain ⟨bx, hbx⟩ : ∃ bx, w6.heap.size = bx := ⟨_, rfl⟩
          rw [hbx] at AX ⊢
          clear hw7 hb6 hb7 hbx HI5 AO5 HR5
          obtain ⟨x0, x1, x2, x3, x4, x5, x6⟩ := en_cells AX.out
          simp only [txt] at x0 x1 x2 x3 x4 x5 x6
          go_wp2_with fail
          have hb8 : Below w7.heap.size w7 (w7.alloc (.cells #[.int .i64 xd, .string ⟨xn.toArray⟩, .bool xg, .int .i64 xi, .int .i64 xk, .int .i64 xm, .string ⟨xt.toArray⟩] 36)) := (Below.refl _ _).alloc (Nat.le_refl _) _
          refine (HWF2.out _ _ _ (rd_new w7 36 7 1 [.int .i64 xd, .string ⟨xn.toArray⟩, .bool xg, .int .i64 xi, .int .i64 xk, .int .i64 xm, .string ⟨xt.toArray⟩] rfl) (HI7.out.below hb8).ca).mono ?_
          rintro r w9 ⟨v9, rfl, hown9, hb9⟩
          obtain ⟨A9, c9, rfl⟩ := own_slice hown9
          simp only [vOut, outCells, txt] at hown9 ⊢
          have hb10 : Below w9.heap.size w9 (w9.alloc (.cells #[.bool nd2, .int .i64 kd2, .string ⟨kk2.toArray⟩, .int .i64 er2, .int .i64 ni2, .int .i64 nk2, .int .i64 nm2, .string ⟨nt2.toArray⟩, .slice A9 us2.length c9] 40)) := (Below.refl _ _).alloc (Nat.le_refl _) _
          have AF : Hid (At (w9.alloc (.cells #[.bool nd2, .int .i64 kd2, .string ⟨kk2.toArray⟩, .int .i64 er2, .int .i64 ni2, .int .i64 nk2, .int .i64 nm2, .string ⟨nt2.toArray⟩, .slice A9 us2.length c9] 40)) w9.heap.size 40 (outCells (nd2, (kd2, kk2), er2, (ni2, nk2, nm2, nt2), us2) (.slice A9 us2.length c9))) := Lib.hid (At.new w9 40 (outCells (nd2, (kd2, kk2), er2, (ni2, nk2, nm2, nt2), us2) (.slice A9 us2.length c9)))
          have hball : Below w7.heap.size w7 (w9.alloc (.cells #[.bool nd2, .int .i64 kd2, .string ⟨kk2.toArray⟩, .int .i64 er2, .int .i64 ni2, .int .i64 nk2, .int .i64 nm2, .string ⟨nt2.toArray⟩, .slice A9 us2.length c9] 40)) := (hb8.trans (hb9.mono hb8.size)).trans (hb10.mono (hb8.trans (hb9.mono hb8.size)).size)
          have HRF := Lib.hid ((Rd.of_own hown9).below hb10)
          have HI10 := Lib.hid (HI7.out.below hball)
          have AO10 := Lib.hid (AO7.out.below hball)
          have AX10 := Lib.hid (AX.out.below hball)
          clear x0 x1 x2 x3 x4 x5 x6
          go_upto_region 21 with fail
          obtain ⟨w10, hw10⟩ : ∃ w10, w9.alloc (.cells #[.bool nd2, .int .i64 kd2, .string ⟨kk2.toArray⟩, .int .i64 er2, .int .i64 ni2, .int .i64 nk2, .int .i64 nm2, .string ⟨nt2.toArray⟩, .slice A9 us2.length c9] 40) = w10 := ⟨_, rfl⟩
          rw [hw10] at AF HRF HI10 AO10 AX10 ⊢
          obtain ⟨bf, hbf⟩ : ∃ bf, w9.heap.size = bf := ⟨_, rfl⟩
          rw [hbf] at AF ⊢
          clear hw10 hb8 hb9 hb10 hball hbf hown9 HI7 AO7 HR7 AX
          obtain ⟨o0, o1, o2, o3, o4, o5, o6, o7, o8⟩ := out_cells AO10.out
          obtain ⟨f0, f1, f2, f3, f4, f5, f6, f7, f8⟩ := out_cells AF.out
          obtain ⟨x0, x1, x2, x3, x4, x5, x6⟩ := en_cells AX10.out
          simp only [txt] at o2 o7 f2 f7 x0 x1 x2 x3 x4 x5 x6
          obtain ⟨af, d1, n1, rfl, hbl, hx, p1, p2⟩ := HRF.out.key_at (k := us.length) (by omega)
          have hxe : ((d1, n1) : Key) = (xd, xn) := by
            have := hx.symm.trans HGET.out
            exact Option.some.inj this
          simp only [Prod.mk.injEq] at hxe
          obtain ⟨rfl, rfl⟩ := hxe
          have hq : ∀ V : World, (binOp .neq 32 (.agg #[.int .i64 d1, .string ⟨n1.toArray⟩]) (.agg #[.int .i64 d1, .string ⟨n1.toArray⟩])).run Tryz.prog V = .ok (.bool false) V := fun V => by
            have := neq_key (d1, n1) (d1, n1) V
            simpa [vKey, txt] using this
          have hlt2 : ¬ ((us2.length : Int) ≤ (us.length : Int)) := by omega
          have hlt3 : us.length < us2.length := by omega
          clear hx
          go_quiet (fail)
          clear f0 f1 f2 f3 f4 f5 f6 f7 f8 p1 p2
          have hput := fun nq => putN_any (w10.drewN nq) c e h l [] clk ((d1, n1), xg, xi, xk, xm, xt) hnn (HI10.out.below (below_drewN_ (Below.refl _ _) nq)).ca HLEN.out.2.1 (by have := HLEN.out.2.2; omega)
          simp only [vEn, txt] at hput
          have HPU := Lib.hid hput
          clear hput
          go_wp2_with fail
          refine (HPU.out _).mono ?_
          rintro r w11 ⟨rfl, hca, hkp⟩
          have HF11 := Lib.hid ((HI10.out.below (below_drewN_ (Below.refl _ _) _)).dent (hkp.mono fun k _ q => ⟨q.1, q.2.1⟩) hca)
          clear hca hkp o0 o1 o2 o3 o4 o5 o6 o7 o8 x0 x1 x2 x3 x4 x5 x6
          go_wp2_with fail
          go_roundw
          case rel => exact ⟨j + 1, _, clk + 1, by have := HLEN.out.1; simp only [Wk.outUsed] at this; omega, by go_num, HF11, by rw [HKP2.out]; exact HPP, by rw [HNL.out]; exact Lib.hid ⟨by have := HLEN.out.1; simp only [Wk.outUsed] at this ⊢; omega, by have := HLEN.out.2.1; omega, by have := HLEN.out.2.2; omega⟩⟩
          case measure => simp [RowKit.intOf] <;> omega
end Go.Proofs.YtoacobcbloljkaaGreatDoor
