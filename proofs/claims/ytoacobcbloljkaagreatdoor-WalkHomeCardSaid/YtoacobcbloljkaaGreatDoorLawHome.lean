/-
  The walk of the law WalkHome.
-/
import Derived.Test.YtoacobcbloljkaaGreatDoorFilled
import Derived.Test.YtoacobcbloljkaaGreatDoorWalkPure2
import Derived.Test.YtoacobcbloljkaaGreatDoorAwake14
import Derived.Test.YtoacobcbloljkaaGreatDoorRegF
namespace Go.Proofs.YtoacobcbloljkaaGreatDoor
open Go.RowKit

theorem elemNds : Elem Tryz.prog 59 34 4 40 := Elem.mk_ Tryz.underlying59 info_nodes rfl (by decide)
theorem info_node4 : (Tryz.prog.info? 34).map (·.size) = some 4 := by kernel_rfl

/-- What lies in memory while a path is gone through name by name. -/
structure HM (w : World) (M : TM) (t : Tr.T) (bo ba N : Nat) (o : Wk.Out) (Au : Option Addr) (cu : Nat) (a : Nd) (v : Value) (ups : List Nd) (As : Option Addr) (ss : List (List UInt8)) (W : World) : Prop where
  tr : TreeAt W M t
  ao : At W bo 40 (outCells o (.slice Au o.2.2.2.2.length cu))
  aa : At W ba 34 (cNd a)
  ro : W.ownsRow N 34 4 v ups.length (cNds ups)
  rs : Rd W 1 As ss.length (txts ss)
  bl : Below w.heap.size w W
  hN : N ≤ W.heap.size
  hba : w.heap.size ≤ ba ∧ ba < N
  hbo : bo < ba
  hM : ∀ k, M.own k → k < ba
  had : ∀ ad, As = some ad → ad.block < ba
section
variable {w W W' : World} {M : TM} {t : Tr.T} {bo ba N : Nat} {o : Wk.Out} {Au : Option Addr} {cu : Nat} {a a' : Nd} {v v' : Value} {ups ups' : List Nd} {As : Option Addr} {ss : List (List UInt8)}
theorem HM.below (H : HM w M t bo ba N o Au cu a v ups As ss W) (hb : Below W.heap.size W W') : HM w M t bo ba N o Au cu a v ups As ss W' :=
  ⟨H.tr.below hb, H.ao.below hb, H.aa.below hb, own_below H.ro hb, H.rs.below hb, H.bl.trans (hb.mono H.bl.size), Nat.le_trans H.hN hb.size, H.hba, H.hbo, H.hM, H.had⟩
/-- at = another node. -/
theorem HM.setAt (H : HM w M t bo ba N o Au cu a v ups As ss W) (hk : Kp (fun k => k ≠ ba) W W') (ha : At W' ba 34 (cNd a')) : HM w M t bo ba N o Au cu a' v ups As ss W' := by
  have h1 := H.hba
  have h2 := H.hbo
  refine ⟨H.tr.kp hk (fun k q => by have := H.hM k q; omega), H.ao.kp hk (by omega), ha, own_kp H.ro hk (fun k e => by have := (H.ro.lt k e).1; omega), H.rs.kp0 hk (fun ad' e _ => by have := H.had _ e; omega), H.bl.trans (hk.to_below H.bl.size fun k hk => by omega), Nat.le_trans H.hN hk.size, H.hba, H.hbo, H.hM, H.had⟩
/-- up = append(up, ..). -/
theorem HM.push (H : HM w M t bo ba N o Au cu a v ups As ss W) {ob : Obj} (hown : W'.ownsRow N 34 4 v' ups'.length (cNds ups')) (hg : (W.alloc ob).grownBy W' v.ownBlock) : HM w M t bo ba N o Au cu a v' ups' As ss W' := by
  have h1 := H.hba
  have h2 := H.hbo
  have hk : Kp (fun k => k < N) W W' := ((Kp.refl _ W).alloc ob).grown hg fun k e _ q => by have := (H.ro.lt k e).1; omega
  refine ⟨H.tr.kp hk (fun k q => by have := H.hM k q; omega), H.ao.kp hk (by omega), H.aa.kp hk (by omega), hown, H.rs.kp0 hk (fun ad' e _ => by have := H.had _ e; omega), H.bl.trans (hk.to_below H.bl.size fun k hk => by omega), Nat.le_trans H.hN hk.size, H.hba, H.hbo, H.hM, H.had⟩
/-- up = up[:m]. -/
theorem HM.cut {A : Option Addr} {n c : Nat} (H : HM w M t bo ba N o Au cu a (.slice A n c) ups As ss W) {x : Nd} (hu : ups = ups' ++ [x]) : HM w M t bo ba N o Au cu a (.slice A ups'.length c) ups' As ss W := by
  subst hu
  have hr := H.ro
  rw [List.length_append] at hr
  have hn : n = ups'.length + 1 := by
    rcases hr with ⟨_, ⟨_, h0⟩ | ⟨g, cap, cur, hv, _⟩⟩
    · simp at h0
    · injection hv
  subst hn
  have := own_cut hr (m := ups'.length) (by omega) (by omega)
  have e : (cNds (ups' ++ [x])).take (ups'.length * 4) = cNds ups' := by
    have e1 : cNds (ups' ++ [x]) = cNds ups' ++ cNds [x] := by simp [cNds]
    rw [e1, ← cNds_length, List.take_left]
  rw [e] at this
  exact ⟨H.tr, H.ao, H.aa, this, H.rs, H.bl, H.hN, H.hba, H.hbo, H.hM, H.had⟩
theorem HM.drew (H : HM w M t bo ba N o Au cu a v ups As ss W) : HM w M t bo ba N o Au cu a v ups As ss W.drew := H.below (below_drew (Below.refl _ _))
end

set_option maxRecDepth 100000 in
set_option maxHeartbeats 4000000 in
theorem walkHome_walk (A : Option Addr) (n cp : Nat) (s : List Tr.Op) (p : ByteArray) (follow : Bool) (links : Int) (hl0 : -9223372036854775808 ≤ links) (hl1 : links ≤ 9223372036854775807) (w : World)
    (hs : Rd w 7 A n (cOps s)) (hn : n ≤ 1759218604391) :
    Calls Tryz.prog 4 #[.slice A n cp, .string p, .bool follow, .int .i64 links] w fun e w' => e = .returned (.bool true) ∧ Below w.heap.size w w' := by
  have hfi := filled_any w A n cp s hs hn
  generalize Tr.run Tr.t0 s = t at hfi
  have hsp := fun W => split_path p W
  have hlen := Nm.splitR_len p.toList
  obtain ⟨lk, hlk⟩ : ∃ lk, (min (max links 0) 8).toNat = lk := ⟨_, rfl⟩
  have hlk0 : links ≤ 0 → lk = 0 := fun h => by omega
  have hwk := fun V c e h l wh clk H => walk_any V none 0 0 [] p follow links c e h l wh clk (by omega) hl0 hl1 (Rd.empty _ _ _) H
  simp only [hlk] at hwk
  have hfine : ∀ x ∈ (Nm.splitR p.toList).1, Wk.Fine x := Wk.fine_split
  obtain ⟨o, ho⟩ : ∃ o, Wk.walk (Wk.knT t.L) p.toList follow lk = o := ⟨_, rfl⟩
  have hgo : (Nm.splitR p.toList).2.2 ≠ 0 ∧ o = Wk.fail (Nm.splitR p.toList).2.2 [] ∨ (Nm.splitR p.toList).2.2 = 0 ∧ Wk.HomeAt t follow lk o (Nm.splitR p.toList).1 (Nm.splitR p.toList).2.1 0 rootNd [] := by
    rw [← ho]
    unfold Wk.walk
    by_cases h : (Nm.splitR p.toList).2.2 ≠ 0
    · rw [if_pos h]
      exact .inl ⟨h, rfl⟩
    · rw [if_neg h]
      exact .inr ⟨by omega, Wk.HomeAt.start rfl⟩
  have hneed : Tr.Good t → o.1 = false := fun hg => by
    rw [← ho]
    exact Wk.home_walk hg _ _ _
  generalize Nm.splitR p.toList = R at hsp hlen hfine hgo
  obtain ⟨ss, dir, er⟩ := R
  simp only at hsp hlen hfine hgo
  have HFI := Lib.hid hfi
  have HSP := Lib.hid hsp
  have HWK := Lib.hid hwk
  have HFN := Lib.hid hfine
  have HGO := Lib.hid hgo
  have HND := Lib.hid hneed
  have HO := Lib.hid ho
  have HLK0 := Lib.hid hlk0
  clear hfi hsp hwk hs hfine hgo hneed ho hlk0 hlk
  go_enter Tryz.func4, Tryz.ntmps4
  go_wp2_with fail
  refine HFI.out.mono ?_
  rintro r w1 ⟨M, c, e, h, rfl, hf1⟩
  have hgd := hf1.g.at_.good
  have HGD := Lib.hid hgd
  have hnd := HND.out hgd
  have hw1 := HWK.out w1 c e h _ _ _ hf1.ca
  rw [known_fill hgd, HO.out] at hw1
  have HW1 := Lib.hid hw1
  have HF1 := Lib.hid hf1
  clear hf1 hgd hw1 HWK HFI HO HND
  go_wp2_with fail
  refine HW1.out.mono ?_
  rintro r w2 ⟨v2, rfl, hown2, hb2⟩
  obtain ⟨Au, cu, rfl⟩ := own_slice hown2
  have HLE : Hid (o.2.2.2.2.length ≤ maxLen) := own_le hown2
  obtain ⟨nd, ⟨kd, kn⟩, e3, ⟨ni, nk, nm, nt⟩, us⟩ := o
  simp only at hnd
  subst hnd
  simp only [vOut, outCells, txt] at hown2 ⊢
  have hb3 : Below w2.heap.size w2 (w2.alloc (.cells #[.bool false, .int .i64 kd, .string ⟨kn.toArray⟩, .int .i64 e3, .int .i64 ni, .int .i64 nk, .int .i64 nm, .string ⟨nt.toArray⟩, .slice Au us.length cu] 40)) := (Below.refl _ _).alloc (Nat.le_refl _) _
  have AO : Hid (At (w2.alloc (.cells #[.bool false, .int .i64 kd, .string ⟨kn.toArray⟩, .int .i64 e3, .int .i64 ni, .int .i64 nk, .int .i64 nm, .string ⟨nt.toArray⟩, .slice Au us.length cu] 40)) w2.heap.size 40 (outCells (false, (kd, kn), e3, (ni, nk, nm, nt), us) (.slice Au us.length cu))) := Lib.hid (At.new w2 40 (outCells (false, (kd, kn), e3, (ni, nk, nm, nt), us) (.slice Au us.length cu)))
  have HF2 := Lib.hid ((HF1.out.below hb2).below hb3)
  have HMO : Hid (∀ k, M.own k → k < w2.heap.size) := Lib.hid (fun k q => Nat.lt_of_lt_of_le (HF1.out.g.at_.F.own_lt q) hb2.size)
  go_upto_region 5 with fail
  obtain ⟨w3, hw3⟩ : ∃ w3, w2.alloc (.cells #[.bool false, .int .i64 kd, .string ⟨kn.toArray⟩, .int .i64 e3, .int .i64 ni, .int .i64 nk, .int .i64 nm, .string ⟨nt.toArray⟩, .slice Au us.length cu] 40) = w3 := ⟨_, rfl⟩
  rw [hw3] at AO HF2 ⊢
  have hs3 : w3.heap.size = w2.heap.size + 1 := by rw [← hw3]; simp
  clear hw3 hb3 hb2 hown2 HF1 HW1
  obtain ⟨o0, o1, o2, o3, o4, o5, o6, o7, o8⟩ := out_cells AO.out
  go_wp2_with fail
  refine (HSP.out _).mono ?_
  rintro r w4 ⟨v4, rfl, hown4, hb4⟩
  obtain ⟨As, cs, rfl⟩ := own_slice hown4
  have HO4 := Lib.hid hown4
  have HF4 := Lib.hid (HF2.out.below hb4)
  have AO4 := Lib.hid (AO.out.below hb4)
  clear o0 o1 o2 o3 o4 o5 o6 o7 o8 HSP HF2 AO hown4
  obtain ⟨o0, o1, o2, o3, o4, o5, o6, o7, o8⟩ := out_cells AO4.out
  simp only at o2 o7
  rcases HGO.out with ⟨hne, hofail⟩ | ⟨h0, hhome⟩
  · have hneb : (er != 0) = true := by simpa using hne
    unfold Wk.fail at hofail
    simp only [Prod.mk.injEq] at hofail
    obtain ⟨-, -, rfl, -, rfl⟩ := hofail
    clear hne
    go_wp2_with fail
    refine (awake14 _).mono ?_
    rintro r w5 ⟨rfl, hb5⟩
    go_wp2_with fail
    go_ret
    exact ⟨rfl, HF4.out.g.bl.trans (hb5.mono HF4.out.g.bl.size)⟩
  · subst h0
    have HH := Lib.hid hhome
    clear hhome HGO
    go_upto_region 11 with fail
    have hs4 := hb4.size
    have hal : ∀ ad, As = some ad → ad.block < w4.heap.size := fun ad e' => (own_lt_ HO4.out ad e').2
    have hss := (Rd.of_own HO4.out)
    have HM5 : Hid (HM w M t w2.heap.size w4.heap.size (w4.heap.size + 1) (false, (kd, kn), e3, (ni, nk, nm, nt), us) Au cu rootNd (.slice none 0 0) [] As ss (w4.alloc (.cells #[.int .i64 1, .int .i64 1, .int .i64 0, .string ⟨#[]⟩] 34))) := by
      refine Lib.hid ⟨HF4.out.g.at_.alloc _, AO4.out.alloc _, At.new w4 34 (cNd rootNd), World.ownsRow_nil _ _ _ _, hss.alloc _, HF4.out.g.bl.alloc HF4.out.g.bl.size _, by simp, ⟨HF4.out.g.bl.size, by omega⟩, by omega, fun k q => ?_, hal⟩
      have := HMO.out k q
      omega
    obtain ⟨w5, hw5⟩ : ∃ w5, w4.alloc (.cells #[.int .i64 1, .int .i64 1, .int .i64 0, .string ⟨#[]⟩] 34) = w5 := ⟨_, rfl⟩
    rw [hw5] at HM5 ⊢
    obtain ⟨ba, hba⟩ : ∃ ba, w4.heap.size = ba := ⟨_, rfl⟩
    obtain ⟨bo, hbo⟩ : ∃ bo, w2.heap.size = bo := ⟨_, rfl⟩
    rw [hba, hbo] at HM5 ⊢
    clear hw5 hss hal hs4 hs3 hb4 HF4 AO4 HMO HO4 o0 o1 o2 o3 o4 o5 o6 o7 o8 hba hbo
    go_wp2_with fail
    go_loopw [17, 18] (fun uv iv wx => ∃ (j : Nat) (a : Nd) (ups : List Nd) (A5 : Option Addr) (c5 : Nat), j ≤ ss.length ∧ uv = .slice A5 ups.length c5 ∧ iv = .int .i64 j ∧ ups.length ≤ j ∧ Hid (HM w M t bo ba (ba + 1) (false, (kd, kn), e3, (ni, nk, nm, nt), us) Au cu a (.slice A5 ups.length c5) ups As ss wx) ∧ Hid (Wk.HomeAt t follow lk (false, (kd, kn), e3, (ni, nk, nm, nt), us) ss dir j a ups)) (fun _ iv _ => ss.length - (RowKit.intOf iv).toNat)
    case atStart => exact ⟨0, rootNd, [], none, 0, by omega, rfl, rfl, by simp, HM5, HH⟩
    case round =>
      obtain ⟨j, ⟨ai, ak, am, at4⟩, ups, A5, c5, hj, rfl, rfl, hul, HI, HJ⟩ := hrel
      obtain ⟨o0, o1, o2, o3, o4, o5, o6, o7, o8⟩ := out_cells HI.out.ao
      simp only at o2 o7
      have q0 : wr.cell? ⟨ba, 0, none⟩ = some (.int .i64 ai) := HI.out.aa.cell 0
      have q1 : wr.cell? ⟨ba, 1, none⟩ = some (.int .i64 ak) := HI.out.aa.cell 1
      have q2 : wr.cell? ⟨ba, 2, none⟩ = some (.int .i64 am) := HI.out.aa.cell 2
      have q3 : wr.cell? ⟨ba, 3, none⟩ = some (.string ⟨at4.toArray⟩) := HI.out.aa.cell 3
      have hbl := HI.out.bl
      have HBL := Lib.hid hbl
      clear hbl
      by_cases hlt : j < ss.length
      · obtain ⟨ad, sb, rfl, hadb, hs0, hc0⟩ := HI.out.rs.str_at hlt
        by_cases hk1 : ak = 1
        · subst hk1
          cases d1 : (sb.toList == [46]) with
          | true =>
            have hd1 : sb.toList = [46] := by simpa using d1
            rw [hd1] at hs0
            have HJ2 := Lib.hid (HJ.out.dot hs0 rfl)
            clear hd1 hs0
            go_wp2_with fail
            go_roundw
            case rel => exact ⟨j + 1, _, ups, A5, c5, by omega, rfl, by go_num, by omega, HI, HJ2⟩
            case measure => simp [RowKit.intOf] <;> omega
          | false =>
            have hd1 : sb.toList ≠ [46] := by simpa using d1
            cases d2 : (sb.toList == [46, 46]) with
            | true =>
              have hd2 : sb.toList = [46, 46] := by simpa using d2
              rw [hd2] at hs0
              rcases List.eq_nil_or_concat ups with rfl | ⟨up', ⟨bi, bk, bm, bt⟩, rfl⟩
              · have HJ2 := Lib.hid (HJ.out.stay hs0 rfl)
                clear hd1 hd2 hs0
                go_wp2_with fail
                go_roundw
                case rel => exact ⟨j + 1, _, [], A5, c5, by omega, rfl, by go_num, by simp, HI, HJ2⟩
                case measure => simp [RowKit.intOf] <;> omega
              · rw [List.concat_eq_append] at *
                have HJ2 := Lib.hid (HJ.out.back hs0 rfl)
                have hro := Rd.of_own HI.out.ro
                have hln : (up' ++ [((bi, bk, bm, bt) : Nd)]).length = up'.length + 1 := by simp
                rw [hln] at hro hul ⊢
                obtain ⟨ag, xi, xk, xm, xt, rfl, hagb, hx, r0, r1, r2, r3⟩ := hro.nd_at (k := up'.length) (by omega)
                have hxe : (bi, bk, bm, bt) = (xi, xk, xm, xt) := by simpa using hx
                simp only [Prod.mk.injEq] at hxe
                obtain ⟨rfl, rfl, rfl, rfl⟩ := hxe
                have hcap := (own_cap HI.out.ro).1
                have hcap2 := (own_cap HI.out.ro).2
                unfold maxLen at hcap2
                rw [hln] at hcap
                clear hd1 hd2 hs0 hx hro
                go_wp2_with ((with_reducible refine wpList_isStore 34 (.tmp 16) (.tmp 91) ?_); refine wpList_hold ?_)
                refine Lib.hid ?_
                refine wpList_store_blk rfl 34 (.tmp 16) (.tmp 91) rfl ba 0 (vNd (bi, bk, bm, bt)) rfl rfl HI.out.aa info_node4 ?c2 rfl ?_
                case c2 => exact Nat.le_refl 4
                intro w6 hr6 hk6 hz6
                have HI6 := Lib.hid ((HI.out.setAt (a' := (bi, bk, bm, bt)) hk6 hr6).cut (A := some ag) rfl)
                clear hr6 hk6 hz6 r0 r1 r2 r3
                go_wp2_with fail
                go_roundw
                case rel => exact ⟨j + 1, _, up', some ag, c5, by omega, rfl, by go_num, by omega, HI6, HJ2⟩
                case measure => simp [RowKit.intOf] <;> omega
            | false =>
              have hd2 : sb.toList ≠ [46, 46] := by simpa using d2
              have hfn := HFN.out _ (List.mem_of_getElem? hs0)
              have hpl : Tr.placeE t.L ai sb.toList = 0 := HJ.out.place hfn rfl hd2 hd1
              have hlk := fun V H => treeLook_any V M t ai sb.toList H
              have hlr : Tr.lookR t.L ai sb.toList = (Tr.nowE t.L (ai, sb.toList), 0) := by unfold Tr.lookR; rw [if_neg (by omega)]
              simp only [hlr, mk_toList] at hlk
              have hneg := fun q => HJ.out.neg hs0 hfn rfl hd2 hd1 q
              have hlink := fun q1 q2 q3 q4 => HJ.out.link hs0 hfn rfl hd2 hd1 q1 q2 q3 q4
              have hstep := fun q1 q2 => HJ.out.step HGD.out hs0 hfn rfl hd2 hd1 q1 q2
              generalize Tr.nowE t.L (ai, sb.toList) = y at hlk hneg hlink hstep
              obtain ⟨⟨yd, yn⟩, yg, yi, yk, ym, yt⟩ := y
              simp only [vEn, txt] at hlk hneg hlink hstep
              have HLK := Lib.hid hlk
              have HNG := Lib.hid hneg
              have HLN := Lib.hid hlink
              have HST := Lib.hid hstep
              clear hlk hneg hlink hstep hlr hpl hfn hd1 hd2 hs0
              have hen : ∀ (args : Array Value) (V : World), (callFunc 26 args).run Tryz.prog V = .ok (.enter 26 args) V := enters_of Tryz.func26 (by kernel_rfl) rfl
              have hltI : (j : Int) < (ss.length : Int) := by omega
              have hltI2 : 0 ≤ (j : Int) := by omega
              go_upto_region 22 with fail
              --REG r22
              have hSoft : Softs [isV (.pointer (some ⟨M.t, 0, none⟩)), isV (.pointer (some ⟨ba, 0, none⟩)), isV (.int .i64 ai), isV (.slice (some ad) ss.length cs), isV (.int .i64 j), isV (.pointer (some (ad.add j))), isV (.string sb), isV (.tuple #[.agg #[.int .i64 yd, .string ⟨yn.toArray⟩, .bool yg, .int .i64 yi, .int .i64 yk, .int .i64 ym, .string ⟨yt.toArray⟩], .int .i64 0]), isV (.tuple #[.agg #[.int .i64 yd, .string ⟨yn.toArray⟩, .bool yg, .int .i64 yi, .int .i64 yk, .int .i64 ym, .string ⟨yt.toArray⟩], .int .i64 0]), isV (.agg #[.int .i64 yd, .string ⟨yn.toArray⟩, .bool yg, .int .i64 yi, .int .i64 yk, .int .i64 ym, .string ⟨yt.toArray⟩]), isV (.int .i64 0), fun u V => ∃ g : Nat, u = .pointer (some ⟨g, 0, none⟩) ∧ wr.heap.size ≤ g ∧ Hid (At V g 36 [.int .i64 0, .string ⟨#[]⟩, .bool false, .int .i64 0, .int .i64 0, .int .i64 0, .string ⟨#[]⟩]), fun u V => ∃ g : Nat, u = .pointer (some ⟨g, 0, none⟩) ∧ wr.heap.size ≤ g ∧ Hid (At V g 36 [.int .i64 yd, .string ⟨yn.toArray⟩, .bool yg, .int .i64 yi, .int .i64 yk, .int .i64 ym, .string ⟨yt.toArray⟩]), isV (.int .i64 0)] := ⟨soft_is, soft_is, soft_is, soft_is, soft_is, soft_is, soft_is, soft_is, soft_is, soft_is, soft_is, fun u V V' hb ⟨g, e, hg, h⟩ => ⟨g, e, hg, Lib.hid (h.out.below hb)⟩, fun u V V' hb ⟨g, e, hg, h⟩ => ⟨g, e, hg, Lib.hid (h.out.below hb)⟩, soft_is, trivial⟩
              refine wp_region_facts (by kernel_rfl) ([98, 99, 100, 101, 102, 103, 104, 105, 97, 106, 107, 19, 19, 20] : List Tmp) ([7, 2, 7, 5, 5, 6, 7, 8, 14, 12, 13, 12, 14, 14] : List Nat) [isV (.pointer (some ⟨M.t, 0, none⟩)), isV (.pointer (some ⟨ba, 0, none⟩)), isV (.int .i64 ai), isV (.slice (some ad) ss.length cs), isV (.int .i64 j), isV (.pointer (some (ad.add j))), isV (.string sb), isV (.tuple #[.agg #[.int .i64 yd, .string ⟨yn.toArray⟩, .bool yg, .int .i64 yi, .int .i64 yk, .int .i64 ym, .string ⟨yt.toArray⟩], .int .i64 0]), isV (.tuple #[.agg #[.int .i64 yd, .string ⟨yn.toArray⟩, .bool yg, .int .i64 yi, .int .i64 yk, .int .i64 ym, .string ⟨yt.toArray⟩], .int .i64 0]), isV (.agg #[.int .i64 yd, .string ⟨yn.toArray⟩, .bool yg, .int .i64 yi, .int .i64 yk, .int .i64 ym, .string ⟨yt.toArray⟩]), isV (.int .i64 0), fun u V => ∃ g : Nat, u = .pointer (some ⟨g, 0, none⟩) ∧ wr.heap.size ≤ g ∧ Hid (At V g 36 [.int .i64 0, .string ⟨#[]⟩, .bool false, .int .i64 0, .int .i64 0, .int .i64 0, .string ⟨#[]⟩]), fun u V => ∃ g : Nat, u = .pointer (some ⟨g, 0, none⟩) ∧ wr.heap.size ≤ g ∧ Hid (At V g 36 [.int .i64 yd, .string ⟨yn.toArray⟩, .bool yg, .int .i64 yi, .int .i64 yk, .int .i64 ym, .string ⟨yt.toArray⟩]), isV (.int .i64 0)] (fun V => Hid (Below wr.heap.size wr V)) rfl (by simp) (by kernel_rfl) (by kernel_rfl) (by kernel_rfl) ?hB ?steps ?hend
              case hB => exact Lib.hid (below_drew (Below.refl _ _))
              case steps =>
                refine (?gen : ∀ a1 : Act, _ = a1 → StepsF _ _ _ _ _ _ a1 _ _) _ rfl
                intro a1 ha1
                have hs1 : ∀ d ∈ ([98, 99, 100, 101, 102, 103, 104, 105, 97, 106, 107, 19, 19, 20] : List Tmp), d < a1.tmps.size := by rw [← ha1]; simp
                have B10 : ∀ y, (putsA y ([98, 99, 100, 101, 102, 103, 104, 105, 97, 106, 107, 19, 19, 20] : List Tmp) a1).tmps[10]?.getD undef = .pointer (some ⟨M.t, 0, none⟩) := fun y => puts_norm0 (by decide) (by rw [← ha1]; rfl)
                have B13 : ∀ y, (putsA y ([98, 99, 100, 101, 102, 103, 104, 105, 97, 106, 107, 19, 19, 20] : List Tmp) a1).tmps[13]?.getD undef = .slice (some ad) ss.length cs := fun y => puts_norm0 (by decide) (by rw [← ha1]; rfl)
                have B16 : ∀ y, (putsA y ([98, 99, 100, 101, 102, 103, 104, 105, 97, 106, 107, 19, 19, 20] : List Tmp) a1).tmps[16]?.getD undef = .pointer (some ⟨ba, 0, none⟩) := fun y => puts_norm0 (by decide) (by rw [← ha1]; rfl)
                have B18 : ∀ y, (putsA y ([98, 99, 100, 101, 102, 103, 104, 105, 97, 106, 107, 19, 19, 20] : List Tmp) a1).tmps[18]?.getD undef = .int .i64 j := fun y => puts_norm0 (by decide) (by rw [← ha1]; rfl)
                clear ha1
                show StepsF _ _ _ _ _ _ _ _ [_, _, _, _, _, _, _, _, _, _, _, _, _, _]
                iterate 14 (with_reducible refine stepsF_cons ?_ ?_; rotate_left)
                with_reducible exact stepsF_nil
                · rintro y W hB ⟨-⟩
                  exact sf_value hB rfl rfl (v := .pointer (some ⟨M.t, 0, none⟩)) (by simp [execOp, B10, go_sem]) rfl
                · rintro y W hB ⟨-⟩
                  exact sf_value hB rfl rfl (v := .pointer (some ⟨ba, 0, none⟩)) (by simp [execOp, B16, go_sem]) rfl
                · rintro y W hB ⟨d1, -⟩
                  have e99 : y 99 = .pointer (some ⟨ba, 0, none⟩) := d1
                  have N99 : (putsA y ([98, 99, 100, 101, 102, 103, 104, 105, 97, 106, 107, 19, 19, 20] : List Tmp) a1).tmps[99]?.getD undef = .pointer (some ⟨ba, 0, none⟩) := puts_norm (by decide) hs1 e99
                  have c0 : W.cell? ⟨ba, 0, none⟩ = some (.int .i64 ai) := (HI.out.below hB.out).aa.cell 0
                  exact sf_value hB rfl rfl (v := .int .i64 ai) (by simp [execOp, N99, c0, go_sem]) rfl
                · rintro y W hB ⟨-⟩
                  exact sf_value hB rfl rfl (v := .slice (some ad) ss.length cs) (by simp [execOp, B13, go_sem]) rfl
                · rintro y W hB ⟨-⟩
                  exact sf_value hB rfl rfl (v := .int .i64 j) (by simp [execOp, B18, go_sem]) rfl
                · rintro y W hB ⟨d3, d4, -⟩
                  have e101 : y 101 = .slice (some ad) ss.length cs := d3
                  have N101 : (putsA y ([98, 99, 100, 101, 102, 103, 104, 105, 97, 106, 107, 19, 19, 20] : List Tmp) a1).tmps[101]?.getD undef = .slice (some ad) ss.length cs := puts_norm (by decide) hs1 e101
                  have e102 : y 102 = .int .i64 j := d4
                  have N102 : (putsA y ([98, 99, 100, 101, 102, 103, 104, 105, 97, 106, 107, 19, 19, 20] : List Tmp) a1).tmps[102]?.getD undef = .int .i64 j := puts_norm (by decide) hs1 e102
                  exact sf_value hB rfl rfl (v := .pointer (some (ad.add j))) (by simp [execOp, N101, N102, hltI, hltI2, go_sem]) rfl
                · rintro y W hB ⟨d5, -⟩
                  have e103 : y 103 = .pointer (some (ad.add j)) := d5
                  have N103 : (putsA y ([98, 99, 100, 101, 102, 103, 104, 105, 97, 106, 107, 19, 19, 20] : List Tmp) a1).tmps[103]?.getD undef = .pointer (some (ad.add j)) := puts_norm (by decide) hs1 e103
                  have c1 : W.cell? (ad.add j) = some (.string sb) := (hB.out.cell (p := ad.add j) (by rw [add_block]; exact hadb)).trans hc0
                  exact sf_value hB rfl rfl (v := .string sb) (by simp [execOp, N103, c1, go_sem]) rfl
                · rintro y W hB ⟨d0, d2, d6, -⟩
                  have e98 : y 98 = .pointer (some ⟨M.t, 0, none⟩) := d0
                  have E98 : (putsA y ([98, 99, 100, 101, 102, 103, 104, 105, 97, 106, 107, 19, 19, 20] : List Tmp) a1).eval (.tmp 98) = .pointer (some ⟨M.t, 0, none⟩) := puts_eval (by decide) hs1 e98
                  have e100 : y 100 = .int .i64 ai := d2
                  have E100 : (putsA y ([98, 99, 100, 101, 102, 103, 104, 105, 97, 106, 107, 19, 19, 20] : List Tmp) a1).eval (.tmp 100) = .int .i64 ai := puts_eval (by decide) hs1 e100
                  have e104 : y 104 = .string sb := d6
                  have E104 : (putsA y ([98, 99, 100, 101, 102, 103, 104, 105, 97, 106, 107, 19, 19, 20] : List Tmp) a1).eval (.tmp 104) = .string sb := puts_eval (by decide) hs1 e104
                  refine sf_enter hSoft rfl rfl (exec_call3 (f := 26) rfl hen E98 E100 E104) ?_
                  refine (HLK.out W (HI.out.tr.below hB.out)).mono ?_
                  rintro e' w' ⟨rfl, hb⟩
                  exact ⟨_, rfl, hb, Lib.hid (hB.out.trans (hb.mono hB.out.size)), rfl⟩
                · rintro y W hB ⟨d7, -⟩
                  have e105 : y 105 = .tuple #[.agg #[.int .i64 yd, .string ⟨yn.toArray⟩, .bool yg, .int .i64 yi, .int .i64 yk, .int .i64 ym, .string ⟨yt.toArray⟩], .int .i64 0] := d7
                  have N105 : (putsA y ([98, 99, 100, 101, 102, 103, 104, 105, 97, 106, 107, 19, 19, 20] : List Tmp) a1).tmps[105]?.getD undef = .tuple #[.agg #[.int .i64 yd, .string ⟨yn.toArray⟩, .bool yg, .int .i64 yi, .int .i64 yk, .int .i64 ym, .string ⟨yt.toArray⟩], .int .i64 0] := puts_norm (by decide) hs1 e105
                  exact sf_value hB rfl rfl (v := .tuple #[.agg #[.int .i64 yd, .string ⟨yn.toArray⟩, .bool yg, .int .i64 yi, .int .i64 yk, .int .i64 ym, .string ⟨yt.toArray⟩], .int .i64 0]) (by simp [execOp, N105, go_sem]) rfl
                · rintro y W hB ⟨d8, -⟩
                  have e97 : y 97 = .tuple #[.agg #[.int .i64 yd, .string ⟨yn.toArray⟩, .bool yg, .int .i64 yi, .int .i64 yk, .int .i64 ym, .string ⟨yt.toArray⟩], .int .i64 0] := d8
                  have N97 : (putsA y ([98, 99, 100, 101, 102, 103, 104, 105, 97, 106, 107, 19, 19, 20] : List Tmp) a1).tmps[97]?.getD undef = .tuple #[.agg #[.int .i64 yd, .string ⟨yn.toArray⟩, .bool yg, .int .i64 yi, .int .i64 yk, .int .i64 ym, .string ⟨yt.toArray⟩], .int .i64 0] := puts_norm (by decide) hs1 e97
                  exact sf_value hB rfl rfl (v := .agg #[.int .i64 yd, .string ⟨yn.toArray⟩, .bool yg, .int .i64 yi, .int .i64 yk, .int .i64 ym, .string ⟨yt.toArray⟩]) (by simp [execOp, N97, go_sem]) rfl
                · rintro y W hB ⟨d8, -, -⟩
                  have e97 : y 97 = .tuple #[.agg #[.int .i64 yd, .string ⟨yn.toArray⟩, .bool yg, .int .i64 yi, .int .i64 yk, .int .i64 ym, .string ⟨yt.toArray⟩], .int .i64 0] := d8
                  have N97 : (putsA y ([98, 99, 100, 101, 102, 103, 104, 105, 97, 106, 107, 19, 19, 20] : List Tmp) a1).tmps[97]?.getD undef = .tuple #[.agg #[.int .i64 yd, .string ⟨yn.toArray⟩, .bool yg, .int .i64 yi, .int .i64 yk, .int .i64 ym, .string ⟨yt.toArray⟩], .int .i64 0] := puts_norm (by decide) hs1 e97
                  exact sf_value hB rfl rfl (v := .int .i64 0) (by simp [execOp, N97, go_sem]) rfl
                · rintro y W hB ⟨-⟩
                  have hz : (zeroValue 36).run Tryz.prog W = .ok (.agg #[.int .i64 0, .string ⟨#[]⟩, .bool false, .int .i64 0, .int .i64 0, .int .i64 0, .string ⟨#[]⟩]) W := by kernel_rfl
                  have hb1 : Below W.heap.size W (W.alloc (.cells #[.int .i64 0, .string ⟨#[]⟩, .bool false, .int .i64 0, .int .i64 0, .int .i64 0, .string ⟨#[]⟩] 36)) := (Below.refl _ _).alloc (Nat.le_refl _) _
                  exact sf_new hSoft rfl rfl (v := .pointer (some ⟨W.heap.size, 0, none⟩)) (W' := W.alloc (.cells #[.int .i64 0, .string ⟨#[]⟩, .bool false, .int .i64 0, .int .i64 0, .int .i64 0, .string ⟨#[]⟩] 36)) (by simp [execOp, Instr.alloc, hz, go_sem]) hb1 (Lib.hid (hB.out.trans (hb1.mono hB.out.size))) ⟨_, rfl, hB.out.size, Lib.hid (At.new W 36 [.int .i64 0, .string ⟨#[]⟩, .bool false, .int .i64 0, .int .i64 0, .int .i64 0, .string ⟨#[]⟩])⟩
                · rintro y W hB ⟨d11, d9, -, -, -, -, -, -, -, -, -, -, -, -, -, -⟩
                  obtain ⟨g, e19, hg, HA⟩ : ∃ g : Nat, y 19 = .pointer (some ⟨g, 0, none⟩) ∧ wr.heap.size ≤ g ∧ Hid (At W g 36 [.int .i64 0, .string ⟨#[]⟩, .bool false, .int .i64 0, .int .i64 0, .int .i64 0, .string ⟨#[]⟩]) := d11
                  have E19 : (putsA y ([98, 99, 100, 101, 102, 103, 104, 105, 97, 106, 107, 19, 19, 20] : List Tmp) a1).eval (.tmp 19) = .pointer (some ⟨g, 0, none⟩) := puts_eval (by decide) hs1 e19
                  have e106 : y 106 = .agg #[.int .i64 yd, .string ⟨yn.toArray⟩, .bool yg, .int .i64 yi, .int .i64 yk, .int .i64 ym, .string ⟨yt.toArray⟩] := d9
                  have E106 : (putsA y ([98, 99, 100, 101, 102, 103, 104, 105, 97, 106, 107, 19, 19, 20] : List Tmp) a1).eval (.tmp 106) = .agg #[.int .i64 yd, .string ⟨yn.toArray⟩, .bool yg, .int .i64 yi, .int .i64 yk, .int .i64 ym, .string ⟨yt.toArray⟩] := puts_eval (by decide) hs1 e106
                  refine sf_store rfl rfl 36 (.tmp 19) (.tmp 106) rfl g E19 E106 HA.out (by kernel_rfl) rfl rfl ?_
                  intro w' ha hk
                  refine ⟨Lib.hid (hB.out.trans (hk.to_below hB.out.size (fun k hk => by omega))), ⟨g, e19, hg, Lib.hid ha⟩, ?_⟩
                  intro j hj hL u
                  have hj' : j < 14 := hj
                  match j, hj', hL with
                  | 0, _, hL => exact (Bool.false_ne_true ((show false = liveB _ _ _ _ from by kernel_rfl).trans hL)).elim
                  | 1, _, hL => exact (Bool.false_ne_true ((show false = liveB _ _ _ _ from by kernel_rfl).trans hL)).elim
                  | 2, _, hL => exact (Bool.false_ne_true ((show false = liveB _ _ _ _ from by kernel_rfl).trans hL)).elim
                  | 3, _, hL => exact (Bool.false_ne_true ((show false = liveB _ _ _ _ from by kernel_rfl).trans hL)).elim
                  | 4, _, hL => exact (Bool.false_ne_true ((show false = liveB _ _ _ _ from by kernel_rfl).trans hL)).elim
                  | 5, _, hL => exact (Bool.false_ne_true ((show false = liveB _ _ _ _ from by kernel_rfl).trans hL)).elim
                  | 6, _, hL => exact (Bool.false_ne_true ((show false = liveB _ _ _ _ from by kernel_rfl).trans hL)).elim
                  | 7, _, hL => exact (Bool.false_ne_true ((show false = liveB _ _ _ _ from by kernel_rfl).trans hL)).elim
                  | 8, _, _ => exact id
                  | 9, _, hL => exact (Bool.false_ne_true ((show false = liveB _ _ _ _ from by kernel_rfl).trans hL)).elim
                  | 10, _, _ => exact id
                  | 11, _, hL => exact (Bool.false_ne_true ((show false = liveB _ _ _ _ from by kernel_rfl).trans hL)).elim
                  | 12, _, hL => exact (Bool.false_ne_true ((show false = liveB _ _ _ _ from by kernel_rfl).trans hL)).elim
                  | 13, _, hL => exact (Bool.false_ne_true ((show false = liveB _ _ _ _ from by kernel_rfl).trans hL)).elim
                · rintro y W hB ⟨d10, -, -, -, -, -, -, -, -, -, -, -, -, -, -, -⟩
                  have e107 : y 107 = .int .i64 0 := d10
                  have N107 : (putsA y ([98, 99, 100, 101, 102, 103, 104, 105, 97, 106, 107, 19, 19, 20] : List Tmp) a1).tmps[107]?.getD undef = .int .i64 0 := puts_norm (by decide) hs1 e107
                  exact sf_value hB rfl rfl (v := .int .i64 0) (by simp [execOp, N107, go_sem]) rfl
              rintro y W hB hφ
              obtain ⟨g, e19, hg, HA⟩ : ∃ g : Nat, y 19 = .pointer (some ⟨g, 0, none⟩) ∧ wr.heap.size ≤ g ∧ Hid (At W g 36 [.int .i64 yd, .string ⟨yn.toArray⟩, .bool yg, .int .i64 yi, .int .i64 yk, .int .i64 ym, .string ⟨yt.toArray⟩]) := hφ 12 (by decide) (by decide)
              have e20 : y 20 = .int .i64 0 := hφ 13 (by decide) (by decide)
              clear hφ hSoft
              simp only [putsA, e19, e20]
              go_frame
              --END r22
              have HIW := Lib.hid (HI.out.below hB.out)
              have HBW := Lib.hid HIW.out.bl
              have hrl : ∀ k, (Value.slice A5 ups.length c5).ownBlock = some k → k < wr.heap.size := fun k e => (HI.out.ro.lt k e).2
              have HRL := Lib.hid hrl
              obtain ⟨x0, x1, x2, x3, x4, x5, x6⟩ := en_cells HA.out
              clear q0 q1 q2 q3 o0 o1 o2 o3 o4 o5 o6 o7 o8 hc0 hrl hadb HBL hen HLK
              obtain ⟨o0, o1, o2, o3, o4, o5, o6, o7, o8⟩ := out_cells HIW.out.ao
              simp only at o3
              cases yg with
              | true =>
                have he := HNG.out rfl
                subst he
                go_wp2_with fail
                refine (awake14 _).mono ?_
                rintro r w6 ⟨rfl, hb6⟩
                go_wp2_with fail
                go_ret
                exact ⟨rfl, HBW.out.trans (hb6.mono HBW.out.size)⟩
              | false =>
                go_upto_region 25 with fail
                go_cut [136] (fun v wd => v = .bool (decide (yk = 3 ∧ (j + 1 < ss.length ∨ dir = true ∨ follow = true))) ∧ W = wd)
                case first =>
                  by_cases h3 : yk = 3
                  · subst h3
                    by_cases h1 : j + 1 < ss.length
                    · have hz : (j : Int) < (ss.length : Int) - 1 := by omega
                      go_wp2_with fail
                      go_meet
                      case rel => exact ⟨by simp [h1], rfl⟩
                    · have hz : ¬ ((j : Int) < (ss.length : Int) - 1) := by omega
                      cases dir <;> cases follow
                      all_goals
                        go_wp2_with fail
                        go_meet
                        case rel => exact ⟨by simp [h1], rfl⟩
                  · have h3b : (yk == 3) = false := by simpa using h3
                    go_wp2_with fail
                    go_meet
                    case rel => exact ⟨by simp [h3], rfl⟩
                case rest =>
                  obtain ⟨rfl, rfl⟩ := hcut
                  by_cases hd : yk = 3 ∧ (j + 1 < ss.length ∨ dir = true ∨ follow = true)
                  · rw [decide_eq_true hd]
                    by_cases he : e3 = 0
                    · have hl : 0 < links := by
                        rcases Classical.em (0 < links) with h | h
                        · exact h
                        · have := HLN.out rfl hd.1 hd.2 (HLK0.out (by omega))
                          omega
                      subst he
                      clear hd
                      go_wp2_with fail
                      refine (awake14 _).mono ?_
                      rintro r w6 ⟨rfl, hb6⟩
                      go_wp2_with fail
                      go_ret
                      exact ⟨rfl, HBW.out.trans (hb6.mono HBW.out.size)⟩
                    · have heb : (e3 != 0) = true := by simpa using he
                      clear hd he
                      go_wp2_with fail
                      refine (awake14 _).mono ?_
                      rintro r w6 ⟨rfl, hb6⟩
                      go_wp2_with fail
                      go_ret
                      exact ⟨rfl, HBW.out.trans (hb6.mono HBW.out.size)⟩
                  · rw [decide_eq_false hd]
                    have hst := HST.out rfl (by
                      by_cases h3 : yk = 3
                      · right
                        have h4 : ¬ (j + 1 < ss.length ∨ dir = true ∨ follow = true) := fun q => hd ⟨h3, q⟩
                        simp only [not_or, Bool.not_eq_true] at h4
                        exact ⟨by omega, h4.2⟩
                      · exact .inl h3)
                    have HJ2 := Lib.hid hst
                    have HAW := Lib.hid HA.out
                    clear hd hst HA
                    by_cases hk : yk = 1
                    · subst hk
                      have hkb : ((1 : Int) == 1) = true := rfl
                      have q0 : W.cell? ⟨ba, 0, none⟩ = some (.int .i64 ai) := HIW.out.aa.cell 0
                      have q1 : W.cell? ⟨ba, 1, none⟩ = some (.int .i64 1) := HIW.out.aa.cell 1
                      have q2 : W.cell? ⟨ba, 2, none⟩ = some (.int .i64 am) := HIW.out.aa.cell 2
                      have q3 : W.cell? ⟨ba, 3, none⟩ = some (.string ⟨at4.toArray⟩) := HIW.out.aa.cell 3
                      have hro := own_below HIW.out.ro ((Below.refl _ W).alloc (Nat.le_refl _) (.cells #[.int .i64 ai, .int .i64 1, .int .i64 am, .string ⟨at4.toArray⟩] 34))
                      have HRO := Lib.hid hro
                      have hszN := HIW.out.hN
                      clear hro
                      go_wp2_with ((with_reducible refine wpList_isBuiltin .append ?_); refine wpList_hold ?_)
                      refine Lib.hid ?_
                      refine wpList_append_rd rfl _ _ rfl elemNds (v := .slice A5 ups.length c5) rfl HRO.out rfl (rd_new W 34 4 1 [.int .i64 ai, .int .i64 1, .int .i64 am, .string ⟨at4.toArray⟩] rfl) (cNds_one [(ai, 1, am, at4)]) ?c1 ?c2 ?c3 ?_
                      case c1 => unfold maxLen; omega
                      case c2 => omega
                      case c3 => simp; omega
                      intro v7 w7 hown7 hg7 hl7
                      obtain ⟨A7, c7, rfl⟩ := own_slice hown7
                      rw [if_pos trivial] at HJ2
                      have hl : (ups ++ [((ai, 1, am, at4) : Nd)]).length = ups.length + 1 := by simp
                      have hown : w7.ownsRow (ba + 1) 34 4 (.slice A7 (ups.length + 1) c7) (ups ++ [((ai, 1, am, at4) : Nd)]).length (cNds (ups ++ [((ai, 1, am, at4) : Nd)])) := by
                        have e : cNds (ups ++ [((ai, 1, am, at4) : Nd)]) = cNds ups ++ cNds [(ai, 1, am, at4)] := by simp [cNds]
                        rw [e, hl]
                        exact hown7
                      have HI7 := Lib.hid (HIW.out.push hown hg7)
                      have HA7 := Lib.hid (HAW.out.kp (((Kp.refl (fun k => k = g) W).alloc _).grown hg7 (fun k e _ q => by have := HRL.out k e; omega)) rfl)
                      clear hown hown7 hg7 hl7 x0 x1 x2 x3 x4 x5 x6 o0 o1 o2 o3 o4 o5 o6 o7 o8 q0 q1 q2 q3 HAW HRO hszN
                      obtain ⟨x0, x1, x2, x3, x4, x5, x6⟩ := en_cells HA7.out
                      go_wp2_with ((with_reducible refine wpList_isStore 34 (.tmp 16) (.tmp 156) ?_); refine wpList_hold ?_)
                      refine Lib.hid ?_
                      refine wpList_store_blk rfl 34 (.tmp 16) (.tmp 156) rfl ba 0 (vNd (yi, 1, ym, yt)) rfl rfl HI7.out.aa info_node4 ?c2 rfl ?_
                      case c2 => exact Nat.le_refl 4
                      intro w8 hr8 hk8 hz8
                      have HI8 := Lib.hid (HI7.out.setAt (a' := (yi, 1, ym, yt)) hk8 hr8)
                      clear hr8 hk8 hz8 x0 x1 x2 x3 x4 x5 x6 HA7 HI7
                      go_wp2_with fail
                      go_roundw
                      case rel => exact ⟨j + 1, _, ups ++ [(ai, 1, am, at4)], A7, c7, by omega, by rw [hl], by go_num, by rw [hl]; omega, by rw [hl]; exact HI8, HJ2⟩
                      case measure => simp [RowKit.intOf] <;> omega
                    · have hkb : (yk == 1) = false := by simpa using hk
                      rw [if_neg hk] at HJ2
                      clear hk
                      go_wp2_with ((with_reducible refine wpList_isStore 34 (.tmp 16) (.tmp 156) ?_); refine wpList_hold ?_)
                      refine Lib.hid ?_
                      refine wpList_store_blk rfl 34 (.tmp 16) (.tmp 156) rfl ba 0 (vNd (yi, yk, ym, yt)) rfl rfl HIW.out.aa info_node4 ?c2 rfl ?_
                      case c2 => exact Nat.le_refl 4
                      intro w6 hr6 hk6 hz6
                      have HI6 := Lib.hid (HIW.out.setAt (a' := (yi, yk, ym, yt)) hk6 hr6)
                      clear hr6 hk6 hz6 x0 x1 x2 x3 x4 x5 x6 o0 o1 o2 o3 o4 o5 o6 o7 o8
                      go_wp2_with fail
                      go_roundw
                      case rel => exact ⟨j + 1, _, ups, A5, c5, by omega, rfl, by go_num, by omega, HI6, HJ2⟩
                      case measure => simp [RowKit.intOf] <;> omega
        · have hkb : (ak != 1) = true := by simpa using hk1
          have he := HJ.out.notdir hs0 hk1
          simp only at he
          subst he
          clear hk1
          go_wp2_with fail
          refine (awake14 _).mono ?_
          rintro r w6 ⟨rfl, hb6⟩
          go_wp2_with fail
          go_ret
          exact ⟨rfl, HBL.out.trans (hb6.mono HBL.out.size)⟩
      · obtain rfl : j = ss.length := by omega
        have hlast := HJ.out.last (Nat.le_refl _)
        simp only at hlast
        clear hlt hj
        by_cases hd : dir = true ∧ ak ≠ 1
        · rw [if_pos hd] at hlast
          obtain ⟨rfl, hk⟩ := hd
          have hkb : (ak != 1) = true := by simpa using hk
          subst hlast
          clear hk
          go_wp2_with fail
          refine (awake14 _).mono ?_
          rintro r w6 ⟨rfl, hb6⟩
          go_wp2_with fail
          go_ret
          exact ⟨rfl, HBL.out.trans (hb6.mono HBL.out.size)⟩
        · rw [if_neg hd] at hlast
          obtain ⟨rfl, hnn⟩ := hlast
          simp only [Prod.mk.injEq] at hnn
          obtain ⟨rfl, rfl, rfl, rfl⟩ := hnn
          have hqn : ∀ V : World, (binOp .eql 34 (.agg #[.int .i64 ni, .int .i64 nk, .int .i64 nm, .string ⟨nt.toArray⟩]) (.agg #[.int .i64 ni, .int .i64 nk, .int .i64 nm, .string ⟨nt.toArray⟩])).run Tryz.prog V = .ok (.bool true) V := fun V => by
            have := eql_node (ni, nk, nm, nt) (ni, nk, nm, nt) V
            simpa [vNd, txt] using this
          cases dir with
          | true =>
            have hk : nk = 1 := by
              rcases Classical.em (nk = 1) with h | h
              · exact h
              · exact absurd ⟨rfl, h⟩ hd
            subst hk
            clear hd
            go_wp2_with fail
            refine (awake14 _).mono ?_
            rintro r w6 ⟨rfl, hb6⟩
            go_wp2_with fail
            go_ret
            exact ⟨rfl, HBL.out.trans (hb6.mono HBL.out.size)⟩
          | false =>
            clear hd
            go_wp2_with fail
            refine (awake14 _).mono ?_
            rintro r w6 ⟨rfl, hb6⟩
            go_wp2_with fail
            go_ret
            exact ⟨rfl, HBL.out.trans (hb6.mono HBL.out.size)⟩
end Go.Proofs.YtoacobcbloljkaaGreatDoor
